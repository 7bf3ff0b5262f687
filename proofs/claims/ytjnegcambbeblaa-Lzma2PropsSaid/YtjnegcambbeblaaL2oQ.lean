/- Lzma2Props' walk. -/
import Derived.Test.YtjnegcambbeblaaMg11
namespace Go.Proofs.Ytjnegcambbeblaa
open Go.RowKit

theorem dict2_inc : ∀ p : Nat, p < 40 → dict2 p < dict2 (p + 1) := by decide
theorem dict2_mono {i j : Nat} (h : i < j) (hj : j ≤ 40) : dict2 i < dict2 j := by
  induction j with
  | zero => omega
  | succ j ih =>
    have h1 := dict2_inc j (by omega)
    by_cases e : i = j
    · subst e; exact h1
    · have := ih (by omega) (by omega); omega
/-- the least property whose dictionary is great enough. -/
def PropR (d v q : Int) : Prop := (∃ p : Nat, p ≤ 40 ∧ v = p ∧ q = 0 ∧ d ≤ dict2 p ∧ ∀ i : Nat, i < p → (dict2 i : Int) < d) ∨ (v = 0 ∧ q = 11 ∧ ∀ i : Nat, i < 41 → (dict2 i : Int) < d)
theorem PropR.same {d v q v' q' : Int} (h : PropR d v q) (h' : PropR d v' q') : v = v' ∧ q = q' := by
  rcases h with ⟨p, h1, h2, h3, h4, h5⟩ | ⟨h2, h3, h5⟩
  · rcases h' with ⟨p', k1, k2, k3, k4, k5⟩ | ⟨k2, k3, k5⟩
    · have e : p = p' := by
        rcases Nat.lt_trichotomy p p' with e | e | e
        · have := k5 p e; omega
        · exact e
        · have := h5 p' e; omega
      subst e
      exact ⟨h2.trans k2.symm, h3.trans k3.symm⟩
    · have := k5 p (by omega); omega
  · rcases h' with ⟨p', k1, k2, k3, k4, k5⟩ | ⟨k2, k3, k5⟩
    · have := h5 p' (by omega); omega
    · exact ⟨h2.trans k2.symm, h3.trans k3.symm⟩
theorem PropR.back {p : Nat} (hp : p ≤ 40) {v q : Int} (h : PropR (dict2 p : Nat) v q) : v = p ∧ q = 0 := by
  refine h.same (.inl ⟨p, hp, rfl, rfl, by omega, fun i hi => ?_⟩)
  have := dict2_mono hi hp
  omega
/-- what Dict says. -/
def dictV (p : Nat) : Int := if p ≤ 40 then (dict2 p : Nat) else 0
def dictC (p : Nat) : Int := if p ≤ 40 then 0 else 11
theorem dict_all (p : Nat) (hp : p < 256) (w : World) : Calls Try.prog 45 #[.int .u8 p] w fun e w' => e = .returned (.tuple #[.int .i64 (dictV p), .int .i64 (dictC p)]) ∧ w = w' := by
  unfold dictV dictC
  by_cases h : p ≤ 40
  · rw [if_pos h, if_pos h]; exact dict2_any p h w
  · rw [if_neg h, if_neg h]; exact dict2_bad p (by omega) hp w
theorem dict2_top (p : Nat) (hp : p < 41) : ((dict2 p : Nat) : Int) ≤ 4294967295 := by have := dict2_le p hp; omega
set_option maxRecDepth 100000 in
set_option maxHeartbeats 800000 in
theorem prop_any (d : Int) (w : World) : Calls Try.prog 46 #[.int .i64 d] w fun e w' => (∃ v q, e = .returned (.tuple #[.int .u8 v, .int .i64 q]) ∧ PropR d v q) ∧ w = w' := by
  go_enter Try.func46, Try.ntmps46
  go_wp2_with fail
  go_loopw [7] (fun v wr => ∃ k : Nat, k ≤ 41 ∧ v = .int .u8 k ∧ (∀ i : Nat, i < k → (dict2 i : Int) < d) ∧ w = wr) (fun v _ => 41 - (intOf v).toNat)
  case atStart => exact ⟨0, by omega, rfl, fun i hi => by omega, rfl⟩
  case round =>
    obtain ⟨k, hk, hv, hlo, rfl⟩ := hrel
    subst hv
    have HLO := hid hlo
    clear hlo
    by_cases h41 : k < 41
    · have hk1 : (k : Int) < 41 := by omega
      have hd := dict2_any k (by omega) w
      obtain ⟨x, hx⟩ : ∃ x : Int, x = ((dict2 k : Nat) : Int) := ⟨_, rfl⟩
      rw [← hx] at hd
      have HD := hid hd
      have HX := hid hx
      clear hd hx
      go_wp2_with fail
      refine HD.out.mono ?_
      rintro e w1 ⟨rfl, rfl⟩
      by_cases hge : d ≤ x
      · go_wp2_with fail
        go_ret2
        exact ⟨⟨_, _, rfl, .inl ⟨k, by omega, rfl, rfl, by rw [← HX.out]; exact hge, HLO.out⟩⟩, rfl⟩
      · have hge' : x < d := by omega
        go_wp2_with fail
        go_roundw
        case rel =>
          refine ⟨k + 1, by omega, by push_cast; rfl, fun i hi => ?_, by trivial⟩
          by_cases e : i = k
          · subst e; rw [← HX.out]; exact hge'
          · exact HLO.out i (by omega)
        case measure =>
          show 41 - ((k : Int) + 1).toNat < 41 - ((k : Nat) : Int).toNat
          omega
    · have e : k = 41 := by omega
      subst e
      go_wp2_with fail
      go_ret2
      exact ⟨⟨_, _, rfl, .inr ⟨rfl, rfl, HLO.out⟩⟩, rfl⟩
/-- the document's Dict. -/
theorem rdict2_step (p : Nat) (hp : p < 40) : dict2 p = (2 + p % 2) * 2 ^ (p / 2 + 11) := if_neg (by omega)
theorem rdict2_lt : ∀ p : Nat, p < 40 → (2 + p % 2) * 2 ^ (p / 2 + 11) ≤ 3221225472 := by decide
set_option maxRecDepth 100000 in
set_option maxHeartbeats 800000 in
theorem rdict_all (p : Nat) (hp : p < 256) (w : World) : Calls Try.prog 40 #[.int .u8 p] w fun e w' => e = .returned (.tuple #[.int .i64 (dictV p), .int .i64 (dictC p)]) ∧ w = w' := by
  unfold dictV dictC
  by_cases h41 : p ≤ 40
  · rw [if_pos h41, if_pos h41]
    by_cases h40 : p = 40
    · subst h40
      go_enter Try.func40, Try.ntmps40
      go_wp2_with fail
      go_ret2
      exact ⟨rfl, rfl⟩
    · have hb := rdict2_lt p (by omega)
      have he := rdict2_step p (by omega)
      obtain ⟨r, hr⟩ : ∃ r, r = p % 2 := ⟨_, rfl⟩
      obtain ⟨q, hq⟩ : ∃ q, q = p / 2 := ⟨_, rfl⟩
      rw [← hr, ← hq] at hb he
      have hr1 : r < 2 := by omega
      have hq1 : q < 20 := by omega
      have hpe : (p : Int) % 2 = (r : Int) := by omega
      have hpq : (p : Int) / 2 = (q : Int) := by omega
      have h1 : ¬ (40 : Int) < (p : Int) := by omega
      have h2 : ((p : Int) == 40) = false := by simp; omega
      have hbb := hid (show ∀ k, k ≤ q + 11 → (2 + r) * 2 ^ k ≤ 3221225472 from fun k hk => Nat.le_trans (Nat.mul_le_mul_left _ (Nat.pow_le_pow_right (by decide) hk)) hb)
      have HE := hid he
      have HR := hid hr
      have HQ := hid hq
      clear hb he hr hq h41 h40
      go_enter Try.func40, Try.ntmps40
      go_wp2_with fail
      go_loopw [4, 5] (fun n i wr => ∃ k : Nat, k ≤ q + 11 ∧ i = .int .i64 k ∧ n = .int .i64 ((2 + r) * 2 ^ k : Nat) ∧ w = wr) (fun _ i _ => 40 - (intOf i).toNat)
      case atStart => exact ⟨0, by omega, rfl, by rw [Nat.pow_zero, Nat.mul_one]; push_cast; rfl, rfl⟩
      case round =>
        obtain ⟨k, hk, hi, hn, rfl⟩ := hrel
        subst hi hn
        obtain ⟨x, hx⟩ : ∃ x : Nat, x = (2 + r) * 2 ^ k := ⟨_, rfl⟩
        rw [← hx]
        have HX := hid hx
        clear hx
        by_cases hlt : k < q + 11
        · have hlt2 : (k : Int) < (q : Int) + 11 := by omega
          have hx2 := hbb.out (k + 1) (by omega)
          rw [Nat.pow_succ, ← Nat.mul_assoc, ← HX.out] at hx2
          have hw : IntKind.i64.wrap ((x : Int) * 2) = ((x * 2 : Nat) : Int) := by rw [IntKind.wrap_i64]; omega
          obtain ⟨y, hy⟩ : ∃ y : Nat, y = x * 2 := ⟨_, rfl⟩
          rw [← hy] at hw
          have HY := hid hy
          clear hy hx2
          go_wp2_with fail
          go_roundw
          case rel => exact ⟨k + 1, by omega, by push_cast; rfl, by rw [Nat.pow_succ, ← Nat.mul_assoc, ← HX.out, HY.out], trivial⟩
          case measure =>
            show 40 - ((k : Int) + 1).toNat < 40 - ((k : Nat) : Int).toNat
            omega
        · have e : k = q + 11 := by omega
          have hlt2 : ¬ (k : Int) < (q : Int) + 11 := by omega
          have HEK := hid e
          clear e
          go_wp2_with fail
          go_ret2
          refine ⟨?_, rfl⟩
          rw [HE.out, HX.out, HEK.out]
          rfl
  · have h1 : (40 : Int) < (p : Int) := by omega
    have h2 : (p : Int) < 256 := by omega
    rw [if_neg h41, if_neg h41]
    clear h41
    go_enter Try.func40, Try.ntmps40
    go_wp2_with fail
    go_ret2
    exact ⟨rfl, rfl⟩
theorem dictC_ok {p : Nat} (h : p ≤ 40) : dictV p = (dict2 p : Nat) ∧ dictC p = 0 := ⟨if_pos h, if_pos h⟩
theorem dictC_no {p : Nat} (h : ¬ p ≤ 40) : dictV p = 0 ∧ dictC p = 11 := ⟨if_neg h, if_neg h⟩
set_option maxRecDepth 100000 in
set_option maxHeartbeats 800000 in
theorem rprop_any (d : Int) (w : World) : Calls Try.prog 47 #[.int .i64 d] w fun e w' => (∃ v q, e = .returned (.tuple #[.int .u8 v, .int .i64 q]) ∧ PropR d v q) ∧ w = w' := by
  go_enter Try.func47, Try.ntmps47
  go_wp2_with fail
  go_loopw [4] (fun v wr => ∃ k : Nat, k ≤ 41 ∧ v = .int .i64 k ∧ (∀ i : Nat, i < k → (dict2 i : Int) < d) ∧ w = wr) (fun v _ => 41 - (intOf v).toNat)
  case atStart => exact ⟨0, by omega, rfl, fun i hi => by omega, rfl⟩
  case round =>
    obtain ⟨k, hk, hv, hlo, rfl⟩ := hrel
    subst hv
    have HLO := hid hlo
    clear hlo
    by_cases h41 : k < 41
    · have hk1 : (k : Int) ≤ 40 := by omega
      have hd := rdict_all k (by omega) w
      rw [(dictC_ok (show k ≤ 40 by omega)).1, (dictC_ok (show k ≤ 40 by omega)).2] at hd
      have hw : IntKind.u8.wrap (k : Int) = (k : Int) := by rw [IntKind.wrap_u8]; omega
      obtain ⟨x, hx⟩ : ∃ x : Int, x = ((dict2 k : Nat) : Int) := ⟨_, rfl⟩
      rw [← hx] at hd
      have HD := hid hd
      have HX := hid hx
      clear hd hx
      go_wp2_with fail
      refine HD.out.mono ?_
      rintro e w1 ⟨rfl, rfl⟩
      by_cases hge : d ≤ x
      · go_wp2_with fail
        go_ret2
        exact ⟨⟨_, _, rfl, .inl ⟨k, by omega, rfl, rfl, by rw [← HX.out]; exact hge, HLO.out⟩⟩, rfl⟩
      · have hge' : x < d := by omega
        go_wp2_with fail
        go_roundw
        case rel =>
          refine ⟨k + 1, by omega, by push_cast; rfl, fun i hi => ?_, by trivial⟩
          by_cases e : i = k
          · subst e; rw [← HX.out]; exact hge'
          · exact HLO.out i (by omega)
        case measure =>
          show 41 - ((k : Int) + 1).toNat < 41 - ((k : Nat) : Int).toNat
          omega
    · have e : k = 41 := by omega
      subst e
      go_wp2_with fail
      go_ret2
      exact ⟨⟨_, _, rfl, .inr ⟨rfl, rfl, HLO.out⟩⟩, rfl⟩
set_option maxRecDepth 100000 in
set_option maxHeartbeats 800000 in
theorem lzma2Props_walk (p : Nat) (d : Int) (w : World) (hp : p < 256) : Calls Try.prog 12 #[.int .u8 p, .int .i64 d] w fun e w' => e = .returned (.bool true) ∧ Fr Non w w' := by
  go_enter Try.func12, Try.ntmps12
  go_wp2_with fail
  refine (awake11_any w).mono ?_
  rintro e w1 ⟨rfl, hf1⟩
  have HF1 := hid hf1
  clear hf1
  by_cases h40 : p ≤ 40
  · have hd1 := dict_all p hp w1
    have hd2 := rdict_all p hp w1
    rw [(dictC_ok h40).1, (dictC_ok h40).2] at hd1 hd2
    obtain ⟨x, hx⟩ : ∃ x : Int, x = ((dict2 p : Nat) : Int) := ⟨_, rfl⟩
    rw [← hx] at hd1 hd2
    have HD1 := hid hd1
    have HD2 := hid hd2
    have HX := hid hx
    have H40 := hid h40
    clear hd1 hd2 hx h40
    go_wp2_with fail
    refine HD1.out.mono ?_
    rintro e w2 ⟨rfl, rfl⟩
    go_wp2_with fail
    refine HD2.out.mono ?_
    rintro e w2 ⟨rfl, rfl⟩
    go_wp2_with fail
    refine (prop_any d w1).mono ?_
    rintro e w2 ⟨⟨v, q, rfl, hr⟩, rfl⟩
    have HR := hid hr
    clear hr
    go_wp2_with fail
    refine (rprop_any d w1).mono ?_
    rintro e w2 ⟨⟨v', q', rfl, hr'⟩, rfl⟩
    obtain ⟨rfl, rfl⟩ := HR.out.same hr'
    clear hr'
    go_wp2_with fail
    refine (prop_any x w1).mono ?_
    rintro e w2 ⟨⟨v2, q2, rfl, hr2⟩, rfl⟩
    rw [HX.out] at hr2
    obtain ⟨rfl, rfl⟩ := hr2.back H40.out
    clear hr2
    go_wp2_with fail
    go_ret
    exact ⟨rfl, HF1.out⟩
  · have hd1 := dict_all p hp w1
    have hd2 := rdict_all p hp w1
    rw [(dictC_no h40).1, (dictC_no h40).2] at hd1 hd2
    have HD1 := hid hd1
    have HD2 := hid hd2
    clear hd1 hd2 h40
    go_wp2_with fail
    refine HD1.out.mono ?_
    rintro e w2 ⟨rfl, rfl⟩
    go_wp2_with fail
    refine HD2.out.mono ?_
    rintro e w2 ⟨rfl, rfl⟩
    go_wp2_with fail
    refine (prop_any d w1).mono ?_
    rintro e w2 ⟨⟨v, q, rfl, hr⟩, rfl⟩
    have HR := hid hr
    clear hr
    go_wp2_with fail
    refine (rprop_any d w1).mono ?_
    rintro e w2 ⟨⟨v', q', rfl, hr'⟩, rfl⟩
    obtain ⟨rfl, rfl⟩ := HR.out.same hr'
    clear hr'
    go_wp2_with fail
    go_ret
    exact ⟨rfl, HF1.out⟩
end Go.Proofs.Ytjnegcambbeblaa
