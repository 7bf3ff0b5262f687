/- Texts of this proof, one behind the other. -/
import Derived.Test.YtjnegcambbeblaaMg11
import Derived.Test.YtjnegcambbeblaaMg09
import Derived.Test.YtjnegcambbeblaaMg05
import Derived.Lib.SmallJoins
import Derived.ProofKit
import Derived.OpenShut

/- Lzma2Props' walk. -/
namespace Go.Proofs.Ytjnegcambbeblaa
open Go.RowKit

theorem dict2_inc : ∀ p : Nat, p < 40 → dict2 p < dict2 (p + 1) := by decide
theorem dict2_mono {i j : Nat} (h : i < j) (hj : j ≤ 40) : dict2 i < dict2 j := by
  induction j with
  | zero => omega
  | succ j ih =>
    have h1 := dict2_inc j (by omega)
    by_cases e : i = j
    · subst e; exact h1
    · have := ih (by omega) (by omega); omega
/-- the least property whose dictionary is great enough. -/
def PropR (d v q : Int) : Prop := (∃ p : Nat, p ≤ 40 ∧ v = p ∧ q = 0 ∧ d ≤ dict2 p ∧ ∀ i : Nat, i < p → (dict2 i : Int) < d) ∨ (v = 0 ∧ q = 11 ∧ ∀ i : Nat, i < 41 → (dict2 i : Int) < d)
theorem PropR.same {d v q v' q' : Int} (h : PropR d v q) (h' : PropR d v' q') : v = v' ∧ q = q' := by
  rcases h with ⟨p, h1, h2, h3, h4, h5⟩ | ⟨h2, h3, h5⟩
  · rcases h' with ⟨p', k1, k2, k3, k4, k5⟩ | ⟨k2, k3, k5⟩
    · have e : p = p' := by
        rcases Nat.lt_trichotomy p p' with e | e | e
        · have := k5 p e; omega
        · exact e
        · have := h5 p' e; omega
      subst e
      exact ⟨h2.trans k2.symm, h3.trans k3.symm⟩
    · have := k5 p (by omega); omega
  · rcases h' with ⟨p', k1, k2, k3, k4, k5⟩ | ⟨k2, k3, k5⟩
    · have := h5 p' (by omega); omega
    · exact ⟨h2.trans k2.symm, h3.trans k3.symm⟩
theorem PropR.back {p : Nat} (hp : p ≤ 40) {v q : Int} (h : PropR (dict2 p : Nat) v q) : v = p ∧ q = 0 := by
  refine h.same (.inl ⟨p, hp, rfl, rfl, by omega, fun i hi => ?_⟩)
  have := dict2_mono hi hp
  omega
/-- what Dict says. -/
def dictV (p : Nat) : Int := if p ≤ 40 then (dict2 p : Nat) else 0
def dictC (p : Nat) : Int := if p ≤ 40 then 0 else 11
theorem dict_all (p : Nat) (hp : p < 256) (w : World) : Calls Try.prog 45 #[.int .u8 p] w fun e w' => e = .returned (.tuple #[.int .i64 (dictV p), .int .i64 (dictC p)]) ∧ w = w' := by
  unfold dictV dictC
  by_cases h : p ≤ 40
  · rw [if_pos h, if_pos h]; exact dict2_any p h w
  · rw [if_neg h, if_neg h]; exact dict2_bad p (by omega) hp w
theorem dict2_top (p : Nat) (hp : p < 41) : ((dict2 p : Nat) : Int) ≤ 4294967295 := by have := dict2_le p hp; omega
set_option maxRecDepth 100000 in
set_option maxHeartbeats 800000 in
theorem prop_any (d : Int) (w : World) : Calls Try.prog 46 #[.int .i64 d] w fun e w' => (∃ v q, e = .returned (.tuple #[.int .u8 v, .int .i64 q]) ∧ PropR d v q) ∧ w = w' := by
  go_enter Try.func46, Try.ntmps46
  go_wp2_with fail
  go_loopw [7] (fun v wr => ∃ k : Nat, k ≤ 41 ∧ v = .int .u8 k ∧ (∀ i : Nat, i < k → (dict2 i : Int) < d) ∧ w = wr) (fun v _ => 41 - (intOf v).toNat)
  case atStart => exact ⟨0, by omega, rfl, fun i hi => by omega, rfl⟩
  case round =>
    obtain ⟨k, hk, hv, hlo, rfl⟩ := hrel
    subst hv
    have HLO := hid hlo
    clear hlo
    by_cases h41 : k < 41
    · have hk1 : (k : Int) < 41 := by omega
      have hd := dict2_any k (by omega) w
      obtain ⟨x, hx⟩ : ∃ x : Int, x = ((dict2 k : Nat) : Int) := ⟨_, rfl⟩
      rw [← hx] at hd
      have HD := hid hd
      have HX := hid hx
      clear hd hx
      go_wp2_with fail
      refine HD.out.mono ?_
      rintro e w1 ⟨rfl, rfl⟩
      by_cases hge : d ≤ x
      · go_wp2_with fail
        go_ret2
        exact ⟨⟨_, _, rfl, .inl ⟨k, by omega, rfl, rfl, by rw [← HX.out]; exact hge, HLO.out⟩⟩, rfl⟩
      · have hge' : x < d := by omega
        go_wp2_with fail
        go_roundw
        case rel =>
          refine ⟨k + 1, by omega, by push_cast; rfl, fun i hi => ?_, by trivial⟩
          by_cases e : i = k
          · subst e; rw [← HX.out]; exact hge'
          · exact HLO.out i (by omega)
        case measure =>
          show 41 - ((k : Int) + 1).toNat < 41 - ((k : Nat) : Int).toNat
          omega
    · have e : k = 41 := by omega
      subst e
      go_wp2_with fail
      go_ret2
      exact ⟨⟨_, _, rfl, .inr ⟨rfl, rfl, HLO.out⟩⟩, rfl⟩
/-- the document's Dict. -/
theorem rdict2_step (p : Nat) (hp : p < 40) : dict2 p = (2 + p % 2) * 2 ^ (p / 2 + 11) := if_neg (by omega)
theorem rdict2_lt : ∀ p : Nat, p < 40 → (2 + p % 2) * 2 ^ (p / 2 + 11) ≤ 3221225472 := by decide
set_option maxRecDepth 100000 in
set_option maxHeartbeats 800000 in
theorem rdict_all (p : Nat) (hp : p < 256) (w : World) : Calls Try.prog 40 #[.int .u8 p] w fun e w' => e = .returned (.tuple #[.int .i64 (dictV p), .int .i64 (dictC p)]) ∧ w = w' := by
  unfold dictV dictC
  by_cases h41 : p ≤ 40
  · rw [if_pos h41, if_pos h41]
    by_cases h40 : p = 40
    · subst h40
      go_enter Try.func40, Try.ntmps40
      go_wp2_with fail
      go_ret2
      exact ⟨rfl, rfl⟩
    · have hb := rdict2_lt p (by omega)
      have he := rdict2_step p (by omega)
      obtain ⟨r, hr⟩ : ∃ r, r = p % 2 := ⟨_, rfl⟩
      obtain ⟨q, hq⟩ : ∃ q, q = p / 2 := ⟨_, rfl⟩
      rw [← hr, ← hq] at hb he
      have hr1 : r < 2 := by omega
      have hq1 : q < 20 := by omega
      have hpe : (p : Int) % 2 = (r : Int) := by omega
      have hpq : (p : Int) / 2 = (q : Int) := by omega
      have h1 : ¬ (40 : Int) < (p : Int) := by omega
      have h2 : ((p : Int) == 40) = false := by simp; omega
      have hbb := hid (show ∀ k, k ≤ q + 11 → (2 + r) * 2 ^ k ≤ 3221225472 from fun k hk => Nat.le_trans (Nat.mul_le_mul_left _ (Nat.pow_le_pow_right (by decide) hk)) hb)
      have HE := hid he
      have HR := hid hr
      have HQ := hid hq
      clear hb he hr hq h41 h40
      go_enter Try.func40, Try.ntmps40
      go_wp2_with fail
      go_loopw [4, 5] (fun n i wr => ∃ k : Nat, k ≤ q + 11 ∧ i = .int .i64 k ∧ n = .int .i64 ((2 + r) * 2 ^ k : Nat) ∧ w = wr) (fun _ i _ => 40 - (intOf i).toNat)
      case atStart => exact ⟨0, by omega, rfl, by rw [Nat.pow_zero, Nat.mul_one]; push_cast; rfl, rfl⟩
      case round =>
        obtain ⟨k, hk, hi, hn, rfl⟩ := hrel
        subst hi hn
        obtain ⟨x, hx⟩ : ∃ x : Nat, x = (2 + r) * 2 ^ k := ⟨_, rfl⟩
        rw [← hx]
        have HX := hid hx
        clear hx
        by_cases hlt : k < q + 11
        · have hlt2 : (k : Int) < (q : Int) + 11 := by omega
          have hx2 := hbb.out (k + 1) (by omega)
          rw [Nat.pow_succ, ← Nat.mul_assoc, ← HX.out] at hx2
          have hw : IntKind.i64.wrap ((x : Int) * 2) = ((x * 2 : Nat) : Int) := by rw [IntKind.wrap_i64]; omega
          obtain ⟨y, hy⟩ : ∃ y : Nat, y = x * 2 := ⟨_, rfl⟩
          rw [← hy] at hw
          have HY := hid hy
          clear hy hx2
          go_wp2_with fail
          go_roundw
          case rel => exact ⟨k + 1, by omega, by push_cast; rfl, by rw [Nat.pow_succ, ← Nat.mul_assoc, ← HX.out, HY.out], trivial⟩
          case measure =>
            show 40 - ((k : Int) + 1).toNat < 40 - ((k : Nat) : Int).toNat
            omega
        · have e : k = q + 11 := by omega
          have hlt2 : ¬ (k : Int) < (q : Int) + 11 := by omega
          have HEK := hid e
          clear e
          go_wp2_with fail
          go_ret2
          refine ⟨?_, rfl⟩
          rw [HE.out, HX.out, HEK.out]
          rfl
  · have h1 : (40 : Int) < (p : Int) := by omega
    have h2 : (p : Int) < 256 := by omega
    rw [if_neg h41, if_neg h41]
    clear h41
    go_enter Try.func40, Try.ntmps40
    go_wp2_with fail
    go_ret2
    exact ⟨rfl, rfl⟩
theorem dictC_ok {p : Nat} (h : p ≤ 40) : dictV p = (dict2 p : Nat) ∧ dictC p = 0 := ⟨if_pos h, if_pos h⟩
theorem dictC_no {p : Nat} (h : ¬ p ≤ 40) : dictV p = 0 ∧ dictC p = 11 := ⟨if_neg h, if_neg h⟩
set_option maxRecDepth 100000 in
set_option maxHeartbeats 800000 in
theorem rprop_any (d : Int) (w : World) : Calls Try.prog 47 #[.int .i64 d] w fun e w' => (∃ v q, e = .returned (.tuple #[.int .u8 v, .int .i64 q]) ∧ PropR d v q) ∧ w = w' := by
  go_enter Try.func47, Try.ntmps47
  go_wp2_with fail
  go_loopw [4] (fun v wr => ∃ k : Nat, k ≤ 41 ∧ v = .int .i64 k ∧ (∀ i : Nat, i < k → (dict2 i : Int) < d) ∧ w = wr) (fun v _ => 41 - (intOf v).toNat)
  case atStart => exact ⟨0, by omega, rfl, fun i hi => by omega, rfl⟩
  case round =>
    obtain ⟨k, hk, hv, hlo, rfl⟩ := hrel
    subst hv
    have HLO := hid hlo
    clear hlo
    by_cases h41 : k < 41
    · have hk1 : (k : Int) ≤ 40 := by omega
      have hd := rdict_all k (by omega) w
      rw [(dictC_ok (show k ≤ 40 by omega)).1, (dictC_ok (show k ≤ 40 by omega)).2] at hd
      have hw : IntKind.u8.wrap (k : Int) = (k : Int) := by rw [IntKind.wrap_u8]; omega
      obtain ⟨x, hx⟩ : ∃ x : Int, x = ((dict2 k : Nat) : Int) := ⟨_, rfl⟩
      rw [← hx] at hd
      have HD := hid hd
      have HX := hid hx
      clear hd hx
      go_wp2_with fail
      refine HD.out.mono ?_
      rintro e w1 ⟨rfl, rfl⟩
      by_cases hge : d ≤ x
      · go_wp2_with fail
        go_ret2
        exact ⟨⟨_, _, rfl, .inl ⟨k, by omega, rfl, rfl, by rw [← HX.out]; exact hge, HLO.out⟩⟩, rfl⟩
      · have hge' : x < d := by omega
        go_wp2_with fail
        go_roundw
        case rel =>
          refine ⟨k + 1, by omega, by push_cast; rfl, fun i hi => ?_, by trivial⟩
          by_cases e : i = k
          · subst e; rw [← HX.out]; exact hge'
          · exact HLO.out i (by omega)
        case measure =>
          show 41 - ((k : Int) + 1).toNat < 41 - ((k : Nat) : Int).toNat
          omega
    · have e : k = 41 := by omega
      subst e
      go_wp2_with fail
      go_ret2
      exact ⟨⟨_, _, rfl, .inr ⟨rfl, rfl, HLO.out⟩⟩, rfl⟩
set_option maxRecDepth 100000 in
set_option maxHeartbeats 800000 in
theorem lzma2Props_walk (p : Nat) (d : Int) (w : World) (hp : p < 256) : Calls Try.prog 12 #[.int .u8 p, .int .i64 d] w fun e w' => e = .returned (.bool true) ∧ Fr Non w w' := by
  go_enter Try.func12, Try.ntmps12
  go_wp2_with fail
  refine (awake11_any w).mono ?_
  rintro e w1 ⟨rfl, hf1⟩
  have HF1 := hid hf1
  clear hf1
  by_cases h40 : p ≤ 40
  · have hd1 := dict_all p hp w1
    have hd2 := rdict_all p hp w1
    rw [(dictC_ok h40).1, (dictC_ok h40).2] at hd1 hd2
    obtain ⟨x, hx⟩ : ∃ x : Int, x = ((dict2 p : Nat) : Int) := ⟨_, rfl⟩
    rw [← hx] at hd1 hd2
    have HD1 := hid hd1
    have HD2 := hid hd2
    have HX := hid hx
    have H40 := hid h40
    clear hd1 hd2 hx h40
    go_wp2_with fail
    refine HD1.out.mono ?_
    rintro e w2 ⟨rfl, rfl⟩
    go_wp2_with fail
    refine HD2.out.mono ?_
    rintro e w2 ⟨rfl, rfl⟩
    go_wp2_with fail
    refine (prop_any d w1).mono ?_
    rintro e w2 ⟨⟨v, q, rfl, hr⟩, rfl⟩
    have HR := hid hr
    clear hr
    go_wp2_with fail
    refine (rprop_any d w1).mono ?_
    rintro e w2 ⟨⟨v', q', rfl, hr'⟩, rfl⟩
    obtain ⟨rfl, rfl⟩ := HR.out.same hr'
    clear hr'
    go_wp2_with fail
    refine (prop_any x w1).mono ?_
    rintro e w2 ⟨⟨v2, q2, rfl, hr2⟩, rfl⟩
    rw [HX.out] at hr2
    obtain ⟨rfl, rfl⟩ := hr2.back H40.out
    clear hr2
    go_wp2_with fail
    go_ret
    exact ⟨rfl, HF1.out⟩
  · have hd1 := dict_all p hp w1
    have hd2 := rdict_all p hp w1
    rw [(dictC_no h40).1, (dictC_no h40).2] at hd1 hd2
    have HD1 := hid hd1
    have HD2 := hid hd2
    clear hd1 hd2 h40
    go_wp2_with fail
    refine HD1.out.mono ?_
    rintro e w2 ⟨rfl, rfl⟩
    go_wp2_with fail
    refine HD2.out.mono ?_
    rintro e w2 ⟨rfl, rfl⟩
    go_wp2_with fail
    refine (prop_any d w1).mono ?_
    rintro e w2 ⟨⟨v, q, rfl, hr⟩, rfl⟩
    have HR := hid hr
    clear hr
    go_wp2_with fail
    refine (rprop_any d w1).mono ?_
    rintro e w2 ⟨⟨v', q', rfl, hr'⟩, rfl⟩
    obtain ⟨rfl, rfl⟩ := HR.out.same hr'
    clear hr'
    go_wp2_with fail
    go_ret
    exact ⟨rfl, HF1.out⟩
end Go.Proofs.Ytjnegcambbeblaa

/- lzma2: New without memory, a decoder that has not begun or is bad; Close, plain. -/
namespace Go.Proofs.Ytjnegcambbeblaa
open Go.RowKit

def L2NewNo (gm : Nat) (m : MS) (p N : Nat) (w : World) (e : Ending) (w' : World) : Prop :=
  ∃ c m', e = .returned (.tuple #[.pointer none, .int .i64 c]) ∧ Fr (fun k => k = gm) w w' ∧ MAt w' gm m' ∧
     (((m.mem (set2 p).need).1 = false ∧ m' = (m.mem (set2 p).need).2 ∧ c = m'.code) ∨ ((m.mem (set2 p).need).1 = true ∧ m' = ((m.mem (set2 p).need).2.mem N).2.free (set2 p).need ∧ c = m'.code))
theorem free_code (m : MS) (k : Nat) : (m.free k).code = m.code := rfl
set_option maxRecDepth 100000 in
set_option maxHeartbeats 800000 in
theorem l2new_no (gm : Nat) (m : MS) (p : Nat) (size : Int) (w : World) (N : Nat) (hN : N = wsize (min (set2 p).dict size)) (h : MAt w gm m) (hok : m.Ok) (hp : p ≤ 40) (hs : size ≤ 1048576) (hs0 : -9223372036854775808 ≤ size)
    (hno : ¬ ((m.mem (set2 p).need).1 = true ∧ ((m.mem (set2 p).need).2.mem N).1 = true)) :
    Calls Try.prog 39 #[.int .u8 p, .int .i64 size, .pointer (some ⟨gm, 0, none⟩)] w (L2NewNo gm m p N w) := by
  subst hN
  have HNO := hid hno
  clear hno
  obtain ⟨d, hd⟩ : ∃ d : Int, d = ((dict2 p : Nat) : Int) := ⟨_, rfl⟩
  have hset : (set2 p).val = .agg #[.int .i64 4, .int .i64 0, .int .i64 0, .int .i64 d] := by rw [hd]; rfl
  have CN := hid (show ∀ W, Fr Non w W → Calls Try.prog 20 #[.agg #[.int .i64 4, .int .i64 0, .int .i64 0, .int .i64 d], .int .i64 size, .pointer (some ⟨gm, 0, none⟩)] W (LNewPost gm m (set2 p) size W) from fun W hW => by
    have h := lnew_any gm m (set2 p) size W (hW.blk h id) hok (set2_light hp) hs hs0
    rw [hset] at h
    exact h)
  have CD := hid (dict2_any p hp)
  rw [← hd] at CD
  clear h hok hs hs0 hset hd
  go_enter Try.func39, Try.ntmps39
  go_wp2_with fail
  refine (CD.out w).mono ?_
  rintro e w1 ⟨rfl, rfl⟩
  go_upto_region 5 with fail
  have k0 := blk_cell (blk_new w (.cells #[.int .i64 4, .int .i64 0, .int .i64 0, .int .i64 d] 23)) (j := 0) (v := .int .i64 4) rfl
  have k1 := blk_cell (blk_new w (.cells #[.int .i64 4, .int .i64 0, .int .i64 0, .int .i64 d] 23)) (j := 1) (v := .int .i64 0) rfl
  have k2 := blk_cell (blk_new w (.cells #[.int .i64 4, .int .i64 0, .int .i64 0, .int .i64 d] 23)) (j := 2) (v := .int .i64 0) rfl
  have k3 := blk_cell (blk_new w (.cells #[.int .i64 4, .int .i64 0, .int .i64 0, .int .i64 d] 23)) (j := 3) (v := .int .i64 d) rfl
  have HF := hid ((Fr.refl Non w).alloc (.cells #[.int .i64 4, .int .i64 0, .int .i64 0, .int .i64 d] 23))
  go_wp2_with fail
  refine (CN.out _ HF.out).mono ?_
  intro e w2 hq
  rcases hq with ⟨c, m', _, rfl, hf1, hm1, hc⟩ | ⟨h1, h2, _⟩
  · have F1 := hid (show Fr (fun k => k = gm) w w2 from (HF.out.any).trans hf1)
    have hc0 : c ≠ 0 := by
      rcases hc with ⟨h1, h2, h3⟩ | ⟨h1, h2, h3⟩
      · have := mem_code h1
        rw [h3, h2]
        omega
      · have h4 : ((m.mem (set2 p).need).2.mem (wsize (min (set2 p).dict size))).1 = false := by
          cases hq : ((m.mem (set2 p).need).2.mem (wsize (min (set2 p).dict size))).1
          · rfl
          · exact absurd ⟨h1, hq⟩ HNO.out
        have := mem_code h4
        rw [h3, h2, free_code]
        omega
    have hcb : (c == 0) = false := by simp; exact hc0
    have HQ := hid (And.intro hm1 hc)
    clear hf1 hm1 hc k0 k1 k2 k3 hc0
    go_wp2_with fail
    go_ret2
    exact ⟨c, m', rfl, F1.out, HQ.out.1, HQ.out.2⟩
  · exact absurd ⟨h1, h2⟩ HNO.out
set_option maxRecDepth 100000 in
theorem l2new_bad (gm : Nat) (p : Nat) (size : Int) (w : World) (hp : 40 < p) (hp2 : p < 256) :
    Calls Try.prog 39 #[.int .u8 p, .int .i64 size, .pointer (some ⟨gm, 0, none⟩)] w fun e w' => e = .returned (.tuple #[.pointer none, .int .i64 11]) ∧ w = w' := by
  go_enter Try.func39, Try.ntmps39
  go_wp2_with fail
  refine (dict2_bad p hp hp2 w).mono ?_
  rintro e w1 ⟨rfl, rfl⟩
  go_wp2_with fail
  go_ret2
  exact ⟨rfl, rfl⟩
set_option maxRecDepth 100000 in
theorem l2open_nil (g : Nat) (w : World) (k5 : w.cell? ⟨g, 5, none⟩ = some .nilIface) :
    Calls Try.prog 72 #[.pointer (some ⟨g, 0, none⟩)] w fun e w' => e = .returned (.bool false) ∧ w = w' := by
  go_enter Try.func72, Try.ntmps72
  go_wp2_with fail
  go_ret
  exact ⟨rfl, rfl⟩
set_option maxRecDepth 100000 in
theorem l2open_bad (g : Nat) (ty : TypeId) (v : Value) (w : World) (k5 : w.cell? ⟨g, 5, none⟩ = some (.iface ty v)) (k12 : w.cell? ⟨g, 12, none⟩ = some (.bool true)) :
    Calls Try.prog 72 #[.pointer (some ⟨g, 0, none⟩)] w fun e w' => e = .returned (.bool false) ∧ w = w' := by
  go_enter Try.func72, Try.ntmps72
  go_wp2_with fail
  go_ret
  exact ⟨rfl, rfl⟩
set_option maxRecDepth 100000 in
theorem l2next_nil (g : Nat) (w : World) (k5 : w.cell? ⟨g, 5, none⟩ = some .nilIface) :
    Calls Try.prog 41 #[.pointer (some ⟨g, 0, none⟩)] w fun e w' => e = .returned (.tuple #[.int .u8 0, .bool false]) ∧ w = w' := by
  go_enter Try.func41, Try.ntmps41
  go_wp2_with fail
  refine (l2open_nil g w k5).mono ?_
  rintro e w1 ⟨rfl, rfl⟩
  go_wp2_with fail
  go_ret2
  exact ⟨rfl, rfl⟩
set_option maxRecDepth 100000 in
/-- Finish of a decoder that is bad. -/
theorem l2finish_bad (g : Nat) (ty : TypeId) (v : Value) (l : Int) (en : Bool) (w : World) (k5 : w.cell? ⟨g, 5, none⟩ = some (.iface ty v)) (k7 : w.cell? ⟨g, 7, none⟩ = some (.int .i64 l)) (k11 : w.cell? ⟨g, 11, none⟩ = some (.bool en)) (k12 : w.cell? ⟨g, 12, none⟩ = some (.bool true)) (z12 : w.frozen? ⟨g, 12, none⟩ = false) :
    Calls Try.prog 43 #[.pointer (some ⟨g, 0, none⟩)] w fun e w' => e = .returned (.bool false) ∧ Fr (fun k => k = g) w w' := by
  go_enter Try.func43, Try.ntmps43
  by_cases hl : l = 0
  · subst hl
    go_wp2_with fail
    refine (l2open_bad g ty v w k5 k12).mono ?_
    rintro e w1 ⟨rfl, rfl⟩
    cases en with
    | true =>
      go_wp2_with fail
      go_ret
      exact ⟨rfl, (Fr.refl _ _).setOne _ _⟩
    | false =>
      go_wp2_with fail
      go_ret
      exact ⟨rfl, (Fr.refl _ _).setOne _ _⟩
  · have hb : (l == 0) = false := by simp; exact hl
    clear hl
    go_wp2_with fail
    go_ret
    exact ⟨rfl, (Fr.refl _ _).setOne _ _⟩
def L2Shut (L : LL) (g : Nat) (cs : Array Value) (sp rp : Value) (s : LS) (n : Nat) (m : MS) (w w' : World) : Prop :=
  Fr (fun k => k = g ∨ k = L.gd ∨ k = L.gw ∨ k = L.gm) w w' ∧ LRaw L (.slice none 0 0) sp rp { s with taken := 0, bad := true } none 0 0 0 ((m.free s.taken).free n) w' ∧ w'.heap[g]? = some (.cells (cs.setIfInBounds 12 (.bool true)) 145)
set_option maxRecDepth 100000 in
set_option maxHeartbeats 800000 in
theorem l2close_raw (L : LL) (g : Nat) (cs : Array Value) (b : Bool) (lv sp rp : Value) (s : LS) (a : Option Addr) (n next count : Nat) (m : MS) (w : World) (hr : LRaw L lv sp rp s a n next count m w)
    (hb : w.heap[g]? = some (.cells cs 145)) (h0 : cs[0]? = some (.pointer (some ⟨L.gd, 0, none⟩))) (h12 : cs[12]? = some (.bool b)) (hg : g ≠ L.gd ∧ g ≠ L.gw ∧ g ≠ L.gm) :
    Calls Try.prog 44 #[.pointer (some ⟨g, 0, none⟩)] w fun e w' => e = .returned (.tuple #[]) ∧ L2Shut L g cs sp rp s n m w w' := by
  have k0 := blk_cell hb h0
  have HB := hid hb
  have H12 := hid h12
  have HR := hid hr
  have HG := hid hg
  clear hb h0 h12 hr hg
  go_enter Try.func44, Try.ntmps44
  go_wp2_with fail
  refine (lclose_raw L lv sp rp s a n next count m w HR.out).mono ?_
  rintro e w1 ⟨rfl, hf1, hr1⟩
  have hb1 := hf1.blk HB.out (fun e => by
    obtain ⟨g1, g2, g3⟩ := HG.out
    rcases e with e | e | e
    · exact g1 e
    · exact g2 e
    · exact g3 e)
  have k12 := blk_cell hb1 H12.out
  have z12 := blk_frozen hb1 12
  have HF1 := hid hf1
  have HR1 := hid hr1
  have HB1 := hid hb1
  clear hf1 hr1 hb1 k0
  go_wp2_with fail
  go_end0
  obtain ⟨g1, g2, g3⟩ := HG.out
  obtain ⟨r1, r2, r3, r4, r5, r6, r7, r8, r9⟩ := HR1.out
  refine ⟨rfl, Fr.setCell (p := ⟨g, 12, none⟩) (HF1.out.mono (fun _ _ e => .inr e)) (fun _ => .inl rfl) _, ?_, blk_set HB1.out⟩
  exact ⟨blk_set_ne r1 (fun e => g1 e.symm), blk_set_ne r2 (fun e => g2 e.symm), blk_set_ne r3 (fun e => g3 e.symm), r4, r5, r6, r7, r8, r9⟩
end Go.Proofs.Ytjnegcambbeblaa

/- A setting of LZMA that came in, opened. -/
namespace Go.Proofs.Ytjnegcambbeblaa
open Go.Joins Go.ChangeShapes Go.WideShapes Go.Deep Go.RowKit

theorem lset_cells : Try.prog.cellsOf 23 = 4 := by kernel_rfl
theorem lint_cells : Try.prog.cellsOf 3 = 1 := by kernel_rfl
set_option maxRecDepth 100000 in
theorem lset_open {H : Type} {enc : TypeId × Value → H} {w : World} {held : Bool} {r : Go.Reach} {b0 : Nat} {v : Value} {d : DataW H} {p : List MemPlace}
    (hv : Value.okWide Try.prog w r b0 23 v) (h : DataW.Trod enc Try.prog w 0 (fun _ => true) held 23 v d p) : ∃ q : Lset, v = q.val ∧ q.wf := by
  obtain ⟨cs, rfl, hsz⟩ := okWide_struct Try.underlying23 hv
  obtain ⟨l⟩ := cs
  match l, hsz.trans lset_cells with
  | [c0, c1, c2, c3], _ =>
    obtain ⟨fuel, hf⟩ := h
    obtain ⟨xs, n, _, hx, _, hlen, hg⟩ := DataW.trod_struct Try.underlying23 hf
    match xs, hlen with
    | [y0, y1, y2, y3], _ =>
      have t0 := hg 0 _ rfl
      have t1 := hg 1 _ rfl
      have t2 := hg 2 _ rfl
      have t3 := hg 3 _ rfl
      simp [Value.cells, lint_cells] at t0 t1 t2 t3
      obtain ⟨x0, e0, _, b0⟩ := DataW.trod_int Try.underlying3 t0
      obtain ⟨x1, e1, _, b1⟩ := DataW.trod_int Try.underlying3 t1
      obtain ⟨x2, e2, _, b2⟩ := DataW.trod_int Try.underlying3 t2
      obtain ⟨x3, e3, _, b3⟩ := DataW.trod_int Try.underlying3 t3
      simp only [List.cons.injEq, and_true] at e0 e1 e2 e3
      subst e0 e1 e2 e3
      exact ⟨⟨x0, x1, x2, x3⟩, rfl, wf_i64 b0, wf_i64 b1, wf_i64 b2, wf_i64 b3⟩
end Go.Proofs.Ytjnegcambbeblaa

/- LzmaMem's walk. -/
namespace Go.Proofs.Ytjnegcambbeblaa
open Go.RowKit

def M0 (q : Nat) : MS := ⟨q, 0, 0, 0, 0, 0, 0, 0⟩
theorem M0_ok {q : Nat} (h : q ≤ 9223372036854775807) : (M0 q).Ok := ⟨Nat.zero_le _, h, Nat.zero_le _⟩
theorem mem_fit {q a b : Nat} (h : a + b ≤ q) : (M0 q).mem a = (true, { M0 q with now := a, peak := a }) ∧ ({ M0 q with now := a, peak := a } : MS).mem b = (true, { M0 q with now := a + b, peak := a + b }) := by
  constructor
  · unfold MS.mem
    rw [if_neg (by show ¬ (0 : Nat) ≠ 0; decide), if_neg (by show ¬ q - 0 < a; omega)]
    simp [M0]
  · unfold MS.mem
    rw [if_neg (by show ¬ (0 : Nat) ≠ 0; decide), if_neg (by show ¬ q - a < b; omega)]
    simp [M0]
theorem mem_no {q a b : Nat} (h : q < a + b) {c : Int} {m' : MS} (hc : (((M0 q).mem a).1 = false ∧ m' = ((M0 q).mem a).2 ∧ c = m'.code) ∨ (((M0 q).mem a).1 = true ∧ m' = (((M0 q).mem a).2.mem b).2.free a ∧ c = m'.code)) : c = 101 ∧ m'.now = 0 := by
  by_cases ha : a ≤ q
  · have e : (M0 q).mem a = (true, { M0 q with now := a, peak := a }) := by
      unfold MS.mem
      rw [if_neg (by show ¬ (0 : Nat) ≠ 0; decide), if_neg (by show ¬ q - 0 < a; omega)]
      simp [M0]
    rw [e] at hc
    rcases hc with ⟨h1, _⟩ | ⟨_, h2, h3⟩
    · cases h1
    · have e2 : ({ M0 q with now := a, peak := a } : MS).mem b = (false, { M0 q with now := a, peak := a, code := 101 }) := by
        unfold MS.mem
        rw [if_neg (by show ¬ (0 : Nat) ≠ 0; decide), if_pos (by show q - a < b; omega)]
      dsimp only at h2
      rw [e2] at h2
      subst h2
      exact ⟨h3, by show a - a = 0; omega⟩
  · have e : (M0 q).mem a = (false, { M0 q with code := 101 }) := by
      unfold MS.mem
      rw [if_neg (by show ¬ (0 : Nat) ≠ 0; decide), if_pos (by show q - 0 < a; omega)]
    rw [e] at hc
    rcases hc with ⟨_, h2, h3⟩ | ⟨h1, _⟩
    · subst h2
      exact ⟨h3, rfl⟩
    · cases h1
theorem mem_both {q a b : Nat} (h1 : ((M0 q).mem a).1 = true) (h2 : (((M0 q).mem a).2.mem b).1 = true) : a + b ≤ q := by
  by_cases ha : a ≤ q
  · have e : (M0 q).mem a = (true, { M0 q with now := a, peak := a }) := by
      unfold MS.mem
      rw [if_neg (by show ¬ (0 : Nat) ≠ 0; decide), if_neg (by show ¬ q - 0 < a; omega)]
      simp [M0]
    rw [e] at h2
    unfold MS.mem at h2
    rw [if_neg (by show ¬ (0 : Nat) ≠ 0; decide)] at h2
    by_cases hb : q - a < b
    · rw [if_pos (by exact hb)] at h2; cases h2
    · omega
  · unfold MS.mem at h1
    rw [if_neg (by show ¬ (0 : Nat) ≠ 0; decide), if_pos (by show q - 0 < a; omega)] at h1
    cases h1
theorem used_f0 (a b c d e f : Int) (w : World) : (Instr.field 52 (.agg #[.int .i64 a, .int .i64 b, .int .i64 c, .int .i64 d, .int .i64 e, .int .i64 f]) 0).run Try.prog w = .ok (.int .i64 a) w := by kernel_rfl
theorem used_f1 (a b c d e f : Int) (w : World) : (Instr.field 52 (.agg #[.int .i64 a, .int .i64 b, .int .i64 c, .int .i64 d, .int .i64 e, .int .i64 f]) 1).run Try.prog w = .ok (.int .i64 b) w := by kernel_rfl
set_option maxRecDepth 100000 in
set_option maxHeartbeats 800000 in
theorem lzmaMem_walk (p : Lset) (size mem : Int) (w : World) (hs : i64r size) (hm : i64r mem) :
    Calls Try.prog 6 #[p.val, .int .i64 size, .int .i64 mem] w fun e w' => e = .returned (.bool true) ∧ Fr Non w w' := by
  have HV := hid (show p.val = .agg #[.int .i64 p.lc, .int .i64 p.lp, .int .i64 p.pb, .int .i64 p.dict] from rfl)
  rw [HV.out]
  have HS := hid hs
  have HM := hid hm
  clear hs hm
  have uf0 := used_f0
  have uf1 := used_f1
  go_enter Try.func6, Try.ntmps6
  go_wp2_with fail
  refine (awake08_any _).mono ?_
  rintro e w1 ⟨rfl, hf1⟩
  have hb1 := hf1.blk (blk_new w (.cells #[.int .i64 p.lc, .int .i64 p.lp, .int .i64 p.pb, .int .i64 p.dict] 23)) id
  have F1 := hid (((Fr.refl Non w).alloc _).trans hf1)
  have HB1 := hid hb1
  clear hf1 hb1
  go_wp2_with (refine wpList_load_row rfl 23 _ rfl w.heap.size rfl 23 #[.int .i64 p.lc, .int .i64 p.lp, .int .i64 p.pb, .int .i64 p.dict] (0, 0) _ (by exact HB1.out) Try.underlying23 rfl (by kernel_rfl) ?_)
  rw [← HV.out]
  refine (light_any p _).mono ?_
  rintro e w2 ⟨rfl, hf2⟩
  have F2 := hid (F1.out.trans hf2)
  have HB2 := hid (hf2.blk HB1.out id)
  clear hf2
  obtain ⟨li, hli⟩ : ∃ li, li = (!p.may || decide (p.lc + p.lp ≤ 6)) := ⟨_, rfl⟩
  rw [← hli]
  have HLI := hid hli
  clear hli
  cases li with
  | false =>
    go_wp2_with fail
    go_ret
    exact ⟨rfl, F2.out⟩
  | true =>
    go_wp2_with fail
    refine (mnew_m mem HM.out.2 0 0 0 0 _ (by decide) (by decide) (by decide) (by decide)).mono ?_
    rintro e w3 ⟨gm, rfl, hgm, hf3, hm3⟩
    have HGM := hid (show w.heap.size < gm from Nat.lt_of_lt_of_le (blk_lt HB2.out) hgm)
    have F3 := hid (F2.out.trans hf3)
    have HB3 := hid (hf3.blk HB2.out id)
    have M3 := hid (show MAt w3 gm (M0 mem.toNat) from hm3)
    clear hf3 hm3 hgm
    go_upto_if 22 with fail
    go_cut [1] (fun v wx => v = .int .i64 (min size 1048576) ∧ Fr Non w3 wx)
    case first =>
      by_cases h : size > 1048576
      · have h' : decide (1048576 < size) = true := decide_eq_true h
        go_wp2_with fail
        go_meet
        exact ⟨by congr 1; omega, Fr.refl _ _⟩
      · have h' : decide (1048576 < size) = false := decide_eq_false h
        go_wp2_with fail
        go_meet
        exact ⟨by congr 1; omega, Fr.refl _ _⟩
    case rest =>
      obtain ⟨rfl, hf4⟩ := hcut
      obtain ⟨w4, hw4⟩ : ∃ w4, w4 = wc := ⟨_, rfl⟩
      rw [← hw4] at hf4 ⊢
      obtain ⟨x, hx⟩ : ∃ x, x = min size 1048576 := ⟨_, rfl⟩
      rw [← hx]
      have hx1 : x ≤ 1048576 := by omega
      have HX0 := hid (show -9223372036854775808 ≤ x from by have := HS.out.1; omega)
      have F4 := hid (F3.out.trans hf4)
      have HB4 := hid (hf4.blk HB3.out id)
      have M4 := hid (show MAt w4 gm _ from hf4.blk M3.out id)
      clear hf4 hw4 hx
      go_wp2_with (refine wpList_load_row rfl 23 _ rfl w.heap.size rfl 23 #[.int .i64 p.lc, .int .i64 p.lp, .int .i64 p.pb, .int .i64 p.dict] (0, 0) _ (by exact HB4.out) Try.underlying23 rfl (by kernel_rfl) ?_)
      rw [← HV.out]
      cases hmay : p.may with
      | false =>
        have HMY := hid hmay
        clear hmay
        refine (lnew_not p x _ _ HMY.out).mono ?_
        rintro e w5 ⟨rfl, hf5⟩
        have F5 := hid (F4.out.trans hf5)
        have HB5 := hid (hf5.blk HB4.out id)
        have M5 := hid (show MAt w5 gm _ from hf5.blk M4.out id)
        clear hf5
        go_wp2_with (refine wpList_load_row rfl 23 _ rfl w.heap.size rfl 23 #[.int .i64 p.lc, .int .i64 p.lp, .int .i64 p.pb, .int .i64 p.dict] (0, 0) _ (by exact HB5.out) Try.underlying23 rfl (by kernel_rfl) ?_)
        rw [← HV.out]
        refine (rmay_any p _).mono ?_
        rintro e w6 ⟨rfl, hf6⟩
        rw [HMY.out]
        have F6 := hid (F5.out.trans hf6)
        have M6 := hid (show MAt w6 gm _ from hf6.blk M5.out id)
        clear hf6
        go_wp2_with fail
        refine (used_m gm _ _ M6.out).mono ?_
        rintro e w7 ⟨rfl, hf7⟩
        have hu : usedV (M0 mem.toNat) = .agg #[.int .i64 0, .int .i64 0, .int .i64 0, .int .i64 0, .int .i64 0, .int .i64 0] := rfl
        rw [hu]
        clear hu
        have F7 := hid (F6.out.trans hf7)
        clear hf7
        go_wp2_with fail
        go_ret
        exact ⟨rfl, F7.out⟩
      | true =>
        have HMY := hid hmay
        clear hmay
        have HP := hid (show p.Light from ⟨Lset.may_iff.1 HMY.out, by
          have h := HLI.out
          rw [HMY.out] at h
          exact of_decide_eq_true h.symm⟩)
        refine (lnew_any gm (M0 mem.toNat) p x _ M4.out (M0_ok (by have := HM.out.2; omega)) HP.out hx1 HX0.out).mono ?_
        intro e w5 hq
        obtain ⟨N, hN⟩ : ∃ N, N = wsize (min p.dict x) := ⟨_, rfl⟩
        have hNv : (N : Int) = max 1 (min p.dict x) := by rw [hN]; unfold wsize; omega
        have hpn : p.need ≤ 200000 := by
          have h1 := HP.out.nl_le
          have h2 : p.probs = 1847 + p.nl := by unfold Lset.probs Lset.nl; rw [if_pos HMY.out]
          unfold Lset.need
          omega
        obtain ⟨T, hT⟩ : ∃ T, T = p.need := ⟨_, rfl⟩
        have hpr : (2 : Int) * (p.probs : Int) = (T : Int) := by rw [hT]; unfold Lset.need; omega
        unfold LNewPost at hq
        rw [← hN, ← hT] at hq
        have F5 : Fr Non w w5 ∧ (w5.heap[w.heap.size]? = some (.cells #[.int .i64 p.lc, .int .i64 p.lp, .int .i64 p.pb, .int .i64 p.dict] 23)) := by
          have hf : Fr (fun k => k = gm) w4 w5 := by
            rcases hq with ⟨_, _, _, _, hf, _⟩ | ⟨_, _, _, _, hf, _⟩ <;> exact hf
          exact ⟨F4.out.then hf (fun k hk e => by have := HGM.out; have e' : k = gm := e; omega), hf.blk HB4.out (fun e => by have := HGM.out; have e' : w.heap.size = gm := e; omega)⟩
        have HF5 := hid F5.1
        have HB5 := hid F5.2
        rw [← hT] at hpn
        have HNV := hid hNv
        have HPR := hid hpr
        obtain ⟨dv, cv, rfl, hq2⟩ : ∃ dv cv, e = .returned (.tuple #[dv, .int .i64 cv]) ∧
            ((T + N ≤ mem.toNat ∧ cv = 0 ∧ ∃ L : LL, dv = .pointer (some ⟨L.gd, 0, none⟩) ∧ MAt w5 gm { M0 mem.toNat with now := T + N, peak := T + N } ∧ LIs L (.pointer none) (.pointer none) w5 (LS.new p T) ∧ L.gm = gm ∧ L.n = N ∧ ∀ k, L.foot k → w.heap.size < k ∧ k ≠ gm) ∨
             (¬ T + N ≤ mem.toNat ∧ cv = 101 ∧ dv = .pointer none ∧ ∃ m' : MS, m'.now = 0 ∧ MAt w5 gm m')) := by
          rcases hq with ⟨c, m', hno, rfl, hf, hm', hcase⟩ | ⟨h1, h2, L, rfl, hf, hm', hl, hg, hn, hnl, hft⟩
          · refine ⟨_, c, rfl, .inr ?_⟩
            have htot : ¬ T + N ≤ mem.toNat := fun e => hno (by
              have h := mem_fit e
              rw [h.1]
              exact ⟨rfl, by rw [h.2]⟩)
            obtain ⟨e1, e2⟩ := mem_no (q := mem.toNat) (a := T) (b := N) (by omega) hcase
            exact ⟨htot, e1, rfl, m', e2, hm'⟩
          · have htot := mem_both h1 h2
            refine ⟨_, 0, rfl, .inl ⟨htot, rfl, L, rfl, ?_, hl, hg, hn, fun k hk => ?_⟩⟩
            · have h := mem_fit htot
              rw [h.1] at hm'
              dsimp only at hm'
              rw [h.2] at hm'
              exact hm'
            · have := hft k hk
              have h6 := HGM.out
              have h7 : gm < w4.heap.size := blk_lt M4.out
              omega
        have HQ2 := hid hq2
        clear F5 hq hNv hpr hN hT hq2
        go_wp2_with (refine wpList_load_row rfl 23 _ rfl w.heap.size rfl 23 #[.int .i64 p.lc, .int .i64 p.lp, .int .i64 p.pb, .int .i64 p.dict] (0, 0) _ (by exact HB5.out) Try.underlying23 rfl (by kernel_rfl) ?_)
        rw [← HV.out]
        refine (rmay_any p _).mono ?_
        rintro e w6 ⟨rfl, hf6⟩
        rw [HMY.out]
        have F6 := hid (HF5.out.trans hf6)
        have HB6 := hid (hf6.blk HB5.out id)
        have HF56 := hid hf6
        clear hf6
        have k0 := blk_cell HB6.out (j := 0) (v := .int .i64 p.lc) rfl
        have k1 := blk_cell HB6.out (j := 1) (v := .int .i64 p.lp) rfl
        have k2 := blk_cell HB6.out (j := 2) (v := .int .i64 p.pb) rfl
        have k3 := blk_cell HB6.out (j := 3) (v := .int .i64 p.dict) rfl
        go_upto_region 11 with fail
        have hbig : (p.probs : Int) ≤ 100000 := by have := HPR.out; omega
        have hbig0 : (0 : Int) ≤ (p.probs : Int) := by omega
        go_cut [10] (fun v wx => v = .int .i64 ((T + N : Nat) : Int) ∧ Fr Non w6 wx)
        case first =>
          have hd9 : 4096 ≤ p.dict := (Lset.may_iff.1 HMY.out).d0
          have hcs : (p.dict ≤ x ∧ ¬ x < p.dict ∧ ¬ x ≤ 1 ∧ Hid ((N : Int) = p.dict)) ∨ (x < p.dict ∧ ¬ p.dict ≤ x ∧ 1 < x ∧ ¬ x ≤ 1 ∧ Hid ((N : Int) = x)) ∨ (x < p.dict ∧ ¬ p.dict ≤ x ∧ x ≤ 1 ∧ ¬ 1 < x ∧ Hid ((N : Int) = 1)) := by
            have e := HNV.out
            by_cases h1 : p.dict ≤ x
            · exact .inl ⟨h1, by omega, by omega, hid (by omega)⟩
            · by_cases h2 : x ≤ 1
              · exact .inr (.inr ⟨by omega, h1, h2, by omega, hid (by omega)⟩)
              · exact .inr (.inl ⟨by omega, h1, by omega, h2, hid (by omega)⟩)
          have hd8 := hid (Lset.may_iff.1 HMY.out).d1
          rcases hcs with ⟨y1, y2, y3, HNE⟩ | ⟨y1, y2, y3, y4, HNE⟩ | ⟨y1, y2, y3, y4, HNE⟩
          all_goals
            go_region_held3 (fun wx => wx.cell? ⟨w.heap.size, 0, none⟩ = some (.int .i64 p.lc) ∧ wx.cell? ⟨w.heap.size, 1, none⟩ = some (.int .i64 p.lp) ∧ wx.cell? ⟨w.heap.size, 2, none⟩ = some (.int .i64 p.pb) ∧ wx.cell? ⟨w.heap.size, 3, none⟩ = some (.int .i64 p.dict)) (exact ⟨Fr.cell (S := Non) (w := w6) (by repeat (first | exact Fr.refl _ _ | refine Fr.drew ?_ | refine Fr.trans ?_ (by assumption))) k0 id, Fr.cell (S := Non) (w := w6) (by repeat (first | exact Fr.refl _ _ | refine Fr.drew ?_ | refine Fr.trans ?_ (by assumption))) k1 id, Fr.cell (S := Non) (w := w6) (by repeat (first | exact Fr.refl _ _ | refine Fr.drew ?_ | refine Fr.trans ?_ (by assumption))) k2 id, Fr.cell (S := Non) (w := w6) (by repeat (first | exact Fr.refl _ _ | refine Fr.drew ?_ | refine Fr.trans ?_ (by assumption))) k3 id⟩) (first
              | (go_at_call 27; refine (show Calls Try.prog 27 #[.agg #[.int .i64 p.lc, .int .i64 p.lp, .int .i64 p.pb, .int .i64 p.dict]] _ _ from rprobs_any p _).mono ?_; rintro e wm ⟨rfl, hfm⟩))
            all_goals
              have HFM := hid hfm
              clear hfm
              go_wp2_with fail
              go_meet
              refine ⟨?_, (Fr.refl Non w6).drew.trans HFM.out⟩
              have e1 := HPR.out
              have e2 := HNE.out
              have e3 := hd8.out
              congr 1
              simp only [IntKind.wrap_i64]
              omega
        case rest =>
          obtain ⟨rfl, hf7⟩ := hcut
          obtain ⟨w7, hw7⟩ : ∃ w7, w7 = wc := ⟨_, rfl⟩
          rw [← hw7] at hf7 ⊢
          clear hw7 k0 k1 k2 k3 hbig hbig0
          have F7 := hid (F6.out.trans hf7)
          have HF57 := hid (HF56.out.trans hf7)
          clear hf7
          have HMZ := hid (show (mem : Int) < ((T + N : Nat) : Int) ↔ ¬ T + N ≤ mem.toNat by have := HNV.out; omega)
          rcases HQ2.out with ⟨hfit, rfl, L, rfl, hm, hl, hg, hn, hft⟩ | ⟨hfit, rfl, rfl, m', hnow, hm⟩
          · have hgt : ¬ mem < ((T + N : Nat) : Int) := fun e => (HMZ.out.1 e) hfit
            have M7 := hid (show MAt w7 gm _ from HF57.out.blk hm id)
            have L7 := hid (hl.keep HF57.out (fun _ _ e => e))
            have HG := hid hg
            have HN := hid hn
            have HFT := hid hft
            have HMO := hid (show ({ M0 mem.toNat with now := T + N, peak := T + N } : MS).Ok from ⟨hfit, by show mem.toNat ≤ _; have := HM.out.2; omega, Nat.le_refl _⟩)
            clear hfit hm hl hg hn hft
            obtain ⟨z, hz⟩ : ∃ z : Int, z = ((T + N : Nat) : Int) := ⟨_, rfl⟩
            rw [← hz] at hgt ⊢
            have HZ := hid hz
            clear hz
            go_wp2_with fail
            refine (used_m gm _ _ M7.out).mono ?_
            rintro e w8 ⟨rfl, hf8⟩
            have hu : usedV { M0 mem.toNat with now := T + N, peak := T + N } = .agg #[.int .i64 z, .int .i64 z, .int .i64 0, .int .i64 0, .int .i64 0, .int .i64 0] := by rw [HZ.out]; rfl
            rw [hu]
            clear hu
            have F8 := hid (F7.out.trans hf8)
            have M8 := hid (show MAt w8 gm _ from hf8.blk M7.out id)
            have L8 := hid (L7.out.keep hf8 (fun _ _ e => e))
            have k8 := L8.out.headC 8 (v := .pointer none) (by decide) rfl
            clear hf8
            go_wp2_with fail
            refine (lnext_nil L.gd _ k8).mono ?_
            rintro e w9 ⟨rfl, rfl⟩
            go_wp2_with fail
            obtain ⟨nxt, hraw⟩ := L8.out.raw (m := { M0 mem.toNat with now := T + N, peak := T + N }) (by rw [HG.out]; exact M8.out) HMO.out (show T ≤ 1048576 by omega)
            refine (lclose_raw L L.lit _ _ _ _ _ _ _ _ _ hraw).mono ?_
            rintro e w10 ⟨rfl, hf10, hraw2⟩
            have F10 := hid (F8.out.then hf10 (fun i hi e => by
              have hg0 := HG.out
              have h6 := HGM.out
              rcases e with e | e | e
              · have := HFT.out L.gd (.inl rfl); omega
              · have := HFT.out L.gw (.inr (.inr (.inl rfl))); omega
              · omega))
            have R10 := hid hraw2
            clear hf10 hraw2 hraw k8
            go_wp2_with fail
            refine (lclose_raw L _ _ _ _ _ _ _ _ _ _ R10.out).mono ?_
            rintro e w11 ⟨rfl, hf11, hraw3⟩
            have F11 := hid (F10.out.then hf11 (fun i hi e => by
              have hg0 := HG.out
              have h6 := HGM.out
              rcases e with e | e | e
              · have := HFT.out L.gd (.inl rfl); omega
              · have := HFT.out L.gw (.inr (.inr (.inl rfl))); omega
              · omega))
            have R11 := hid hraw3
            have k8 := blk_cell hraw3.at_ (j := 8) (v := .pointer none) (by rw [cellsL_head _ _ _ _ _ (by decide)]; rfl)
            have M11 := hid (show MAt w11 gm _ from by have := hraw3.met; rw [HG.out] at this; exact this)
            clear hf11 hraw3
            go_wp2_with fail
            refine (used_m gm _ _ M11.out).mono ?_
            rintro e w12 ⟨rfl, hf12⟩
            have hu : ∀ W : World, usedV ((((({ M0 mem.toNat with now := T + N, peak := T + N } : MS).free (LS.new p T).taken).free L.n).free ({ LS.new p T with taken := 0, bad := true } : LS).taken).free 0) = .agg #[.int .i64 0, .int .i64 z, .int .i64 0, .int .i64 0, .int .i64 0, .int .i64 0] := fun W => by
              rw [HZ.out, HN.out]
              show Value.agg #[.int .i64 ((T + N - T - N - 0 - 0 : Nat) : Int), _, _, _, _, _] = _
              rw [show T + N - T - N - 0 - 0 = 0 by omega]
              rfl
            rw [hu w]
            have HU := hid (hu w)
            clear hu
            have F12 := hid (F11.out.trans hf12)
            have M12 := hid (show MAt w12 gm _ from hf12.blk M11.out id)
            have k8 := hf12.cell k8 id
            clear hf12
            go_wp2_with fail
            refine (used_m gm _ _ M12.out).mono ?_
            rintro e w13 ⟨rfl, hf13⟩
            rw [HU.out]
            have F13 := hid (F12.out.trans hf13)
            have k8 := hf13.cell k8 id
            clear hf13
            go_wp2_with fail
            refine (lwhole_nil L.gd _ k8).mono ?_
            rintro e w14 ⟨rfl, rfl⟩
            go_wp2_with fail
            refine (lfinish_nil L.gd _ k8).mono ?_
            rintro e w15 ⟨rfl, rfl⟩
            go_wp2_with fail
            go_ret
            exact ⟨rfl, F13.out⟩
          · have hgt : mem < ((T + N : Nat) : Int) := HMZ.out.2 hfit
            have M7 := hid (show MAt w7 gm m' from HF57.out.blk hm id)
            have HNOW := hid hnow
            clear hfit hm hnow
            go_wp2_with fail
            refine (used_m gm _ _ M7.out).mono ?_
            rintro e w8 ⟨rfl, hf8⟩
            obtain ⟨pk, hu⟩ : ∃ pk : Int, usedV m' = .agg #[.int .i64 0, .int .i64 pk, .int .i64 0, .int .i64 0, .int .i64 0, .int .i64 0] := ⟨(m'.peak : Nat), by unfold usedV; rw [HNOW.out]; rfl⟩
            rw [hu]
            clear hu
            have F8 := hid (F7.out.trans hf8)
            clear hf8
            go_wp2_with fail
            go_ret
            exact ⟨rfl, F8.out⟩
end Go.Proofs.Ytjnegcambbeblaa

/- Lzma2Mem's walk. -/
namespace Go.Proofs.Ytjnegcambbeblaa
open Go.RowKit

theorem set2_probs (p : Nat) : (2 : Int) * ((set2 p).probs : Int) = ((set2 p).need : Int) := by unfold Lset.need; omega
theorem l2fin_zero (p : Nat) : (l2start p 0).finish (feedNx (fun _ => 0) 1) = true := rfl
set_option maxRecDepth 100000 in
set_option maxHeartbeats 800000 in
theorem lzma2Mem_walk (p : Nat) (size mem : Int) (w : World) (hp : p < 256) (hs : i64r size) (hm : i64r mem) :
    Calls Try.prog 11 #[.int .u8 p, .int .i64 size, .int .i64 mem] w fun e w' => e = .returned (.bool true) ∧ Fr Non w w' := by
  have HS := hid hs
  have HM := hid hm
  clear hs hm
  have uf0 := used_f0
  have uf1 := used_f1
  go_enter Try.func11, Try.ntmps11
  go_wp2_with fail
  refine (awake11_any _).mono ?_
  rintro e w1 ⟨rfl, hf1⟩
  have F1 := hid hf1
  have hs1 := hf1.size
  clear hf1
  go_wp2_with fail
  refine (mnew_m mem HM.out.2 0 0 0 0 _ (by decide) (by decide) (by decide) (by decide)).mono ?_
  rintro e w3 ⟨gm, rfl, hgm, hf3, hm3⟩
  have HGM := hid (show w.heap.size ≤ gm from Nat.le_trans hs1 hgm)
  have F3 := hid (F1.out.trans hf3)
  have M3 := hid (show MAt w3 gm (M0 mem.toNat) from hm3)
  clear hf3 hm3 hgm hs1
  go_upto_region 4 with fail
  go_cut [1] (fun v wx => v = .int .i64 (min size 65536) ∧ Fr Non w3 wx)
  case first =>
    by_cases h : size > 65536
    · have h' : decide (65536 < size) = true := decide_eq_true h
      go_wp2_with fail
      go_meet
      exact ⟨by congr 1; omega, Fr.refl _ _⟩
    · have h' : decide (65536 < size) = false := decide_eq_false h
      go_wp2_with fail
      go_meet
      exact ⟨by congr 1; omega, Fr.refl _ _⟩
  case rest =>
    obtain ⟨rfl, hf4⟩ := hcut
    obtain ⟨w4, hw4⟩ : ∃ w4, w4 = wc := ⟨_, rfl⟩
    rw [← hw4] at hf4 ⊢
    obtain ⟨x, hx⟩ : ∃ x, x = min size 65536 := ⟨_, rfl⟩
    rw [← hx]
    have hx1 : x ≤ 1048576 := by omega
    have HX0 := hid (show -9223372036854775808 ≤ x from by have := HS.out.1; omega)
    have F4 := hid (F3.out.trans hf4)
    have M4 := hid (show MAt w4 gm _ from hf4.blk M3.out id)
    clear hf4 hw4 hx
    by_cases h40 : p ≤ 40
    · have H40 := hid h40
      obtain ⟨N, hN⟩ : ∃ N, N = wsize (min (set2 p).dict x) := ⟨_, rfl⟩
      have hNv : (N : Int) = max 1 (min ((dict2 p : Nat) : Int) x) := by rw [hN]; unfold wsize; show _ = max 1 (min (set2 p).dict x); omega
      have hpn := set2_need_le h40
      obtain ⟨T, hT⟩ : ∃ T, T = (set2 p).need := ⟨_, rfl⟩
      have hpr := set2_probs p
      rw [← hT] at hpr hpn
      have hd1 := dict2_le p (by omega)
      have hrd := rdict_all p hp
      rw [(dictC_ok h40).1, (dictC_ok h40).2] at hrd
      obtain ⟨d, hd⟩ : ∃ d : Int, d = ((dict2 p : Nat) : Int) := ⟨_, rfl⟩
      rw [← hd] at hNv hrd
      have hset : (set2 p).val = .agg #[.int .i64 4, .int .i64 0, .int .i64 0, .int .i64 d] := by rw [hd]; rfl
      have HPB := hid (show ∀ W, Calls Try.prog 27 #[.agg #[.int .i64 4, .int .i64 0, .int .i64 0, .int .i64 d]] W fun e w' => e = .returned (.int .i64 ((set2 p).probs : Nat)) ∧ Fr Non W w' from fun W => by rw [← hset]; exact rprobs_any (set2 p) W)
      have HRD := hid hrd
      have HD1 := hid (show 4096 ≤ d ∧ d ≤ 4294967295 by omega)
      have HNV := hid hNv
      have HPR := hid hpr
      obtain ⟨pb, hpb⟩ : ∃ b, b = (set2 p).probs := ⟨_, rfl⟩
      rw [← hpb] at HPB HPR
      have HN := hid hN
      have HT0 := hid hT
      have HPN := hid hpn
      clear hN hNv hpn hpr hT hrd hd1 hd hset hpb h40
      have hnew : Calls Try.prog 39 #[.int .u8 p, .int .i64 x, .pointer (some ⟨gm, 0, none⟩)] w4 fun e w5 => ∃ dv cv, e = .returned (.tuple #[dv, .int .i64 cv]) ∧ Fr (fun k => k = gm) w4 w5 ∧
            ((T + N ≤ mem.toNat ∧ cv = 0 ∧ ∃ (L : LL) (g : Nat), dv = .pointer (some ⟨g, 0, none⟩) ∧ MAt w5 gm { M0 mem.toNat with now := T + N, peak := T + N } ∧ LIs L (.pointer none) (.pointer none) w5 (lstart (set2 p)) ∧ L.gm = gm ∧ L.n = N ∧ L.nl = 12288 ∧ (∀ k, L.foot k → w4.heap.size < k ∧ k < g) ∧ L2New L p g w5 ∧ g < w5.heap.size) ∨
             (¬ T + N ≤ mem.toNat ∧ cv = 101 ∧ dv = .pointer none ∧ ∃ m' : MS, m'.now = 0 ∧ MAt w5 gm m')) := by
        have hMO : (M0 mem.toNat).Ok := M0_ok (by have := HM.out.2; omega)
        by_cases hfit : T + N ≤ mem.toNat
        · have h := mem_fit hfit
          have h1 : ((M0 mem.toNat).mem (set2 p).need).1 = true := by rw [← HT0.out, h.1]
          have h2 : (((M0 mem.toNat).mem (set2 p).need).2.mem N).1 = true := by rw [← HT0.out, h.1]; exact congrArg Prod.fst h.2
          refine (l2new_any gm (M0 mem.toNat) p x w4 N HN.out M4.out hMO H40.out hx1 HX0.out h1 h2).mono ?_
          rintro e w5 ⟨L, g, rfl, hf1, hm1, hl1, hLgm, hLn, hLnl, hLf, hnew, hgs⟩
          refine ⟨_, 0, rfl, hf1, .inl ⟨hfit, rfl, L, g, rfl, ?_, hl1, hLgm, hLn, hLnl, hLf, hnew, hgs⟩⟩
          rw [← HT0.out, h.1] at hm1
          dsimp only at hm1
          rw [h.2] at hm1
          exact hm1
        · have hno : ¬ (((M0 mem.toNat).mem (set2 p).need).1 = true ∧ (((M0 mem.toNat).mem (set2 p).need).2.mem N).1 = true) := by
            rw [← HT0.out]
            exact fun e => hfit (mem_both e.1 e.2)
          refine (l2new_no gm (M0 mem.toNat) p x w4 N HN.out M4.out hMO H40.out hx1 HX0.out hno).mono ?_
          rintro e w5 ⟨c, m', rfl, hf1, hm1, hc⟩
          rw [← HT0.out] at hc
          obtain ⟨e1, e2⟩ := mem_no (q := mem.toNat) (a := T) (b := N) (by omega) hc
          exact ⟨_, c, rfl, hf1, .inr ⟨hfit, e1, rfl, m', e2, hm1⟩⟩
      have HNEW := hid hnew
      clear hnew
      go_wp2_with fail
      refine HNEW.out.mono ?_
      rintro e w5 ⟨dv, cv, rfl, hf5, hq⟩
      have F5 := hid (F4.out.then hf5 (fun k hk e => by have := HGM.out; have e' : k = gm := e; omega))
      have HQ := hid hq
      have hs5 := hf5.size
      have hgm4 : gm < w4.heap.size := blk_lt M4.out
      have hw4 := F4.out.size
      have HGM4 := hid hgm4
      have HW4 := hid hw4
      clear hf5 hq hgm4 hw4
      go_wp2_with fail
      refine (HRD.out w5).mono ?_
      rintro e w6 ⟨rfl, rfl⟩
      go_upto_region 9 with fail
      have hbig : (pb : Int) ≤ 100000 := by have := HPR.out; have := HPN.out; omega
      have hbig0 : (0 : Int) ≤ (pb : Int) := by omega
      go_cut [12] (fun v wx => v = .int .i64 ((T + N : Nat) : Int) ∧ Fr Non w5 wx)
      case first =>
        have hcs : (d ≤ x ∧ ¬ x < d ∧ ¬ x ≤ 1 ∧ Hid ((N : Int) = d)) ∨ (x < d ∧ ¬ d ≤ x ∧ 1 < x ∧ ¬ x ≤ 1 ∧ Hid ((N : Int) = x)) ∨ (x < d ∧ ¬ d ≤ x ∧ x ≤ 1 ∧ ¬ 1 < x ∧ Hid ((N : Int) = 1)) := by
          have e := HNV.out
          have hd9 := HD1.out
          by_cases h1 : d ≤ x
          · exact .inl ⟨h1, by omega, by omega, hid (by omega)⟩
          · by_cases h2 : x ≤ 1
            · exact .inr (.inr ⟨by omega, h1, h2, by omega, hid (by omega)⟩)
            · exact .inr (.inl ⟨by omega, h1, by omega, h2, hid (by omega)⟩)
        have hd4 : 4096 ≤ d := HD1.out.1
        rcases hcs with ⟨y1, y2, y3, HNE⟩ | ⟨y1, y2, y3, y4, HNE⟩ | ⟨y1, y2, y3, y4, HNE⟩
        all_goals
          go_wp2_with fail
          refine (HPB.out _).mono ?_
          rintro e wm ⟨rfl, hfm⟩
          have HFM := hid hfm
          clear hfm
          go_wp2_with fail
          go_meet
          refine ⟨?_, HFM.out⟩
          have e1 := HPR.out
          have e2 := HNE.out
          have e3 := HD1.out
          congr 1
          try simp only [IntKind.wrap_i64]
          omega
      case rest =>
        obtain ⟨rfl, hf7⟩ := hcut
        obtain ⟨w7, hw7⟩ : ∃ w7, w7 = wc := ⟨_, rfl⟩
        rw [← hw7] at hf7 ⊢
        clear hw7 hbig hbig0
        have F7 := hid (F5.out.trans hf7)
        have HF57 := hid hf7
        clear hf7
        have HMZ := hid (show (mem : Int) < ((T + N : Nat) : Int) ↔ ¬ T + N ≤ mem.toNat by have := HNV.out; omega)
        rcases HQ.out with ⟨hfit, rfl, L, g, rfl, hm, hl, hg, hn, hnl, hft, hnew, hgs⟩ | ⟨hfit, rfl, rfl, m', hnow, hm⟩
        · have hgt : ¬ mem < ((T + N : Nat) : Int) := fun e => (HMZ.out.1 e) hfit
          have M7 := hid (show MAt w7 gm _ from HF57.out.blk hm id)
          have L7 := hid (hl.keep HF57.out (fun _ _ e => e))
          have N7 := hid (show L2New L p g w7 from HF57.out.blk hnew id)
          have HGS := hid (show g < w7.heap.size from Nat.lt_of_lt_of_le hgs HF57.out.size)
          have HG := hid hg
          have HN2 := hid hn
          have HNL := hid hnl
          have HFT := hid hft
          have HMO := hid (show ({ M0 mem.toNat with now := T + N, peak := T + N } : MS).Ok from ⟨hfit, by show mem.toNat ≤ _; have := HM.out.2; omega, Nat.le_refl _⟩)
          clear hfit hm hl hg hn hft hnew hgs hnl
          obtain ⟨z, hz⟩ : ∃ z : Int, z = ((T + N : Nat) : Int) := ⟨_, rfl⟩
          rw [← hz] at hgt ⊢
          have HZ := hid hz
          clear hz
          go_wp2_with fail
          refine (used_m gm _ _ M7.out).mono ?_
          rintro e w8 ⟨rfl, hf8⟩
          have hu : usedV { M0 mem.toNat with now := T + N, peak := T + N } = .agg #[.int .i64 z, .int .i64 z, .int .i64 0, .int .i64 0, .int .i64 0, .int .i64 0] := by rw [HZ.out]; rfl
          rw [hu]
          clear hu
          have F8 := hid (F7.out.trans hf8)
          have M8 := hid (show MAt w8 gm _ from hf8.blk M7.out id)
          have L8 := hid (L7.out.keep hf8 (fun _ _ e => e))
          have N8 := hid (show L2New L p g w8 from hf8.blk N7.out id)
          have HGS8 := hid (Nat.lt_of_lt_of_le HGS.out hf8.size)
          clear hf8
          go_wp2_with fail
          refine (l2next_nil g w8 (blk_cell N8.out (j := 5) (v := .nilIface) rfl)).mono ?_
          rintro e w9 ⟨rfl, rfl⟩
          go_wp2_with fail
          refine (newFeed_any (some ⟨w8.heap.size, 0, none⟩) 1 1 (fun _ => 0) _ (by decide) (by decide) (fun e => by cases e) (.inr ⟨_, 0, rfl, by simp, fun i hi => by
            obtain rfl : i = 0 := by omega
            exact cell_new1 _ _ _⟩)).mono ?_
          intro e w10 hq
          obtain ⟨fg, fa, fc, rfl, hf10, hi10, hl10⟩ := feedNew_q _ _ _ (fun i hi => by decide) (by omega) _ _ hq
          have hf10' := ((Fr.refl Non w8).alloc _).trans hf10
          simp at hl10
          obtain ⟨t, ht⟩ : ∃ t, t = feed fg fa 1 fc (fun _ => 0) (fun i hi => by decide) := ⟨_, rfl⟩
          have HT := hid (show Value.iface 45 (.pointer (some ⟨fg, 0, none⟩)) = Value.iface t.ty t.val from by rw [ht]; rfl)
          have HTN := hid (show t.nx = feedNx (fun _ => 0) 1 from by rw [ht]; rfl)
          rw [← ht] at hi10 hl10
          have HI10 := hid hi10
          have HL10 := hid (show ∀ k, t.foot k → w8.heap.size < k ∧ k < w10.heap.size from fun k hk => by have := hl10 k hk; omega)
          have F10 := hid (F8.out.trans hf10')
          have M10 := hid (show MAt w10 gm _ from hf10'.blk M8.out id)
          have L10 := hid (L8.out.keep hf10' (fun _ _ e => e))
          have N10 := hid (show L2New L p g w10 from hf10'.blk N8.out id)
          have HS10 := hid hf10'.size
          have HNF := hid (show ¬ L.foot g from fun e => by have := (HFT.out g e).2; omega)
          clear hq hf10 hf10' hi10 hl10 ht
          go_wp2_with fail
          rw [HT.out]
          refine (l2begin_any L t g p 0 w10 N10.out L10.out HI10.out HNF.out (fun e => by have := (HL10.out g e).1; have := HGS8.out; omega) (fun k hk e => by have := (HFT.out k hk).2; have := (HL10.out k e).1; have := HGS8.out; omega) HNL.out).mono ?_
          rintro e w11 ⟨rfl, hf11, hat11⟩
          have hs11 := hf11.size
          have HLO := hid (show ∀ k, L2.foot L t g k → w4.heap.size < k ∧ k < w11.heap.size from by
            have := HGS8.out
            have := HS10.out
            have h0 := HFT.out L.gd (.inl rfl)
            have h9 := HGM4.out
            rintro k (e | e | e)
            · omega
            · have := HFT.out k e; omega
            · have := HL10.out k e; omega)
          have F11 := hid (F10.out.then hf11 (fun k hk e => by have e' : k = g := e; have h0 := HFT.out L.gd (.inl rfl); have := HW4.out; omega))
          have M11 := hid (show MAt w11 gm _ from hf11.blk M10.out (fun e => by have e' : gm = g := e; have h0 := HFT.out L.gd (.inl rfl); have := HGM4.out; omega))
          have IS11 := hid (L2Is.none_ (F := L2.foot L t g) (fun k hk => (HLO.out k hk).2) (fun _ e => e) rfl hat11 (.inl rfl))
          have CF := l2finish_any L t g (L2.foot L t g) _ w11 IS11.out (fun _ => rfl)
          rw [HTN.out, l2fin_zero] at CF
          have CF := hid CF
          clear hf11 hat11 hs11
          go_wp2_with fail
          refine CF.out.mono ?_
          rintro e w12 ⟨rfl, hf12, z', his, hzt, hzb⟩
          have F12 := hid (F11.out.then hf12 (fun k hk e => by have := HLO.out k e; have := HW4.out; omega))
          have M12 := hid (show MAt w12 gm _ from hf12.blk M11.out (fun e => by have := HLO.out gm e; have := HGM4.out; omega))
          obtain ⟨sp, rp, hc⟩ := his.core
          obtain ⟨pv, hat⟩ := his.cells
          have hzt' : z'.c.taken = T := by rw [hzt, HT0.out]; rfl
          obtain ⟨nxt, hraw⟩ := hc.raw (m := { M0 mem.toNat with now := T + N, peak := T + N }) (by rw [HG.out]; exact M12.out) HMO.out (by have := HPN.out; omega)
          have hne : g ≠ L.gd ∧ g ≠ L.gw ∧ g ≠ L.gm := ⟨fun e => HNF.out (.inl e), fun e => HNF.out (.inr (.inr (.inl e))), fun e => by have := HG.out; have h0 := HFT.out L.gd (.inl rfl); have := HGM4.out; omega⟩
          have HNE := hid hne
          have C1 := hid (l2close_raw L g _ z'.bad L.lit sp rp z'.c _ L.n nxt _ _ w12 hraw hat rfl rfl hne)
          have HZT := hid hzt'
          clear hf12 his hzt hzb hc hat hzt' hraw hne
          go_wp2_with fail
          refine C1.out.mono ?_
          rintro e w13 ⟨rfl, hf13, hraw13, hb13⟩
          have F13 := hid (F12.out.then hf13 (fun i hi e => by
            have hg0 := HG.out
            have h6 := HGM.out
            have h7 := HW4.out
            have h0 := HFT.out L.gd (.inl rfl)
            rcases e with e | e | e | e
            · omega
            · omega
            · have := HFT.out L.gw (.inr (.inr (.inl rfl))); omega
            · omega))
          have C2 := hid (l2close_raw L g _ true (.slice none 0 0) sp rp _ none 0 0 0 _ w13 hraw13 hb13 rfl rfl HNE.out)
          clear hf13 hraw13 hb13
          go_wp2_with fail
          refine C2.out.mono ?_
          rintro e w14 ⟨rfl, hf14, hraw14, hb14⟩
          have F14 := hid (F13.out.then hf14 (fun i hi e => by
            have hg0 := HG.out
            have h6 := HGM.out
            have h7 := HW4.out
            have h0 := HFT.out L.gd (.inl rfl)
            rcases e with e | e | e | e
            · omega
            · omega
            · have := HFT.out L.gw (.inr (.inr (.inl rfl))); omega
            · omega))
          have M14 := hid (show MAt w14 gm _ from by have := hraw14.met; rw [HG.out] at this; exact this)
          have HB14 := hid hb14
          clear hf14 hraw14 hb14
          go_wp2_with fail
          refine (used_m gm _ _ M14.out).mono ?_
          rintro e w15 ⟨rfl, hf15⟩
          have hu : usedV ((((({ M0 mem.toNat with now := T + N, peak := T + N } : MS).free z'.c.taken).free L.n).free ({ z'.c with taken := 0, bad := true } : LS).taken).free 0) = .agg #[.int .i64 0, .int .i64 z, .int .i64 0, .int .i64 0, .int .i64 0, .int .i64 0] := by
            rw [HZ.out, HN2.out, HZT.out]
            show Value.agg #[.int .i64 ((T + N - T - N - 0 - 0 : Nat) : Int), _, _, _, _, _] = _
            rw [show T + N - T - N - 0 - 0 = 0 by omega]
            rfl
          rw [hu]
          clear hu
          have F15 := hid (F14.out.trans hf15)
          have hb15 := hf15.blk HB14.out id
          have CFB := hid (l2finish_bad g t.ty t.val z'.left z'.ended w15 (blk_cell hb15 rfl) (blk_cell hb15 rfl) (blk_cell hb15 rfl) (blk_cell hb15 rfl) (blk_frozen hb15 12))
          clear hf15 hb15
          go_wp2_with fail
          refine CFB.out.mono ?_
          rintro e w16 ⟨rfl, hf16⟩
          have F16 := hid (F15.out.then hf16 (fun i hi e => by have e' : i = g := e; have h0 := HFT.out L.gd (.inl rfl); have := HW4.out; omega))
          clear hf16
          go_wp2_with fail
          go_ret
          exact ⟨rfl, F16.out⟩
        · have hgt : mem < ((T + N : Nat) : Int) := HMZ.out.2 hfit
          have M7 := hid (show MAt w7 gm m' from HF57.out.blk hm id)
          have HNOW := hid hnow
          clear hfit hm hnow
          go_wp2_with fail
          refine (used_m gm _ _ M7.out).mono ?_
          rintro e w8 ⟨rfl, hf8⟩
          obtain ⟨pk, hu⟩ : ∃ pk : Int, usedV m' = .agg #[.int .i64 0, .int .i64 pk, .int .i64 0, .int .i64 0, .int .i64 0, .int .i64 0] := ⟨(m'.peak : Nat), by unfold usedV; rw [HNOW.out]; rfl⟩
          rw [hu]
          clear hu
          have F8 := hid (F7.out.trans hf8)
          clear hf8
          go_wp2_with fail
          go_ret
          exact ⟨rfl, F8.out⟩
    · have hnew := l2new_bad gm p x w4 (by omega) hp
      have hrd := rdict_all p hp
      rw [(dictC_no h40).1, (dictC_no h40).2] at hrd
      have HRD := hid hrd
      clear hrd h40
      go_wp2_with fail
      refine hnew.mono ?_
      rintro e w5 ⟨rfl, rfl⟩
      clear hnew
      go_wp2_with fail
      refine (HRD.out w4).mono ?_
      rintro e w6 ⟨rfl, rfl⟩
      go_wp2_with fail
      refine (used_m gm _ _ M4.out).mono ?_
      rintro e w7 ⟨rfl, hf7⟩
      have hu : usedV (M0 mem.toNat) = .agg #[.int .i64 0, .int .i64 0, .int .i64 0, .int .i64 0, .int .i64 0, .int .i64 0] := rfl
      rw [hu]
      clear hu
      have F7 := hid (F4.out.trans hf7)
      clear hf7
      go_wp2_with fail
      go_ret
      exact ⟨rfl, F7.out⟩
end Go.Proofs.Ytjnegcambbeblaa

/- lzma2: rings of two sizes, both great enough for what was told, are alike. -/
namespace Go.Proofs.Ytjnegcambbeblaa
open Go.RowKit

theorem backH_ring {H : List Int} {n k : Nat} (h : H.length ≤ n) (h' : H.length ≤ k) (d : Nat) : backH H n d = backH H k d := by
  unfold backH
  rw [Nat.min_eq_left h, Nat.min_eq_left h']
theorem llit_ring {S : Type} (nx : S → Int × Bool × S) {L K : LL} (s : LS) (d : RD S) (h : s.H.length ≤ L.n) (h' : s.H.length ≤ K.n) : llit nx L s d = llit nx K s d := by
  unfold llit LS.row
  rw [backH_ring h h' 0, backH_ring h h' (s.rep 0)]
theorem lpEnd_ring {S : Type} {L K : LL} (s : LS) (d : RD S) (h : s.H.length ≤ L.n) (h' : s.H.length ≤ K.n) : lpEnd L s d = lpEnd K s d := by
  unfold lpEnd
  rw [Nat.min_eq_left h, Nat.min_eq_left h']
theorem lagain_H {S : Type} (nx : S → Int × Bool × S) (s : LS) (d : RD S) (sp : Nat) : (lagain nx s d sp).2.1.H = s.H := by
  unfold lagain
  split <;> rfl
theorem lpacket_ring {S : Type} (nx : S → Int × Bool × S) {L K : LL} (s : LS) (d : RD S) (h : s.H.length ≤ L.n) (h' : s.H.length ≤ K.n) : lpacket nx L s d = lpacket nx K s d := by
  unfold lpacket
  dsimp only
  rw [Nat.min_eq_left h, Nat.min_eq_left h']
  split
  · rw [llit_ring nx (L := L) (K := K) _ _ (by exact h) (by exact h')]
  · split
    · rw [lpEnd_ring (L := L) (K := K) _ _ (by exact h) (by exact h')]
    · split
      · rw [lpEnd_ring (L := L) (K := K) _ _ (by exact h) (by exact h')]
      · rw [lpEnd_ring (L := L) (K := K) _ _ (by dsimp only; rw [lagain_H]; exact h) (by dsimp only; rw [lagain_H]; exact h')]
theorem lnext2_ring {S : Type} {L K : LL} (s : LS) (d : RD S) (h : s.H.length ≤ L.n) (h' : s.H.length ≤ K.n) : lnext2 L s d = lnext2 K s d := by
  unfold lnext2
  rw [backH_ring h h' (s.rep 0)]
theorem lnext_ring {S : Type} (nx : S → Int × Bool × S) {L K : LL} (s : LS) (d : RD S) (h : s.H.length ≤ L.n) (h' : s.H.length ≤ K.n) : lnext nx L s d = lnext nx K s d := by
  have e := (lpacket_same nx K s d).H
  unfold lnext
  rw [lpacket_ring nx s d h h', lnext2_ring s d h h', lnext2_ring (L := L) (K := K) (lpacket nx K s d).2.1 (lpacket nx K s d).2.2 (by rw [e]; exact h) (by rw [e]; exact h')]
theorem lnext2_H {S : Type} (L : LL) (s : LS) (d : RD S) : (lnext2 L s d).2.1.H.length ≤ s.H.length + 1 := by
  unfold lnext2
  split
  · exact Nat.le_succ _
  · simp
theorem lnext_H {S : Type} (nx : S → Int × Bool × S) (L : LL) (s : LS) (d : RD S) : (lnext nx L s d).2.1.H.length ≤ s.H.length + 1 := by
  have e := (lpacket_same nx L s d).H
  unfold lnext
  split
  · exact Nat.le_succ _
  · split
    · split
      · show ((lpacket nx L s d).2.1.H ++ [_]).length ≤ _
        rw [e]; simp
      · have := lnext2_H L (lpacket nx L s d).2.1 (lpacket nx L s d).2.2
        rw [e] at this
        exact this
    · exact lnext2_H L s d
theorem L2.st0_H {S : Type} (how : Int) (z : L2 S) : (z.st0 how).c.H.length ≤ z.c.H.length := by
  unfold L2.st0
  split
  · exact Nat.zero_le _
  · exact Nat.le_refl _
theorem L2.chunk1_H {S : Type} (nx : S → Int × Bool × S) (k : Int) (z : L2 S) : (z.chunk1 nx k).c.H.length ≤ z.c.H.length := by
  unfold L2.chunk1
  split
  · exact Nat.le_refl _
  · split
    · exact Nat.le_refl _
    · split
      · unfold L2.plain
        dsimp only
        show (if k = 1 then z.empty else z).c.H.length ≤ _
        split
        · exact Nat.zero_le _
        · exact Nat.le_refl _
      · split
        · unfold L2.pack L2.packEnd
          have h0 := L2.st0_H (k / 32 - 4) z
          have e : ∀ y : L2 S, (L2.judge (L2.st3 (k / 32 - 4) (L2.st2 nx (k / 32 - 4) y))).c = y.c := fun y => by
            show (L2.st3 (k / 32 - 4) (L2.st2 nx (k / 32 - 4) y)).c = _
            rw [L2.st3_c, L2.st2_c]
          split
          · rw [e]; exact h0
          · unfold L2.pack1
            dsimp only
            rw [e]
            split
            · exact h0
            · exact h0
        · exact Nat.le_refl _
theorem L2.open_H {S : Type} (nx : S → Int × Bool × S) (z : L2 S) : (z.open_ nx).2.c.H.length ≤ z.c.H.length := by
  unfold L2.open_
  split
  · exact Nat.le_refl _
  · split
    · split
      · exact L2.chunk1_H nx _ _
      · exact Nat.le_refl _
    · exact Nat.le_refl _
theorem L2.take_H {S : Type} (nx : S → Int × Bool × S) (L : LL) (z : L2 S) : (z.take nx L).2.c.H.length ≤ z.c.H.length + 1 := by
  unfold L2.take
  cases hm : z.mode with
  | none =>
    dsimp only
    split
    · exact Nat.le_succ _
    · show (z.c.H ++ [_]).length ≤ _
      simp
  | some rd =>
    dsimp only
    exact lnext_H (anx (lnx nx)) L z.c rd
theorem L2.next_H {S : Type} (nx : S → Int × Bool × S) (L : LL) (z : L2 S) : (z.next nx L).2.c.H.length ≤ z.c.H.length + 1 := by
  unfold L2.next
  have h1 := L2.open_H nx z
  split
  · have h2 := L2.take_H nx L { (z.open_ nx).2 with left := (z.open_ nx).2.left - 1 }
    have h3 : ({ (z.open_ nx).2 with left := (z.open_ nx).2.left - 1 } : L2 S).c.H.length = (z.open_ nx).2.c.H.length := rfl
    omega
  · show (z.open_ nx).2.c.H.length ≤ _
    omega
theorem l2run_H {S : Type} (nx : S → Int × Bool × S) (L : LL) (z : L2 S) : ∀ k, (l2run nx L z k).c.H.length ≤ z.c.H.length + k
  | 0 => Nat.le_refl _
  | k + 1 => by
    have h1 := L2.next_H nx L (l2run nx L z k)
    have h2 := l2run_H nx L z k
    show ((l2run nx L z k).next nx L).2.c.H.length ≤ _
    omega
theorem L2.next_ring {S : Type} (nx : S → Int × Bool × S) {L K : LL} (z : L2 S) (h : z.c.H.length ≤ L.n) (h' : z.c.H.length ≤ K.n) : z.next nx L = z.next nx K := by
  have e := L2.open_H nx z
  unfold L2.next
  split
  · unfold L2.take
    dsimp only
    cases hm : (z.open_ nx).2.mode with
    | none => rfl
    | some rd =>
      dsimp only
      rw [lnext_ring (anx (lnx nx)) (L := L) (K := K) _ rd (by show (z.open_ nx).2.c.H.length ≤ _; omega) (by show (z.open_ nx).2.c.H.length ≤ _; omega)]
  · rfl
theorem l2run_ring {S : Type} (nx : S → Int × Bool × S) {L K : LL} (z : L2 S) (m : Nat) (h : z.c.H.length + m ≤ L.n) (h' : z.c.H.length + m ≤ K.n) : ∀ k, k ≤ m → l2run nx L z k = l2run nx K z k
  | 0, _ => rfl
  | k + 1, hk => by
    have e := l2run_ring nx z m h h' k (by omega)
    have hH := l2run_H nx K z k
    show ((l2run nx L z k).next nx L).2 = ((l2run nx K z k).next nx K).2
    rw [e, L2.next_ring nx (L := L) (K := K) (l2run nx K z k) (by omega) (by omega)]
/-- a run that goes on has its chunk open; one that ends has none. -/
theorem L2.next_open {S : Type} (nx : S → Int × Bool × S) (L : LL) (z : L2 S) (h : (z.next nx L).1.2 = true) : (z.open_ nx).1 = true := by
  unfold L2.next at h
  cases e : (z.open_ nx).1
  · rw [if_neg (by rw [e]; decide)] at h; cases h
  · rfl
theorem L2.fin_shut {S : Type} (nx : S → Int × Bool × S) (z : L2 S) (h : z.finish nx = true) : (z.open_ nx).1 = false := by
  unfold L2.finish at h
  split at h
  · cases e : (z.open_ nx).1
    · rfl
    · rw [e] at h; cases h
  · cases h
/-- a stream has one size. -/
theorem l2one {S : Type} (nx : S → Int × Bool × S) (s0 : S) (p n k : Nat) (hp : p ≤ 40) (hnk : n ≠ k) {xs : List Int} (h : l2unpack nx s0 p (wsize (min (set2 p).dict n)) n = some xs) : l2unpack nx s0 p (wsize (min (set2 p).dict k)) k = none := by
  unfold l2unpack at h
  split at h
  · rename_i hh
    obtain ⟨h1, h2⟩ := hh
    have hall : ∀ i, i < n → l2has nx (LL.of (wsize (min (set2 p).dict n))) (l2start p s0) i = true := fun i hi => List.all_eq_true.1 h1 i (List.mem_range.2 hi)
    have key : ∀ m, m ≤ n → m ≤ k → l2run nx (LL.of (wsize (min (set2 p).dict n))) (l2start p s0) m = l2run nx (LL.of (wsize (min (set2 p).dict k))) (l2start p s0) m := by
      intro m hn hk
      by_cases e : wsize (min (set2 p).dict n) = wsize (min (set2 p).dict k)
      · rw [e]
      · have hm : m ≤ wsize (min (set2 p).dict n) ∧ m ≤ wsize (min (set2 p).dict k) := by
          have hd : (4096 : Int) ≤ (set2 p).dict := (set2_light hp).1.d0
          unfold wsize at e ⊢
          omega
        exact l2run_ring nx (l2start p s0) m (by show 0 + m ≤ wsize _; omega) (by show 0 + m ≤ wsize _; omega) m (Nat.le_refl _)
    unfold l2unpack
    rw [if_neg]
    rintro ⟨h3, h4⟩
    rcases Nat.lt_or_gt_of_ne hnk with hlt | hlt
    · have h5 := List.all_eq_true.1 h3 n (List.mem_range.2 hlt)
      have h6 := L2.next_open nx _ _ h5
      have h7 := L2.fin_shut nx _ h2
      rw [key n (Nat.le_refl _) (by omega)] at h7
      rw [h7] at h6
      cases h6
    · have h5 := hall k hlt
      have h6 := L2.next_open nx _ _ h5
      have h7 := L2.fin_shut nx _ h4
      rw [← key k (by omega) (Nat.le_refl _)] at h7
      rw [h7] at h6
      cases h6
  · cases h
end Go.Proofs.Ytjnegcambbeblaa

/- Two numbers that came in, opened. -/
namespace Go.Proofs.Ytjnegcambbeblaa
open Go.Joins Go.ChangeShapes Go.WideShapes Go.Deep Go.RowKit

structure P16 where
  x : Int
  y : Int
def P16.val (q : P16) : Value := .agg #[.int .u16 q.x, .int .u16 q.y]
def P16.wf (q : P16) : Prop := (0 ≤ q.x ∧ q.x < 65536) ∧ (0 ≤ q.y ∧ q.y < 65536)
theorem p16_cells : Try.prog.cellsOf 65 = 2 := by kernel_rfl
theorem u16_cells1 : Try.prog.cellsOf 40 = 1 := by kernel_rfl
set_option maxRecDepth 100000 in
theorem p16_open {H : Type} {enc : TypeId × Value → H} {w : World} {held : Bool} {r : Go.Reach} {b0 : Nat} {v : Value} {d : DataW H} {p : List MemPlace}
    (hv : Value.okWide Try.prog w r b0 65 v) (h : DataW.Trod enc Try.prog w 0 (fun _ => true) held 65 v d p) : ∃ q : P16, v = q.val ∧ q.wf := by
  simp only [Value.okWide, Try.underlying65] at hv
  obtain ⟨cs, rfl, hsz, _⟩ := hv
  obtain ⟨l⟩ := cs
  match l, hsz.trans p16_cells with
  | [c0, c1], _ =>
    obtain ⟨fuel, hf⟩ := h
    obtain ⟨ys, m, _, _, _, hyl, ha⟩ := DataW.trod_array Try.underlying65 hf
    match ys, hyl with
    | [z0, z1], _ =>
      have s0 := ha 0 (by decide)
      have s1 := ha 1 (by decide)
      simp [Value.cells, u16_cells1] at s0 s1
      obtain ⟨x0, e0, _, b0⟩ := DataW.trod_int Try.underlying40 s0
      obtain ⟨x1, e1, _, b1⟩ := DataW.trod_int Try.underlying40 s1
      simp only [List.cons.injEq, and_true] at e0 e1
      subst e0 e1
      exact ⟨⟨x0, x1⟩, rfl, wf_u16 b0, wf_u16 b1⟩
end Go.Proofs.Ytjnegcambbeblaa
