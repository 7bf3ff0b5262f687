/- The walk through RdecBounds. -/
import Derived.Test.YtomjagibcdneiaaLaw04c
namespace Go.Proofs.Ytomjagibcdneiaa
open Go.RowKit

theorem strGo_lt {S : Type} (nx : S → Int × Bool × S) : ∀ (k j : Nat) (d : RD S) (out : Nat), out < 2 ^ j → (RD.strGo nx k d out).1 < 2 ^ (j + k)
  | 0, j, d, out, h => h
  | k + 1, j, d, out, h => by
    cases hb : d.bad with
    | true =>
      rw [strGo_bad _ _ _ _ hb]
      have : 2 ^ j ≤ 2 ^ (j + (k + 1)) := Nat.pow_le_pow_right (by decide) (by omega)
      show out < _
      omega
    | false =>
      rw [strGo_good _ _ _ _ hb]
      have h1 : (d.str1 nx).1 ≤ 1 := by
        unfold RD.str1
        by_cases h : d.rng / 2 ≤ d.code
        · rw [if_pos h]; exact Nat.le_refl _
        · rw [if_neg h]; exact Nat.zero_le _
      have := strGo_lt nx k (j + 1) (d.str1 nx).2 (2 * out + (d.str1 nx).1) (by rw [Nat.pow_succ]; omega)
      rw [show j + (k + 1) = j + 1 + k by omega]
      exact this
theorem str_lt {S : Type} (nx : S → Int × Bool × S) (k : Nat) (d : RD S) : (d.str nx k).1 < 2 ^ k := by
  have h := strGo_lt nx k 0 d 0 (by decide)
  have hp : 0 < 2 ^ k := Nat.pow_pos (by decide)
  unfold RD.str
  by_cases hb : (RD.strGo nx k d 0).2.bad = true
  · rw [if_pos hb]; exact hp
  · rw [if_neg hb]; rw [Nat.zero_add] at h; exact h
/-- what is told fits its bits. -/
theorem ask_lt {S : Type} (nx : S → Int × Bool × S) (d : RD S) (q : Nat → Int) (a : Ask) : (a.kind = 0 → (d.ask nx q a).1 ≤ 1) ∧ (a.kind ≠ 0 → (d.ask nx q a).1 < 2 ^ a.bits.toNat) := by
  unfold RD.ask
  by_cases h0 : a.kind = 0
  · rw [if_pos h0]; exact ⟨fun _ => bit_le _ _ _, fun h => absurd h0 h⟩
  · rw [if_neg h0]
    refine ⟨fun h => absurd h h0, fun _ => ?_⟩
    by_cases h1 : a.kind = 1
    · rw [if_pos h1]; exact tree_lt _ _ _ _
    · rw [if_neg h1]
      by_cases h2 : a.kind = 2
      · rw [if_pos h2]; exact rev_lt _ _ _ _
      · rw [if_neg h2]; exact str_lt _ _ _

set_option maxRecDepth 100000 in
set_option maxHeartbeats 2000000 in
theorem rdecBounds_walk (a : Option Addr) (n cap : Nat) (f : Nat → Int) (al : Option Addr) (nl cl : Nat) (l : Nat → Ask) (w : World)
    (hn : n ≤ 65536) (hnc : n ≤ cap) (hnil : a = none → cap = 0) (hr : RowIn w.heap.size .u8 w a n f) (hf : ∀ i, i < n → 0 ≤ f i ∧ f i < 256)
    (hnl : nl ≤ 9223372036854775807) (hl : AsksIn w.heap.size w al nl l) :
    Calls Try.prog 6 #[.slice a n cap, .slice al nl cl] w fun e w' => e = .returned (.bool true) ∧ Fr Non w w' := by
  have hn1 : ¬ (65536 : Int) < (n : Int) := by omega
  have H := hid hr
  have Hf := hid hf
  have Hnil := hid hnil
  have HL := hid hl
  clear hr hf hnil hl
  go_enter Try.func6, Try.ntmps6
  go_wp2_with fail
  refine (awake04_any _).mono ?_
  rintro e w1 ⟨rfl, hf1⟩
  have s1 := hf1.size
  have F1 := hid hf1
  have H1 := hid (H.out.fr hf1 (fun _ _ => id) |>.mono s1)
  clear hf1
  go_wp2_with fail
  refine (newFeed_any a n cap f _ (by omega) hnc Hnil.out H1.out).mono ?_
  intro e w2 h2
  obtain ⟨fg, a', c', rfl, hf2, hi2, hl2⟩ := feedNew_any _ _ _ Hf.out (by omega) _ _ h2
  have s2 := hf2.size
  have F2 := hid hf2
  have HI2 := hid hi2
  have HL2 := hid hl2
  clear h2 hf2 hi2 hl2
  go_wp2_with fail
  refine (newF_any w1 w2 n f Hf.out fg a' c' F2.out HI2.out HL2.out).mono ?_
  rintro e w3 ⟨D, rfl, hf3, hd3⟩
  have s3 := hf3.size
  have F3 := hid (F1.out.trans hf3)
  have HD3 := hid hd3
  clear hf3 hd3 HI2 HL2
  go_wp2_with fail
  refine (fresh_any 600 _ (by decide)).mono ?_
  rintro e w4 ⟨gp, hgp, rfl, hf4, hb4⟩
  have hgD : ¬ decFoot D.s D.g gp := fun h => by have := D.low gp h; omega
  have HgD := hid hgD
  have hs4 : St D gp w w4 (RD.new (feedNx f n) 0, fun _ => 1024) := ⟨F3.out.trans hf4, Deco.keep HD3.out hf4 (fun _ _ _ e => e), hb4, fresh_pr⟩
  have S4 := hid hs4
  clear hgD hs4 hf4 hb4
  go_upto_block 0 with fail
  go_cut [] (fun wx => ∃ r, St D gp w wx r)
  case first =>
    go_wp2_with fail
    go_loopw [7] (fun i wr => ∃ k : Nat, k ≤ nl ∧ k ≤ 2000 ∧ i = .int .i64 k ∧ ∃ r, St D gp w wr r) (fun i _ => nl - (intOf i).toNat)
    case atStart => exact ⟨0, Nat.zero_le _, Nat.zero_le _, rfl, _, S4.out⟩
    case round =>
      obtain ⟨k, hk, hk5, rfl, r, hst⟩ := hrel
      have Hst := hid hst
      clear hst
      by_cases hlt : k < nl
      · by_cases hlt5 : k < 2000
        · obtain ⟨b, off, rfl, hb, c0, c1, c2, c3⟩ := (HL.out.fr Hst.out.fr (fun _ _ => id)).at hlt
          go_wp2_with fail
          refine (right_any _ _ _ _ _).mono ?_
          rintro e w5 ⟨rfl, hf5⟩
          have d0 := hf5.cell c0 id
          have d1 := hf5.cell c1 id
          have d2 := hf5.cell c2 id
          have d3 := hf5.cell c3 id
          have S5 := hid (Hst.out.any hf5)
          clear hf5 c0 c1 c2 c3
          have eR : Ask.rightB ⟨(l k).kind, (l k).at_, (l k).bits, (l k).val⟩ = (l k).rightB := rfl
          rw [eR]
          clear eR
          cases hR : (l k).rightB with
          | true =>
            have hR2 : (l k).Right := of_decide_eq_true hR
            have HR := hid hR2
            have hbb : b < w.heap.size := hb
            clear hR hR2
            go_wp2_with fail
            refine (S5.out.ask (by omega) (by omega) HgD.out (l k) HR.out).mono ?_
            rintro e w6 ⟨rfl, hs6, hf6⟩
            have hnb : ¬ ((w1.heap.size ≤ b ∧ b < w3.heap.size) ∨ b = gp) := by omega
            have e0 := hf6.cell d0 hnb
            have e2 := hf6.cell d2 hnb
            have S6 := hid hs6
            have hv := ask_lt (feedNx f n) r.1 r.2 (l k)
            obtain ⟨v, hv0⟩ : ∃ v, v = (RD.ask (feedNx f n) r.1 r.2 (l k)).1 := ⟨_, rfl⟩
            rw [← hv0] at hv ⊢
            clear hs6 d0 d1 d2 d3 hf6 hv0 hnb
            by_cases hk0 : (l k).kind = 0
            · have hv1 := hv.1 hk0
              rw [hk0] at e0
              clear hv hk0
              go_wp2
              go_roundw
              case rel => exact ⟨k + 1, by omega, by omega, by go_num, _, S6.out⟩
              case measure => simp [intOf]; omega
            · have hv2 := hv.2 hk0
              have hkp : 0 < (l k).kind ∧ 0 ≤ (l k).bits ∧ (l k).bits ≤ 32 := by rcases HR.out with h | h | h <;> omega
              obtain ⟨hkp0, hkp1, hkp2⟩ := hkp
              obtain ⟨K, hK⟩ : ∃ K, K = (l k).kind := ⟨_, rfl⟩
              obtain ⟨B, hB⟩ := Int.eq_ofNat_of_zero_le hkp1
              rw [hB] at e2 hv2 hkp2
              rw [← hK] at e0 hkp0
              rw [Int.toNat_natCast] at hv2
              have hK0 : (K == 0) = false := by simp; omega
              have HV2 := hid hv2
              clear hv hk0 hkp1 hK hB hv2
              by_cases hb32 : B < 32
              · have hq : (v : Int) / 2 ^ B = 0 := by
                  have h1 : (2 : Int) ^ B = ((2 ^ B : Nat) : Int) := by simp
                  have h2 := HV2.out
                  rw [h1]
                  exact Int.ediv_eq_zero_of_lt (by omega) (by omega)
                have hz : ((v : Int) / 2 ^ B != 0) = false := by rw [hq]; rfl
                have hz2 : ((v : Int) / 2 ^ B == 0) = true := by rw [hq]; rfl
                clear hq
                go_wp2
                go_roundw
                case rel => exact ⟨k + 1, by omega, by omega, by go_num, _, S6.out⟩
                case measure => simp [intOf]; omega
              · have e32 : B = 32 := by omega
                subst e32
                go_wp2
                go_roundw
                case rel => exact ⟨k + 1, by omega, by omega, by go_num, _, S6.out⟩
                case measure => simp [intOf]; omega
          | false =>
            clear hR
            go_wp2_with fail
            go_roundw
            case rel => exact ⟨k + 1, by omega, by omega, by go_num, _, S5.out⟩
            case measure => simp [intOf]; omega
        · have e : k = 2000 := by omega
          subst e
          go_wp2_with fail
          go_meet
          exact ⟨r, Hst.out⟩
      · have e : k = nl := by omega
        subst e
        go_wp2_with fail
        go_meet
        exact ⟨r, Hst.out⟩
  case rest =>
    obtain ⟨r, hst⟩ := hcut
    have S5 := hid hst
    clear hst S4
    go_wp2_with fail
    go_loopw [9] (fun i wr => ∃ k : Nat, k ≤ 600 ∧ i = .int .i64 k ∧ Fr Non wc wr) (fun i _ => 600 - (intOf i).toNat)
    case atStart => exact ⟨0, Nat.zero_le _, rfl, Fr.refl _ _⟩
    case round =>
      obtain ⟨k, hk, rfl, hfr⟩ := hrel
      by_cases hlt : k < 600
      · have hx := hfr.cell (blk_cell S5.out.blk (arr_get .u16 600 r.2 hlt)) id
        have hp := S5.out.pr k hlt
        have hp0 := hp.1
        have hp1 := hp.2
        obtain ⟨x, hx0⟩ : ∃ x, x = r.2 k := ⟨_, rfl⟩
        rw [← hx0] at hx hp0 hp1
        have h0 : (0 : Int) ≤ (k : Int) := by omega
        have h1 : (k : Int) < 600 := by omega
        have Hfr := hid hfr
        clear hp hx0 hfr
        go_wp2
        go_roundw
        case rel => exact ⟨k + 1, by omega, by go_num, Hfr.out⟩
        case measure => simp [intOf]; omega
      · have e : k = 600 := by omega
        subst e
        go_wp2
        go_ret
        exact ⟨rfl, S5.out.fr.trans hfr⟩

set_option maxRecDepth 100000 in
theorem rdecBounds_long (a : Option Addr) (n cap : Nat) (x : Value) (w : World) (hn : 65536 < n) :
    Calls Try.prog 6 #[.slice a n cap, x] w fun e w' => e = .returned (.bool true) ∧ Fr Non w w' := by
  have h : (65536 : Int) < (n : Int) := by omega
  clear hn
  go_enter Try.func6, Try.ntmps6
  go_wp2_with (go_at_call 24; refine (awake04_any _).mono ?_; rintro e w1 ⟨rfl, hf1⟩)
  go_ret
  exact ⟨rfl, hf1⟩
end Go.Proofs.Ytomjagibcdneiaa
