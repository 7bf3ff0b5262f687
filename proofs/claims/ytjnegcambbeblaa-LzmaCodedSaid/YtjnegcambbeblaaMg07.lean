/- Texts of this proof, one behind the other. -/
import Derived.Test.YtjnegcambbeblaaMg06
import Derived.Laws.IdiomCopy
import Derived.Deep.RegionLaw

/- lzma: next, distance. -/
namespace Go.Proofs.Ytjnegcambbeblaa
open Go.RowKit

def nextL (st y o : Nat) : Nat := if st < 7 then y else o
theorem lnextS_any {S : Type} (L : LL) (t : Sour S) (ga gr : Nat) (s : LS) (d : RD (AhS S)) (y o : Nat) (w : World) (h : LOn L t ga gr w s d) (hy : y < 12) (ho : o < 12) :
    Calls Try.prog 117 #[.pointer (some ⟨L.gd, 0, none⟩), .int .i64 y, .int .i64 o] w (LOPost L t ga gr (.tuple #[]) { s with st := nextL s.st y o } d w) := by
  have t1 := h.is_.tailC 1 (v := .int .i64 s.st) rfl
  have z1 := blk_frozen h.is_.at_ (1856 + 1)
  have hfin : ∀ x, x < 12 → x = nextL s.st y o → LOPost L t ga gr (.tuple #[]) { s with st := nextL s.st y o } d w (.returned (.tuple #[])) (w.setCell ⟨L.gd, 1857, none⟩ (.int .i64 (x : Int))) := by
    intro x hx e
    refine ⟨rfl, (Fr.refl (LFt L t ga gr) _).setCell (p := ⟨L.gd, 1857, none⟩) (fun _ => .inl (.inl rfl)) _, ?_⟩
    have := h.st_ hx
    rw [e] at this ⊢
    exact this
  have HFIN := hid hfin
  clear hfin h
  by_cases h7 : s.st < 7
  · have h7' : (s.st : Int) < 7 := by omega
    have HS := hid (show y = nextL s.st y o by unfold nextL; rw [if_pos h7])
    go_enter Try.func117, Try.ntmps117
    go_wp2_with fail
    go_end0
    exact HFIN.out y hy HS.out
  · have h7' : ¬ (s.st : Int) < 7 := by omega
    have HS := hid (show o = nextL s.st y o by unfold nextL; rw [if_neg h7])
    go_enter Try.func117, Try.ntmps117
    go_wp2_with fail
    go_end0
    exact HFIN.out o ho HS.out
theorem lstrP {S : Type} (L : LL) (t : Sour S) (ga gr : Nat) (s : LS) (d : RD (AhS S)) (B : Nat) (w : World) (h : LOn L t ga gr w s d) (hB : B ≤ 32) :
    Calls Try.prog 129 #[.pointer (some ⟨gr, 0, none⟩), .int .i64 B] w (LOPost L t ga gr (.int .u32 ((d.str (ahead t ga).nx B).1 : Nat)) s (d.str (ahead t ga).nx B).2 w) := by
  refine (dstr_any (ahead t ga) gr B d w h.dec hB).mono ?_
  rintro e w' ⟨rfl, hf, hd⟩
  exact ⟨rfl, hf.mono (fun _ _ e => .inr e), h.is_.keep hf (fun k hk e => h.ap k hk e), hd, h.ap⟩
theorem strGo_lt' {S : Type} (nx : S → Int × Bool × S) : ∀ (k j : Nat) (d : RD S) (out : Nat), out < 2 ^ j → (RD.strGo nx k d out).1 < 2 ^ (j + k)
  | 0, j, d, out, h => by simpa [RD.strGo] using h
  | k + 1, j, d, out, h => by
    unfold RD.strGo
    split
    · exact Nat.lt_of_lt_of_le h (Nat.pow_le_pow_right (by decide) (by omega))
    · have hb : (d.str1 nx).1 ≤ 1 := by unfold RD.str1; split <;> simp
      have := strGo_lt' nx k (j + 1) (d.str1 nx).2 (2 * out + (d.str1 nx).1) (by rw [Nat.pow_succ]; omega)
      rw [show j + (k + 1) = j + 1 + k by omega]
      exact this
theorem str_lt' {S : Type} (nx : S → Int × Bool × S) (k : Nat) (d : RD S) : (d.str nx k).1 < 2 ^ k := by
  unfold RD.str
  have := strGo_lt' nx k 0 d 0 (by decide)
  rw [Nat.zero_add] at this
  dsimp only
  split
  · exact Nat.pow_pos (by decide)
  · exact this
def slotN (sl : Nat) : Nat := sl / 2 - 1
def slotB (sl : Nat) : Nat := (2 + sl % 2) * 2 ^ slotN sl
def ldist2 {S : Type} (nx : S → Int × Bool × S) (P : Nat → Int) (d : RD S) (sl : Nat) : Nat × (Nat → Int) × RD S :=
  if sl < 4 then (sl, P, d)
  else if sl < 14 then (slotB sl + (lrev nx P d (688 + (slotB sl - sl)) (slotN sl)).1, (lrev nx P d (688 + (slotB sl - sl)) (slotN sl)).2)
  else (slotB sl + 16 * (d.str nx (slotN sl - 4)).1 + (lrev nx P (d.str nx (slotN sl - 4)).2 803 4).1, (lrev nx P (d.str nx (slotN sl - 4)).2 803 4).2)
def ldist {S : Type} (nx : S → Int × Bool × S) (P : Nat → Int) (d : RD S) (l : Nat) : Nat × (Nat → Int) × RD S :=
  ldist2 nx (ltree nx P d (432 + 64 * min l 3) 6).2.1 (ltree nx P d (432 + 64 * min l 3) 6).2.2 (ltree nx P d (432 + 64 * min l 3) 6).1
theorem slot_few {sl : Nat} (h4 : 4 ≤ sl) (h : sl < 14) : sl ≤ slotB sl ∧ slotB sl - sl + 2 ^ slotN sl ≤ 115 ∧ slotN sl ≤ 5 ∧ slotB sl < 128 ∧ 1 ≤ slotN sl := by
  unfold slotB slotN
  have : sl = 4 ∨ sl = 5 ∨ sl = 6 ∨ sl = 7 ∨ sl = 8 ∨ sl = 9 ∨ sl = 10 ∨ sl = 11 ∨ sl = 12 ∨ sl = 13 := by omega
  rcases this with rfl | rfl | rfl | rfl | rfl | rfl | rfl | rfl | rfl | rfl <;> decide
theorem slot_many {sl : Nat} (h4 : 4 ≤ sl) (h : sl < 64) : 1 ≤ slotN sl ∧ slotN sl ≤ 30 ∧ slotB sl + 2 ^ slotN sl ≤ 4294967296 := by
  unfold slotB slotN
  have h1 : sl / 2 - 1 ≤ 30 := by omega
  have h2 : 2 ^ (sl / 2 - 1) ≤ 2 ^ 30 := Nat.pow_le_pow_right (by decide) h1
  have h3 : (2 + sl % 2) * 2 ^ (sl / 2 - 1) ≤ 3 * 2 ^ (sl / 2 - 1) := Nat.mul_le_mul_right _ (by omega)
  refine ⟨by omega, h1, ?_⟩
  generalize 2 ^ (sl / 2 - 1) = X at *
  generalize (2 + sl % 2) * X = Y at *
  omega
theorem slot_n {sl : Nat} (h : 4 ≤ sl) : ((sl : Int) / 2 - 1) = ((slotN sl : Nat) : Int) := by unfold slotN; omega
theorem slot_b {sl : Nat} (h4 : 4 ≤ sl) (h : sl < 64) : bits BinOp.or IntKind.i64 2 (bits BinOp.and IntKind.i64 (sl : Int) 1) % 4294967296 * 2 ^ slotN sl % 4294967296 = ((slotB sl : Nat) : Int) := by
  have hm := slot_many h4 h
  rw [show (1 : Int) = ((1 : Nat) : Int) from rfl, i64_and_nat _ _ (by omega) (by decide), nat_mask1, show (2 : Int) = ((2 : Nat) : Int) from rfl, i64_or_nat _ _ (by decide) (by omega)]
  have e : 2 ||| sl % 2 = 2 + sl % 2 := by
    rcases Nat.mod_two_eq_zero_or_one sl with e | e <;> (rw [e]; decide)
  rw [e]
  have e2 : (((2 + sl % 2 : Nat) : Int) % 4294967296) = ((2 + sl % 2 : Nat) : Int) := by omega
  have e3 : ((2 + sl % 2 : Nat) : Int) * ((2 : Nat) : Int) ^ slotN sl = ((slotB sl : Nat) : Int) := by unfold slotB; push_cast; rfl
  rw [e2, e3]
  have : 0 < 2 ^ slotN sl := Nat.pow_pos (by decide)
  omega
set_option maxRecDepth 100000 in
set_option maxHeartbeats 800000 in
theorem ldist_any {S : Type} (L : LL) (t : Sour S) (ga gr : Nat) (s : LS) (d : RD (AhS S)) (l : Nat) (w : World) (h : LOn L t ga gr w s d) (hl : l ≤ 1000) :
    Calls Try.prog 118 #[.pointer (some ⟨L.gd, 0, none⟩), .int .i64 l] w
      (LOPost L t ga gr (.int .u32 ((ldist (ahead t ga).nx s.P d l).1 : Nat)) { s with P := (ldist (ahead t ga).nx s.P d l).2.1 } (ldist (ahead t ga).nx s.P d l).2.2 w) := by
  have k8 := h.is_.headC 8 (v := .pointer (some ⟨gr, 0, none⟩)) (by decide) rfl
  have hl0 : (0 : Int) ≤ (l : Int) := by omega
  have hl1 : (l : Int) ≤ 1000 := by omega
  obtain ⟨j, hj⟩ : ∃ j, j = min l 3 := ⟨_, rfl⟩
  have hj3 : j ≤ 3 := by omega
  have hj' : (j : Int) ≤ 3 := by omega
  have hj0 : (0 : Int) ≤ (j : Int) := by omega
  have HMIN := hid (show min (l : Int) 3 = (j : Int) by omega)
  unfold ldist
  rw [← hj]
  have L1 := ltree_lt (ahead t ga).nx s.P d (432 + 64 * j) 6
  have C1 := hid (fun w1 (h1 : LOn L t ga gr w1 s d) => ltreeP L t ga gr s d (432 + 64 * j) (441 + j * 64) 6 64 64 w1 h1 (rowL_hi (by omega) (by omega) (by decide)) (by rw [sgL_hi (by omega)]; omega) (by decide) (by decide) (by decide))
  generalize ltree (ahead t ga).nx s.P d (432 + 64 * j) 6 = r1 at C1 L1 ⊢
  obtain ⟨sl, P1, d1⟩ := r1
  dsimp only at C1 L1 ⊢
  have H := hid h
  have HJ := hid hj
  clear h hj
  go_enter Try.func118, Try.ntmps118
  go_upto_region 1 with fail
  go_cut [5] (fun a5 wx => a5 = .int .i64 sl ∧ Fr (LFt L t ga gr) w wx ∧ LOn L t ga gr wx { s with P := P1 } d1)
  case first =>
    by_cases hl3 : l < 3
    · have hl3' : (l : Int) < 3 := by omega
      have hl4 : (l : Int) ≤ 3 := by omega
      have hl5 : ¬ (3 : Int) < (l : Int) := by omega
      obtain rfl : l = j := by have := HJ.out; omega
      go_region_with (first | (go_at_call 127; refine (C1.out _ (by exact H.out.any ((Fr.refl Non _).drew))).mono ?_; rintro e w1 ⟨rfl, hf1, h1⟩; have HF1 := hid hf1; have HO1 := hid h1; clear hf1 h1))
      all_goals
        simp only [List.getElem_toArray, List.getElem_cons_zero, List.getElem_cons_succ, Act.put, List.setIfInBounds_toArray, List.set_cons_zero, List.set_cons_succ]
        go_wp2_with fail
        go_meet
        exact ⟨rfl, (Fr.refl _ _).drew.trans HF1.out, HO1.out⟩
    · have hl3' : ¬ (l : Int) < 3 := by omega
      have hl4 : (3 : Int) ≤ (l : Int) := by omega
      obtain rfl : j = 3 := by have := HJ.out; omega
      by_cases hl6 : l = 3
      · subst hl6
        go_region_with (first | (go_at_call 127; refine (C1.out _ (by exact H.out.any ((Fr.refl Non _).drew))).mono ?_; rintro e w1 ⟨rfl, hf1, h1⟩; have HF1 := hid hf1; have HO1 := hid h1; clear hf1 h1))
        all_goals
          simp only [List.getElem_toArray, List.getElem_cons_zero, List.getElem_cons_succ, Act.put, List.setIfInBounds_toArray, List.set_cons_zero, List.set_cons_succ]
          go_wp2_with fail
          go_meet
          exact ⟨rfl, (Fr.refl _ _).drew.trans HF1.out, HO1.out⟩
      · have hl7 : ¬ (l : Int) ≤ 3 := by omega
        have hl8 : (3 : Int) < (l : Int) := by omega
        go_region_with (first | (go_at_call 127; refine (C1.out _ (by exact H.out.any ((Fr.refl Non _).drew))).mono ?_; rintro e w1 ⟨rfl, hf1, h1⟩; have HF1 := hid hf1; have HO1 := hid h1; clear hf1 h1))
        all_goals
          simp only [List.getElem_toArray, List.getElem_cons_zero, List.getElem_cons_succ, Act.put, List.setIfInBounds_toArray, List.set_cons_zero, List.set_cons_succ]
          go_wp2_with fail
          go_meet
          exact ⟨rfl, (Fr.refl _ _).drew.trans HF1.out, HO1.out⟩
  case rest =>
    obtain ⟨h5, hf1, ho1⟩ := hcut
    subst h5
    obtain ⟨wq, hwq⟩ : ∃ wq, wq = wc := ⟨_, rfl⟩
    rw [← hwq] at hf1 ho1 ⊢
    clear hwq k8 C1
    have k8 := ho1.is_.headC 8 (v := .pointer (some ⟨gr, 0, none⟩)) (by decide) rfl
    have HF := hid hf1
    have HO := hid ho1
    have hsl : (sl : Int) < 64 := by omega
    have hsl0 : (0 : Int) ≤ (sl : Int) := by omega
    clear hf1 ho1
    by_cases h4 : sl < 4
    · have h4' : (sl : Int) < 4 := by omega
      have HE := hid (show ldist2 (ahead t ga).nx P1 d1 sl = (sl, P1, d1) by unfold ldist2; rw [if_pos h4])
      go_wp2_with fail
      go_ret
      rw [HE.out]
      exact ⟨rfl, HF.out, HO.out⟩
    · have h4' : ¬ (sl : Int) < 4 := by omega
      go_upto_region 4 with fail
      go_cut [6] (fun a6 wx => a6 = .int .i64 (slotN sl) ∧ wx = wq)
      case first =>
        go_wp2_with fail
        go_meet
        exact ⟨by rw [slot_n (by omega)], rfl⟩
      case rest =>
        obtain ⟨h6, hwq⟩ := hcut
        subst h6
        rw [hwq]
        clear hwq
        have hN := slot_many (sl := sl) (by omega) (by omega)
        obtain ⟨n, hn⟩ : ∃ n, n = slotN sl := ⟨_, rfl⟩
        obtain ⟨B, hB⟩ : ∃ B, B = slotB sl := ⟨_, rfl⟩
        rw [← hn] at hN ⊢
        rw [← hB] at hN
        have hn1 : (n : Int) ≤ 30 := by omega
        have hn0 : (0 : Int) ≤ (n : Int) := by omega
        have HN := hid hN
        have HNN := hid hn
        have HBB := hid hB
        clear hN hn hB
        go_upto_region 5 with fail
        go_cut [7] (fun a7 wx => a7 = .int .u32 B ∧ wx = wq)
        case first =>
          go_wp2_with fail
          go_meet
          exact ⟨by rw [HNN.out, HBB.out, slot_b (by omega) (by omega)], rfl⟩
        case rest =>
          obtain ⟨h7, hwq⟩ := hcut
          subst h7
          rw [hwq]
          clear hwq
          by_cases h14 : sl < 14
          · have h14' : (sl : Int) < 14 := by omega
            have hF := slot_few (sl := sl) (by omega) h14
            rw [← HBB.out, ← HNN.out] at hF
            obtain ⟨e, he⟩ : ∃ e, e = B - sl := ⟨_, rfl⟩
            have hp2 : 2 ≤ 2 ^ n := by
              have : 2 ^ 1 ≤ 2 ^ n := Nat.pow_le_pow_right (by decide) hF.2.2.2.2
              omega
            have he1 : e < 115 := by omega
            have he2 : ¬ (115 = e) := by omega
            have he3 : (e : Int) < 115 := by omega
            have he4 : (e : Int) ≤ 115 := by omega
            have he5 : e ≤ 115 := by omega
            have he0 : (0 : Int) ≤ (e : Int) := by omega
            have hB1 : (B : Int) < 128 := by omega
            have hB0 : (0 : Int) ≤ (B : Int) := by omega
            have hBw : IntKind.i64.wrap (B : Int) = (B : Int) := wrap_in _ (by omega) (by omega)
            have hew : IntKind.i64.wrap ((B : Int) - (sl : Int)) = (e : Int) := by rw [wrap_in _ (by omega) (by omega)]; omega
            have hn5 : (n : Int) ≤ 5 := by omega
            have HF5 := hid hF
            have HE5 := hid he
            have HP2 := hid hp2
            clear hF he hp2
            have L3 := lrev_lt (ahead t ga).nx P1 d1 (688 + e) n
            have hdef : ldist2 (ahead t ga).nx P1 d1 sl = (B + (lrev (ahead t ga).nx P1 d1 (688 + e) n).1, (lrev (ahead t ga).nx P1 d1 (688 + e) n).2) := by
              unfold ldist2
              rw [if_neg h4, if_pos h14, ← HBB.out, ← HNN.out, ← HE5.out]
            have C3 := hid (fun w1 (h1 : LOn L t ga gr w1 { s with P := P1 } d1) => lrevP L t ga gr { s with P := P1 } d1 (688 + e) (697 + e) n (115 - e) (115 - e) w1 h1 (rowL_hi (by omega) (by have := HF5.out; have := HE5.out; omega) (by have := HP2.out; omega)) (by rw [sgL_hi (by omega)]; omega) (by have := HF5.out; omega) (by have := HF5.out; have := HE5.out; omega) (by omega))
            generalize lrev (ahead t ga).nx P1 d1 (688 + e) n = r3 at C3 L3 hdef
            obtain ⟨r, P3, d3⟩ := r3
            dsimp only at C3 L3 hdef
            have hr : r < 64 := by
              have : 2 ^ n ≤ 2 ^ 5 := Nat.pow_le_pow_right (by decide) (by omega)
              omega
            have hr0 : (0 : Int) ≤ (r : Int) := by omega
            have hr1 : (r : Int) < 64 := by omega
            have hw1 : IntKind.u32.wrap (r : Int) = (r : Int) := by rw [IntKind.wrap_u32']; omega
            have hw2 : IntKind.u32.wrap ((B : Int) + (r : Int)) = ((B + r : Nat) : Int) := by rw [IntKind.wrap_u32']; omega
            have HDEF := hid hdef
            have HL3 := hid L3
            clear hdef L3
            go_upto_region 7 with fail
            go_region_with (first | (go_at_call 128; refine (C3.out _ (by exact HO.out.any ((Fr.refl Non _).drew))).mono ?_; rintro e w1 ⟨rfl, hf1, h1⟩; have HF1 := hid hf1; have HO1 := hid h1; clear hf1 h1))
            all_goals
              simp only [List.getElem_toArray, List.getElem_cons_zero, List.getElem_cons_succ, Act.put, List.setIfInBounds_toArray, List.set_cons_zero, List.set_cons_succ]
              go_wp2_with fail
              go_ret
              rw [HDEF.out]
              exact ⟨rfl, HF.out.trans ((Fr.refl _ _).drew.trans HF1.out), HO1.out⟩
          · have h14' : ¬ (sl : Int) < 14 := by omega
            have hm4 : ((n : Int) - 4) = ((n - 4 : Nat) : Int) := by have := HNN.out; unfold slotN at this; omega
            obtain ⟨m, hm⟩ : ∃ m, m = n - 4 := ⟨_, rfl⟩
            rw [← hm] at hm4
            have hnm : n = m + 4 := by have := HNN.out; unfold slotN at this; omega
            have hBP := HN.out.2.2
            have L4 := str_lt' (ahead t ga).nx m d1
            have C4 := hid (fun w1 (h1 : LOn L t ga gr w1 { s with P := P1 } d1) => lstrP L t ga gr { s with P := P1 } d1 m w1 h1 (by omega))
            have hdef : ldist2 (ahead t ga).nx P1 d1 sl = (B + 16 * (d1.str (ahead t ga).nx m).1 + (lrev (ahead t ga).nx P1 (d1.str (ahead t ga).nx m).2 803 4).1, (lrev (ahead t ga).nx P1 (d1.str (ahead t ga).nx m).2 803 4).2) := by
              unfold ldist2
              rw [if_neg h4, if_neg h14, ← HBB.out, ← HNN.out, ← hm]
            rw [← hm4] at C4
            generalize d1.str (ahead t ga).nx m = r4 at C4 L4 hdef
            obtain ⟨x, d4⟩ := r4
            dsimp only at C4 L4 hdef
            have L5 := lrev_lt (ahead t ga).nx P1 d4 803 4
            have C5 := hid (fun w1 (h1 : LOn L t ga gr w1 { s with P := P1 } d4) => lrevP L t ga gr { s with P := P1 } d4 803 812 4 16 16 w1 h1 (rowL_hi (by omega) (by omega) (by decide)) (by rw [sgL_hi (by omega)]) (by decide) (by decide) (by decide))
            generalize lrev (ahead t ga).nx P1 d4 803 4 = r5 at C5 L5 hdef
            obtain ⟨r, P5, d5⟩ := r5
            dsimp only at C5 L5 hdef
            rw [hnm, Nat.pow_add] at hBP
            have hbig : B + 16 * x + r < 4294967296 := by
              generalize 2 ^ m = X at hBP L4
              omega
            have hBX := hid (show ((B : Int) + ((x : Int) * 16) % 4294967296) % 4294967296 = ((B + 16 * x : Nat) : Int) by omega)
            have hw1 : IntKind.u32.wrap (r : Int) = (r : Int) := by rw [IntKind.wrap_u32']; omega
            have hw2 : IntKind.u32.wrap (((B + 16 * x : Nat) : Int) + (r : Int)) = ((B + 16 * x + r : Nat) : Int) := by rw [IntKind.wrap_u32']; omega
            obtain ⟨Y, hY⟩ : ∃ Y, Y = B + 16 * x := ⟨_, rfl⟩
            rw [← hY] at hBX hw2 hdef
            have HDEF := hid hdef
            have HBIG := hid hbig
            have HM := hid hm
            clear hdef L4 L5 hbig hBP hY hm hnm hm4
            go_upto_region 8 with fail
            go_cut [7] (fun a7 wx => a7 = .int .u32 Y ∧ Fr (LFt L t ga gr) wq wx ∧ LOn L t ga gr wx { s with P := P1 } d4)
            case first =>
              go_wp2_with fail
              refine (C4.out _ HO.out).mono ?_
              rintro e w1 ⟨rfl, hf1, h1⟩
              have HF1 := hid hf1
              have HO1 := hid h1
              clear hf1 h1
              go_wp2_with fail
              go_meet
              refine ⟨?_, HF1.out, HO1.out⟩
              rw [hBX.out]
            case rest =>
              obtain ⟨h7, hf7, ho7⟩ := hcut
              subst h7
              have k9 := ho7.is_.headC 8 (v := .pointer (some ⟨gr, 0, none⟩)) (by decide) rfl
              have HF7 := hid hf7
              have HO7 := hid ho7
              clear hf7 ho7
              go_upto_region 9 with fail
              go_region_with (first | (go_at_call 128; refine (C5.out _ (by exact HO7.out.any ((Fr.refl Non _).drew))).mono ?_; rintro e w1 ⟨rfl, hf1, h1⟩; have HF1 := hid hf1; have HO1 := hid h1; clear hf1 h1))
              all_goals
                simp only [List.getElem_toArray, List.getElem_cons_zero, List.getElem_cons_succ, Act.put, List.setIfInBounds_toArray, List.set_cons_zero, List.set_cons_succ]
                go_wp2_with fail
                go_ret
                rw [HDEF.out]
                exact ⟨rfl, (HF.out.trans HF7.out).trans ((Fr.refl _ _).drew.trans HF1.out), HO1.out⟩
end Go.Proofs.Ytjnegcambbeblaa

/- lzma: the elder distances; fresh. -/
namespace Go.Proofs.Ytjnegcambbeblaa
open Go.RowKit

theorem step_copy_cells {P : Program} {ops : Array Oper} {o : Oper} {a : Act} {w : World} {K : Act → World → Prop} {Q : Exit → Act → World → Prop} {E : Prop} (hgd : o.guard = none) (d s : Operand) (dT sT : TypeId)
    (ho : o.op = .call { callee := .builtin .copy, args := #[d, s], argTypes := #[dT, sT] }) (elem : TypeId) (hu : P.underlying dT = some (.slice elem)) (hsz : (P.info? elem).map (·.size) = some 1)
    (b off dLen dCap : Nat) (ad : Addr) (sLen sCap : Nat) (hd : a.eval d = .slice (some ⟨b, off, none⟩) dLen dCap) (hs : a.eval s = .slice (some ad) sLen sCap)
    (cs : List Value) (hn : cs.length = Nat.min sLen dLen) (hsrc : ∀ j v, cs[j]? = some v → w.cell? (ad.add j) = some v)
    (hc : ∀ j, j < cs.length → (w.cell? ⟨b, off + j, none⟩).isSome = true) (hf : ∀ j, j < cs.length → w.frozen? ⟨b, off + j, none⟩ = false) (h1 : ∀ v ∈ cs, v.oneCell' = true)
    (h : K (a.put o.dst (goInt cs.length)) (w.setCells b off cs)) :
    if Region.wanted o (yielded ops a.tmps) = true then Oper.wp P o a w K Q else E := by
  have hw : Region.wanted o (yielded ops a.tmps) = true := by simp [Region.wanted, hgd]
  rw [if_pos hw]
  have hrun := run_copy_cells (P := P) w dT sT o.type elem b off dLen dCap ad sLen sCap cs hu hsz hn hsrc hc hf h1
  unfold Oper.wp
  simp [execOp, ho, resolve, invoke, builtin, hd, hs, hrun, Result.andThen]
  exact h
def updN (r : Nat → Nat) (i x : Nat) : Nat → Nat := fun j => if j = i then x else r j
def shiftL (r : Nat → Nat) (k : Nat) : Nat → Nat := fun i => if 1 ≤ i ∧ i ≤ k then r (i - 1) else r i
theorem LOn.rep_ {S : Type} {L : LL} {t : Sour S} {ga gr : Nat} {w : World} {s : LS} {d : RD (AhS S)} (h : LOn L t ga gr w s d) {i x : Nat} (hi : i < 4) (hx : x < 4294967296) :
    LOn L t ga gr (w.setCell ⟨L.gd, 1858 + i, none⟩ (.int .u32 x)) { s with rep := updN s.rep i x } d := by
  have hok : ({ s with rep := updN s.rep i x } : LS).Ok L := ⟨h.is_.ok.pr, h.is_.ok.st, fun j hj => by show updN s.rep i x j < _; unfold updN; split; exact hx; exact h.is_.ok.rep j hj, h.is_.ok.by_, h.is_.ok.lc, h.is_.ok.lp, h.is_.ok.pb, h.is_.ok.nl, h.is_.ok.dict, h.is_.ok.left⟩
  refine h.own ((Fr.refl _ _).setOne _ _) (T := fun k => k = L.gd) (fun _ e => .inl e) ?_
  have e : i = 0 ∨ i = 1 ∨ i = 2 ∨ i = 3 := by omega
  rcases e with rfl | rfl | rfl | rfl
  · exact h.is_.setT (i := 2) rfl rfl rfl rfl hok
  · exact h.is_.setT (i := 3) rfl rfl rfl rfl hok
  · exact h.is_.setT (i := 4) rfl rfl rfl rfl hok
  · exact h.is_.setT (i := 5) rfl rfl rfl rfl hok
def repC (r : Nat → Nat) (k : Nat) : List Value := (List.range k).map (fun i => Value.int .u32 (r i))
theorem LOn.shift {S : Type} {L : LL} {t : Sour S} {ga gr : Nat} {w : World} {s : LS} {d : RD (AhS S)} (h : LOn L t ga gr w s d) {k : Nat} (hk : 1 ≤ k) (hk3 : k ≤ 3) :
    Fr (LFt L t ga gr) w (w.setCells L.gd 1859 (repC s.rep k)) ∧ LOn L t ga gr (w.setCells L.gd 1859 (repC s.rep k)) { s with rep := shiftL s.rep k } d := by
  have r0 := h.is_.ok.rep 0 (by decide)
  have r1 := h.is_.ok.rep 1 (by decide)
  have r2 := h.is_.ok.rep 2 (by decide)
  have fr1 : ∀ (w' : World) (o : Nat) (v : Value), Fr (LFt L t ga gr) w w' → Fr (LFt L t ga gr) w (w'.setCell ⟨L.gd, o, none⟩ v) := fun w' o v hf => hf.setCell (p := ⟨L.gd, o, none⟩) (fun _ => .inl (.inl rfl)) _
  have h1 := h.rep_ (i := 1) (x := s.rep 0) (by decide) r0
  have e : k = 1 ∨ k = 2 ∨ k = 3 := by omega
  rcases e with rfl | rfl | rfl
  · refine ⟨fr1 _ _ _ (Fr.refl _ _), ?_⟩
    have e2 : shiftL s.rep 1 = updN s.rep 1 (s.rep 0) := by
      funext j
      unfold shiftL updN
      by_cases e : j = 1
      · subst e; rfl
      · rw [if_neg e, if_neg (by omega)]
    rw [e2]
    exact h1
  · refine ⟨fr1 _ _ _ (fr1 _ _ _ (Fr.refl _ _)), ?_⟩
    have h2 := h1.rep_ (i := 2) (x := s.rep 1) (by decide) r1
    have e2 : shiftL s.rep 2 = updN (updN s.rep 1 (s.rep 0)) 2 (s.rep 1) := by
      funext j
      unfold shiftL updN
      by_cases e : j = 2
      · subst e; rfl
      · by_cases e1 : j = 1
        · subst e1; rfl
        · rw [if_neg e, if_neg e1, if_neg (by omega)]
    rw [e2]
    exact h2
  · refine ⟨fr1 _ _ _ (fr1 _ _ _ (fr1 _ _ _ (Fr.refl _ _))), ?_⟩
    have h2 := (h1.rep_ (i := 2) (x := s.rep 1) (by decide) r1).rep_ (i := 3) (x := s.rep 2) (by decide) r2
    have e2 : shiftL s.rep 3 = updN (updN (updN s.rep 1 (s.rep 0)) 2 (s.rep 1)) 3 (s.rep 2) := by
      funext j
      unfold shiftL updN
      by_cases e3 : j = 3
      · subst e3; rfl
      · by_cases e : j = 2
        · subst e; rfl
        · by_cases e1 : j = 1
          · subst e1; rfl
          · rw [if_neg e3, if_neg e, if_neg e1, if_neg (by omega)]
    rw [e2]
    exact h2
theorem LOn.repCell {S : Type} {L : LL} {t : Sour S} {ga gr : Nat} {w : World} {s : LS} {d : RD (AhS S)} (h : LOn L t ga gr w s d) {i : Nat} (hi : i < 4) : w.cell? ⟨L.gd, 1858 + i, none⟩ = some (.int .u32 (s.rep i)) := by
  have e : i = 0 ∨ i = 1 ∨ i = 2 ∨ i = 3 := by omega
  rcases e with rfl | rfl | rfl | rfl
  · exact h.is_.tailC 2 rfl
  · exact h.is_.tailC 3 rfl
  · exact h.is_.tailC 4 rfl
  · exact h.is_.tailC 5 rfl
theorem LOn.repSrc {S : Type} {L : LL} {t : Sour S} {ga gr : Nat} {w : World} {s : LS} {d : RD (AhS S)} (h : LOn L t ga gr w s d) {k : Nat} (hk : k ≤ 3) (j : Nat) (v : Value) (hv : (repC s.rep k)[j]? = some v) : w.cell? ((⟨L.gd, 1858, none⟩ : Addr).add j) = some v := by
  have e : (⟨L.gd, 1858, none⟩ : Addr).add j = ⟨L.gd, 1858 + j, none⟩ := by unfold Addr.add; split <;> simp_all
  unfold repC at hv
  rw [List.getElem?_map] at hv
  rcases Nat.lt_or_ge j k with hj | hj
  · rw [List.getElem?_range hj] at hv
    simp only [Option.map_some] at hv
    rw [e, ← hv]
    exact h.repCell (by omega)
  · rw [List.getElem?_eq_none (by simpa using hj)] at hv
    cases hv
theorem LOn.repDst {S : Type} {L : LL} {t : Sour S} {ga gr : Nat} {w : World} {s : LS} {d : RD (AhS S)} (h : LOn L t ga gr w s d) {k : Nat} (hk : k ≤ 3) (j : Nat) (hj : j < (repC s.rep k).length) : (w.cell? ⟨L.gd, 1859 + j, none⟩).isSome = true ∧ w.frozen? ⟨L.gd, 1859 + j, none⟩ = false := by
  have hj2 : j < k := by simpa [repC] using hj
  have := h.repCell (i := j + 1) (by omega)
  rw [show 1858 + (j + 1) = 1859 + j by omega] at this
  exact ⟨by rw [this]; rfl, blk_frozen h.is_.at_ _⟩
theorem repC_one (r : Nat → Nat) (k : Nat) : ∀ v ∈ repC r k, v.oneCell' = true := by
  intro v hv
  unfold repC at hv
  rw [List.mem_map] at hv
  obtain ⟨i, _, rfl⟩ := hv
  rfl
theorem size_u32z : (Try.prog.info? 27).map (·.size) = some 1 := by kernel_rfl
end Go.Proofs.Ytjnegcambbeblaa

/- lzma: fresh. -/
namespace Go.Proofs.Ytjnegcambbeblaa
open Go.RowKit

theorem ltell_lt {S : Type} (nx : S → Int × Bool × S) (P : Nat → Int) (d : RD S) (b sp : Nat) : (ltell nx P d b sp).1 < 272 := by
  unfold ltell
  split
  · exact Nat.lt_of_lt_of_le (ltree_lt _ _ _ _ _) (by decide)
  · split
    · have := ltree_lt nx (lbit nx (lbit nx P d b).2.1 (lbit nx P d b).2.2 (b + 1)).2.1 (lbit nx (lbit nx P d b).2.1 (lbit nx P d b).2.2 (b + 1)).2.2 (b + 130 + 8 * sp) 3
      show 8 + _ < 272
      omega
    · have := ltree_lt nx (lbit nx (lbit nx P d b).2.1 (lbit nx P d b).2.2 (b + 1)).2.1 (lbit nx (lbit nx P d b).2.1 (lbit nx P d b).2.2 (b + 1)).2.2 (b + 258) 8
      show 16 + _ < 272
      omega
theorem ldist_lt {S : Type} (nx : S → Int × Bool × S) (P : Nat → Int) (d : RD S) (l : Nat) : (ldist nx P d l).1 < 4294967296 := by
  unfold ldist
  have h := ltree_lt nx P d (432 + 64 * min l 3) 6
  generalize ltree nx P d (432 + 64 * min l 3) 6 = r at h ⊢
  obtain ⟨sl, P1, d1⟩ := r
  dsimp only at h ⊢
  unfold ldist2
  split
  · show sl < _; omega
  · split
    · rename_i h4 h14
      have hf := slot_few (sl := sl) (by omega) h14
      have hr := lrev_lt nx P1 d1 (688 + (slotB sl - sl)) (slotN sl)
      have : 2 ^ slotN sl ≤ 2 ^ 5 := Nat.pow_le_pow_right (by decide) hf.2.2.1
      show slotB sl + _ < _
      omega
    · rename_i h4 h14
      have hm := slot_many (sl := sl) (by omega) (by omega)
      have hr := lrev_lt nx P1 (d1.str nx (slotN sl - 4)).2 803 4
      have hs := str_lt' nx (slotN sl - 4) d1
      have e : 2 ^ slotN sl = 2 ^ (slotN sl - 4) * 16 := by
        rw [show slotN sl = (slotN sl - 4) + 4 by unfold slotN; omega, Nat.pow_add, Nat.add_sub_cancel]
      show slotB sl + 16 * _ + _ < _
      rw [e] at hm
      generalize 2 ^ (slotN sl - 4) = X at hm hs
      omega
theorem LOn.ended_ {S : Type} {L : LL} {t : Sour S} {ga gr : Nat} {w : World} {s : LS} {d : RD (AhS S)} (h : LOn L t ga gr w s d) :
    LOn L t ga gr (w.setCell ⟨L.gd, 1864, none⟩ (.bool true)) { s with ended := true } d :=
  h.own ((Fr.refl _ _).setOne _ _) (T := fun k => k = L.gd) (fun _ e => .inl e) (h.is_.setT (i := 8) (s' := { s with ended := true }) rfl rfl rfl rfl ⟨h.is_.ok.pr, h.is_.ok.st, h.is_.ok.rep, h.is_.ok.by_, h.is_.ok.lc, h.is_.ok.lp, h.is_.ok.pb, h.is_.ok.nl, h.is_.ok.dict, h.is_.ok.left⟩)
def lfresh {S : Type} (nx : S → Int × Bool × S) (s : LS) (d : RD S) (sp : Nat) : Nat × LS × RD S :=
  let r := ltell nx s.P d 819 sp
  let x := ldist nx r.2.1 r.2.2 r.1
  let z := x.1 == 4294967295 && !x.2.2.bad
  (if z then 0 else r.1 + 2, { s with P := x.2.1, st := nextL s.st 7 10, rep := updN (shiftL s.rep 3) 0 x.1, ended := s.ended || z }, x.2.2)
set_option maxRecDepth 100000 in
set_option maxHeartbeats 800000 in
theorem lfresh_any {S : Type} (L : LL) (t : Sour S) (ga gr : Nat) (s : LS) (d : RD (AhS S)) (sp : Nat) (w : World) (h : LOn L t ga gr w s d) (hs : sp < 16) :
    Calls Try.prog 90 #[.pointer (some ⟨L.gd, 0, none⟩), .int .i64 sp] w
      (LOPost L t ga gr (.int .i64 ((lfresh (ahead t ga).nx s d sp).1 : Nat)) (lfresh (ahead t ga).nx s d sp).2.1 (lfresh (ahead t ga).nx s d sp).2.2 w) := by
  have hs0 : (0 : Int) ≤ (sp : Int) := by omega
  have hs1 : (sp : Int) < 16 := by omega
  have H := hid h
  clear h
  unfold lfresh
  dsimp only
  obtain ⟨s1, hs1'⟩ : ∃ s1 : LS, s1 = { s with rep := shiftL s.rep 3 } := ⟨_, rfl⟩
  have hP1 : s1.P = s.P := by rw [hs1']
  have C1 := hid (fun w1 (h1 : LOn L t ga gr w1 s1 d) => ltell_any L t ga gr s1 d 819 sp w1 h1 (by decide) (by decide) hs)
  rw [hP1, show 9 + 819 = 828 from rfl] at C1
  have L1 := ltell_lt (ahead t ga).nx s.P d 819 sp
  generalize ltell (ahead t ga).nx s.P d 819 sp = r1 at C1 L1 ⊢
  obtain ⟨l, P1, d1⟩ := r1
  dsimp only at C1 L1 ⊢
  have L2 := ldist_lt (ahead t ga).nx P1 d1 l
  have C2 := hid (fun w1 (h1 : LOn L t ga gr w1 { s1 with P := P1, st := nextL s1.st 7 10 } d1) => ldist_any L t ga gr { s1 with P := P1, st := nextL s1.st 7 10 } d1 l w1 h1 (by omega))
  dsimp only at C2
  generalize ldist (ahead t ga).nx P1 d1 l = r2 at C2 L2 ⊢
  obtain ⟨x, P2, d2⟩ := r2
  dsimp only at C2 L2 ⊢
  have l0 : (0 : Int) ≤ (l : Int) := by omega
  have l1 : (l : Int) < 272 := by omega
  have hst1 : s1.st = s.st := by rw [hs1']
  obtain ⟨z, hz⟩ : ∃ z, z = (x == 4294967295 && !d2.bad) := ⟨_, rfl⟩
  rw [← hz]
  obtain ⟨rv, hrv⟩ : ∃ rv, rv = (if z = true then 0 else l + 2) := ⟨_, rfl⟩
  rw [← hrv]
  obtain ⟨S3, hS3⟩ : ∃ S3 : LS, S3 = { s with P := P2, st := nextL s.st 7 10, rep := updN (shiftL s.rep 3) 0 x, ended := s.ended || z } := ⟨_, rfl⟩
  rw [← hS3]
  have HZ := hid hz
  have HRV := hid hrv
  have HS3 := hid hS3
  clear hz hrv hS3
  have HL2 := hid L2
  have HS1 := hid hs1'
  clear hs1' hP1 L2
  go_enter Try.func90, Try.ntmps90
  go_upto_region 1 with fail
  go_cut [] (fun wx => Fr (LFt L t ga gr) w wx ∧ LOn L t ga gr wx s1 d)
  case first =>
    have HD := hid (H.out.any (Fr.refl Non w).drew)
    go_region_law ((refine step_copy_cells rfl (.tmp 9) (.tmp 13) 182 182 rfl 27 Try.underlying182 size_u32z L.gd 1859 3 3 ⟨L.gd, 1858, none⟩ 3 4 (by simp [Act.eval, Act.put]) (by simp [Act.eval, Act.put]) (repC s.rep 3) rfl (by exact HD.out.repSrc (by decide)) (fun j hj => (HD.out.repDst (by decide) j hj).1) (fun j hj => (HD.out.repDst (by decide) j hj).2) (repC_one _ _) ?_))
    all_goals
      go_wp2_with fail
      go_meet
      exact ⟨(Fr.refl _ _).drew.trans (HD.out.shift (by decide) (by decide)).1, by rw [HS1.out]; exact (HD.out.shift (by decide) (by decide)).2⟩
  case rest =>
    obtain ⟨hf1, h1⟩ := hcut
    obtain ⟨wq, hwq⟩ : ∃ wq, wq = wc := ⟨_, rfl⟩
    rw [← hwq] at hf1 h1 ⊢
    clear hwq
    have k8 := h1.is_.headC 8 (v := .pointer (some ⟨gr, 0, none⟩)) (by decide) rfl
    have HF1 := hid hf1
    have H1 := hid h1
    clear hf1 h1
    go_upto_region 2 with fail
    go_cut [5] (fun a5 wx => a5 = .int .i64 l ∧ Fr (LFt L t ga gr) wq wx ∧ LOn L t ga gr wx { s1 with P := P1 } d1)
    case first =>
      go_region_with (first | (go_at_call 116; refine (C1.out _ (by exact H1.out.any ((Fr.refl Non _).drew))).mono ?_; rintro e w1 ⟨rfl, hf1, h1⟩; have HF1 := hid hf1; have HO1 := hid h1; clear hf1 h1))
      all_goals
        simp only [List.getElem_toArray, List.getElem_cons_zero, List.getElem_cons_succ, Act.put, List.setIfInBounds_toArray, List.set_cons_zero, List.set_cons_succ]
        go_wp2_with fail
        go_meet
        exact ⟨rfl, (Fr.refl _ _).drew.trans HF1.out, HO1.out⟩
    case rest =>
      obtain ⟨h5, hf2, h2⟩ := hcut
      subst h5
      have HF2 := hid hf2
      have H2 := hid h2
      clear hf2 h2 k8 C1
      go_upto_region 3 with fail
      go_wp2_with fail
      refine (lnextS_any L t ga gr { s1 with P := P1 } d1 7 10 _ H2.out (by decide) (by decide)).mono ?_
      rintro e w3 ⟨rfl, hf3, h3⟩
      have HF3 := hid hf3
      have H3 := hid h3
      clear hf3 h3
      go_upto_region 4 with fail
      go_cut [] (fun wx => Fr (LFt L t ga gr) w3 wx ∧ LOn L t ga gr wx { s1 with P := P2, st := nextL s1.st 7 10, rep := updN s1.rep 0 x } d2)
      case first =>
        go_region_with (first | (go_at_call 118; refine (C2.out _ (by first | exact H3.out.any ((Fr.refl Non _).drew) | exact H3.out)).mono ?_; rintro e w4 ⟨rfl, hf4, h4⟩; have k4 := h4.repCell (i := 0) (by decide); have z4 := blk_frozen h4.is_.at_ (1858 + 0); have HF4 := hid hf4; have H4 := hid h4; clear hf4 h4))
        all_goals
          go_wp2_with fail
          go_meet
          exact ⟨(Fr.trans (by first | exact (Fr.refl _ _).drew | exact Fr.refl _ _) HF4.out).setCell (p := ⟨L.gd, 1858, none⟩) (fun _ => .inl (.inl rfl)) _, H4.out.rep_ (i := 0) (by decide) HL2.out⟩
      case rest =>
        obtain ⟨hf5, h5⟩ := hcut
        obtain ⟨wz, hwz⟩ : ∃ wz, wz = wc := ⟨_, rfl⟩
        rw [← hwz] at hf5 h5 ⊢
        clear hwz C2
        have k8 := h5.is_.headC 8 (v := .pointer (some ⟨gr, 0, none⟩)) (by decide) rfl
        have k0 := h5.repCell (i := 0) (by decide)
        have e0 : updN s1.rep 0 x 0 = x := rfl
        rw [show 1858 + 0 = 1858 from rfl, show ({ s1 with P := P2, st := nextL s1.st 7 10, rep := updN s1.rep 0 x } : LS).rep 0 = x from rfl] at k0
        have ke := h5.is_.tailC 8 (v := .bool s1.ended) rfl
        have ze := blk_frozen h5.is_.at_ (1856 + 8)
        have HFR := hid ((HF1.out.trans HF2.out).trans (HF3.out.trans hf5))
        have H5 := hid h5
        have hfinF : z = false → LOPost L t ga gr (.int .i64 (rv : Int)) S3 d2 w (.returned (.int .i64 ((l : Int) + 2))) wz := by
          intro hz
          refine ⟨?_, HFR.out, ?_⟩
          · rw [HRV.out, hz]
            rfl
          · have := H5.out
            rw [HS1.out] at this
            rw [HS3.out, hz, Bool.or_false]
            exact this
        have hfinT : z = true → LOPost L t ga gr (.int .i64 (rv : Int)) S3 d2 w (.returned (.int .i64 0)) (wz.setCell ⟨L.gd, 1864, none⟩ (.bool true)) := by
          intro hz
          refine ⟨?_, HFR.out.setCell (p := ⟨L.gd, 1864, none⟩) (fun _ => .inl (.inl rfl)) _, ?_⟩
          · rw [HRV.out, hz]
            rfl
          · have := H5.out.ended_
            rw [HS1.out] at this
            rw [HS3.out, hz, Bool.or_true]
            exact this
        have HT := hid hfinT
        have HFF := hid hfinF
        clear hf5 h5 hfinT hfinF e0
        cases hbq : (x == 4294967295) with
        | true =>
          have hx : x = 4294967295 := by simpa using hbq
          have hx' : (x : Int) = 4294967295 := by omega
          rw [hx'] at k0
          cases hb : d2.bad with
          | true =>
            have HB := hid hb
            have HZ2 := hid (show z = false by rw [HZ.out, hbq, hb]; rfl)
            clear hb hx hx' hbq
            go_wp2_with fail
            refine (dbadq_any (ahead t ga) gr d2 _ H5.out.dec).mono ?_
            rintro e w6 ⟨rfl, rfl⟩
            rw [HB.out]
            go_wp2_with fail
            go_ret
            exact HFF.out HZ2.out
          | false =>
            have HB := hid hb
            have HZ2 := hid (show z = true by rw [HZ.out, hbq, hb]; rfl)
            clear hb hx hx' hbq
            go_wp2_with fail
            refine (dbadq_any (ahead t ga) gr d2 _ H5.out.dec).mono ?_
            rintro e w6 ⟨rfl, rfl⟩
            rw [HB.out]
            go_wp2_with fail
            go_ret
            exact HT.out HZ2.out
        | false =>
          have hbi : ((x : Int) == 4294967295) = false := by
            have : ¬ x = 4294967295 := by simpa using hbq
            simp
            omega
          have HZ2 := hid (show z = false by rw [HZ.out, hbq]; rfl)
          clear hbq
          go_wp2_with fail
          go_ret
          exact HFF.out HZ2.out
end Go.Proofs.Ytjnegcambbeblaa

/- lzma: again. -/
namespace Go.Proofs.Ytjnegcambbeblaa
open Go.RowKit

def rotL (r : Nat → Nat) (k : Nat) : Nat → Nat := updN (shiftL r k) 0 (r k)
def lagEnd {S : Type} (nx : S → Int × Bool × S) (s : LS) (d : RD S) (sp : Nat) : Nat × LS × RD S :=
  ((ltell nx s.P d 1333 sp).1 + 2, { s with P := (ltell nx s.P d 1333 sp).2.1, st := nextL s.st 8 11 }, (ltell nx s.P d 1333 sp).2.2)
/-- which of the elder distances: none (one byte), or the k-th. -/
def lagPick {S : Type} (nx : S → Int × Bool × S) (P : Nat → Int) (d : RD S) (st sp : Nat) : Option Nat × (Nat → Int) × RD S :=
  if (lbit nx P d (204 + st)).1 = 0 then
    (if (lbit nx (lbit nx P d (204 + st)).2.1 (lbit nx P d (204 + st)).2.2 (240 + 16 * st + sp)).1 = 0 then none else some 0, (lbit nx (lbit nx P d (204 + st)).2.1 (lbit nx P d (204 + st)).2.2 (240 + 16 * st + sp)).2)
  else if (lbit nx (lbit nx P d (204 + st)).2.1 (lbit nx P d (204 + st)).2.2 (216 + st)).1 = 0 then
    (some 1, (lbit nx (lbit nx P d (204 + st)).2.1 (lbit nx P d (204 + st)).2.2 (216 + st)).2)
  else
    (some (2 + (lbit nx (lbit nx (lbit nx P d (204 + st)).2.1 (lbit nx P d (204 + st)).2.2 (216 + st)).2.1 (lbit nx (lbit nx P d (204 + st)).2.1 (lbit nx P d (204 + st)).2.2 (216 + st)).2.2 (228 + st)).1),
      (lbit nx (lbit nx (lbit nx P d (204 + st)).2.1 (lbit nx P d (204 + st)).2.2 (216 + st)).2.1 (lbit nx (lbit nx P d (204 + st)).2.1 (lbit nx P d (204 + st)).2.2 (216 + st)).2.2 (228 + st)).2)
def lagain {S : Type} (nx : S → Int × Bool × S) (s : LS) (d : RD S) (sp : Nat) : Nat × LS × RD S :=
  match (lagPick nx s.P d s.st sp).1 with
  | none => (1, { s with P := (lagPick nx s.P d s.st sp).2.1, st := nextL s.st 9 11 }, (lagPick nx s.P d s.st sp).2.2)
  | some k => lagEnd nx { s with P := (lagPick nx s.P d s.st sp).2.1, rep := if k = 0 then s.rep else rotL s.rep k } (lagPick nx s.P d s.st sp).2.2 sp
set_option maxRecDepth 100000 in
set_option maxHeartbeats 4000000 in
theorem lagain_any {S : Type} (L : LL) (t : Sour S) (ga gr : Nat) (s : LS) (d : RD (AhS S)) (sp : Nat) (w : World) (h : LOn L t ga gr w s d) (hs : sp < 16) :
    Calls Try.prog 92 #[.pointer (some ⟨L.gd, 0, none⟩), .int .i64 sp] w
      (LOPost L t ga gr (.int .i64 ((lagain (ahead t ga).nx s d sp).1 : Nat)) (lagain (ahead t ga).nx s d sp).2.1 (lagain (ahead t ga).nx s d sp).2.2 w) := by
  have hs0 : (0 : Int) ≤ (sp : Int) := by omega
  have hs1 : (sp : Int) < 16 := by omega
  have k8 := h.is_.headC 8 (v := .pointer (some ⟨gr, 0, none⟩)) (by decide) rfl
  have t1 := h.is_.tailC 1 (v := .int .i64 s.st) rfl
  have hst : s.st < 12 := h.is_.ok.st
  obtain ⟨st, hst'⟩ : ∃ st, st = s.st := ⟨_, rfl⟩
  rw [← hst'] at hst t1
  have st0 : (0 : Int) ≤ (st : Int) := by omega
  have st1 : (st : Int) < 12 := by omega
  have H := hid h
  obtain ⟨R, hR⟩ : ∃ R, R = lagain (ahead t ga).nx s d sp := ⟨_, rfl⟩
  rw [← hR]
  have hR2 := hR
  unfold lagain at hR2
  rw [← hst'] at hR2
  unfold lagPick at hR2
  have C1 := hid (fun w1 (h1 : LOn L t ga gr w1 s d) => lbitP L t ga gr s d (204 + st) (405 + st) w1 h1 (by omega) (by unfold sgL; rw [if_neg (by omega), if_pos (by omega)]; omega))
  have L1 := lbit_le (ahead t ga).nx s.P d (204 + st)
  generalize lbit (ahead t ga).nx s.P d (204 + st) = r1 at C1 L1 hR2
  obtain ⟨x1, P1, d1⟩ := r1
  dsimp only at C1 L1 hR2
  have HR := hid hR2
  have HST := hid hst'
  clear h hR hR2 hst'
  go_enter Try.func92, Try.ntmps92
  go_upto_region 1 with fail
  go_cut [22] (fun a wx => a = .bool ((x1 : Int) == 0) ∧ Fr (LFt L t ga gr) w wx ∧ LOn L t ga gr wx { s with P := P1 } d1)
  case first =>
    go_region_with (first | (go_at_call 87; refine (C1.out _ (by first | exact H.out.any ((Fr.refl Non _).drew) | exact H.out)).mono ?_; rintro e w4 ⟨rfl, hf4, h4⟩; have HF4 := hid hf4; have H4 := hid h4; clear hf4 h4))
    all_goals
      go_wp2_with fail
      go_meet
      exact ⟨rfl, Fr.trans (by first | exact (Fr.refl _ _).drew | exact Fr.refl _ _) HF4.out, H4.out⟩
  case rest =>
    obtain ⟨h22, hf1, h1⟩ := hcut
    subst h22
    obtain ⟨wq, hwq⟩ : ∃ wq, wq = wc := ⟨_, rfl⟩
    rw [← hwq] at hf1 h1 ⊢
    clear hwq k8 t1 C1
    have k8 := h1.is_.headC 8 (v := .pointer (some ⟨gr, 0, none⟩)) (by decide) rfl
    have t1 := h1.is_.tailC 1 (v := .int .i64 s.st) rfl
    rw [← HST.out] at t1
    have HF1 := hid hf1
    have H1 := hid h1
    clear hf1 h1
    go_upto_if 22 with fail
    go_cut [] (fun wx => ∃ (s' : LS) (d' : RD (AhS S)), Fr (LFt L t ga gr) w wx ∧ LOn L t ga gr wx s' d' ∧ R = lagEnd (ahead t ga).nx s' d' sp)
    case first =>
      by_cases hx1 : x1 = 0
      · subst hx1
        have hR := HR.out
        rw [if_pos rfl] at hR
        have C2 := hid (fun w1 (h1 : LOn L t ga gr w1 { s with P := P1 } d1) => lbitP L t ga gr { s with P := P1 } d1 (240 + 16 * st + sp) (201 + st * 16 + sp) w1 h1 (by omega) (by unfold sgL; rw [if_neg (by omega), if_neg (by omega), if_pos (by omega)]; omega))
        have L2 := lbit_le (ahead t ga).nx P1 d1 (240 + 16 * st + sp)
        dsimp only at C2
        generalize lbit (ahead t ga).nx P1 d1 (240 + 16 * st + sp) = r2 at C2 L2 hR
        obtain ⟨x2, P2, d2⟩ := r2
        dsimp only at C2 L2 hR
        have HR2 := hid hR
        clear hR
        go_wp2_with fail
        go_cut [39] (fun a wx => a = .bool ((x2 : Int) == 0) ∧ Fr (LFt L t ga gr) wq wx ∧ LOn L t ga gr wx { s with P := P2 } d2)
        case first =>
          go_region_with (first | (go_at_call 87; refine (C2.out _ (by first | exact H1.out.any ((Fr.refl Non _).drew) | exact H1.out)).mono ?_; rintro e w4 ⟨rfl, hf4, h4⟩; have HF4 := hid hf4; have H4 := hid h4; clear hf4 h4))
          all_goals
            simp only [List.getElem_toArray, List.getElem_cons_zero, List.getElem_cons_succ, Act.put, List.setIfInBounds_toArray, List.set_cons_zero, List.set_cons_succ]
            go_wp2_with fail
            go_meet
            exact ⟨rfl, Fr.trans (by first | exact (Fr.refl _ _).drew | exact Fr.refl _ _) HF4.out, H4.out⟩
        case rest =>
          obtain ⟨h39, hf2, h2⟩ := hcut
          subst h39
          have HF2 := hid hf2
          have H2 := hid h2
          clear hf2 h2
          by_cases hx2 : x2 = 0
          · subst hx2
            have hR := HR2.out
            rw [if_pos rfl] at hR
            have HR3 := hid hR
            clear hR
            go_wp2_with fail
            refine (lnextS_any L t ga gr { s with P := P2 } d2 9 11 _ H2.out (by decide) (by decide)).mono ?_
            rintro e w3 ⟨rfl, hf3, h3⟩
            have HF3 := hid hf3
            have H3 := hid h3
            clear hf3 h3
            go_wp2_with fail
            go_ret
            rw [HR3.out, HST.out]
            exact ⟨rfl, (HF1.out.trans HF2.out).trans HF3.out, H3.out⟩
          · have e2 : x2 = 1 := by omega
            subst e2
            have hR := HR2.out
            rw [if_neg (by decide)] at hR
            have HR3 := hid hR
            clear hR
            go_wp2_with fail
            go_meet
            exact ⟨_, _, HF1.out.trans HF2.out, H2.out, HR3.out.trans (by rw [HST.out]; rfl)⟩
      · have e1 : x1 = 1 := by omega
        subst e1
        have hR := HR.out
        rw [if_neg (by decide)] at hR
        have C2 := hid (fun w1 (h1 : LOn L t ga gr w1 { s with P := P1 } d1) => lbitP L t ga gr { s with P := P1 } d1 (216 + st) (417 + st) w1 h1 (by omega) (by unfold sgL; rw [if_neg (by omega), if_pos (by omega)]; omega))
        have L2 := lbit_le (ahead t ga).nx P1 d1 (216 + st)
        dsimp only at C2
        generalize lbit (ahead t ga).nx P1 d1 (216 + st) = r2 at C2 L2 hR
        obtain ⟨x2, P2, d2⟩ := r2
        dsimp only at C2 L2 hR
        have HR2 := hid hR
        clear hR
        go_upto_region 6 with fail
        go_cut [56] (fun a wx => a = .bool ((x2 : Int) == 1) ∧ Fr (LFt L t ga gr) wq wx ∧ LOn L t ga gr wx { s with P := P2 } d2)
        case first =>
          go_region_with (first | (go_at_call 87; refine (C2.out _ (by first | exact H1.out.any ((Fr.refl Non _).drew) | exact H1.out)).mono ?_; rintro e w4 ⟨rfl, hf4, h4⟩; have HF4 := hid hf4; have H4 := hid h4; clear hf4 h4))
          all_goals
            simp only [List.getElem_toArray, List.getElem_cons_zero, List.getElem_cons_succ, Act.put, List.setIfInBounds_toArray, List.set_cons_zero, List.set_cons_succ]
            go_wp2_with fail
            go_meet
            exact ⟨rfl, Fr.trans (by first | exact (Fr.refl _ _).drew | exact Fr.refl _ _) HF4.out, H4.out⟩
        case rest =>
          obtain ⟨h56, hf2, h2⟩ := hcut
          subst h56
          obtain ⟨wr, hwr⟩ : ∃ wr, wr = wc := ⟨_, rfl⟩
          rw [← hwr] at hf2 h2 ⊢
          clear hwr k8 t1 C2
          have k8 := h2.is_.headC 8 (v := .pointer (some ⟨gr, 0, none⟩)) (by decide) rfl
          have t1 := h2.is_.tailC 1 (v := .int .i64 s.st) rfl
          rw [← HST.out] at t1
          have HF2 := hid hf2
          have H2 := hid h2
          clear hf2 h2
          go_upto_if 56 with fail
          go_cut [5] (fun a wx => ∃ (k : Nat) (P3 : Nat → Int) (d3 : RD (AhS S)), a = .int .i64 k ∧ (k = 1 ∨ k = 2 ∨ k = 3) ∧ Fr (LFt L t ga gr) wr wx ∧ LOn L t ga gr wx { s with P := P3 } d3 ∧ R = lagEnd (ahead t ga).nx { s with P := P3, rep := rotL s.rep k } d3 sp)
          case first =>
            by_cases hx2 : x2 = 0
            · subst hx2
              have hR := HR2.out
              rw [if_pos rfl] at hR
              have HR3 := hid hR
              clear hR
              go_wp2_with fail
              go_meet
              exact ⟨1, P2, d2, rfl, .inl rfl, Fr.refl _ _, H2.out, HR3.out.trans (by rw [HST.out]; rfl)⟩
            · have e2 : x2 = 1 := by omega
              subst e2
              have hR := HR2.out
              rw [if_neg (by decide)] at hR
              have C3 := hid (fun w1 (h1 : LOn L t ga gr w1 { s with P := P2 } d2) => lbitP L t ga gr { s with P := P2 } d2 (228 + st) (429 + st) w1 h1 (by omega) (by unfold sgL; rw [if_neg (by omega), if_pos (by omega)]; omega))
              have L3 := lbit_le (ahead t ga).nx P2 d2 (228 + st)
              dsimp only at C3
              generalize lbit (ahead t ga).nx P2 d2 (228 + st) = r3 at C3 L3 hR
              obtain ⟨x3, P3, d3⟩ := r3
              dsimp only at C3 L3 hR
              have HR3 := hid hR
              have l0 : (0 : Int) ≤ (x3 : Int) := by omega
              have l1 : (x3 : Int) ≤ 1 := by omega
              have hw : IntKind.i64.wrap (2 + (x3 : Int)) = ((2 + x3 : Nat) : Int) := by rw [wrap_in _ (by omega) (by omega)]; omega
              clear hR
              go_wp2_with fail
              go_region_with (first | (go_at_call 87; refine (C3.out _ (by first | exact H2.out.any ((Fr.refl Non _).drew) | exact H2.out)).mono ?_; rintro e w4 ⟨rfl, hf4, h4⟩; have HF4 := hid hf4; have H4 := hid h4; clear hf4 h4))
              all_goals
                simp only [List.getElem_toArray, List.getElem_cons_zero, List.getElem_cons_succ, Act.put, List.setIfInBounds_toArray, List.set_cons_zero, List.set_cons_succ]
                go_wp2_with fail
                go_meet
                refine ⟨2 + x3, P3, d3, ?_, by omega, Fr.trans (by first | exact (Fr.refl _ _).drew | exact Fr.refl _ _) HF4.out, H4.out, ?_⟩
                · first | rfl | (congr 1; push_cast; rfl)
                · exact HR3.out.trans (by rw [HST.out, if_neg (by omega)])
          case rest =>
            obtain ⟨k, P3, d3, h5, hk, hf3, h3, hR⟩ := hcut
            subst h5
            obtain ⟨wt, hwt⟩ : ∃ wt, wt = wc := ⟨_, rfl⟩
            rw [← hwt] at hf3 h3 ⊢
            clear hwt k8 t1
            have q1 := h3.repCell (i := 1) (by decide)
            have q2 := h3.repCell (i := 2) (by decide)
            have q3 := h3.repCell (i := 3) (by decide)
            have HF3 := hid hf3
            have H3 := hid h3
            have HRE := hid hR
            clear hf3 h3 hR
            rcases hk with rfl | rfl | rfl
            · rw [show ((1 : Nat) : Int) = 1 from rfl]
              have hwk : IntKind.i64.wrap 2 = 2 := by decide
              go_upto_region 9 with fail
              go_cut [] (fun wx => Fr (LFt L t ga gr) wt wx ∧ LOn L t ga gr wx { s with P := P3, rep := shiftL s.rep 1 } d3)
              case first =>
                have HD := hid (H3.out.any (Fr.refl Non wt).drew)
                go_region_law ((refine step_copy_cells rfl (.tmp 83) (.tmp 88) 182 182 rfl 27 Try.underlying182 size_u32z L.gd 1859 1 3 ⟨L.gd, 1858, none⟩ 1 4 (by simp [Act.eval, Act.put]) (by simp [Act.eval, Act.put]) (repC s.rep 1) rfl (by exact HD.out.repSrc (by decide)) (fun j hj => (HD.out.repDst (by decide) j hj).1) (fun j hj => (HD.out.repDst (by decide) j hj).2) (repC_one _ _) ?_))
                all_goals
                  go_wp2_with fail
                  go_meet
                  exact ⟨(Fr.refl _ _).drew.trans (HD.out.shift (by decide) (by decide)).1, (HD.out.shift (by decide) (by decide)).2⟩
              case rest =>
                obtain ⟨hf4, h4⟩ := hcut
                have q0 := h4.repCell (i := 0) (by decide)
                have z0 := blk_frozen h4.is_.at_ (1858 + 0)
                have HF4 := hid hf4
                have H4 := hid h4
                have HRK := hid (H3.out.is_.ok.rep 1 (by decide))
                clear hf4 h4
                go_wp2_with fail
                go_meet
                exact ⟨_, _, (HF1.out.trans (HF2.out.trans (HF3.out.trans HF4.out))).setCell (p := ⟨L.gd, 1858, none⟩) (fun _ => .inl (.inl rfl)) _, H4.out.rep_ (i := 0) (by decide) HRK.out, HRE.out⟩
            · rw [show ((2 : Nat) : Int) = 2 from rfl]
              have hwk : IntKind.i64.wrap 3 = 3 := by decide
              go_upto_region 9 with fail
              go_cut [] (fun wx => Fr (LFt L t ga gr) wt wx ∧ LOn L t ga gr wx { s with P := P3, rep := shiftL s.rep 2 } d3)
              case first =>
                have HD := hid (H3.out.any (Fr.refl Non wt).drew)
                go_region_law ((refine step_copy_cells rfl (.tmp 83) (.tmp 88) 182 182 rfl 27 Try.underlying182 size_u32z L.gd 1859 2 3 ⟨L.gd, 1858, none⟩ 2 4 (by simp [Act.eval, Act.put]) (by simp [Act.eval, Act.put]) (repC s.rep 2) rfl (by exact HD.out.repSrc (by decide)) (fun j hj => (HD.out.repDst (by decide) j hj).1) (fun j hj => (HD.out.repDst (by decide) j hj).2) (repC_one _ _) ?_))
                all_goals
                  go_wp2_with fail
                  go_meet
                  exact ⟨(Fr.refl _ _).drew.trans (HD.out.shift (by decide) (by decide)).1, (HD.out.shift (by decide) (by decide)).2⟩
              case rest =>
                obtain ⟨hf4, h4⟩ := hcut
                have q0 := h4.repCell (i := 0) (by decide)
                have z0 := blk_frozen h4.is_.at_ (1858 + 0)
                have HF4 := hid hf4
                have H4 := hid h4
                have HRK := hid (H3.out.is_.ok.rep 2 (by decide))
                clear hf4 h4
                go_wp2_with fail
                go_meet
                exact ⟨_, _, (HF1.out.trans (HF2.out.trans (HF3.out.trans HF4.out))).setCell (p := ⟨L.gd, 1858, none⟩) (fun _ => .inl (.inl rfl)) _, H4.out.rep_ (i := 0) (by decide) HRK.out, HRE.out⟩
            · rw [show ((3 : Nat) : Int) = 3 from rfl]
              have hwk : IntKind.i64.wrap 4 = 4 := by decide
              go_upto_region 9 with fail
              go_cut [] (fun wx => Fr (LFt L t ga gr) wt wx ∧ LOn L t ga gr wx { s with P := P3, rep := shiftL s.rep 3 } d3)
              case first =>
                have HD := hid (H3.out.any (Fr.refl Non wt).drew)
                go_region_law ((refine step_copy_cells rfl (.tmp 83) (.tmp 88) 182 182 rfl 27 Try.underlying182 size_u32z L.gd 1859 3 3 ⟨L.gd, 1858, none⟩ 3 4 (by simp [Act.eval, Act.put]) (by simp [Act.eval, Act.put]) (repC s.rep 3) rfl (by exact HD.out.repSrc (by decide)) (fun j hj => (HD.out.repDst (by decide) j hj).1) (fun j hj => (HD.out.repDst (by decide) j hj).2) (repC_one _ _) ?_))
                all_goals
                  go_wp2_with fail
                  go_meet
                  exact ⟨(Fr.refl _ _).drew.trans (HD.out.shift (by decide) (by decide)).1, (HD.out.shift (by decide) (by decide)).2⟩
              case rest =>
                obtain ⟨hf4, h4⟩ := hcut
                have q0 := h4.repCell (i := 0) (by decide)
                have z0 := blk_frozen h4.is_.at_ (1858 + 0)
                have HF4 := hid hf4
                have H4 := hid h4
                have HRK := hid (H3.out.is_.ok.rep 3 (by decide))
                clear hf4 h4
                go_wp2_with fail
                go_meet
                exact ⟨_, _, (HF1.out.trans (HF2.out.trans (HF3.out.trans HF4.out))).setCell (p := ⟨L.gd, 1858, none⟩) (fun _ => .inl (.inl rfl)) _, H4.out.rep_ (i := 0) (by decide) HRK.out, HRE.out⟩
    case rest =>
      obtain ⟨s', d', hf1, h1, hR⟩ := hcut
      obtain ⟨wz, hwz⟩ : ∃ wz, wz = wc := ⟨_, rfl⟩
      rw [← hwz] at hf1 h1 ⊢
      clear hwz k8 t1
      have k8 := h1.is_.headC 8 (v := .pointer (some ⟨gr, 0, none⟩)) (by decide) rfl
      have C5 := hid (fun w1 (h1 : LOn L t ga gr w1 s' d') => ltell_any L t ga gr s' d' 1333 sp w1 h1 (by decide) (by decide) hs)
      rw [show 9 + 1333 = 1342 from rfl] at C5
      have L5 := ltell_lt (ahead t ga).nx s'.P d' 1333 sp
      unfold lagEnd at hR
      generalize ltell (ahead t ga).nx s'.P d' 1333 sp = r5 at C5 L5 hR
      obtain ⟨l, P5, d5⟩ := r5
      dsimp only at C5 L5 hR
      have l0 : (0 : Int) ≤ (l : Int) := by omega
      have l1 : (l : Int) < 272 := by omega
      have HF5 := hid hf1
      have H5 := hid h1
      have HRR := hid hR
      clear hf1 h1 hR
      go_upto_region 11 with fail
      go_cut [7] (fun a wx => a = .int .i64 l ∧ Fr (LFt L t ga gr) wz wx ∧ LOn L t ga gr wx { s' with P := P5 } d5)
      case first =>
        go_region_with (first | (go_at_call 116; refine (C5.out _ (by first | exact H5.out.any ((Fr.refl Non _).drew) | exact H5.out)).mono ?_; rintro e w4 ⟨rfl, hf4, h4⟩; have HF4 := hid hf4; have H4 := hid h4; clear hf4 h4))
        all_goals
          simp only [List.getElem_toArray, List.getElem_cons_zero, List.getElem_cons_succ, Act.put, List.setIfInBounds_toArray, List.set_cons_zero, List.set_cons_succ]
          go_wp2_with fail
          go_meet
          exact ⟨rfl, Fr.trans (by first | exact (Fr.refl _ _).drew | exact Fr.refl _ _) HF4.out, H4.out⟩
      case rest =>
        obtain ⟨h7, hf6, h6⟩ := hcut
        subst h7
        have HF6 := hid hf6
        have H6 := hid h6
        clear hf6 h6 k8 C5
        go_wp2_with fail
        refine (lnextS_any L t ga gr { s' with P := P5 } d5 8 11 _ H6.out (by decide) (by decide)).mono ?_
        rintro e w7 ⟨rfl, hf7, h7⟩
        have HF7 := hid hf7
        have H7 := hid h7
        clear hf7 h7
        go_wp2_with fail
        go_ret
        rw [HRR.out]
        exact ⟨by first | rfl | (congr 1; push_cast; rfl), (HF5.out.trans HF6.out).trans HF7.out, H7.out⟩
end Go.Proofs.Ytjnegcambbeblaa

/- lzma: a packet, plain. -/
namespace Go.Proofs.Ytjnegcambbeblaa
open Go.RowKit

/-- what follows behind a packet that is no literal: s as the packet leaves it. -/
def lpEnd {S : Type} (L : LL) (s : LS) (d : RD S) : LS :=
  if (s.bad || d.bad) || s.ended then { s with bad := s.bad || d.bad, left := 0 }
  else if s.dict ≤ s.rep 0 ∨ ¬ s.rep 0 < min s.H.length L.n then { s with bad := true, left := 0 }
  else { s with bad := s.bad || d.bad }
/-- a packet: whether it is a good literal, its byte; the state; the range decoder. -/
def lpacket {S : Type} (nx : S → Int × Bool × S) (L : LL) (s : LS) (d : RD S) : (Nat × Bool) × LS × RD S :=
  let sp := s.place % 2 ^ s.pb
  let r0 := lbit nx s.P d (16 * s.st + sp)
  if r0.1 = 0 then
    let q := llit nx L { s with P := r0.2.1 } r0.2.2
    ((q.1 % 256, !q.2.2.bad), { s with P := q.2.1, st := stL s.st, bad := q.2.2.bad }, q.2.2)
  else
    let r1 := lbit nx r0.2.1 r0.2.2 (192 + s.st)
    if r1.1 = 0 then
      let f := lfresh nx { s with P := r1.2.1 } r1.2.2 sp
      ((0, false), lpEnd L { f.2.1 with left := f.1 } f.2.2, f.2.2)
    else if min s.H.length L.n = 0 then
      ((0, false), lpEnd L { s with P := r1.2.1, bad := true } r1.2.2, r1.2.2)
    else
      let f := lagain nx { s with P := r1.2.1 } r1.2.2 sp
      ((0, false), lpEnd L { f.2.1 with left := f.1 } f.2.2, f.2.2)
end Go.Proofs.Ytjnegcambbeblaa

/- lzma: a packet's walk. -/
namespace Go.Proofs.Ytjnegcambbeblaa
open Go.RowKit

theorem LOn.left_ {S : Type} {L : LL} {t : Sour S} {ga gr : Nat} {w : World} {s : LS} {d : RD (AhS S)} (h : LOn L t ga gr w s d) {x : Nat} (hx : x ≤ 273) :
    LOn L t ga gr (w.setCell ⟨L.gd, 1863, none⟩ (.int .i64 x)) { s with left := x } d :=
  h.own ((Fr.refl _ _).setOne _ _) (T := fun k => k = L.gd) (fun _ e => .inl e) (h.is_.setT (i := 7) (s' := { s with left := x }) rfl rfl rfl rfl ⟨h.is_.ok.pr, h.is_.ok.st, h.is_.ok.rep, h.is_.ok.by_, h.is_.ok.lc, h.is_.ok.lp, h.is_.ok.pb, h.is_.ok.nl, h.is_.ok.dict, hx⟩)
theorem LOn.place_ {S : Type} {L : LL} {t : Sour S} {ga gr : Nat} {w : World} {s : LS} {d : RD (AhS S)} (h : LOn L t ga gr w s d) (x : Nat) :
    LOn L t ga gr (w.setCell ⟨L.gd, 1862, none⟩ (.int .i64 x)) { s with place := x } d :=
  h.own ((Fr.refl _ _).setOne _ _) (T := fun k => k = L.gd) (fun _ e => .inl e) (h.is_.setT (i := 6) (s' := { s with place := x }) rfl rfl rfl rfl ⟨h.is_.ok.pr, h.is_.ok.st, h.is_.ok.rep, h.is_.ok.by_, h.is_.ok.lc, h.is_.ok.lp, h.is_.ok.pb, h.is_.ok.nl, h.is_.ok.dict, h.is_.ok.left⟩)
theorem LOn.bad_ {S : Type} {L : LL} {t : Sour S} {ga gr : Nat} {w : World} {s : LS} {d : RD (AhS S)} (h : LOn L t ga gr w s d) (x : Bool) :
    LOn L t ga gr (w.setCell ⟨L.gd, 1865, none⟩ (.bool x)) { s with bad := x } d :=
  h.own ((Fr.refl _ _).setOne _ _) (T := fun k => k = L.gd) (fun _ e => .inl e) (h.is_.setT (i := 9) (s' := { s with bad := x }) rfl rfl rfl rfl ⟨h.is_.ok.pr, h.is_.ok.st, h.is_.ok.rep, h.is_.ok.by_, h.is_.ok.lc, h.is_.ok.lp, h.is_.ok.pb, h.is_.ok.nl, h.is_.ok.dict, h.is_.ok.left⟩)
theorem lfresh_le {S : Type} (nx : S → Int × Bool × S) (s : LS) (d : RD S) (sp : Nat) : (lfresh nx s d sp).1 ≤ 273 := by
  unfold lfresh
  dsimp only
  have := ltell_lt nx s.P d 819 sp
  split <;> omega
theorem lagEnd_le {S : Type} (nx : S → Int × Bool × S) (s : LS) (d : RD S) (sp : Nat) : (lagEnd nx s d sp).1 ≤ 273 := by
  unfold lagEnd
  have := ltell_lt nx s.P d 1333 sp
  show _ + 2 ≤ 273
  omega
theorem lagain_le {S : Type} (nx : S → Int × Bool × S) (s : LS) (d : RD S) (sp : Nat) : (lagain nx s d sp).1 ≤ 273 := by
  unfold lagain
  split
  · show 1 ≤ 273; omega
  · exact lagEnd_le _ _ _ _
end Go.Proofs.Ytjnegcambbeblaa
