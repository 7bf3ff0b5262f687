/- The document's walk through LZMA: which packet. -/
import Derived.Test.YtjnegcambbeblaaMg11
namespace Go.Proofs.Ytjnegcambbeblaa
open Go.RowKit

def chz (b : Bool) : Int := if b = true then 0 else 1
theorem chz_may {C : Type} (K : Cdr C) (b : Bool) : K.may (chz b) := by
  refine .inr ?_
  unfold chz
  split <;> omega
def kpick5 {C : Type} (r : Nat × (Nat → Int) × C) : Nat × (Nat → Int) × C := (if r.1 = 0 then 4 else 5, r.2)
def kpick4 {C : Type} (K : Cdr C) (st : Nat) (k : Int) (r : Nat × (Nat → Int) × C) : Nat × (Nat → Int) × C :=
  if r.1 = 0 then (3, r.2) else kpick5 (kbit K r.2.1 r.2.2 (228 + st) (chz (k == 4)))
def kpick3 {C : Type} (r : Nat × (Nat → Int) × C) : Nat × (Nat → Int) × C := (if r.1 = 0 then 6 else 2, r.2)
def kpick2 {C : Type} (K : Cdr C) (st sp : Nat) (k : Int) (r : Nat × (Nat → Int) × C) : Nat × (Nat → Int) × C :=
  if r.1 = 0 then kpick3 (kbit K r.2.1 r.2.2 (240 + 16 * st + sp) (chz (k == 6)))
  else kpick4 K st k (kbit K r.2.1 r.2.2 (216 + st) (chz (k == 3)))
def kkind1 {C : Type} (K : Cdr C) (s : LS) (sp : Nat) (k : Int) (r : Nat × (Nat → Int) × C) : (Nat × Bool) × (Nat → Int) × C :=
  if r.1 = 0 then ((1, false), r.2)
  else if s.H.length = 0 then ((6, true), r.2)
  else (((kpick2 K s.st sp k (kbit K r.2.1 r.2.2 (204 + s.st) (chz (k == 2 || k == 6)))).1, false), (kpick2 K s.st sp k (kbit K r.2.1 r.2.2 (204 + s.st) (chz (k == 2 || k == 6)))).2)
def kkind0 {C : Type} (K : Cdr C) (s : LS) (sp : Nat) (k : Int) (r : Nat × (Nat → Int) × C) : (Nat × Bool) × (Nat → Int) × C :=
  if r.1 = 0 then ((0, false), r.2) else kkind1 K s sp k (kbit K r.2.1 r.2.2 (192 + s.st) (chz (k == 1 || k == 7)))
/-- which packet it is, and whether it can be none; behind it. -/
def kkind {C : Type} (K : Cdr C) (s : LS) (c : C) (sp : Nat) (k : Int) : (Nat × Bool) × (Nat → Int) × C := kkind0 K s sp k (kbit K s.P c (16 * s.st + sp) (min k 1))
theorem KIs.cst {U : Nat → Prop} {C : Type} {K : Cdr C} {g gp np cap : Nat} {w : World} {s : LS} {c : C} (h : KIs K U g gp np cap w s c) : w.cell? ⟨g, 8, none⟩ = some (.int .i64 s.st) := by
  obtain ⟨A, v, h⟩ := h
  exact h.cellC 8 rfl
set_option linter.unusedSimpArgs false in
set_option maxRecDepth 100000 in
set_option maxHeartbeats 1600000 in
theorem kkind_any {U : Nat → Prop} {C : Type} {K : Cdr C} (hG : K.Good) (g gp np cap : Nat) (s : LS) (c : C) (sp : Nat) (k : Int) (w : World) (h : KIs K U g gp np cap w s c) (hsp : sp < 16) (hk0 : 0 ≤ k) (hk7 : k ≤ 7) (hfit : K.fit c 5) :
    Calls Try.prog 77 #[.pointer (some ⟨g, 0, none⟩), .int .i64 sp, .int .i64 k] w (KPost K U g gp np cap (.int .i64 (kkind K s c sp k).1.1) { s with P := (kkind K s c sp k).2.1, bad := s.bad || (kkind K s c sp k).1.2 } (kkind K s c sp k).2.2 w) := by
  obtain ⟨R, hR⟩ : ∃ R, R = kkind K s c sp k := ⟨_, rfl⟩
  rw [← hR]
  obtain ⟨st, hst⟩ : ∃ n, n = s.st := ⟨_, rfl⟩
  have hnp : 2615 ≤ np ∧ st < 12 := by
    obtain ⟨A, ov, hv2⟩ := h
    have h1 := hv2.ok.room
    have : 0 < 2 ^ (s.lc + s.lp) := Nat.pow_pos (by decide)
    have h2 := hv2.ok.st
    exact ⟨by omega, by omega⟩
  have hst12 : st < 12 := hnp.2
  have H := hid h
  obtain ⟨r0, hr0⟩ : ∃ r, r = kbit K s.P c (16 * s.st + sp) (min k 1) := ⟨_, rfl⟩
  have hmin : K.may (min k 1) := .inr ⟨by omega, by omega⟩
  obtain ⟨q0, hq0⟩ : ∃ q, q = 16 * st + sp := ⟨_, rfl⟩
  have e0 : 16 * (st : Int) + (sp : Int) = (q0 : Int) := by omega
  have CB0 := hid (fun (bb : Int) (he : bb = min k 1) => (show Calls Try.prog 105 #[.pointer (some ⟨g, 0, none⟩), .int .i64 q0, .int .i64 bb] w (KPost K U g gp np cap (.int .i64 r0.1) { s with P := r0.2.1 } r0.2.2 w) by
    rw [he, hr0, hq0, hst]
    exact hG.bit U g gp np cap s c _ _ w h (by have := hnp.1; omega) hmin (hG.ok.fitM _ _ _ (by decide) hfit)))
  have HF0 := hid (show K.fit r0.2.2 4 by rw [hr0]; exact hG.ok.fitB c _ _ 4 hfit)
  have HR0 := hid (show R = kkind0 K s sp k r0 by rw [hR, hr0]; rfl)
  have c8 := h.cst
  rw [← hst] at c8
  have HST := hid hst
  have HNP := hid hnp
  clear h hR hr0 hq0 hst hnp hfit hmin
  go_enter Try.func77, Try.ntmps77
  go_upto_region 1 with fail
  go_cut [19] (fun t wx => t = .bool (decide (r0.1 = 0)) ∧ Fr (KF K U) w wx ∧ KIs K U g gp np cap wx { s with P := r0.2.1 } r0.2.2)
  case first =>
    go_wp2_with fail
    all_goals
      refine (CB0.out _ (by omega)).mono ?_
      rintro e w1 ⟨rfl, hf1, h1⟩
      have HF := hid hf1
      have H1 := hid h1
      clear hf1 h1
      go_wp2_with fail
      go_meet
      refine ⟨?_, HF.out, H1.out⟩
      congr 1
      rw [Bool.eq_iff_iff]
      simp
  case rest =>
    obtain ⟨ht, hf1, h1⟩ := hcut
    have FR0 := hid hf1
    have KI0 := hid h1
    obtain ⟨w0, hw1⟩ : ∃ w1, w1 = wc := ⟨_, rfl⟩
    rw [← hw1] at FR0 KI0 ⊢
    clear hf1 h1 hw1 c8
    by_cases hz : r0.1 = 0
    · rw [decide_eq_true hz] at ht
      subst ht
      have HRE := hid (show R = ((0, false), r0.2) by rw [HR0.out]; unfold kkind0; rw [if_pos hz])
      clear hz
      go_wp2_with fail
      go_ret
      rw [HRE.out]
      refine ⟨rfl, FR0.out, ?_⟩
      rw [Bool.or_false]
      exact KI0.out
    · rw [decide_eq_false hz] at ht
      subst ht
      have HRE0 := hid (show R = kkind1 K s sp k (kbit K r0.2.1 r0.2.2 (192 + s.st) (chz (k == 1 || k == 7))) by rw [HR0.out]; unfold kkind0; rw [if_neg hz])
      clear hz
      obtain ⟨r1, hr1⟩ : ∃ r, r = kbit K r0.2.1 r0.2.2 (192 + s.st) (chz (k == 1 || k == 7)) := ⟨_, rfl⟩
      obtain ⟨q1, hq1⟩ : ∃ q, q = 192 + st := ⟨_, rfl⟩
      have e1 : IntKind.i64.wrap ((192 : Int) + (st : Int)) = (q1 : Int) := by simp only [IntKind.wrap_i64]; omega
      have CB1 := hid (fun (W : World) (bb : Int) (hW : KIs K U g gp np cap W { s with P := r0.2.1 } r0.2.2) (he : bb = chz (k == 1 || k == 7)) => (show Calls Try.prog 105 #[.pointer (some ⟨g, 0, none⟩), .int .i64 q1, .int .i64 bb] W (KPost K U g gp np cap (.int .i64 r1.1) { s with P := r1.2.1 } r1.2.2 W) by
        rw [he, hr1, hq1, HST.out]
        exact hG.bit U g gp np cap _ r0.2.2 _ _ W hW (by have := HNP.out; have := HST.out; omega) (chz_may K _) (hG.ok.fitM _ _ _ (by decide) HF0.out)))
      have HF1 := hid (show K.fit r1.2.2 3 by rw [hr1]; exact hG.ok.fitB _ _ _ 3 HF0.out)
      have HR1 := hid hr1
      have d8 := KI0.out.cst
      have d8' : w0.cell? ⟨g, 8, none⟩ = some (.int .i64 st) := by rw [HST.out]; exact d8
      clear hr1 hq1 d8
      go_upto_region 3 with fail
      go_cut [34] (fun t wx => t = .bool (decide (r1.1 = 0)) ∧ Fr (KF K U) w wx ∧ KIs K U g gp np cap wx { s with P := r1.2.1 } r1.2.2)
      case first =>
        by_cases hk9 : k = 1
        · subst hk9
          refine wp_region_held_drew (S := fun wx => wx.cell? ⟨g, 8, none⟩ = some (.int .i64 st)) (by kernel_rfl) (by go_keep) (fun hHeld => ?_)
          refine wpAnyH_take (i := 0) (v := ?_) rfl (by kernel_rfl) (by kernel_rfl) (by kernel_rfl) (fun _ _ _ h => h) (Or.inl ⟨by rfl, ?_⟩) (by assumption) ?_
          rotate_left 1
          · (intro w hSw; (try dsimp only at hSw); go_simp; (try with_reducible rfl))
          (try simp only [List.getElem_toArray, List.getElem_cons_zero, List.getElem_cons_succ, Act.put, List.setIfInBounds_toArray, List.set_cons_zero, List.set_cons_succ])
          refine wpAnyH_take (i := 1) (v := ?_) rfl (by kernel_rfl) (by kernel_rfl) (by kernel_rfl) (fun _ _ _ h => h) (Or.inl ⟨by rfl, ?_⟩) (by assumption) ?_
          rotate_left 1
          · (intro w hSw; (try dsimp only at hSw); go_simp; (try with_reducible rfl))
          (try simp only [List.getElem_toArray, List.getElem_cons_zero, List.getElem_cons_succ, Act.put, List.setIfInBounds_toArray, List.set_cons_zero, List.set_cons_succ])
          refine wpAnyH_take (i := 2) (v := ?_) rfl (by kernel_rfl) (by kernel_rfl) (by kernel_rfl) (fun _ _ _ h => h) (Or.inl ⟨by rfl, ?_⟩) (by assumption) ?_
          rotate_left 1
          · (intro w hSw; (try dsimp only at hSw); go_simp; (try with_reducible rfl))
          (try simp only [List.getElem_toArray, List.getElem_cons_zero, List.getElem_cons_succ, Act.put, List.setIfInBounds_toArray, List.set_cons_zero, List.set_cons_succ])
          refine wpAnyH_take (i := 3) (v := ?_) rfl (by kernel_rfl) (by kernel_rfl) (by kernel_rfl) (fun _ _ _ h => h) (Or.inl ⟨by rfl, ?_⟩) (by assumption) ?_
          rotate_left 1
          · (intro w hSw; (try dsimp only at hSw); go_simp; (try with_reducible rfl))
          (try simp only [List.getElem_toArray, List.getElem_cons_zero, List.getElem_cons_succ, Act.put, List.setIfInBounds_toArray, List.set_cons_zero, List.set_cons_succ])
          refine wpAnyH_take (i := 4) (v := ?_) rfl (by kernel_rfl) (by kernel_rfl) (by kernel_rfl) (fun _ _ _ h => h) (Or.inl ⟨by rfl, ?_⟩) (by assumption) ?_
          rotate_left 1
          · (intro w hSw; (try dsimp only at hSw); go_simp; (try with_reducible rfl))
          (try simp only [List.getElem_toArray, List.getElem_cons_zero, List.getElem_cons_succ, Act.put, List.setIfInBounds_toArray, List.set_cons_zero, List.set_cons_succ])
          refine wpAnyH_take (i := 5) (v := ?_) rfl (by kernel_rfl) (by kernel_rfl) (by kernel_rfl) (fun _ _ _ h => h) (Or.inl ⟨by rfl, ?_⟩) (by assumption) ?_
          rotate_left 1
          · (intro w hSw; (try dsimp only at hSw); go_simp; (try with_reducible rfl))
          (try simp only [List.getElem_toArray, List.getElem_cons_zero, List.getElem_cons_succ, Act.put, List.setIfInBounds_toArray, List.set_cons_zero, List.set_cons_succ])
          refine wpAnyH_take (i := 6) (v := ?_) rfl (by kernel_rfl) (by kernel_rfl) (by kernel_rfl) (fun _ _ _ h => h) (Or.inl ⟨by rfl, ?_⟩) (by assumption) ?_
          rotate_left 1
          · (intro w hSw; (try dsimp only at hSw); go_simp; (try with_reducible rfl))
          (try simp only [List.getElem_toArray, List.getElem_cons_zero, List.getElem_cons_succ, Act.put, List.setIfInBounds_toArray, List.set_cons_zero, List.set_cons_succ])
          refine wpAnyH_take (i := 7) (v := ?_) rfl (by kernel_rfl) (by kernel_rfl) (by kernel_rfl) (fun _ _ _ h => h) (Or.inl ⟨by rfl, ?_⟩) (by assumption) ?_
          rotate_left 1
          · (intro w hSw; (try dsimp only at hSw); go_simp; (try with_reducible rfl))
          (try simp only [List.getElem_toArray, List.getElem_cons_zero, List.getElem_cons_succ, Act.put, List.setIfInBounds_toArray, List.set_cons_zero, List.set_cons_succ])
          refine wpAnyH_take (i := 8) (v := ?_) rfl (by kernel_rfl) (by kernel_rfl) (by kernel_rfl) (fun _ _ _ h => h) (Or.inl ⟨by rfl, ?_⟩) (by assumption) ?_
          rotate_left 1
          · (intro w hSw; (try dsimp only at hSw); go_simp; (try with_reducible rfl))
          (try simp only [List.getElem_toArray, List.getElem_cons_zero, List.getElem_cons_succ, Act.put, List.setIfInBounds_toArray, List.set_cons_zero, List.set_cons_succ])
          refine wpAnyH_take (i := 9) (v := undef) rfl (by kernel_rfl) (by kernel_rfl) (by kernel_rfl) (fun _ _ _ h => h) (Or.inr ⟨by kernel_rfl, rfl⟩) (by assumption) ?_
          (try simp only [List.getElem_toArray, List.getElem_cons_zero, List.getElem_cons_succ, Act.put, List.setIfInBounds_toArray, List.set_cons_zero, List.set_cons_succ])
          refine wpAnyH_take (i := 10) (v := undef) rfl (by kernel_rfl) (by kernel_rfl) (by kernel_rfl) (fun _ _ _ h => h) (Or.inr ⟨by kernel_rfl, rfl⟩) (by assumption) ?_
          (try simp only [List.getElem_toArray, List.getElem_cons_zero, List.getElem_cons_succ, Act.put, List.setIfInBounds_toArray, List.set_cons_zero, List.set_cons_succ])
          refine wpAnyH_take (i := 11) (v := ?_) rfl (by kernel_rfl) (by kernel_rfl) (by kernel_rfl) (fun _ _ _ h => h) (Or.inl ⟨by rfl, ?_⟩) (by assumption) ?_
          rotate_left 1
          · (intro w hSw; (try dsimp only at hSw); go_simp; (try with_reducible rfl))
          (try simp only [List.getElem_toArray, List.getElem_cons_zero, List.getElem_cons_succ, Act.put, List.setIfInBounds_toArray, List.set_cons_zero, List.set_cons_succ])
          refine wpAnyH_ready (rs := [12]) (by kernel_rfl) (by simp) ?_
          refine AllReadyH.cons rfl (fun K9 hK9 => ?_) AllReadyH.nil
          go_simp
          refine (kchoose_any _ 0 1 _).mono ?_; rintro e wq ⟨rfl, rfl⟩
          go_wp2_with fail
          refine hK9.out _ _ ?_ (fun hHeld9 => ?_)
          · exact hHeld
          clear hK9 K9
          (try simp only [List.getElem_toArray, List.getElem_cons_zero, List.getElem_cons_succ, Act.put, List.setIfInBounds_toArray, List.set_cons_zero, List.set_cons_succ])
          refine wpAnyH_ready (rs := [13]) (by kernel_rfl) (by simp) ?_
          refine AllReadyH.cons rfl (fun K9 hK9 => ?_) AllReadyH.nil
          go_simp
          refine (CB1.out _ _ (KI0.out.any hG.ok (by repeat (first | exact Fr.refl _ _ | refine Fr.drewN ?_ _ | refine Fr.drew ?_))) (by decide)).mono ?_; rintro e wb ⟨rfl, hfb, hkb⟩; have hcb : wb.cell? ⟨g, 8, none⟩ = some (.int .i64 st) := (by rw [HST.out]; have h := KIs.cst hkb; exact h)
          go_wp2_with fail
          refine hK9.out _ _ ?_ (fun hHeld9 => ?_)
          · exact hcb
          clear hK9 K9
          (try simp only [List.getElem_toArray, List.getElem_cons_zero, List.getElem_cons_succ, Act.put, List.setIfInBounds_toArray, List.set_cons_zero, List.set_cons_succ])
          refine wpAnyH_take (i := 14) (v := ?_) rfl (by kernel_rfl) (by kernel_rfl) (by kernel_rfl) (fun _ _ _ h => h) (Or.inl ⟨by rfl, ?_⟩) (by assumption) ?_
          rotate_left 1
          · (intro w hSw; (try dsimp only at hSw); go_simp; (try with_reducible rfl))
          (try simp only [List.getElem_toArray, List.getElem_cons_zero, List.getElem_cons_succ, Act.put, List.setIfInBounds_toArray, List.set_cons_zero, List.set_cons_succ])
          refine wpAnyH_done (by kernel_rfl) ?_ _
          have HFB := hid hfb
          have HKB := hid hkb
          clear hfb hkb hcb
          go_wp2_with fail
          go_meet
          refine ⟨?_, FR0.out.trans ((Fr.trans ((by repeat (first | exact Fr.refl _ _ | refine Fr.drewN ?_ _ | refine Fr.drew ?_))) HFB.out)), HKB.out⟩
          congr 1
          rw [Bool.eq_iff_iff]
          simp
        · have h8 : k = 0 ∨ k = 2 ∨ k = 3 ∨ k = 4 ∨ k = 5 ∨ k = 6 ∨ k = 7 := by omega
          rcases h8 with rfl | rfl | rfl | rfl | rfl | rfl | rfl
          all_goals
            first | (go_region_held3 (fun wx => wx.cell? ⟨g, 8, none⟩ = some (.int .i64 st)) (first | (show World.cell? wb _ = _; exact hcb) | go_keep) (first
              | (go_at_call 106; refine (kchoose_any _ 0 1 _).mono ?_; rintro e wq ⟨rfl, rfl⟩)
              | (go_at_call 105; refine (CB1.out _ _ (KI0.out.any hG.ok (by repeat (first | exact Fr.refl _ _ | refine Fr.drewN ?_ _ | refine Fr.drew ?_))) (by decide)).mono ?_; rintro e wb ⟨rfl, hfb, hkb⟩; have hcb : wb.cell? ⟨g, 8, none⟩ = some (.int .i64 st) := (by rw [HST.out]; have h := KIs.cst hkb; exact h)))) | fail
            have HFB := hid hfb
            have HKB := hid hkb
            clear hfb hkb hcb
            go_wp2_with fail
            go_meet
            refine ⟨?_, FR0.out.trans ((Fr.trans ((by repeat (first | exact Fr.refl _ _ | refine Fr.drewN ?_ _ | refine Fr.drew ?_))) HFB.out)), HKB.out⟩
            congr 1
            rw [Bool.eq_iff_iff]
            simp
      case rest =>
        obtain ⟨ht, hf1, h1⟩ := hcut
        have FR1 := hid hf1
        have KI1 := hid h1
        obtain ⟨w1, hw1⟩ : ∃ w1, w1 = wc := ⟨_, rfl⟩
        rw [← hw1] at FR1 KI1 ⊢
        clear hf1 h1 hw1 d8' e1
        by_cases hz : r1.1 = 0
        · rw [decide_eq_true hz] at ht
          subst ht
          have HRE := hid (show R = ((1, false), r1.2) by rw [HRE0.out, ← HR1.out]; unfold kkind1; rw [if_pos hz])
          clear hz
          go_wp2_with fail
          go_ret
          rw [HRE.out]
          refine ⟨rfl, FR1.out, ?_⟩
          rw [Bool.or_false]
          exact KI1.out
        · rw [decide_eq_false hz] at ht
          subst ht
          have HRE1 := hid (fun (hn : s.H.length ≠ 0) => (show R = (((kpick2 K s.st sp k (kbit K r1.2.1 r1.2.2 (204 + s.st) (chz (k == 2 || k == 6)))).1, false), (kpick2 K s.st sp k (kbit K r1.2.1 r1.2.2 (204 + s.st) (chz (k == 2 || k == 6)))).2) by rw [HRE0.out, ← HR1.out]; unfold kkind1; rw [if_neg hz, if_neg hn]))
          have HREB := hid (fun (hn : s.H.length = 0) => (show R = ((6, true), r1.2) by rw [HRE0.out, ← HR1.out]; unfold kkind1; rw [if_neg hz, if_pos hn]))
          clear hz
          obtain ⟨A1, ov, hv1⟩ := KI1.out
          obtain ⟨ao, cp, hov, hcp, hnil, hrow, _⟩ := hv1.own.rowO
          have hrow2 : RowIn w1.heap.size .u8 w1 ao s.H.length (fun i => s.H.getD i 0) := hrow
          have c7 : w1.cell? ⟨g, 7, none⟩ = some (.slice ao s.H.length cp) := hv1.cellC 7 (by rw [hov]; rfl)
          have hup := hv1.up hG.ok
          have z14 := blk_frozen hv1.at_ 14
          have c14 := hv1.cellC 14 (x := .bool s.bad) rfl
          have HV1 := hid hv1
          have HUP := hid hup
          obtain ⟨n, hn⟩ : ∃ n, n = s.H.length := ⟨_, rfl⟩
          rw [← hn] at c7
          clear hv1 hrow hrow2 hup hcp hnil hov
          by_cases hn0 : n = 0
          · have HRE := hid (HREB.out (by rw [← hn]; exact hn0))
            have hn0' : (n : Int) = 0 := by omega
            have hnb : ((n : Int) == 0) = true := by simp [hn0]
            clear hn0 hn hn0'
            go_wp2_with fail
            go_ret
            rw [HRE.out]
            refine ⟨rfl, FR1.out.then ((Fr.refl _ _).setOne (g := g) _ _) (fun k _ e => by rw [e]; exact HUP.out.1), A1, ov, ?_⟩
            have hok := HV1.out.ok
            have h9 := HV1.out.setC hG.ok (i := 14) (x := .bool true) (s' := { s with P := r1.2.1, bad := true }) rfl rfl rfl ⟨hok.pr, hok.st, hok.rep, hok.lc, hok.lp, hok.pb, hok.room, hok.few, hok.dict, hok.by_⟩
            rw [Bool.or_true]
            exact h9
          · have HRE2 := hid (HRE1.out (by rw [← hn]; exact hn0))
            have hn0' : ¬ (n : Int) = 0 := by omega
            have hnb : ((n : Int) == 0) = false := by simpa using hn0
            clear hn0 hn hn0' z14 c14
            obtain ⟨r2, hr2⟩ : ∃ r, r = kbit K r1.2.1 r1.2.2 (204 + s.st) (chz (k == 2 || k == 6)) := ⟨_, rfl⟩
            obtain ⟨q2, hq2⟩ : ∃ q, q = 204 + st := ⟨_, rfl⟩
            have e2 : IntKind.i64.wrap ((204 : Int) + (st : Int)) = (q2 : Int) := by simp only [IntKind.wrap_i64]; omega
            have CB2 := hid (fun (W : World) (bb : Int) (hW : KIs K U g gp np cap W { s with P := r1.2.1 } r1.2.2) (he : bb = chz (k == 2 || k == 6)) => (show Calls Try.prog 105 #[.pointer (some ⟨g, 0, none⟩), .int .i64 q2, .int .i64 bb] W (KPost K U g gp np cap (.int .i64 r2.1) { s with P := r2.2.1 } r2.2.2 W) by
              rw [he, hr2, hq2, HST.out]
              exact hG.bit U g gp np cap _ r1.2.2 _ _ W hW (by have := HNP.out; have := HST.out; omega) (chz_may K _) (hG.ok.fitM _ _ _ (by decide) HF1.out)))
            have HF2 := hid (show K.fit r2.2.2 2 by rw [hr2]; exact hG.ok.fitB _ _ _ 2 HF1.out)
            have HR2 := hid hr2
            have d8 := KI1.out.cst
            have d8' : w1.cell? ⟨g, 8, none⟩ = some (.int .i64 st) := by rw [HST.out]; exact d8
            clear hr2 hq2 d8
            go_upto_region 8 with fail
            go_cut [58] (fun t wx => t = .bool (decide (r2.1 = 0)) ∧ Fr (KF K U) w wx ∧ KIs K U g gp np cap wx { s with P := r2.2.1 } r2.2.2)
            case first =>
              by_cases hk9 : k = 2
              · subst hk9
                refine wp_region_held_drew (S := fun wx => wx.cell? ⟨g, 8, none⟩ = some (.int .i64 st)) (by kernel_rfl) (by go_keep) (fun hHeld => ?_)
                refine wpAnyH_take (i := 0) (v := ?_) rfl (by kernel_rfl) (by kernel_rfl) (by kernel_rfl) (fun _ _ _ h => h) (Or.inl ⟨by rfl, ?_⟩) (by assumption) ?_
                rotate_left 1
                · (intro w hSw; (try dsimp only at hSw); go_simp; (try with_reducible rfl))
                (try simp only [List.getElem_toArray, List.getElem_cons_zero, List.getElem_cons_succ, Act.put, List.setIfInBounds_toArray, List.set_cons_zero, List.set_cons_succ])
                refine wpAnyH_take (i := 1) (v := ?_) rfl (by kernel_rfl) (by kernel_rfl) (by kernel_rfl) (fun _ _ _ h => h) (Or.inl ⟨by rfl, ?_⟩) (by assumption) ?_
                rotate_left 1
                · (intro w hSw; (try dsimp only at hSw); go_simp; (try with_reducible rfl))
                (try simp only [List.getElem_toArray, List.getElem_cons_zero, List.getElem_cons_succ, Act.put, List.setIfInBounds_toArray, List.set_cons_zero, List.set_cons_succ])
                refine wpAnyH_take (i := 2) (v := ?_) rfl (by kernel_rfl) (by kernel_rfl) (by kernel_rfl) (fun _ _ _ h => h) (Or.inl ⟨by rfl, ?_⟩) (by assumption) ?_
                rotate_left 1
                · (intro w hSw; (try dsimp only at hSw); go_simp; (try with_reducible rfl))
                (try simp only [List.getElem_toArray, List.getElem_cons_zero, List.getElem_cons_succ, Act.put, List.setIfInBounds_toArray, List.set_cons_zero, List.set_cons_succ])
                refine wpAnyH_take (i := 3) (v := ?_) rfl (by kernel_rfl) (by kernel_rfl) (by kernel_rfl) (fun _ _ _ h => h) (Or.inl ⟨by rfl, ?_⟩) (by assumption) ?_
                rotate_left 1
                · (intro w hSw; (try dsimp only at hSw); go_simp; (try with_reducible rfl))
                (try simp only [List.getElem_toArray, List.getElem_cons_zero, List.getElem_cons_succ, Act.put, List.setIfInBounds_toArray, List.set_cons_zero, List.set_cons_succ])
                refine wpAnyH_take (i := 4) (v := ?_) rfl (by kernel_rfl) (by kernel_rfl) (by kernel_rfl) (fun _ _ _ h => h) (Or.inl ⟨by rfl, ?_⟩) (by assumption) ?_
                rotate_left 1
                · (intro w hSw; (try dsimp only at hSw); go_simp; (try with_reducible rfl))
                (try simp only [List.getElem_toArray, List.getElem_cons_zero, List.getElem_cons_succ, Act.put, List.setIfInBounds_toArray, List.set_cons_zero, List.set_cons_succ])
                refine wpAnyH_take (i := 5) (v := ?_) rfl (by kernel_rfl) (by kernel_rfl) (by kernel_rfl) (fun _ _ _ h => h) (Or.inl ⟨by rfl, ?_⟩) (by assumption) ?_
                rotate_left 1
                · (intro w hSw; (try dsimp only at hSw); go_simp; (try with_reducible rfl))
                (try simp only [List.getElem_toArray, List.getElem_cons_zero, List.getElem_cons_succ, Act.put, List.setIfInBounds_toArray, List.set_cons_zero, List.set_cons_succ])
                refine wpAnyH_take (i := 6) (v := ?_) rfl (by kernel_rfl) (by kernel_rfl) (by kernel_rfl) (fun _ _ _ h => h) (Or.inl ⟨by rfl, ?_⟩) (by assumption) ?_
                rotate_left 1
                · (intro w hSw; (try dsimp only at hSw); go_simp; (try with_reducible rfl))
                (try simp only [List.getElem_toArray, List.getElem_cons_zero, List.getElem_cons_succ, Act.put, List.setIfInBounds_toArray, List.set_cons_zero, List.set_cons_succ])
                refine wpAnyH_take (i := 7) (v := ?_) rfl (by kernel_rfl) (by kernel_rfl) (by kernel_rfl) (fun _ _ _ h => h) (Or.inl ⟨by rfl, ?_⟩) (by assumption) ?_
                rotate_left 1
                · (intro w hSw; (try dsimp only at hSw); go_simp; (try with_reducible rfl))
                (try simp only [List.getElem_toArray, List.getElem_cons_zero, List.getElem_cons_succ, Act.put, List.setIfInBounds_toArray, List.set_cons_zero, List.set_cons_succ])
                refine wpAnyH_take (i := 8) (v := ?_) rfl (by kernel_rfl) (by kernel_rfl) (by kernel_rfl) (fun _ _ _ h => h) (Or.inl ⟨by rfl, ?_⟩) (by assumption) ?_
                rotate_left 1
                · (intro w hSw; (try dsimp only at hSw); go_simp; (try with_reducible rfl))
                (try simp only [List.getElem_toArray, List.getElem_cons_zero, List.getElem_cons_succ, Act.put, List.setIfInBounds_toArray, List.set_cons_zero, List.set_cons_succ])
                refine wpAnyH_take (i := 9) (v := undef) rfl (by kernel_rfl) (by kernel_rfl) (by kernel_rfl) (fun _ _ _ h => h) (Or.inr ⟨by kernel_rfl, rfl⟩) (by assumption) ?_
                (try simp only [List.getElem_toArray, List.getElem_cons_zero, List.getElem_cons_succ, Act.put, List.setIfInBounds_toArray, List.set_cons_zero, List.set_cons_succ])
                refine wpAnyH_take (i := 10) (v := undef) rfl (by kernel_rfl) (by kernel_rfl) (by kernel_rfl) (fun _ _ _ h => h) (Or.inr ⟨by kernel_rfl, rfl⟩) (by assumption) ?_
                (try simp only [List.getElem_toArray, List.getElem_cons_zero, List.getElem_cons_succ, Act.put, List.setIfInBounds_toArray, List.set_cons_zero, List.set_cons_succ])
                refine wpAnyH_take (i := 11) (v := ?_) rfl (by kernel_rfl) (by kernel_rfl) (by kernel_rfl) (fun _ _ _ h => h) (Or.inl ⟨by rfl, ?_⟩) (by assumption) ?_
                rotate_left 1
                · (intro w hSw; (try dsimp only at hSw); go_simp; (try with_reducible rfl))
                (try simp only [List.getElem_toArray, List.getElem_cons_zero, List.getElem_cons_succ, Act.put, List.setIfInBounds_toArray, List.set_cons_zero, List.set_cons_succ])
                refine wpAnyH_ready (rs := [12]) (by kernel_rfl) (by simp) ?_
                refine AllReadyH.cons rfl (fun K9 hK9 => ?_) AllReadyH.nil
                go_simp
                refine (kchoose_any _ 0 1 _).mono ?_; rintro e wq ⟨rfl, rfl⟩
                go_wp2_with fail
                refine hK9.out _ _ ?_ (fun hHeld9 => ?_)
                · exact hHeld
                clear hK9 K9
                (try simp only [List.getElem_toArray, List.getElem_cons_zero, List.getElem_cons_succ, Act.put, List.setIfInBounds_toArray, List.set_cons_zero, List.set_cons_succ])
                refine wpAnyH_ready (rs := [13]) (by kernel_rfl) (by simp) ?_
                refine AllReadyH.cons rfl (fun K9 hK9 => ?_) AllReadyH.nil
                go_simp
                refine (CB2.out _ _ (KI1.out.any hG.ok (by repeat (first | exact Fr.refl _ _ | refine Fr.drewN ?_ _ | refine Fr.drew ?_))) (by decide)).mono ?_; rintro e wb ⟨rfl, hfb, hkb⟩; have hcb : wb.cell? ⟨g, 8, none⟩ = some (.int .i64 st) := (by rw [HST.out]; have h := KIs.cst hkb; exact h)
                go_wp2_with fail
                refine hK9.out _ _ ?_ (fun hHeld9 => ?_)
                · exact hcb
                clear hK9 K9
                (try simp only [List.getElem_toArray, List.getElem_cons_zero, List.getElem_cons_succ, Act.put, List.setIfInBounds_toArray, List.set_cons_zero, List.set_cons_succ])
                refine wpAnyH_take (i := 14) (v := ?_) rfl (by kernel_rfl) (by kernel_rfl) (by kernel_rfl) (fun _ _ _ h => h) (Or.inl ⟨by rfl, ?_⟩) (by assumption) ?_
                rotate_left 1
                · (intro w hSw; (try dsimp only at hSw); go_simp; (try with_reducible rfl))
                (try simp only [List.getElem_toArray, List.getElem_cons_zero, List.getElem_cons_succ, Act.put, List.setIfInBounds_toArray, List.set_cons_zero, List.set_cons_succ])
                refine wpAnyH_done (by kernel_rfl) ?_ _
                have HFB := hid hfb
                have HKB := hid hkb
                clear hfb hkb hcb
                go_wp2_with fail
                go_meet
                refine ⟨?_, FR1.out.trans ((Fr.trans ((by repeat (first | exact Fr.refl _ _ | refine Fr.drewN ?_ _ | refine Fr.drew ?_))) HFB.out)), HKB.out⟩
                congr 1
                rw [Bool.eq_iff_iff]
                simp
              · have h8 : k = 0 ∨ k = 1 ∨ k = 3 ∨ k = 4 ∨ k = 5 ∨ k = 6 ∨ k = 7 := by omega
                rcases h8 with rfl | rfl | rfl | rfl | rfl | rfl | rfl
                all_goals
                  first | (go_region_held3 (fun wx => wx.cell? ⟨g, 8, none⟩ = some (.int .i64 st)) (first | (show World.cell? wb _ = _; exact hcb) | go_keep) (first
                    | (go_at_call 106; refine (kchoose_any _ 0 1 _).mono ?_; rintro e wq ⟨rfl, rfl⟩)
                    | (go_at_call 105; refine (CB2.out _ _ (KI1.out.any hG.ok (by repeat (first | exact Fr.refl _ _ | refine Fr.drewN ?_ _ | refine Fr.drew ?_))) (by decide)).mono ?_; rintro e wb ⟨rfl, hfb, hkb⟩; have hcb : wb.cell? ⟨g, 8, none⟩ = some (.int .i64 st) := (by rw [HST.out]; have h := KIs.cst hkb; exact h)))) | fail
                  have HFB := hid hfb
                  have HKB := hid hkb
                  clear hfb hkb hcb
                  go_wp2_with fail
                  go_meet
                  refine ⟨?_, FR1.out.trans ((Fr.trans ((by repeat (first | exact Fr.refl _ _ | refine Fr.drewN ?_ _ | refine Fr.drew ?_))) HFB.out)), HKB.out⟩
                  congr 1
                  rw [Bool.eq_iff_iff]
                  simp
            case rest =>
              obtain ⟨ht, hf1, h1⟩ := hcut
              have FR2 := hid hf1
              have KI2 := hid h1
              obtain ⟨w2, hw1⟩ : ∃ w1, w1 = wc := ⟨_, rfl⟩
              rw [← hw1] at FR2 KI2 ⊢
              clear hf1 h1 hw1 d8' e2
              by_cases hz : r2.1 = 0
              · rw [decide_eq_true hz] at ht
                subst ht
                have HRE3 := hid (show R = (((kpick3 (kbit K r2.2.1 r2.2.2 (240 + 16 * s.st + sp) (chz (k == 6)))).1, false), (kpick3 (kbit K r2.2.1 r2.2.2 (240 + 16 * s.st + sp) (chz (k == 6)))).2) by rw [HRE2.out, ← HR2.out]; unfold kpick2; rw [if_pos hz])
                clear hz
                obtain ⟨r3, hr3⟩ : ∃ r, r = kbit K r2.2.1 r2.2.2 (240 + 16 * s.st + sp) (chz (k == 6)) := ⟨_, rfl⟩
                obtain ⟨q3, hq3⟩ : ∃ q, q = 240 + 16 * st + sp := ⟨_, rfl⟩
                have e3 : IntKind.i64.wrap (IntKind.i64.wrap ((240 : Int) + IntKind.i64.wrap (16 * (st : Int))) + (sp : Int)) = (q3 : Int) := by simp only [IntKind.wrap_i64]; omega
                have CB3 := hid (fun (W : World) (bb : Int) (hW : KIs K U g gp np cap W { s with P := r2.2.1 } r2.2.2) (he : bb = chz (k == 6)) => (show Calls Try.prog 105 #[.pointer (some ⟨g, 0, none⟩), .int .i64 q3, .int .i64 bb] W (KPost K U g gp np cap (.int .i64 r3.1) { s with P := r3.2.1 } r3.2.2 W) by
                  rw [he, hr3, hq3, HST.out]
                  exact hG.bit U g gp np cap _ r2.2.2 _ _ W hW (by have := HNP.out; have := HST.out; omega) (chz_may K _) (hG.ok.fitM _ _ _ (by decide) HF2.out)))
                have HF3 := hid (show K.fit r3.2.2 1 by rw [hr3]; exact hG.ok.fitB _ _ _ 1 HF2.out)
                have HR3 := hid hr3
                have d8 := KI2.out.cst
                have d8' : w2.cell? ⟨g, 8, none⟩ = some (.int .i64 st) := by rw [HST.out]; exact d8
                clear hr3 hq3 d8
                go_upto_region 9 with fail
                go_cut [72] (fun t wx => t = .bool (decide (r3.1 = 0)) ∧ Fr (KF K U) w wx ∧ KIs K U g gp np cap wx { s with P := r3.2.1 } r3.2.2)
                case first =>
                  have h8 : k = 0 ∨ k = 1 ∨ k = 2 ∨ k = 3 ∨ k = 4 ∨ k = 5 ∨ k = 6 ∨ k = 7 := by omega
                  rcases h8 with rfl | rfl | rfl | rfl | rfl | rfl | rfl | rfl
                  all_goals
                    first | (go_region_held3 (fun wx => wx.cell? ⟨g, 8, none⟩ = some (.int .i64 st)) (first | (show World.cell? wb _ = _; exact hcb) | go_keep) (first
                      | (go_at_call 106; refine (kchoose_any _ 0 1 _).mono ?_; rintro e wq ⟨rfl, rfl⟩)
                      | (go_at_call 105; refine (CB3.out _ _ (KI2.out.any hG.ok (by repeat (first | exact Fr.refl _ _ | refine Fr.drewN ?_ _ | refine Fr.drew ?_))) (by decide)).mono ?_; rintro e wb ⟨rfl, hfb, hkb⟩; have hcb : wb.cell? ⟨g, 8, none⟩ = some (.int .i64 st) := (by rw [HST.out]; have h := KIs.cst hkb; exact h)))) | fail
                    have HFB := hid hfb
                    have HKB := hid hkb
                    clear hfb hkb hcb
                    go_wp2_with fail
                    go_meet
                    refine ⟨?_, FR2.out.trans ((Fr.trans ((by repeat (first | exact Fr.refl _ _ | refine Fr.drewN ?_ _ | refine Fr.drew ?_))) HFB.out)), HKB.out⟩
                    congr 1
                    rw [Bool.eq_iff_iff]
                    simp
                case rest =>
                  obtain ⟨ht, hf1, h1⟩ := hcut
                  have FR3 := hid hf1
                  have KI3 := hid h1
                  obtain ⟨w3, hw1⟩ : ∃ w1, w1 = wc := ⟨_, rfl⟩
                  rw [← hw1] at FR3 KI3 ⊢
                  clear hf1 h1 hw1 d8' e3
                  by_cases hz : r3.1 = 0
                  · rw [decide_eq_true hz] at ht
                    subst ht
                    have HRE := hid (show R = ((6, false), r3.2) by rw [HRE3.out, ← HR3.out]; unfold kpick3; rw [if_pos hz])
                    clear hz
                    go_wp2_with fail
                    go_ret
                    rw [HRE.out]
                    refine ⟨rfl, FR3.out, ?_⟩
                    rw [Bool.or_false]
                    exact KI3.out
                  · rw [decide_eq_false hz] at ht
                    subst ht
                    have HRE := hid (show R = ((2, false), r3.2) by rw [HRE3.out, ← HR3.out]; unfold kpick3; rw [if_neg hz])
                    clear hz
                    go_wp2_with fail
                    go_ret
                    rw [HRE.out]
                    refine ⟨rfl, FR3.out, ?_⟩
                    rw [Bool.or_false]
                    exact KI3.out
              · rw [decide_eq_false hz] at ht
                subst ht
                have HRE4 := hid (show R = (((kpick4 K s.st k (kbit K r2.2.1 r2.2.2 (216 + s.st) (chz (k == 3)))).1, false), (kpick4 K s.st k (kbit K r2.2.1 r2.2.2 (216 + s.st) (chz (k == 3)))).2) by rw [HRE2.out, ← HR2.out]; unfold kpick2; rw [if_neg hz])
                clear hz
                obtain ⟨r4, hr4⟩ : ∃ r, r = kbit K r2.2.1 r2.2.2 (216 + s.st) (chz (k == 3)) := ⟨_, rfl⟩
                obtain ⟨q4, hq4⟩ : ∃ q, q = 216 + st := ⟨_, rfl⟩
                have e4 : IntKind.i64.wrap ((216 : Int) + (st : Int)) = (q4 : Int) := by simp only [IntKind.wrap_i64]; omega
                have CB4 := hid (fun (W : World) (bb : Int) (hW : KIs K U g gp np cap W { s with P := r2.2.1 } r2.2.2) (he : bb = chz (k == 3)) => (show Calls Try.prog 105 #[.pointer (some ⟨g, 0, none⟩), .int .i64 q4, .int .i64 bb] W (KPost K U g gp np cap (.int .i64 r4.1) { s with P := r4.2.1 } r4.2.2 W) by
                  rw [he, hr4, hq4, HST.out]
                  exact hG.bit U g gp np cap _ r2.2.2 _ _ W hW (by have := HNP.out; have := HST.out; omega) (chz_may K _) (hG.ok.fitM _ _ _ (by decide) HF2.out)))
                have HF4 := hid (show K.fit r4.2.2 1 by rw [hr4]; exact hG.ok.fitB _ _ _ 1 HF2.out)
                have HR4 := hid hr4
                have d8 := KI2.out.cst
                have d8' : w2.cell? ⟨g, 8, none⟩ = some (.int .i64 st) := by rw [HST.out]; exact d8
                clear hr4 hq4 d8
                go_upto_region 12 with fail
                go_cut [83] (fun t wx => t = .bool (decide (r4.1 = 0)) ∧ Fr (KF K U) w wx ∧ KIs K U g gp np cap wx { s with P := r4.2.1 } r4.2.2)
                case first =>
                  have h8 : k = 0 ∨ k = 1 ∨ k = 2 ∨ k = 3 ∨ k = 4 ∨ k = 5 ∨ k = 6 ∨ k = 7 := by omega
                  rcases h8 with rfl | rfl | rfl | rfl | rfl | rfl | rfl | rfl
                  all_goals
                    first | (go_region_held3 (fun wx => wx.cell? ⟨g, 8, none⟩ = some (.int .i64 st)) (first | (show World.cell? wb _ = _; exact hcb) | go_keep) (first
                      | (go_at_call 106; refine (kchoose_any _ 0 1 _).mono ?_; rintro e wq ⟨rfl, rfl⟩)
                      | (go_at_call 105; refine (CB4.out _ _ (KI2.out.any hG.ok (by repeat (first | exact Fr.refl _ _ | refine Fr.drewN ?_ _ | refine Fr.drew ?_))) (by decide)).mono ?_; rintro e wb ⟨rfl, hfb, hkb⟩; have hcb : wb.cell? ⟨g, 8, none⟩ = some (.int .i64 st) := (by rw [HST.out]; have h := KIs.cst hkb; exact h)))) | fail
                    have HFB := hid hfb
                    have HKB := hid hkb
                    clear hfb hkb hcb
                    go_wp2_with fail
                    go_meet
                    refine ⟨?_, FR2.out.trans ((Fr.trans ((by repeat (first | exact Fr.refl _ _ | refine Fr.drewN ?_ _ | refine Fr.drew ?_))) HFB.out)), HKB.out⟩
                    congr 1
                    rw [Bool.eq_iff_iff]
                    simp
                case rest =>
                  obtain ⟨ht, hf1, h1⟩ := hcut
                  have FR4 := hid hf1
                  have KI4 := hid h1
                  obtain ⟨w4, hw1⟩ : ∃ w1, w1 = wc := ⟨_, rfl⟩
                  rw [← hw1] at FR4 KI4 ⊢
                  clear hf1 h1 hw1 d8' e4
                  by_cases hz : r4.1 = 0
                  · rw [decide_eq_true hz] at ht
                    subst ht
                    have HRE := hid (show R = ((3, false), r4.2) by rw [HRE4.out, ← HR4.out]; unfold kpick4; rw [if_pos hz])
                    clear hz
                    go_wp2_with fail
                    go_ret
                    rw [HRE.out]
                    refine ⟨rfl, FR4.out, ?_⟩
                    rw [Bool.or_false]
                    exact KI4.out
                  · rw [decide_eq_false hz] at ht
                    subst ht
                    have HRE5 := hid (show R = (((kpick5 (kbit K r4.2.1 r4.2.2 (228 + s.st) (chz (k == 4)))).1, false), (kpick5 (kbit K r4.2.1 r4.2.2 (228 + s.st) (chz (k == 4)))).2) by rw [HRE4.out, ← HR4.out]; unfold kpick4; rw [if_neg hz])
                    clear hz
                    obtain ⟨r5, hr5⟩ : ∃ r, r = kbit K r4.2.1 r4.2.2 (228 + s.st) (chz (k == 4)) := ⟨_, rfl⟩
                    obtain ⟨q5, hq5⟩ : ∃ q, q = 228 + st := ⟨_, rfl⟩
                    have e5 : IntKind.i64.wrap ((228 : Int) + (st : Int)) = (q5 : Int) := by simp only [IntKind.wrap_i64]; omega
                    have CB5 := hid (fun (W : World) (bb : Int) (hW : KIs K U g gp np cap W { s with P := r4.2.1 } r4.2.2) (he : bb = chz (k == 4)) => (show Calls Try.prog 105 #[.pointer (some ⟨g, 0, none⟩), .int .i64 q5, .int .i64 bb] W (KPost K U g gp np cap (.int .i64 r5.1) { s with P := r5.2.1 } r5.2.2 W) by
                      rw [he, hr5, hq5, HST.out]
                      exact hG.bit U g gp np cap _ r4.2.2 _ _ W hW (by have := HNP.out; have := HST.out; omega) (chz_may K _) (hG.ok.fitM _ _ _ (by decide) HF4.out)))
                    have HF5 := hid (show K.fit r5.2.2 0 by rw [hr5]; exact hG.ok.fitB _ _ _ 0 HF4.out)
                    have HR5 := hid hr5
                    have d8 := KI4.out.cst
                    have d8' : w4.cell? ⟨g, 8, none⟩ = some (.int .i64 st) := by rw [HST.out]; exact d8
                    clear hr5 hq5 d8
                    go_upto_region 14 with fail
                    go_cut [94] (fun t wx => t = .bool (decide (r5.1 = 0)) ∧ Fr (KF K U) w wx ∧ KIs K U g gp np cap wx { s with P := r5.2.1 } r5.2.2)
                    case first =>
                      have h8 : k = 0 ∨ k = 1 ∨ k = 2 ∨ k = 3 ∨ k = 4 ∨ k = 5 ∨ k = 6 ∨ k = 7 := by omega
                      rcases h8 with rfl | rfl | rfl | rfl | rfl | rfl | rfl | rfl
                      all_goals
                        first | (go_region_held3 (fun wx => wx.cell? ⟨g, 8, none⟩ = some (.int .i64 st)) (first | (show World.cell? wb _ = _; exact hcb) | go_keep) (first
                          | (go_at_call 106; refine (kchoose_any _ 0 1 _).mono ?_; rintro e wq ⟨rfl, rfl⟩)
                          | (go_at_call 105; refine (CB5.out _ _ (KI4.out.any hG.ok (by repeat (first | exact Fr.refl _ _ | refine Fr.drewN ?_ _ | refine Fr.drew ?_))) (by decide)).mono ?_; rintro e wb ⟨rfl, hfb, hkb⟩; have hcb : wb.cell? ⟨g, 8, none⟩ = some (.int .i64 st) := (by rw [HST.out]; have h := KIs.cst hkb; exact h)))) | fail
                        have HFB := hid hfb
                        have HKB := hid hkb
                        clear hfb hkb hcb
                        go_wp2_with fail
                        go_meet
                        refine ⟨?_, FR4.out.trans ((Fr.trans ((by repeat (first | exact Fr.refl _ _ | refine Fr.drewN ?_ _ | refine Fr.drew ?_))) HFB.out)), HKB.out⟩
                        congr 1
                        rw [Bool.eq_iff_iff]
                        simp
                    case rest =>
                      obtain ⟨ht, hf1, h1⟩ := hcut
                      have FR5 := hid hf1
                      have KI5 := hid h1
                      obtain ⟨w5, hw1⟩ : ∃ w1, w1 = wc := ⟨_, rfl⟩
                      rw [← hw1] at FR5 KI5 ⊢
                      clear hf1 h1 hw1 d8' e5
                      by_cases hz : r5.1 = 0
                      · rw [decide_eq_true hz] at ht
                        subst ht
                        have HRE := hid (show R = ((4, false), r5.2) by rw [HRE5.out, ← HR5.out]; unfold kpick5; rw [if_pos hz])
                        clear hz
                        go_wp2_with fail
                        go_ret
                        rw [HRE.out]
                        refine ⟨rfl, FR5.out, ?_⟩
                        rw [Bool.or_false]
                        exact KI5.out
                      · rw [decide_eq_false hz] at ht
                        subst ht
                        have HRE := hid (show R = ((5, false), r5.2) by rw [HRE5.out, ← HR5.out]; unfold kpick5; rw [if_neg hz])
                        clear hz
                        go_wp2_with fail
                        go_ret
                        rw [HRE.out]
                        refine ⟨rfl, FR5.out, ?_⟩
                        rw [Bool.or_false]
                        exact KI5.out
end Go.Proofs.Ytjnegcambbeblaa
