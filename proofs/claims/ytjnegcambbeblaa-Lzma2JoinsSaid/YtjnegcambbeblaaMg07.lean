/- Texts of this proof, one behind the other. -/
import Derived.Test.YtjnegcambbeblaaMg06
import Derived.Test.YtjnegcambbeblaaMg05

/- lzma: again. -/
namespace Go.Proofs.Ytjnegcambbeblaa
open Go.RowKit

def rotL (r : Nat → Nat) (k : Nat) : Nat → Nat := updN (shiftL r k) 0 (r k)
def lagEnd {S : Type} (nx : S → Int × Bool × S) (s : LS) (d : RD S) (sp : Nat) : Nat × LS × RD S :=
  ((ltell nx s.P d 1333 sp).1 + 2, { s with P := (ltell nx s.P d 1333 sp).2.1, st := nextL s.st 8 11 }, (ltell nx s.P d 1333 sp).2.2)
/-- which of the elder distances: none (one byte), or the k-th. -/
def lagPick {S : Type} (nx : S → Int × Bool × S) (P : Nat → Int) (d : RD S) (st sp : Nat) : Option Nat × (Nat → Int) × RD S :=
  if (lbit nx P d (204 + st)).1 = 0 then
    (if (lbit nx (lbit nx P d (204 + st)).2.1 (lbit nx P d (204 + st)).2.2 (240 + 16 * st + sp)).1 = 0 then none else some 0, (lbit nx (lbit nx P d (204 + st)).2.1 (lbit nx P d (204 + st)).2.2 (240 + 16 * st + sp)).2)
  else if (lbit nx (lbit nx P d (204 + st)).2.1 (lbit nx P d (204 + st)).2.2 (216 + st)).1 = 0 then
    (some 1, (lbit nx (lbit nx P d (204 + st)).2.1 (lbit nx P d (204 + st)).2.2 (216 + st)).2)
  else
    (some (2 + (lbit nx (lbit nx (lbit nx P d (204 + st)).2.1 (lbit nx P d (204 + st)).2.2 (216 + st)).2.1 (lbit nx (lbit nx P d (204 + st)).2.1 (lbit nx P d (204 + st)).2.2 (216 + st)).2.2 (228 + st)).1),
      (lbit nx (lbit nx (lbit nx P d (204 + st)).2.1 (lbit nx P d (204 + st)).2.2 (216 + st)).2.1 (lbit nx (lbit nx P d (204 + st)).2.1 (lbit nx P d (204 + st)).2.2 (216 + st)).2.2 (228 + st)).2)
def lagain {S : Type} (nx : S → Int × Bool × S) (s : LS) (d : RD S) (sp : Nat) : Nat × LS × RD S :=
  match (lagPick nx s.P d s.st sp).1 with
  | none => (1, { s with P := (lagPick nx s.P d s.st sp).2.1, st := nextL s.st 9 11 }, (lagPick nx s.P d s.st sp).2.2)
  | some k => lagEnd nx { s with P := (lagPick nx s.P d s.st sp).2.1, rep := if k = 0 then s.rep else rotL s.rep k } (lagPick nx s.P d s.st sp).2.2 sp
set_option maxRecDepth 100000 in
set_option maxHeartbeats 4000000 in
theorem lagain_any {S : Type} (L : LL) (t : Sour S) (ga gr : Nat) (s : LS) (d : RD (AhS S)) (sp : Nat) (w : World) (h : LOn L t ga gr w s d) (hs : sp < 16) :
    Calls Try.prog 92 #[.pointer (some ⟨L.gd, 0, none⟩), .int .i64 sp] w
      (LOPost L t ga gr (.int .i64 ((lagain (ahead t ga).nx s d sp).1 : Nat)) (lagain (ahead t ga).nx s d sp).2.1 (lagain (ahead t ga).nx s d sp).2.2 w) := by
  have hs0 : (0 : Int) ≤ (sp : Int) := by omega
  have hs1 : (sp : Int) < 16 := by omega
  have k8 := h.is_.headC 8 (v := .pointer (some ⟨gr, 0, none⟩)) (by decide) rfl
  have t1 := h.is_.tailC 1 (v := .int .i64 s.st) rfl
  have hst : s.st < 12 := h.is_.ok.st
  obtain ⟨st, hst'⟩ : ∃ st, st = s.st := ⟨_, rfl⟩
  rw [← hst'] at hst t1
  have st0 : (0 : Int) ≤ (st : Int) := by omega
  have st1 : (st : Int) < 12 := by omega
  have H := hid h
  obtain ⟨R, hR⟩ : ∃ R, R = lagain (ahead t ga).nx s d sp := ⟨_, rfl⟩
  rw [← hR]
  have hR2 := hR
  unfold lagain at hR2
  rw [← hst'] at hR2
  unfold lagPick at hR2
  have C1 := hid (fun w1 (h1 : LOn L t ga gr w1 s d) => lbitP L t ga gr s d (204 + st) (405 + st) w1 h1 (by omega) (by unfold sgL; rw [if_neg (by omega), if_pos (by omega)]; omega))
  have L1 := lbit_le (ahead t ga).nx s.P d (204 + st)
  generalize lbit (ahead t ga).nx s.P d (204 + st) = r1 at C1 L1 hR2
  obtain ⟨x1, P1, d1⟩ := r1
  dsimp only at C1 L1 hR2
  have HR := hid hR2
  have HST := hid hst'
  clear h hR hR2 hst'
  go_enter Try.func92, Try.ntmps92
  go_upto_region 1 with fail
  go_cut [22] (fun a wx => a = .bool ((x1 : Int) == 0) ∧ Fr (LFt L t ga gr) w wx ∧ LOn L t ga gr wx { s with P := P1 } d1)
  case first =>
    go_region_with (first | (go_at_call 87; refine (C1.out _ (by first | exact H.out.any ((Fr.refl Non _).drew) | exact H.out)).mono ?_; rintro e w4 ⟨rfl, hf4, h4⟩; have HF4 := hid hf4; have H4 := hid h4; clear hf4 h4))
    all_goals
      go_wp2_with fail
      go_meet
      exact ⟨rfl, Fr.trans (by first | exact (Fr.refl _ _).drew | exact Fr.refl _ _) HF4.out, H4.out⟩
  case rest =>
    obtain ⟨h22, hf1, h1⟩ := hcut
    subst h22
    obtain ⟨wq, hwq⟩ : ∃ wq, wq = wc := ⟨_, rfl⟩
    rw [← hwq] at hf1 h1 ⊢
    clear hwq k8 t1 C1
    have k8 := h1.is_.headC 8 (v := .pointer (some ⟨gr, 0, none⟩)) (by decide) rfl
    have t1 := h1.is_.tailC 1 (v := .int .i64 s.st) rfl
    rw [← HST.out] at t1
    have HF1 := hid hf1
    have H1 := hid h1
    clear hf1 h1
    go_upto_if 22 with fail
    go_cut [] (fun wx => ∃ (s' : LS) (d' : RD (AhS S)), Fr (LFt L t ga gr) w wx ∧ LOn L t ga gr wx s' d' ∧ R = lagEnd (ahead t ga).nx s' d' sp)
    case first =>
      by_cases hx1 : x1 = 0
      · subst hx1
        have hR := HR.out
        rw [if_pos rfl] at hR
        have C2 := hid (fun w1 (h1 : LOn L t ga gr w1 { s with P := P1 } d1) => lbitP L t ga gr { s with P := P1 } d1 (240 + 16 * st + sp) (201 + st * 16 + sp) w1 h1 (by omega) (by unfold sgL; rw [if_neg (by omega), if_neg (by omega), if_pos (by omega)]; omega))
        have L2 := lbit_le (ahead t ga).nx P1 d1 (240 + 16 * st + sp)
        dsimp only at C2
        generalize lbit (ahead t ga).nx P1 d1 (240 + 16 * st + sp) = r2 at C2 L2 hR
        obtain ⟨x2, P2, d2⟩ := r2
        dsimp only at C2 L2 hR
        have HR2 := hid hR
        clear hR
        go_wp2_with fail
        go_cut [39] (fun a wx => a = .bool ((x2 : Int) == 0) ∧ Fr (LFt L t ga gr) wq wx ∧ LOn L t ga gr wx { s with P := P2 } d2)
        case first =>
          go_region_with (first | (go_at_call 87; refine (C2.out _ (by first | exact H1.out.any ((Fr.refl Non _).drew) | exact H1.out)).mono ?_; rintro e w4 ⟨rfl, hf4, h4⟩; have HF4 := hid hf4; have H4 := hid h4; clear hf4 h4))
          all_goals
            simp only [List.getElem_toArray, List.getElem_cons_zero, List.getElem_cons_succ, Act.put, List.setIfInBounds_toArray, List.set_cons_zero, List.set_cons_succ]
            go_wp2_with fail
            go_meet
            exact ⟨rfl, Fr.trans (by first | exact (Fr.refl _ _).drew | exact Fr.refl _ _) HF4.out, H4.out⟩
        case rest =>
          obtain ⟨h39, hf2, h2⟩ := hcut
          subst h39
          have HF2 := hid hf2
          have H2 := hid h2
          clear hf2 h2
          by_cases hx2 : x2 = 0
          · subst hx2
            have hR := HR2.out
            rw [if_pos rfl] at hR
            have HR3 := hid hR
            clear hR
            go_wp2_with fail
            refine (lnextS_any L t ga gr { s with P := P2 } d2 9 11 _ H2.out (by decide) (by decide)).mono ?_
            rintro e w3 ⟨rfl, hf3, h3⟩
            have HF3 := hid hf3
            have H3 := hid h3
            clear hf3 h3
            go_wp2_with fail
            go_ret
            rw [HR3.out, HST.out]
            exact ⟨rfl, (HF1.out.trans HF2.out).trans HF3.out, H3.out⟩
          · have e2 : x2 = 1 := by omega
            subst e2
            have hR := HR2.out
            rw [if_neg (by decide)] at hR
            have HR3 := hid hR
            clear hR
            go_wp2_with fail
            go_meet
            exact ⟨_, _, HF1.out.trans HF2.out, H2.out, HR3.out.trans (by rw [HST.out]; rfl)⟩
      · have e1 : x1 = 1 := by omega
        subst e1
        have hR := HR.out
        rw [if_neg (by decide)] at hR
        have C2 := hid (fun w1 (h1 : LOn L t ga gr w1 { s with P := P1 } d1) => lbitP L t ga gr { s with P := P1 } d1 (216 + st) (417 + st) w1 h1 (by omega) (by unfold sgL; rw [if_neg (by omega), if_pos (by omega)]; omega))
        have L2 := lbit_le (ahead t ga).nx P1 d1 (216 + st)
        dsimp only at C2
        generalize lbit (ahead t ga).nx P1 d1 (216 + st) = r2 at C2 L2 hR
        obtain ⟨x2, P2, d2⟩ := r2
        dsimp only at C2 L2 hR
        have HR2 := hid hR
        clear hR
        go_upto_region 6 with fail
        go_cut [56] (fun a wx => a = .bool ((x2 : Int) == 1) ∧ Fr (LFt L t ga gr) wq wx ∧ LOn L t ga gr wx { s with P := P2 } d2)
        case first =>
          go_region_with (first | (go_at_call 87; refine (C2.out _ (by first | exact H1.out.any ((Fr.refl Non _).drew) | exact H1.out)).mono ?_; rintro e w4 ⟨rfl, hf4, h4⟩; have HF4 := hid hf4; have H4 := hid h4; clear hf4 h4))
          all_goals
            simp only [List.getElem_toArray, List.getElem_cons_zero, List.getElem_cons_succ, Act.put, List.setIfInBounds_toArray, List.set_cons_zero, List.set_cons_succ]
            go_wp2_with fail
            go_meet
            exact ⟨rfl, Fr.trans (by first | exact (Fr.refl _ _).drew | exact Fr.refl _ _) HF4.out, H4.out⟩
        case rest =>
          obtain ⟨h56, hf2, h2⟩ := hcut
          subst h56
          obtain ⟨wr, hwr⟩ : ∃ wr, wr = wc := ⟨_, rfl⟩
          rw [← hwr] at hf2 h2 ⊢
          clear hwr k8 t1 C2
          have k8 := h2.is_.headC 8 (v := .pointer (some ⟨gr, 0, none⟩)) (by decide) rfl
          have t1 := h2.is_.tailC 1 (v := .int .i64 s.st) rfl
          rw [← HST.out] at t1
          have HF2 := hid hf2
          have H2 := hid h2
          clear hf2 h2
          go_upto_if 56 with fail
          go_cut [5] (fun a wx => ∃ (k : Nat) (P3 : Nat → Int) (d3 : RD (AhS S)), a = .int .i64 k ∧ (k = 1 ∨ k = 2 ∨ k = 3) ∧ Fr (LFt L t ga gr) wr wx ∧ LOn L t ga gr wx { s with P := P3 } d3 ∧ R = lagEnd (ahead t ga).nx { s with P := P3, rep := rotL s.rep k } d3 sp)
          case first =>
            by_cases hx2 : x2 = 0
            · subst hx2
              have hR := HR2.out
              rw [if_pos rfl] at hR
              have HR3 := hid hR
              clear hR
              go_wp2_with fail
              go_meet
              exact ⟨1, P2, d2, rfl, .inl rfl, Fr.refl _ _, H2.out, HR3.out.trans (by rw [HST.out]; rfl)⟩
            · have e2 : x2 = 1 := by omega
              subst e2
              have hR := HR2.out
              rw [if_neg (by decide)] at hR
              have C3 := hid (fun w1 (h1 : LOn L t ga gr w1 { s with P := P2 } d2) => lbitP L t ga gr { s with P := P2 } d2 (228 + st) (429 + st) w1 h1 (by omega) (by unfold sgL; rw [if_neg (by omega), if_pos (by omega)]; omega))
              have L3 := lbit_le (ahead t ga).nx P2 d2 (228 + st)
              dsimp only at C3
              generalize lbit (ahead t ga).nx P2 d2 (228 + st) = r3 at C3 L3 hR
              obtain ⟨x3, P3, d3⟩ := r3
              dsimp only at C3 L3 hR
              have HR3 := hid hR
              have l0 : (0 : Int) ≤ (x3 : Int) := by omega
              have l1 : (x3 : Int) ≤ 1 := by omega
              have hw : IntKind.i64.wrap (2 + (x3 : Int)) = ((2 + x3 : Nat) : Int) := by rw [wrap_in _ (by omega) (by omega)]; omega
              clear hR
              go_wp2_with fail
              go_region_with (first | (go_at_call 87; refine (C3.out _ (by first | exact H2.out.any ((Fr.refl Non _).drew) | exact H2.out)).mono ?_; rintro e w4 ⟨rfl, hf4, h4⟩; have HF4 := hid hf4; have H4 := hid h4; clear hf4 h4))
              all_goals
                simp only [List.getElem_toArray, List.getElem_cons_zero, List.getElem_cons_succ, Act.put, List.setIfInBounds_toArray, List.set_cons_zero, List.set_cons_succ]
                go_wp2_with fail
                go_meet
                refine ⟨2 + x3, P3, d3, ?_, by omega, Fr.trans (by first | exact (Fr.refl _ _).drew | exact Fr.refl _ _) HF4.out, H4.out, ?_⟩
                · first | rfl | (congr 1; push_cast; rfl)
                · exact HR3.out.trans (by rw [HST.out, if_neg (by omega)])
          case rest =>
            obtain ⟨k, P3, d3, h5, hk, hf3, h3, hR⟩ := hcut
            subst h5
            obtain ⟨wt, hwt⟩ : ∃ wt, wt = wc := ⟨_, rfl⟩
            rw [← hwt] at hf3 h3 ⊢
            clear hwt k8 t1
            have q1 := h3.repCell (i := 1) (by decide)
            have q2 := h3.repCell (i := 2) (by decide)
            have q3 := h3.repCell (i := 3) (by decide)
            have HF3 := hid hf3
            have H3 := hid h3
            have HRE := hid hR
            clear hf3 h3 hR
            rcases hk with rfl | rfl | rfl
            · rw [show ((1 : Nat) : Int) = 1 from rfl]
              have hwk : IntKind.i64.wrap 2 = 2 := by decide
              go_upto_region 9 with fail
              go_cut [] (fun wx => Fr (LFt L t ga gr) wt wx ∧ LOn L t ga gr wx { s with P := P3, rep := shiftL s.rep 1 } d3)
              case first =>
                have HD := hid (H3.out.any (Fr.refl Non wt).drew)
                go_region_law ((refine step_copy_cells rfl (.tmp 83) (.tmp 88) 182 182 rfl 27 Try.underlying182 size_u32z L.gd 1859 1 3 ⟨L.gd, 1858, none⟩ 1 4 (by simp [Act.eval, Act.put]) (by simp [Act.eval, Act.put]) (repC s.rep 1) rfl (by exact HD.out.repSrc (by decide)) (fun j hj => (HD.out.repDst (by decide) j hj).1) (fun j hj => (HD.out.repDst (by decide) j hj).2) (repC_one _ _) ?_))
                all_goals
                  go_wp2_with fail
                  go_meet
                  exact ⟨(Fr.refl _ _).drew.trans (HD.out.shift (by decide) (by decide)).1, (HD.out.shift (by decide) (by decide)).2⟩
              case rest =>
                obtain ⟨hf4, h4⟩ := hcut
                have q0 := h4.repCell (i := 0) (by decide)
                have z0 := blk_frozen h4.is_.at_ (1858 + 0)
                have HF4 := hid hf4
                have H4 := hid h4
                have HRK := hid (H3.out.is_.ok.rep 1 (by decide))
                clear hf4 h4
                go_wp2_with fail
                go_meet
                exact ⟨_, _, (HF1.out.trans (HF2.out.trans (HF3.out.trans HF4.out))).setCell (p := ⟨L.gd, 1858, none⟩) (fun _ => .inl (.inl rfl)) _, H4.out.rep_ (i := 0) (by decide) HRK.out, HRE.out⟩
            · rw [show ((2 : Nat) : Int) = 2 from rfl]
              have hwk : IntKind.i64.wrap 3 = 3 := by decide
              go_upto_region 9 with fail
              go_cut [] (fun wx => Fr (LFt L t ga gr) wt wx ∧ LOn L t ga gr wx { s with P := P3, rep := shiftL s.rep 2 } d3)
              case first =>
                have HD := hid (H3.out.any (Fr.refl Non wt).drew)
                go_region_law ((refine step_copy_cells rfl (.tmp 83) (.tmp 88) 182 182 rfl 27 Try.underlying182 size_u32z L.gd 1859 2 3 ⟨L.gd, 1858, none⟩ 2 4 (by simp [Act.eval, Act.put]) (by simp [Act.eval, Act.put]) (repC s.rep 2) rfl (by exact HD.out.repSrc (by decide)) (fun j hj => (HD.out.repDst (by decide) j hj).1) (fun j hj => (HD.out.repDst (by decide) j hj).2) (repC_one _ _) ?_))
                all_goals
                  go_wp2_with fail
                  go_meet
                  exact ⟨(Fr.refl _ _).drew.trans (HD.out.shift (by decide) (by decide)).1, (HD.out.shift (by decide) (by decide)).2⟩
              case rest =>
                obtain ⟨hf4, h4⟩ := hcut
                have q0 := h4.repCell (i := 0) (by decide)
                have z0 := blk_frozen h4.is_.at_ (1858 + 0)
                have HF4 := hid hf4
                have H4 := hid h4
                have HRK := hid (H3.out.is_.ok.rep 2 (by decide))
                clear hf4 h4
                go_wp2_with fail
                go_meet
                exact ⟨_, _, (HF1.out.trans (HF2.out.trans (HF3.out.trans HF4.out))).setCell (p := ⟨L.gd, 1858, none⟩) (fun _ => .inl (.inl rfl)) _, H4.out.rep_ (i := 0) (by decide) HRK.out, HRE.out⟩
            · rw [show ((3 : Nat) : Int) = 3 from rfl]
              have hwk : IntKind.i64.wrap 4 = 4 := by decide
              go_upto_region 9 with fail
              go_cut [] (fun wx => Fr (LFt L t ga gr) wt wx ∧ LOn L t ga gr wx { s with P := P3, rep := shiftL s.rep 3 } d3)
              case first =>
                have HD := hid (H3.out.any (Fr.refl Non wt).drew)
                go_region_law ((refine step_copy_cells rfl (.tmp 83) (.tmp 88) 182 182 rfl 27 Try.underlying182 size_u32z L.gd 1859 3 3 ⟨L.gd, 1858, none⟩ 3 4 (by simp [Act.eval, Act.put]) (by simp [Act.eval, Act.put]) (repC s.rep 3) rfl (by exact HD.out.repSrc (by decide)) (fun j hj => (HD.out.repDst (by decide) j hj).1) (fun j hj => (HD.out.repDst (by decide) j hj).2) (repC_one _ _) ?_))
                all_goals
                  go_wp2_with fail
                  go_meet
                  exact ⟨(Fr.refl _ _).drew.trans (HD.out.shift (by decide) (by decide)).1, (HD.out.shift (by decide) (by decide)).2⟩
              case rest =>
                obtain ⟨hf4, h4⟩ := hcut
                have q0 := h4.repCell (i := 0) (by decide)
                have z0 := blk_frozen h4.is_.at_ (1858 + 0)
                have HF4 := hid hf4
                have H4 := hid h4
                have HRK := hid (H3.out.is_.ok.rep 3 (by decide))
                clear hf4 h4
                go_wp2_with fail
                go_meet
                exact ⟨_, _, (HF1.out.trans (HF2.out.trans (HF3.out.trans HF4.out))).setCell (p := ⟨L.gd, 1858, none⟩) (fun _ => .inl (.inl rfl)) _, H4.out.rep_ (i := 0) (by decide) HRK.out, HRE.out⟩
    case rest =>
      obtain ⟨s', d', hf1, h1, hR⟩ := hcut
      obtain ⟨wz, hwz⟩ : ∃ wz, wz = wc := ⟨_, rfl⟩
      rw [← hwz] at hf1 h1 ⊢
      clear hwz k8 t1
      have k8 := h1.is_.headC 8 (v := .pointer (some ⟨gr, 0, none⟩)) (by decide) rfl
      have C5 := hid (fun w1 (h1 : LOn L t ga gr w1 s' d') => ltell_any L t ga gr s' d' 1333 sp w1 h1 (by decide) (by decide) hs)
      rw [show 9 + 1333 = 1342 from rfl] at C5
      have L5 := ltell_lt (ahead t ga).nx s'.P d' 1333 sp
      unfold lagEnd at hR
      generalize ltell (ahead t ga).nx s'.P d' 1333 sp = r5 at C5 L5 hR
      obtain ⟨l, P5, d5⟩ := r5
      dsimp only at C5 L5 hR
      have l0 : (0 : Int) ≤ (l : Int) := by omega
      have l1 : (l : Int) < 272 := by omega
      have HF5 := hid hf1
      have H5 := hid h1
      have HRR := hid hR
      clear hf1 h1 hR
      go_upto_region 11 with fail
      go_cut [7] (fun a wx => a = .int .i64 l ∧ Fr (LFt L t ga gr) wz wx ∧ LOn L t ga gr wx { s' with P := P5 } d5)
      case first =>
        go_region_with (first | (go_at_call 116; refine (C5.out _ (by first | exact H5.out.any ((Fr.refl Non _).drew) | exact H5.out)).mono ?_; rintro e w4 ⟨rfl, hf4, h4⟩; have HF4 := hid hf4; have H4 := hid h4; clear hf4 h4))
        all_goals
          simp only [List.getElem_toArray, List.getElem_cons_zero, List.getElem_cons_succ, Act.put, List.setIfInBounds_toArray, List.set_cons_zero, List.set_cons_succ]
          go_wp2_with fail
          go_meet
          exact ⟨rfl, Fr.trans (by first | exact (Fr.refl _ _).drew | exact Fr.refl _ _) HF4.out, H4.out⟩
      case rest =>
        obtain ⟨h7, hf6, h6⟩ := hcut
        subst h7
        have HF6 := hid hf6
        have H6 := hid h6
        clear hf6 h6 k8 C5
        go_wp2_with fail
        refine (lnextS_any L t ga gr { s' with P := P5 } d5 8 11 _ H6.out (by decide) (by decide)).mono ?_
        rintro e w7 ⟨rfl, hf7, h7⟩
        have HF7 := hid hf7
        have H7 := hid h7
        clear hf7 h7
        go_wp2_with fail
        go_ret
        rw [HRR.out]
        exact ⟨by first | rfl | (congr 1; push_cast; rfl), (HF5.out.trans HF6.out).trans HF7.out, H7.out⟩
end Go.Proofs.Ytjnegcambbeblaa

/- lzma: a packet, plain. -/
namespace Go.Proofs.Ytjnegcambbeblaa
open Go.RowKit

/-- what follows behind a packet that is no literal: s as the packet leaves it. -/
def lpEnd {S : Type} (L : LL) (s : LS) (d : RD S) : LS :=
  if (s.bad || d.bad) || s.ended then { s with bad := s.bad || d.bad, left := 0 }
  else if s.dict ≤ s.rep 0 ∨ ¬ s.rep 0 < min s.H.length L.n then { s with bad := true, left := 0 }
  else { s with bad := s.bad || d.bad }
/-- a packet: whether it is a good literal, its byte; the state; the range decoder. -/
def lpacket {S : Type} (nx : S → Int × Bool × S) (L : LL) (s : LS) (d : RD S) : (Nat × Bool) × LS × RD S :=
  let sp := s.place % 2 ^ s.pb
  let r0 := lbit nx s.P d (16 * s.st + sp)
  if r0.1 = 0 then
    let q := llit nx L { s with P := r0.2.1 } r0.2.2
    ((q.1 % 256, !q.2.2.bad), { s with P := q.2.1, st := stL s.st, bad := q.2.2.bad }, q.2.2)
  else
    let r1 := lbit nx r0.2.1 r0.2.2 (192 + s.st)
    if r1.1 = 0 then
      let f := lfresh nx { s with P := r1.2.1 } r1.2.2 sp
      ((0, false), lpEnd L { f.2.1 with left := f.1 } f.2.2, f.2.2)
    else if min s.H.length L.n = 0 then
      ((0, false), lpEnd L { s with P := r1.2.1, bad := true } r1.2.2, r1.2.2)
    else
      let f := lagain nx { s with P := r1.2.1 } r1.2.2 sp
      ((0, false), lpEnd L { f.2.1 with left := f.1 } f.2.2, f.2.2)
end Go.Proofs.Ytjnegcambbeblaa

/- lzma: a packet's walk. -/
namespace Go.Proofs.Ytjnegcambbeblaa
open Go.RowKit

theorem LOn.left_ {S : Type} {L : LL} {t : Sour S} {ga gr : Nat} {w : World} {s : LS} {d : RD (AhS S)} (h : LOn L t ga gr w s d) {x : Nat} (hx : x ≤ 273) :
    LOn L t ga gr (w.setCell ⟨L.gd, 1863, none⟩ (.int .i64 x)) { s with left := x } d :=
  h.own ((Fr.refl _ _).setOne _ _) (T := fun k => k = L.gd) (fun _ e => .inl e) (h.is_.setT (i := 7) (s' := { s with left := x }) rfl rfl rfl rfl ⟨h.is_.ok.pr, h.is_.ok.st, h.is_.ok.rep, h.is_.ok.by_, h.is_.ok.lc, h.is_.ok.lp, h.is_.ok.pb, h.is_.ok.nl, h.is_.ok.dict, hx⟩)
theorem LOn.place_ {S : Type} {L : LL} {t : Sour S} {ga gr : Nat} {w : World} {s : LS} {d : RD (AhS S)} (h : LOn L t ga gr w s d) (x : Nat) :
    LOn L t ga gr (w.setCell ⟨L.gd, 1862, none⟩ (.int .i64 x)) { s with place := x } d :=
  h.own ((Fr.refl _ _).setOne _ _) (T := fun k => k = L.gd) (fun _ e => .inl e) (h.is_.setT (i := 6) (s' := { s with place := x }) rfl rfl rfl rfl ⟨h.is_.ok.pr, h.is_.ok.st, h.is_.ok.rep, h.is_.ok.by_, h.is_.ok.lc, h.is_.ok.lp, h.is_.ok.pb, h.is_.ok.nl, h.is_.ok.dict, h.is_.ok.left⟩)
theorem LOn.bad_ {S : Type} {L : LL} {t : Sour S} {ga gr : Nat} {w : World} {s : LS} {d : RD (AhS S)} (h : LOn L t ga gr w s d) (x : Bool) :
    LOn L t ga gr (w.setCell ⟨L.gd, 1865, none⟩ (.bool x)) { s with bad := x } d :=
  h.own ((Fr.refl _ _).setOne _ _) (T := fun k => k = L.gd) (fun _ e => .inl e) (h.is_.setT (i := 9) (s' := { s with bad := x }) rfl rfl rfl rfl ⟨h.is_.ok.pr, h.is_.ok.st, h.is_.ok.rep, h.is_.ok.by_, h.is_.ok.lc, h.is_.ok.lp, h.is_.ok.pb, h.is_.ok.nl, h.is_.ok.dict, h.is_.ok.left⟩)
theorem lfresh_le {S : Type} (nx : S → Int × Bool × S) (s : LS) (d : RD S) (sp : Nat) : (lfresh nx s d sp).1 ≤ 273 := by
  unfold lfresh
  dsimp only
  have := ltell_lt nx s.P d 819 sp
  split <;> omega
theorem lagEnd_le {S : Type} (nx : S → Int × Bool × S) (s : LS) (d : RD S) (sp : Nat) : (lagEnd nx s d sp).1 ≤ 273 := by
  unfold lagEnd
  have := ltell_lt nx s.P d 1333 sp
  show _ + 2 ≤ 273
  omega
theorem lagain_le {S : Type} (nx : S → Int × Bool × S) (s : LS) (d : RD S) (sp : Nat) : (lagain nx s d sp).1 ≤ 273 := by
  unfold lagain
  split
  · show 1 ≤ 273; omega
  · exact lagEnd_le _ _ _ _
end Go.Proofs.Ytjnegcambbeblaa

/- lzma: a packet's walk. -/
namespace Go.Proofs.Ytjnegcambbeblaa
open Go.RowKit

def LKPost {S : Type} (L : LL) (t : Sour S) (ga gr : Nat) (R : (Nat × Bool) × LS × RD (AhS S)) (w : World) (e : Ending) (w' : World) : Prop :=
  LOPost L t ga gr (.tuple #[.int .u8 (R.1.1 : Int), .bool R.1.2]) R.2.1 R.2.2 w e w'
theorem whas_same (g gr gm n : Nat) (H : List Int) (d : Nat) (w : World) (b : Bool) (h : WinIs g gr gm n w H) (hb : decide (d < min H.length n) = b) :
    Calls Try.prog 93 #[.pointer (some ⟨g, 0, none⟩), .int .i64 d] w fun e w' => e = .returned (.bool b) ∧ w' = w := by
  subst hb
  exact (whas_any g gr gm n H d w h).mono fun _ _ h => ⟨h.1, h.2.symm⟩
theorem lpEnd_out {S : Type} (L : LL) (s : LS) (d : RD S) :
    (((s.bad || d.bad) || s.ended) = true → lpEnd L s d = { s with bad := s.bad || d.bad, left := 0 }) ∧
    (((s.bad || d.bad) || s.ended) = false → (s.dict ≤ s.rep 0 ∨ ¬ s.rep 0 < min s.H.length L.n) → lpEnd L s d = { s with bad := true, left := 0 }) ∧
    (((s.bad || d.bad) || s.ended) = false → ¬ (s.dict ≤ s.rep 0 ∨ ¬ s.rep 0 < min s.H.length L.n) → lpEnd L s d = { s with bad := s.bad || d.bad }) := by
  refine ⟨fun h => ?_, fun h h2 => ?_, fun h h2 => ?_⟩
  · unfold lpEnd; rw [if_pos h]
  · unfold lpEnd; rw [if_neg (by rw [h]; decide), if_pos h2]
  · unfold lpEnd; rw [if_neg (by rw [h]; decide), if_neg h2]
set_option maxRecDepth 100000 in
set_option maxHeartbeats 800000 in
theorem lpacket_any {S : Type} (L : LL) (t : Sour S) (ga gr : Nat) (s : LS) (d : RD (AhS S)) (w : World) (h : LOn L t ga gr w s d) (hp : s.place ≤ 1000000) :
    Calls Try.prog 60 #[.pointer (some ⟨L.gd, 0, none⟩)] w (LKPost L t ga gr (lpacket (ahead t ga).nx L s d) w) := by
  have k2 := h.is_.headC 2 (v := .int .i64 s.pb) (by decide) rfl
  have t6 := h.is_.tailC 6 (v := .int .i64 s.place) rfl
  have hpb : (s.pb : Int) ≤ 4 := by have := h.is_.ok.pb; omega
  have hpb0 : (0 : Int) ≤ s.pb := by omega
  have hpl : (s.place : Int) ≤ 1000000 := by omega
  have hpl0 : (0 : Int) ≤ s.place := by omega
  have HM := hid (and_mask s.place s.pb (by omega) (by have := h.is_.ok.pb; omega))
  obtain ⟨R, hR⟩ : ∃ R, R = lpacket (ahead t ga).nx L s d := ⟨_, rfl⟩
  rw [← hR]
  unfold lpacket at hR
  have hsp : s.place % 2 ^ s.pb < 16 := Nat.lt_of_lt_of_le (Nat.mod_lt _ (Nat.pow_pos (by decide))) (Nat.pow_le_pow_right (by decide) h.is_.ok.pb)
  obtain ⟨sp, hspe⟩ : ∃ sp, sp = s.place % 2 ^ s.pb := ⟨_, rfl⟩
  rw [← hspe] at hR hsp HM
  have H := hid h
  have HR := hid hR
  clear h hp hR hspe
  go_enter Try.func60, Try.ntmps60
  go_upto_region 1 with fail
  go_cut [4] (fun a4 wx => a4 = .int .i64 sp ∧ Fr Non w wx)
  case first =>
    go_quiet (fail)
    go_wp2_with fail
    go_meet
    exact ⟨by rw [HM.out], (Fr.refl Non w).drewN _⟩
  case rest =>
    obtain ⟨h4, hf0⟩ := hcut
    subst h4
    obtain ⟨wq, hwq⟩ : ∃ wq, wq = wc := ⟨_, rfl⟩
    rw [← hwq] at hf0 ⊢
    clear hwq k2 t6
    have h := H.out.any hf0
    have k8 := h.is_.headC 8 (v := .pointer (some ⟨gr, 0, none⟩)) (by decide) rfl
    have t1 := h.is_.tailC 1 (v := .int .i64 s.st) rfl
    have hst : s.st < 12 := h.is_.ok.st
    obtain ⟨st, hst'⟩ : ∃ st, st = s.st := ⟨_, rfl⟩
    rw [← hst'] at hst t1
    have st0 : (0 : Int) ≤ (st : Int) := by omega
    have st1 : (st : Int) < 12 := by omega
    have sp0 : (0 : Int) ≤ (sp : Int) := by omega
    have sp1 : (sp : Int) < 16 := by omega
    have hR := HR.out
    dsimp only at hR
    have C1 := hid (fun w1 (h1 : LOn L t ga gr w1 s d) => lbitP L t ga gr s d (16 * st + sp) (9 + st * 16 + sp) w1 h1 (by omega) (by unfold sgL; rw [if_pos (by omega)]; omega))
    have L1 := lbit_le (ahead t ga).nx s.P d (16 * st + sp)
    rw [← hst'] at hR
    generalize lbit (ahead t ga).nx s.P d (16 * st + sp) = r1 at C1 L1 hR
    obtain ⟨x1, P1, d1⟩ := r1
    dsimp only at C1 L1 hR
    have HR1 := hid hR
    have HF0 := hid hf0
    have H1 := hid h
    have HST := hid hst'
    clear hR hf0 h hst'
    go_upto_region 2 with fail
    go_cut [35] (fun a wx => a = .bool ((x1 : Int) == 0) ∧ Fr (LFt L t ga gr) wq wx ∧ LOn L t ga gr wx { s with P := P1 } d1)
    case first =>
      go_region_with (first | (go_at_call 87; refine (C1.out _ (by first | exact H1.out.any ((Fr.refl Non _).drew) | exact H1.out)).mono ?_; rintro e w4 ⟨rfl, hf4, h4⟩; have HF4 := hid hf4; have H4 := hid h4; clear hf4 h4))
      all_goals
        simp only [List.getElem_toArray, List.getElem_cons_zero, List.getElem_cons_succ, Act.put, List.setIfInBounds_toArray, List.set_cons_zero, List.set_cons_succ]
        go_wp2_with fail
        go_meet
        exact ⟨rfl, Fr.trans (by first | exact (Fr.refl _ _).drew | exact Fr.refl _ _) HF4.out, H4.out⟩
    case rest =>
      obtain ⟨h35, hf1, h1⟩ := hcut
      subst h35
      obtain ⟨wr, hwr⟩ : ∃ wr, wr = wc := ⟨_, rfl⟩
      rw [← hwr] at hf1 h1 ⊢
      clear hwr k8 t1 C1
      have HF1 := hid hf1
      have H2 := hid h1
      clear hf1 h1
      by_cases hx1 : x1 = 0
      · subst hx1
        have hR := HR1.out
        rw [if_pos rfl, HST.out] at hR
        have C2 := hid (fun w1 (h1 : LOn L t ga gr w1 { s with P := P1 } d1) => llit_any L t ga gr { s with P := P1 } d1 w1 h1 (by show s.place ≤ 1000000; omega))
        generalize llit (ahead t ga).nx L { s with P := P1 } d1 = q at C2 hR
        obtain ⟨m, P2, d2⟩ := q
        dsimp only at C2 hR
        have HR2 := hid hR
        clear hR
        go_wp2_with fail
        refine (C2.out _ H2.out).mono ?_
        rintro e w3 ⟨rfl, hf3, h3⟩
        have k8 := h3.is_.headC 8 (v := .pointer (some ⟨gr, 0, none⟩)) (by decide) rfl
        have t9 := h3.is_.tailC 9 (v := .bool s.bad) rfl
        have z9 := blk_frozen h3.is_.at_ (1856 + 9)
        have HF3 := hid hf3
        have H3 := hid h3
        clear hf3 h3
        go_wp2_with fail
        refine (dbadq_any (ahead t ga) gr d2 _ H3.out.dec).mono ?_
        rintro e w4 ⟨rfl, rfl⟩
        go_wp2_with fail
        have H5 := hid (H3.out.bad_ d2.bad)
        have t9 := H5.out.is_.tailC 9 (v := .bool d2.bad) rfl
        have HF5 := hid ((HF0.out.mono (fun _ _ e => e.elim)).trans (HF1.out.trans (HF3.out.setCell (p := ⟨L.gd, 1865, none⟩) (fun _ => .inl (.inl rfl)) (.bool d2.bad))))
        obtain ⟨wv, hwv⟩ : ∃ wv, wv = w3.setCell ⟨L.gd, 1865, none⟩ (.bool d2.bad) := ⟨_, rfl⟩
        rw [← hwv] at t9 H5 HF5 ⊢
        clear hwv
        go_quiet (fail)
        go_wp2_with fail
        go_ret2
        rw [HR2.out]
        exact ⟨by first | rfl | (congr 1; push_cast; rfl), HF5.out.drewN _, H5.out.any ((Fr.refl Non _).drewN _)⟩
      · have e1 : x1 = 1 := by omega
        subst e1
        have hR := HR1.out
        rw [if_neg (by decide)] at hR
        have k8 := H2.out.is_.headC 8 (v := .pointer (some ⟨gr, 0, none⟩)) (by decide) rfl
        have t1 := H2.out.is_.tailC 1 (v := .int .i64 s.st) rfl
        rw [← HST.out] at t1
        have C2 := hid (fun w1 (h1 : LOn L t ga gr w1 { s with P := P1 } d1) => lbitP L t ga gr { s with P := P1 } d1 (192 + st) (393 + st) w1 h1 (by omega) (by unfold sgL; rw [if_neg (by omega), if_pos (by omega)]; omega))
        have L2 := lbit_le (ahead t ga).nx P1 d1 (192 + st)
        dsimp only at C2
        generalize lbit (ahead t ga).nx P1 d1 (192 + st) = r2 at C2 L2 hR
        obtain ⟨x2, P2, d2⟩ := r2
        dsimp only at C2 L2 hR
        have HR2 := hid hR
        clear hR
        go_upto_region 6 with fail
        go_cut [66] (fun a wx => a = .bool ((x2 : Int) == 0) ∧ Fr (LFt L t ga gr) wr wx ∧ LOn L t ga gr wx { s with P := P2 } d2)
        case first =>
          go_region_with (first | (go_at_call 87; refine (C2.out _ (by first | exact H2.out.any ((Fr.refl Non _).drew) | exact H2.out)).mono ?_; rintro e w4 ⟨rfl, hf4, h4⟩; have HF4 := hid hf4; have H4 := hid h4; clear hf4 h4))
          all_goals
            simp only [List.getElem_toArray, List.getElem_cons_zero, List.getElem_cons_succ, Act.put, List.setIfInBounds_toArray, List.set_cons_zero, List.set_cons_succ]
            go_wp2_with fail
            go_meet
            exact ⟨rfl, Fr.trans (by first | exact (Fr.refl _ _).drew | exact Fr.refl _ _) HF4.out, H4.out⟩
        case rest =>
          obtain ⟨h66, hf2, h2⟩ := hcut
          subst h66
          obtain ⟨wt, hwt⟩ : ∃ wt, wt = wc := ⟨_, rfl⟩
          rw [← hwt] at hf2 h2 ⊢
          clear hwt k8 t1 C2
          have k6 := h2.is_.headC 6 (v := .pointer (some ⟨L.gw, 0, none⟩)) (by decide) rfl
          have t9 := h2.is_.tailC 9 (v := .bool s.bad) rfl
          have z9 := blk_frozen h2.is_.at_ (1856 + 9)
          have HF2 := hid hf2
          have H4 := hid h2
          clear hf2 h2
          go_upto_if 66 with fail
          go_cut [] (fun wx => ∃ (s' : LS) (d' : RD (AhS S)), Fr (LFt L t ga gr) wt wx ∧ LOn L t ga gr wx s' d' ∧ R = ((0, false), lpEnd L s' d', d'))
          case first =>
            by_cases hx2 : x2 = 0
            · subst hx2
              have hR := HR2.out
              rw [if_pos rfl] at hR
              have C3 := hid (fun w1 (h1 : LOn L t ga gr w1 { s with P := P2 } d2) => lfresh_any L t ga gr { s with P := P2 } d2 sp w1 h1 hsp)
              have HR3 := hid hR
              clear hR
              go_wp2_with fail
              refine (C3.out _ H4.out).mono ?_
              rintro e w5 ⟨rfl, hf5, h5⟩
              have t7 := h5.is_.tailC 7 rfl
              have z7 := blk_frozen h5.is_.at_ (1856 + 7)
              have HF5 := hid hf5
              have H5 := hid h5
              clear hf5 h5
              go_wp2_with fail
              go_meet
              exact ⟨_, _, HF5.out.setCell (p := ⟨L.gd, 1863, none⟩) (fun _ => .inl (.inl rfl)) _, H5.out.left_ (lfresh_le _ _ _ _), HR3.out.trans (by rw [HST.out])⟩
            · have e2 : x2 = 1 := by omega
              subst e2
              have hR := HR2.out
              rw [if_neg (by decide)] at hR
              by_cases hc : min s.H.length L.n = 0
              · rw [if_pos hc] at hR
                have HR3 := hid hR
                have HC := hid hc
                clear hR hc
                go_wp2_with fail
                refine (wcount_any L.gw L.gn L.gm L.n s.H _ H4.out.is_.win).mono ?_
                rintro e w5 ⟨rfl, rfl⟩
                rw [HC.out]
                go_wp2_with fail
                go_meet
                exact ⟨_, _, (Fr.refl (LFt L t ga gr) _).setCell (p := ⟨L.gd, 1865, none⟩) (fun _ => .inl (.inl rfl)) _, H4.out.bad_ true, HR3.out.trans (by rw [HST.out])⟩
              · rw [if_neg hc] at hR
                obtain ⟨c, hce⟩ : ∃ c, c = min s.H.length L.n := ⟨_, rfl⟩
                have hc0 : ¬ (c : Int) = 0 := by omega
                have hcb : ((c : Int) == 0) = false := by simp; omega
                have C3 := hid (fun w1 (h1 : LOn L t ga gr w1 { s with P := P2 } d2) => lagain_any L t ga gr { s with P := P2 } d2 sp w1 h1 hsp)
                have HR3 := hid hR
                have HCE := hid hce
                clear hR hc hce
                go_wp2_with fail
                refine (wcount_any L.gw L.gn L.gm L.n s.H _ H4.out.is_.win).mono ?_
                rintro e w5 ⟨rfl, rfl⟩
                rw [← HCE.out]
                go_wp2_with fail
                refine (C3.out _ H4.out).mono ?_
                rintro e w5 ⟨rfl, hf5, h5⟩
                have t7 := h5.is_.tailC 7 rfl
                have z7 := blk_frozen h5.is_.at_ (1856 + 7)
                have HF5 := hid hf5
                have H5 := hid h5
                clear hf5 h5
                go_wp2_with fail
                go_meet
                exact ⟨_, _, HF5.out.setCell (p := ⟨L.gd, 1863, none⟩) (fun _ => .inl (.inl rfl)) _, H5.out.left_ (lagain_le _ _ _ _), HR3.out.trans (by rw [HST.out])⟩
          case rest =>
            obtain ⟨s', d', hf5, h5, hR⟩ := hcut
            obtain ⟨wz, hwz⟩ : ∃ wz, wz = wc := ⟨_, rfl⟩
            rw [← hwz] at hf5 h5 ⊢
            clear hwz k6 t9 z9
            have k8 := h5.is_.headC 8 (v := .pointer (some ⟨gr, 0, none⟩)) (by decide) rfl
            have t9 := h5.is_.tailC 9 (v := .bool s'.bad) rfl
            have z9 := blk_frozen h5.is_.at_ (1856 + 9)
            obtain ⟨b0, hb0⟩ : ∃ b, b = s'.bad := ⟨_, rfl⟩
            rw [← hb0] at t9
            have HF5 := hid ((HF0.out.mono (fun _ _ e => e.elim)).trans (HF1.out.trans (HF2.out.trans hf5)))
            have H5 := hid h5
            have HRR := hid hR
            have HB0 := hid hb0
            clear hf5 h5 hR hb0
            go_upto_region 11 with fail
            go_cut [] (fun wx => Fr (LFt L t ga gr) wz wx ∧ LOn L t ga gr wx { s' with bad := b0 || d'.bad } d')
            case first =>
              cases b0 with
              | true =>
                go_wp2_with fail
                go_meet
                exact ⟨(Fr.refl (LFt L t ga gr) _).setCell (p := ⟨L.gd, 1865, none⟩) (fun _ => .inl (.inl rfl)) _, H5.out.bad_ true⟩
              | false =>
                go_wp2_with fail
                refine (dbadq_any (ahead t ga) gr d' _ H5.out.dec).mono ?_
                rintro e w4 ⟨rfl, rfl⟩
                go_wp2_with fail
                go_meet
                exact ⟨(Fr.refl (LFt L t ga gr) _).setCell (p := ⟨L.gd, 1865, none⟩) (fun _ => .inl (.inl rfl)) _, H5.out.bad_ d'.bad⟩
            case rest =>
              obtain ⟨hf6, h6⟩ := hcut
              obtain ⟨wv, hwv⟩ : ∃ wv, wv = wc := ⟨_, rfl⟩
              rw [← hwv] at hf6 h6 ⊢
              clear hwv k8 t9 z9
              have k3 := h6.is_.headC 3 (v := .int .i64 s'.dict) (by decide) rfl
              have k6 := h6.is_.headC 6 (v := .pointer (some ⟨L.gw, 0, none⟩)) (by decide) rfl
              have t2 := h6.repCell (i := 0) (by decide)
              have t8 := h6.is_.tailC 8 (v := .bool s'.ended) rfl
              have t9 := h6.is_.tailC 9 (v := .bool (b0 || d'.bad)) rfl
              have z7 := blk_frozen h6.is_.at_ (1856 + 7)
              have z9 := blk_frozen h6.is_.at_ (1856 + 9)
              have hr0 := h6.is_.ok.rep 0 (by decide)
              have hdi := h6.is_.ok.dict
              have t7 := h6.is_.tailC 7 (v := .int .i64 s'.left) rfl
              obtain ⟨b, hb⟩ : ∃ b, b = (b0 || d'.bad) := ⟨_, rfl⟩
              obtain ⟨en, hen⟩ : ∃ en, en = s'.ended := ⟨_, rfl⟩
              obtain ⟨r0, hr0e⟩ : ∃ r0, r0 = s'.rep 0 := ⟨_, rfl⟩
              obtain ⟨di, hdie⟩ : ∃ di, di = s'.dict := ⟨_, rfl⟩
              change s'.rep 0 < 4294967296 at hr0
              change s'.dict ≤ 4294967295 at hdi
              change wv.cell? ⟨L.gd, 1858 + 0, none⟩ = some (.int .u32 (s'.rep 0)) at t2
              rw [← hb] at t9 h6
              rw [← hen] at t8
              rw [← hr0e] at t2 hr0
              rw [← hdie] at k3 hdi
              have HF6 := hid (HF5.out.trans hf6)
              have H6 := hid h6
              have HQ := hid hr0e
              have HB := hid hb
              have HEN := hid hen
              have HDI := hid hdie
              clear hf6 h6 hb hen hr0e hdie
              cases b with
              | true =>
                have hE := (lpEnd_out L s' d').1 (by rw [← HB0.out, ← HB.out]; rfl)
                rw [← HB0.out, ← HB.out] at hE
                have HE := hid hE
                clear hE
                go_wp2_with fail
                go_ret2
                rw [HRR.out, HE.out]
                exact ⟨rfl, HF6.out.setCell (p := ⟨L.gd, 1863, none⟩) (fun _ => .inl (.inl rfl)) _, H6.out.left_ (x := 0) (by decide)⟩
              | false =>
                cases en with
                | true =>
                  have hE := (lpEnd_out L s' d').1 (by rw [← HB0.out, ← HB.out, ← HEN.out]; rfl)
                  rw [← HB0.out, ← HB.out] at hE
                  have HE := hid hE
                  clear hE
                  go_wp2_with fail
                  go_ret2
                  rw [HRR.out, HE.out]
                  exact ⟨rfl, HF6.out.setCell (p := ⟨L.gd, 1863, none⟩) (fun _ => .inl (.inl rfl)) _, H6.out.left_ (x := 0) (by decide)⟩
                | false =>
                  have hw : IntKind.i64.wrap (r0 : Int) = (r0 : Int) := by rw [IntKind.wrap_i64]; omega
                  by_cases hge : di ≤ r0
                  · have hE := (lpEnd_out L s' d').2.1 (by rw [← HB0.out, ← HB.out, ← HEN.out]; rfl) (.inl (by rw [← HQ.out, ← HDI.out]; exact hge))
                    have HE := hid hE
                    have hgd : decide ((di : Int) ≤ (r0 : Int)) = true := decide_eq_true (by omega)
                    clear hE
                    go_upto_region 14 with fail
                    go_cut [140] (fun a wx => a = .bool true ∧ Fr Non wv wx)
                    case first =>
                      go_quiet (fail)
                      go_wp2_with fail
                      go_meet
                      exact ⟨by first | rfl | (rw [hgd]), (Fr.refl Non _).drewN _⟩
                    case rest =>
                      obtain ⟨h140, hf7⟩ := hcut
                      subst h140
                      obtain ⟨wy, hwy⟩ : ∃ wy, wy = wc := ⟨_, rfl⟩
                      rw [← hwy] at hf7 ⊢
                      clear hwy k3 k6 t2 t7 t8 t9 z7 z9
                      have h7 := H6.out.any hf7
                      have t7 := h7.is_.tailC 7 (v := .int .i64 s'.left) rfl
                      have t9 := h7.is_.tailC 9 (v := .bool false) rfl
                      have z7 := blk_frozen h7.is_.at_ (1856 + 7)
                      have z9 := blk_frozen h7.is_.at_ (1856 + 9)
                      have HF7 := hid (HF6.out.trans hf7.any)
                      have H7 := hid h7
                      clear hf7 h7
                      go_wp2_with fail
                      go_ret2
                      rw [HRR.out, HE.out]
                      exact ⟨rfl, (HF7.out.setCell (p := ⟨L.gd, 1865, none⟩) (fun _ => .inl (.inl rfl)) _).setCell (p := ⟨L.gd, 1863, none⟩) (fun _ => .inl (.inl rfl)) _, (H7.out.bad_ true).left_ (x := 0) (by decide)⟩
                  · have hlb : decide (di ≤ r0) = false := decide_eq_false hge
                    obtain ⟨hs, hhs⟩ : ∃ hs, hs = decide (r0 < min s'.H.length L.n) := ⟨_, rfl⟩
                    have HHS := hid hhs
                    have C7 := hid (fun w1 (h1 : LOn L t ga gr w1 { s' with bad := false } d') => whas_same L.gw L.gn L.gm L.n s'.H r0 w1 hs h1.is_.win HHS.out.symm)
                    clear hhs
                    cases hs with
                    | true =>
                      have hE := (lpEnd_out L s' d').2.2 (by rw [← HB0.out, ← HB.out, ← HEN.out]; rfl) (by rw [← HQ.out, ← HDI.out]; intro e; exact e.elim hge (fun e => e (of_decide_eq_true HHS.out.symm)))
                      rw [← HB0.out, ← HB.out] at hE
                      have HE := hid hE
                      clear hE hge
                      go_upto_region 14 with fail
                      go_cut [140] (fun a wx => a = .bool false ∧ Fr Non wv wx)
                      case first =>
                        go_quiet ((go_at_call 93; exact Calls.quiet_of_same (C7.out _ (by first | exact H6.out | exact H6.out.any ((Fr.refl Non _).drewN _)))))
                        go_wp2_with fail
                        go_meet
                        exact ⟨by rfl, (Fr.refl Non _).drewN _⟩
                      case rest =>
                        obtain ⟨h140, hf7⟩ := hcut
                        subst h140
                        obtain ⟨wy, hwy⟩ : ∃ wy, wy = wc := ⟨_, rfl⟩
                        rw [← hwy] at hf7 ⊢
                        clear hwy k3 k6 t2 t7 t8 t9 z7 z9
                        have HF7 := hid (HF6.out.trans hf7.any)
                        have H7 := hid (H6.out.any hf7)
                        clear hf7
                        go_wp2_with fail
                        go_ret2
                        rw [HRR.out, HE.out]
                        exact ⟨rfl, HF7.out, H7.out⟩
                    | false =>
                      have hE := (lpEnd_out L s' d').2.1 (by rw [← HB0.out, ← HB.out, ← HEN.out]; rfl) (.inr (by rw [← HQ.out]; exact of_decide_eq_false HHS.out.symm))
                      have HE := hid hE
                      clear hE hge
                      go_upto_region 14 with fail
                      go_cut [140] (fun a wx => a = .bool true ∧ Fr Non wv wx)
                      case first =>
                        go_quiet ((go_at_call 93; exact Calls.quiet_of_same (C7.out _ (by first | exact H6.out | exact H6.out.any ((Fr.refl Non _).drewN _)))))
                        go_wp2_with fail
                        go_meet
                        exact ⟨by rfl, (Fr.refl Non _).drewN _⟩
                      case rest =>
                        obtain ⟨h140, hf7⟩ := hcut
                        subst h140
                        obtain ⟨wy, hwy⟩ : ∃ wy, wy = wc := ⟨_, rfl⟩
                        rw [← hwy] at hf7 ⊢
                        clear hwy k3 k6 t2 t7 t8 t9 z7 z9
                        have h7 := H6.out.any hf7
                        have t7 := h7.is_.tailC 7 (v := .int .i64 s'.left) rfl
                        have t9 := h7.is_.tailC 9 (v := .bool false) rfl
                        have z7 := blk_frozen h7.is_.at_ (1856 + 7)
                        have z9 := blk_frozen h7.is_.at_ (1856 + 9)
                        have HF7 := hid (HF6.out.trans hf7.any)
                        have H7 := hid h7
                        clear hf7 h7
                        go_wp2_with fail
                        go_ret2
                        rw [HRR.out, HE.out]
                        exact ⟨rfl, (HF7.out.setCell (p := ⟨L.gd, 1865, none⟩) (fun _ => .inl (.inl rfl)) _).setCell (p := ⟨L.gd, 1863, none⟩) (fun _ => .inl (.inl rfl)) _, (H7.out.bad_ true).left_ (x := 0) (by decide)⟩
end Go.Proofs.Ytjnegcambbeblaa

/- lzma: Next. -/
namespace Go.Proofs.Ytjnegcambbeblaa
open Go.RowKit

def lputS (s : LS) (b : Int) : LS := { s with H := s.H ++ [b], place := s.place + 1 }
def lnext2 {S : Type} (L : LL) (s : LS) (d : RD S) : (Int × Bool) × LS × RD S :=
  if s.left = 0 then ((0, false), s, d)
  else ((backH s.H L.n (s.rep 0), true), { s with left := s.left - 1, place := s.place + 1, H := s.H ++ [backH s.H L.n (s.rep 0)] }, d)
/-- the next byte, whether there is one; the decoder behind it. -/
def lnext {S : Type} (nx : S → Int × Bool × S) (L : LL) (s : LS) (d : RD S) : (Int × Bool) × LS × RD S :=
  if s.bad = true ∨ s.ended = true then ((0, false), s, d)
  else if s.left = 0 then
    if (lpacket nx L s d).1.2 = true then ((((lpacket nx L s d).1.1 : Nat), true), lputS (lpacket nx L s d).2.1 ((lpacket nx L s d).1.1 : Nat), (lpacket nx L s d).2.2)
    else lnext2 L (lpacket nx L s d).2.1 (lpacket nx L s d).2.2
  else lnext2 L s d
/-- what is to be copied is there. -/
def LS.Fit (L : LL) (s : LS) : Prop := s.left ≠ 0 → s.rep 0 < min s.H.length L.n
/-- what a packet leaves as it was. -/
structure LSame (s s' : LS) : Prop where
  place : s'.place = s.place
  H : s'.H = s.H
  lc : s'.lc = s.lc
  lp : s'.lp = s.lp
  pb : s'.pb = s.pb
  dict : s'.dict = s.dict
  taken : s'.taken = s.taken
theorem LSame.refl (s : LS) : LSame s s := ⟨rfl, rfl, rfl, rfl, rfl, rfl, rfl⟩
theorem LSame.trans {a b c : LS} (h : LSame a b) (h2 : LSame b c) : LSame a c :=
  ⟨h2.place.trans h.place, h2.H.trans h.H, h2.lc.trans h.lc, h2.lp.trans h.lp, h2.pb.trans h.pb, h2.dict.trans h.dict, h2.taken.trans h.taken⟩
theorem lpEnd_same {S : Type} (L : LL) (s : LS) (d : RD S) : LSame s (lpEnd L s d) := by
  unfold lpEnd
  split
  · exact ⟨rfl, rfl, rfl, rfl, rfl, rfl, rfl⟩
  · split <;> exact ⟨rfl, rfl, rfl, rfl, rfl, rfl, rfl⟩
theorem lpEnd_fit {S : Type} (L : LL) (s : LS) (d : RD S) : (lpEnd L s d).Fit L := by
  unfold lpEnd
  split
  · exact fun h => absurd rfl h
  · split
    · exact fun h => absurd rfl h
    · rename_i h
      intro _
      show s.rep 0 < min s.H.length L.n
      by_cases e : s.rep 0 < min s.H.length L.n
      · exact e
      · exact absurd (.inr e) h
theorem lagain_same {S : Type} (nx : S → Int × Bool × S) (s : LS) (d : RD S) (sp : Nat) : LSame s (lagain nx s d sp).2.1 := by
  unfold lagain
  split
  · exact ⟨rfl, rfl, rfl, rfl, rfl, rfl, rfl⟩
  · exact ⟨rfl, rfl, rfl, rfl, rfl, rfl, rfl⟩
theorem lpEnd_same' {S : Type} {a : LS} (L : LL) (s : LS) (d : RD S) (h : LSame a s) : LSame a (lpEnd L s d) := h.trans (lpEnd_same L s d)
theorem lpacket_same {S : Type} (nx : S → Int × Bool × S) (L : LL) (s : LS) (d : RD S) : LSame s (lpacket nx L s d).2.1 := by
  unfold lpacket
  dsimp only
  split
  · exact ⟨rfl, rfl, rfl, rfl, rfl, rfl, rfl⟩
  · split
    · refine lpEnd_same' L _ _ ?_
      exact ⟨rfl, rfl, rfl, rfl, rfl, rfl, rfl⟩
    · split
      · dsimp only
        refine lpEnd_same' L _ _ ?_
        exact ⟨rfl, rfl, rfl, rfl, rfl, rfl, rfl⟩
      · dsimp only
        refine lpEnd_same' L _ _ ?_
        have := lagain_same nx { s with P := (lbit nx (lbit nx s.P d (16 * s.st + s.place % 2 ^ s.pb)).2.1 (lbit nx s.P d (16 * s.st + s.place % 2 ^ s.pb)).2.2 (192 + s.st)).2.1 } (lbit nx (lbit nx s.P d (16 * s.st + s.place % 2 ^ s.pb)).2.1 (lbit nx s.P d (16 * s.st + s.place % 2 ^ s.pb)).2.2 (192 + s.st)).2.2 (s.place % 2 ^ s.pb)
        exact ⟨this.place, this.H, this.lc, this.lp, this.pb, this.dict, this.taken⟩
theorem lpacket_fit {S : Type} (nx : S → Int × Bool × S) (L : LL) (s : LS) (d : RD S) (h : s.left = 0) : (lpacket nx L s d).2.1.Fit L := by
  unfold lpacket
  dsimp only
  split
  · exact fun e => absurd h e
  · split
    · exact lpEnd_fit L _ _
    · split <;> exact lpEnd_fit L _ _
theorem lpacket_lt {S : Type} (nx : S → Int × Bool × S) (L : LL) (s : LS) (d : RD S) : (lpacket nx L s d).1.1 < 256 := by
  unfold lpacket
  dsimp only
  split
  · exact Nat.mod_lt _ (by decide)
  · split
    · exact (show 0 < 256 by decide)
    · split <;> exact (show 0 < 256 by decide)
theorem lnext2_fit {S : Type} (L : LL) (s : LS) (d : RD S) (h : s.Fit L) : (lnext2 L s d).2.1.Fit L := by
  unfold lnext2
  split
  · exact h
  · rename_i h0
    intro h1
    have := h h0
    show s.rep 0 < min (s.H ++ [_]).length L.n
    simp
    omega
theorem lnext_fit {S : Type} (nx : S → Int × Bool × S) (L : LL) (s : LS) (d : RD S) (h : s.Fit L) : (lnext nx L s d).2.1.Fit L := by
  unfold lnext
  split
  · exact h
  · split
    · rename_i h0
      split
      · have := lpacket_fit nx L s d h0
        intro h1
        have := this h1
        show (lpacket nx L s d).2.1.rep 0 < min (_ ++ [_]).length L.n
        simp
        omega
      · exact lnext2_fit L _ _ (lpacket_fit nx L s d h0)
    · exact lnext2_fit L _ _ h
theorem lnext2_place {S : Type} (L : LL) (s : LS) (d : RD S) : (lnext2 L s d).2.1.place ≤ s.place + 1 := by
  unfold lnext2
  split
  · exact Nat.le_succ _
  · exact Nat.le_refl _
theorem lnext_place {S : Type} (nx : S → Int × Bool × S) (L : LL) (s : LS) (d : RD S) : (lnext nx L s d).2.1.place ≤ s.place + 1 := by
  have e := (lpacket_same nx L s d).place
  unfold lnext
  split
  · exact Nat.le_succ _
  · split
    · split
      · show (lpacket nx L s d).2.1.place + 1 ≤ _
        omega
      · have := lnext2_place L (lpacket nx L s d).2.1 (lpacket nx L s d).2.2
        omega
    · exact lnext2_place L s d
theorem LOn.put {S : Type} {L : LL} {t : Sour S} {ga gr : Nat} {w w' : World} {s s' : LS} {d : RD (AhS S)} (h : LOn L t ga gr w s d) (hf : Fr L.foot w w') (h' : LIs L (.pointer (some ⟨ga, 0, none⟩)) (.pointer (some ⟨gr, 0, none⟩)) w' s') : LOn L t ga gr w' s' d := h.own hf (fun _ e => e) h'
def LXPost {S : Type} (L : LL) (t : Sour S) (ga gr : Nat) (R : (Int × Bool) × LS × RD (AhS S)) (w : World) (e : Ending) (w' : World) : Prop :=
  LOPost L t ga gr (.tuple #[.int .u8 R.1.1, .bool R.1.2]) R.2.1 R.2.2 w e w'
set_option maxRecDepth 100000 in
set_option maxHeartbeats 800000 in
theorem lnext_any {S : Type} (L : LL) (t : Sour S) (ga gr : Nat) (s : LS) (d : RD (AhS S)) (w : World) (h : LOn L t ga gr w s d) (hp : s.place ≤ 1000000) (hfit : s.Fit L) :
    Calls Try.prog 23 #[.pointer (some ⟨L.gd, 0, none⟩)] w (LXPost L t ga gr (lnext (ahead t ga).nx L s d) w) := by
  obtain ⟨R, hR⟩ : ∃ R, R = lnext (ahead t ga).nx L s d := ⟨_, rfl⟩
  rw [← hR]
  unfold lnext at hR
  have k8 := h.is_.headC 8 (v := .pointer (some ⟨gr, 0, none⟩)) (by decide) rfl
  have t7 := h.is_.tailC 7 (v := .int .i64 s.left) rfl
  have t8 := h.is_.tailC 8 (v := .bool s.ended) rfl
  have t9 := h.is_.tailC 9 (v := .bool s.bad) rfl
  have H := hid h
  obtain ⟨b, hb⟩ : ∃ b, b = s.bad := ⟨_, rfl⟩
  obtain ⟨en, hen⟩ : ∃ en, en = s.ended := ⟨_, rfl⟩
  obtain ⟨l, hl⟩ : ∃ l, l = s.left := ⟨_, rfl⟩
  rw [← hb, ← hen, ← hl] at hR
  rw [← hb] at t9
  rw [← hen] at t8
  rw [← hl] at t7
  have HR := hid hR
  have HL := hid hl
  have HFI := hid hfit
  have HPL := hid (show (s.place : Int) ≤ 1000000 by omega)
  clear h hR hb hen hl hfit hp
  go_enter Try.func23, Try.ntmps23
  cases b with
  | true =>
    have hR := HR.out
    rw [if_pos (.inl rfl)] at hR
    have HR2 := hid hR
    clear hR
    go_wp2_with fail
    go_ret2
    rw [HR2.out]
    exact ⟨rfl, Fr.refl _ _, H.out⟩
  | false =>
    cases en with
    | true =>
      have hR := HR.out
      rw [if_pos (.inr rfl)] at hR
      have HR2 := hid hR
      clear hR
      go_wp2_with fail
      go_ret2
      rw [HR2.out]
      exact ⟨rfl, Fr.refl _ _, H.out⟩
    | false =>
      have hR := HR.out
      rw [if_neg (by decide)] at hR
      have HR2 := hid hR
      clear hR
      go_upto_if 27 with fail
      go_cut [] (fun wx => ∃ (s' : LS) (d' : RD (AhS S)), Fr (LFt L t ga gr) w wx ∧ LOn L t ga gr wx s' d' ∧ s'.Fit L ∧ s'.place ≤ s.place ∧ R = lnext2 L s' d')
      case first =>
        by_cases hl0 : l = 0
        · subst hl0
          have hR := HR2.out
          rw [if_pos rfl] at hR
          have C1 := hid (lpacket_any L t ga gr s d w H.out (by have := HPL.out; omega))
          have q1 := lpacket_lt (ahead t ga).nx L s d
          have q2 := (lpacket_same (ahead t ga).nx L s d).place
          have q3 := hid (lpacket_fit (ahead t ga).nx L s d HL.out.symm)
          generalize lpacket (ahead t ga).nx L s d = q at C1 q1 q2 q3 hR
          obtain ⟨⟨x, ok⟩, s1, d1⟩ := q
          dsimp only at C1 q1 q2 q3 hR
          have HR3 := hid hR
          clear hR
          go_wp2_with fail
          refine C1.out.mono ?_
          rintro e w4 ⟨rfl, hf4, h4⟩
          have HF4 := hid hf4
          have H4 := hid h4
          dsimp only at H4
          clear hf4 h4
          cases ok with
          | true =>
            have hR := HR3.out
            rw [if_pos rfl] at hR
            have HR4 := hid hR
            have hx0 : (0 : Int) ≤ (x : Int) := by omega
            have hx1 : (x : Int) < 256 := by omega
            have HQ2 := hid q2
            clear hR q1 q2
            go_wp2_with fail
            refine (lput_any L _ _ s1 (x : Int) _ H4.out.is_ ⟨hx0, hx1⟩ (by have := HQ2.out; have := HPL.out; omega)).mono ?_
            rintro e w5 ⟨rfl, hf5, h5⟩
            have H5 := hid (H4.out.put hf5 h5)
            have HF5 := hid (HF4.out.trans (hf5.mono (fun _ _ e => .inl e) : Fr (LFt L t ga gr) w4 w5))
            clear hf5 h5
            go_wp2_with fail
            go_ret2
            rw [HR4.out]
            exact ⟨rfl, HF5.out, H5.out⟩
          | false =>
            have hR := HR3.out
            rw [if_neg (by decide)] at hR
            have HR4 := hid hR
            have HQ2 := hid q2
            clear hR q2
            go_wp2_with fail
            go_meet
            exact ⟨_, _, HF4.out, H4.out, q3.out, Nat.le_of_eq HQ2.out, HR4.out⟩
        · have hR := HR2.out
          rw [if_neg hl0] at hR
          have HR3 := hid hR
          have hlb : ((l : Int) == 0) = false := by simp; omega
          clear hR
          go_wp2_with fail
          go_meet
          exact ⟨s, d, Fr.refl _ _, H.out, HFI.out, Nat.le_refl _, HR3.out⟩
      case rest =>
        obtain ⟨s', d', hf1, h1, hfit, hpl, hR⟩ := hcut
        obtain ⟨wz, hwz⟩ : ∃ wz, wz = wc := ⟨_, rfl⟩
        rw [← hwz] at hf1 h1 ⊢
        clear hwz k8 t7 t8 t9
        unfold lnext2 at hR
        have t7 := h1.is_.tailC 7 (v := .int .i64 s'.left) rfl
        have z7 := blk_frozen h1.is_.at_ (1856 + 7)
        have z6 := blk_frozen h1.is_.at_ (1856 + 6)
        have t6 := h1.is_.tailC 6 (v := .int .i64 s'.place) rfl
        have k6 := h1.is_.headC 6 (v := .pointer (some ⟨L.gw, 0, none⟩)) (by decide) rfl
        have r0 := h1.repCell (i := 0) (by decide)
        change wz.cell? ⟨L.gd, 1858, none⟩ = some (.int .u32 (s'.rep 0)) at r0
        have hle := h1.is_.ok.left
        have hre := h1.is_.ok.rep 0 (by decide)
        obtain ⟨l1, hl1⟩ : ∃ l, l = s'.left := ⟨_, rfl⟩
        obtain ⟨r, hre2⟩ : ∃ r, r = s'.rep 0 := ⟨_, rfl⟩
        rw [← hl1] at t7 hle hR
        rw [← hre2] at r0 hre
        have hp0 : (0 : Int) ≤ (s'.place : Int) := by omega
        have hp1 : (s'.place : Int) ≤ 1000000 := by have := HPL.out; omega
        have HF1 := hid hf1
        have H1 := hid h1
        have HFT := hid hfit
        have HL1 := hid hl1
        have HRE := hid hre2
        have HRR := hid hR
        clear hf1 h1 hfit hl1 hre2 hR hpl
        by_cases hl0 : l1 = 0
        · subst hl0
          have hR := HRR.out
          rw [if_pos rfl] at hR
          have HR3 := hid hR
          clear hR
          go_wp2_with fail
          go_ret2
          rw [HR3.out]
          exact ⟨rfl, HF1.out, H1.out⟩
        · have hR := HRR.out
          rw [if_neg hl0] at hR
          have HR3 := hid hR
          have hlb : ((l1 : Int) == 0) = false := by simp; omega
          have hl0' : (1 : Int) ≤ (l1 : Int) := by omega
          have hl9 : (l1 : Int) ≤ 273 := by omega
          clear hR
          go_upto_region 12 with fail
          rw [show ((l1 : Int) - 1) = ((l1 - 1 : Nat) : Int) by omega, show ((s'.place : Int) + 1) = ((s'.place + 1 : Nat) : Int) by omega]
          obtain ⟨wv, hwv⟩ : ∃ wv, wv = (wz.setCell ⟨L.gd, 1863, none⟩ (.int .i64 ((l1 - 1 : Nat) : Int))).setCell ⟨L.gd, 1862, none⟩ (.int .i64 ((s'.place + 1 : Nat) : Int)) := ⟨_, rfl⟩
          rw [← hwv]
          have h6 : LOn L t ga gr wv { s' with left := l1 - 1, place := s'.place + 1 } d' := by
            rw [hwv]
            exact (H1.out.left_ (x := l1 - 1) (by omega)).place_ (s'.place + 1)
          have hf6 : Fr (LFt L t ga gr) w wv := by
            rw [hwv]
            exact (HF1.out.setCell (p := ⟨L.gd, 1863, none⟩) (fun _ => .inl (.inl rfl)) _).setCell (p := ⟨L.gd, 1862, none⟩) (fun _ => .inl (.inl rfl)) _
          clear hwv t6 t7 z6 z7 k6 r0 hl0' hl9 hp0 hp1
          have k6 := h6.is_.headC 6 (v := .pointer (some ⟨L.gw, 0, none⟩)) (by decide) rfl
          have r0 := h6.repCell (i := 0) (by decide)
          change wv.cell? ⟨L.gd, 1858, none⟩ = some (.int .u32 (s'.rep 0)) at r0
          rw [← HRE.out] at r0
          have hw : IntKind.i64.wrap (r : Int) = (r : Int) := by rw [IntKind.wrap_i64]; omega
          have hby := h6.is_.ok.by_
          have hrm : r < min s'.H.length L.n := by rw [HRE.out]; exact HFT.out (by rw [← HL1.out]; exact hl0)
          have C6 := hid (fun w1 (h1 : WinIs L.gw L.gn L.gm L.n w1 s'.H) => wcopy_any L.gw L.gn L.gm L.n s'.H r w1 h1 hby hrm)
          have HBY := hid hby
          have H6 := hid h6
          have HF6 := hid hf6
          clear h6 hf6 hby hrm
          go_region_with (first | (go_at_call 62; refine (C6.out _ (by first | exact H6.out.is_.win | exact (H6.out.any ((Fr.refl Non _).drew)).is_.win)).mono ?_; rintro e w7 ⟨rfl, hf7, hw7⟩; have HF7 := hid hf7; have HW7 := hid hw7; clear hf7 hw7) | fail)
          all_goals
            simp only [List.getElem_toArray, List.getElem_cons_zero, List.getElem_cons_succ, Act.put, List.setIfInBounds_toArray, List.set_cons_zero, List.set_cons_succ]
            go_wp2_with fail
            go_ret2
            rw [HR3.out, ← HRE.out]
            have hby2 := backH_by HBY.out L.n r
            refine ⟨rfl, HF6.out.trans ((Fr.trans (by first | exact (Fr.refl _ _).drew | exact Fr.refl _ _) HF7.out).mono (fun k _ e => .inl (foot_w L k e))), ?_⟩
            have h7 := (show LOn L t ga gr _ _ d' from H6.out.any (by first | exact (Fr.refl Non _).drew | exact Fr.refl Non _))
            have h8 := h7.put (HF7.out.mono (fun k _ e => foot_w L k e)) (h7.is_.win_ HF7.out HW7.out (bytesL_push HBY.out hby2))
            exact h8
end Go.Proofs.Ytjnegcambbeblaa

/- lzma: Finish. -/
namespace Go.Proofs.Ytjnegcambbeblaa
open Go.RowKit

def LS.spoil (s : LS) : LS := { s with bad := true }
/-- whether the stream ends; the decoder behind it. -/
def lfinish {S : Type} (nx : S → Int × Bool × S) (L : LL) (s : LS) (d : RD (AhS S)) : Bool × LS × RD (AhS S) :=
  if s.bad = true ∨ s.left ≠ 0 then (false, s, d)
  else if (lover nx s d).1 = true ∨ s.ended = true then ((lover nx s d).1, s.spoil, (lover nx s d).2)
  else
    if (lpacket (anx nx) L s (lover nx s d).2).2.1.ended = true then
      ((lover nx (lpacket (anx nx) L s (lover nx s d).2).2.1 (lpacket (anx nx) L s (lover nx s d).2).2.2).1, (lpacket (anx nx) L s (lover nx s d).2).2.1.spoil, (lover nx (lpacket (anx nx) L s (lover nx s d).2).2.1 (lpacket (anx nx) L s (lover nx s d).2).2.2).2)
    else (false, (lpacket (anx nx) L s (lover nx s d).2).2.1.spoil, (lpacket (anx nx) L s (lover nx s d).2).2.2)
def LFPost {S : Type} (L : LL) (t : Sour S) (ga gr : Nat) (R : Bool × LS × RD (AhS S)) (w : World) (e : Ending) (w' : World) : Prop :=
  LOPost L t ga gr (.bool R.1) R.2.1 R.2.2 w e w'
set_option maxRecDepth 100000 in
set_option maxHeartbeats 800000 in
theorem lfinish_any {S : Type} (L : LL) (t : Sour S) (ga gr : Nat) (s : LS) (d : RD (AhS S)) (w : World) (h : LOn L t ga gr w s d) (hp : s.place ≤ 1000000) :
    Calls Try.prog 30 #[.pointer (some ⟨L.gd, 0, none⟩)] w (LFPost L t ga gr (lfinish t.nx L s d) w) := by
  obtain ⟨R, hR⟩ : ∃ R, R = lfinish t.nx L s d := ⟨_, rfl⟩
  rw [← hR]
  unfold lfinish at hR
  have k8 := h.is_.headC 8 (v := .pointer (some ⟨gr, 0, none⟩)) (by decide) rfl
  have t7 := h.is_.tailC 7 (v := .int .i64 s.left) rfl
  have t9 := h.is_.tailC 9 (v := .bool s.bad) rfl
  have H := hid h
  obtain ⟨b, hb⟩ : ∃ b, b = s.bad := ⟨_, rfl⟩
  obtain ⟨en, hen⟩ : ∃ en, en = s.ended := ⟨_, rfl⟩
  obtain ⟨l, hl⟩ : ∃ l, l = s.left := ⟨_, rfl⟩
  rw [← hb, ← hl, ← hen] at hR
  rw [← hb] at t9
  rw [← hl] at t7
  have HR := hid hR
  have HPL := hid hp
  have HEN := hid hen
  have C1 := hid (lover_any L t ga gr s d w h)
  clear h hR hb hl hp hen
  go_enter Try.func30, Try.ntmps30
  cases b with
  | true =>
    have hR := HR.out
    rw [if_pos (.inl rfl)] at hR
    have HR2 := hid hR
    clear hR
    go_wp2_with fail
    go_ret
    rw [HR2.out]
    exact ⟨rfl, Fr.refl _ _, H.out⟩
  | false =>
    by_cases hl0 : l = 0
    · subst hl0
      have hR := HR.out
      rw [if_neg (by decide)] at hR
      generalize lover t.nx s d = o at C1 hR
      obtain ⟨ob, d1⟩ := o
      dsimp only at C1 hR
      have HR2 := hid hR
      clear hR
      go_wp2_with fail
      refine C1.out.mono ?_
      rintro e w4 ⟨rfl, hf4, h4⟩
      have t8 := h4.is_.tailC 8 (v := .bool s.ended) rfl
      rw [← HEN.out] at t8
      have t9 := h4.is_.tailC 9 (v := .bool s.bad) rfl
      have z9 := blk_frozen h4.is_.at_ (1856 + 9)
      have HF4 := hid hf4
      have H4 := hid h4
      clear hf4 h4
      cases ob with
      | true =>
        have hR := HR2.out
        rw [if_pos (.inl rfl)] at hR
        have HR3 := hid hR
        clear hR
        go_wp2_with fail
        go_ret
        rw [HR3.out]
        exact ⟨rfl, HF4.out.setCell (p := ⟨L.gd, 1865, none⟩) (fun _ => .inl (.inl rfl)) _, H4.out.bad_ true⟩
      | false =>
        cases en with
        | true =>
          have hR := HR2.out
          rw [if_pos (.inr rfl)] at hR
          have HR3 := hid hR
          clear hR
          go_wp2_with fail
          go_ret
          rw [HR3.out]
          exact ⟨rfl, HF4.out.setCell (p := ⟨L.gd, 1865, none⟩) (fun _ => .inl (.inl rfl)) _, H4.out.bad_ true⟩
        | false =>
          have hR := HR2.out
          rw [if_neg (by decide)] at hR
          have C2 := hid (lpacket_any L t ga gr s d1 w4 H4.out HPL.out)
          rw [ahead_nx] at C2
          generalize lpacket (anx t.nx) L s d1 = q at C2 hR
          obtain ⟨⟨x, ok⟩, s1, d2⟩ := q
          dsimp only at C2 hR
          have HR3 := hid hR
          clear hR
          go_wp2_with fail
          refine C2.out.mono ?_
          rintro e w5 ⟨rfl, hf5, h5⟩
          dsimp only at hf5 h5
          have t8 := h5.is_.tailC 8 (v := .bool s1.ended) rfl
          have t9 := h5.is_.tailC 9 (v := .bool s1.bad) rfl
          have z9 := blk_frozen h5.is_.at_ (1856 + 9)
          have C3 := hid (lover_any L t ga gr s1 d2 w5 h5)
          have HF5 := hid (HF4.out.trans hf5)
          have H5 := hid h5
          obtain ⟨e1, he1⟩ : ∃ e1, e1 = s1.ended := ⟨_, rfl⟩
          rw [← he1] at t8
          have hR := HR3.out
          rw [← he1] at hR
          clear hf5 h5 he1
          cases e1 with
          | true =>
            rw [if_pos rfl] at hR
            generalize lover t.nx s1 d2 = o2 at C3 hR
            obtain ⟨ob2, d3⟩ := o2
            dsimp only at C3 hR
            have HR4 := hid hR
            clear hR
            go_wp2_with fail
            refine C3.out.mono ?_
            rintro e w6 ⟨rfl, hf6, h6⟩
            have t9 := h6.is_.tailC 9 (v := .bool s1.bad) rfl
            have z9 := blk_frozen h6.is_.at_ (1856 + 9)
            have HF6 := hid (HF5.out.trans hf6)
            have H6 := hid h6
            clear hf6 h6
            go_wp2_with fail
            go_ret
            rw [HR4.out]
            exact ⟨rfl, HF6.out.setCell (p := ⟨L.gd, 1865, none⟩) (fun _ => .inl (.inl rfl)) _, H6.out.bad_ true⟩
          | false =>
            rw [if_neg (by decide)] at hR
            have HR4 := hid hR
            clear hR
            go_wp2_with fail
            go_ret
            rw [HR4.out]
            exact ⟨rfl, HF5.out.setCell (p := ⟨L.gd, 1865, none⟩) (fun _ => .inl (.inl rfl)) _, H5.out.bad_ true⟩
    · have hR := HR.out
      rw [if_pos (.inr hl0)] at hR
      have HR2 := hid hR
      have hlb : (0 : Int) < (l : Int) := by omega
      clear hR
      go_wp2_with fail
      go_ret
      rw [HR2.out]
      exact ⟨rfl, Fr.refl _ _, H.out⟩
end Go.Proofs.Ytjnegcambbeblaa
