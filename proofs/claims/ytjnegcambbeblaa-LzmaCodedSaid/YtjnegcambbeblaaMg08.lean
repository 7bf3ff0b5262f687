/- Texts of this proof, one behind the other. -/
import Derived.Test.YtjnegcambbeblaaMg07
import Derived.Test.YtjnegcambbeblaaMg03
import Derived.Test.YtjnegcambbeblaaMg04

/- lzma: a packet's walk. -/
namespace Go.Proofs.Ytjnegcambbeblaa
open Go.RowKit

def LKPost {S : Type} (L : LL) (t : Sour S) (ga gr : Nat) (R : (Nat × Bool) × LS × RD (AhS S)) (w : World) (e : Ending) (w' : World) : Prop :=
  LOPost L t ga gr (.tuple #[.int .u8 (R.1.1 : Int), .bool R.1.2]) R.2.1 R.2.2 w e w'
theorem whas_same (g gr gm n : Nat) (H : List Int) (d : Nat) (w : World) (b : Bool) (h : WinIs g gr gm n w H) (hb : decide (d < min H.length n) = b) :
    Calls Try.prog 93 #[.pointer (some ⟨g, 0, none⟩), .int .i64 d] w fun e w' => e = .returned (.bool b) ∧ w' = w := by
  subst hb
  exact (whas_any g gr gm n H d w h).mono fun _ _ h => ⟨h.1, h.2.symm⟩
theorem lpEnd_out {S : Type} (L : LL) (s : LS) (d : RD S) :
    (((s.bad || d.bad) || s.ended) = true → lpEnd L s d = { s with bad := s.bad || d.bad, left := 0 }) ∧
    (((s.bad || d.bad) || s.ended) = false → (s.dict ≤ s.rep 0 ∨ ¬ s.rep 0 < min s.H.length L.n) → lpEnd L s d = { s with bad := true, left := 0 }) ∧
    (((s.bad || d.bad) || s.ended) = false → ¬ (s.dict ≤ s.rep 0 ∨ ¬ s.rep 0 < min s.H.length L.n) → lpEnd L s d = { s with bad := s.bad || d.bad }) := by
  refine ⟨fun h => ?_, fun h h2 => ?_, fun h h2 => ?_⟩
  · unfold lpEnd; rw [if_pos h]
  · unfold lpEnd; rw [if_neg (by rw [h]; decide), if_pos h2]
  · unfold lpEnd; rw [if_neg (by rw [h]; decide), if_neg h2]
set_option maxRecDepth 100000 in
set_option maxHeartbeats 800000 in
theorem lpacket_any {S : Type} (L : LL) (t : Sour S) (ga gr : Nat) (s : LS) (d : RD (AhS S)) (w : World) (h : LOn L t ga gr w s d) (hp : s.place ≤ 1000000) :
    Calls Try.prog 60 #[.pointer (some ⟨L.gd, 0, none⟩)] w (LKPost L t ga gr (lpacket (ahead t ga).nx L s d) w) := by
  have k2 := h.is_.headC 2 (v := .int .i64 s.pb) (by decide) rfl
  have t6 := h.is_.tailC 6 (v := .int .i64 s.place) rfl
  have hpb : (s.pb : Int) ≤ 4 := by have := h.is_.ok.pb; omega
  have hpb0 : (0 : Int) ≤ s.pb := by omega
  have hpl : (s.place : Int) ≤ 1000000 := by omega
  have hpl0 : (0 : Int) ≤ s.place := by omega
  have HM := hid (and_mask s.place s.pb (by omega) (by have := h.is_.ok.pb; omega))
  obtain ⟨R, hR⟩ : ∃ R, R = lpacket (ahead t ga).nx L s d := ⟨_, rfl⟩
  rw [← hR]
  unfold lpacket at hR
  have hsp : s.place % 2 ^ s.pb < 16 := Nat.lt_of_lt_of_le (Nat.mod_lt _ (Nat.pow_pos (by decide))) (Nat.pow_le_pow_right (by decide) h.is_.ok.pb)
  obtain ⟨sp, hspe⟩ : ∃ sp, sp = s.place % 2 ^ s.pb := ⟨_, rfl⟩
  rw [← hspe] at hR hsp HM
  have H := hid h
  have HR := hid hR
  clear h hp hR hspe
  go_enter Try.func60, Try.ntmps60
  go_upto_region 1 with fail
  go_cut [4] (fun a4 wx => a4 = .int .i64 sp ∧ Fr Non w wx)
  case first =>
    go_quiet (fail)
    go_wp2_with fail
    go_meet
    exact ⟨by rw [HM.out], (Fr.refl Non w).drewN _⟩
  case rest =>
    obtain ⟨h4, hf0⟩ := hcut
    subst h4
    obtain ⟨wq, hwq⟩ : ∃ wq, wq = wc := ⟨_, rfl⟩
    rw [← hwq] at hf0 ⊢
    clear hwq k2 t6
    have h := H.out.any hf0
    have k8 := h.is_.headC 8 (v := .pointer (some ⟨gr, 0, none⟩)) (by decide) rfl
    have t1 := h.is_.tailC 1 (v := .int .i64 s.st) rfl
    have hst : s.st < 12 := h.is_.ok.st
    obtain ⟨st, hst'⟩ : ∃ st, st = s.st := ⟨_, rfl⟩
    rw [← hst'] at hst t1
    have st0 : (0 : Int) ≤ (st : Int) := by omega
    have st1 : (st : Int) < 12 := by omega
    have sp0 : (0 : Int) ≤ (sp : Int) := by omega
    have sp1 : (sp : Int) < 16 := by omega
    have hR := HR.out
    dsimp only at hR
    have C1 := hid (fun w1 (h1 : LOn L t ga gr w1 s d) => lbitP L t ga gr s d (16 * st + sp) (9 + st * 16 + sp) w1 h1 (by omega) (by unfold sgL; rw [if_pos (by omega)]; omega))
    have L1 := lbit_le (ahead t ga).nx s.P d (16 * st + sp)
    rw [← hst'] at hR
    generalize lbit (ahead t ga).nx s.P d (16 * st + sp) = r1 at C1 L1 hR
    obtain ⟨x1, P1, d1⟩ := r1
    dsimp only at C1 L1 hR
    have HR1 := hid hR
    have HF0 := hid hf0
    have H1 := hid h
    have HST := hid hst'
    clear hR hf0 h hst'
    go_upto_region 2 with fail
    go_cut [35] (fun a wx => a = .bool ((x1 : Int) == 0) ∧ Fr (LFt L t ga gr) wq wx ∧ LOn L t ga gr wx { s with P := P1 } d1)
    case first =>
      go_region_with (first | (go_at_call 87; refine (C1.out _ (by first | exact H1.out.any ((Fr.refl Non _).drew) | exact H1.out)).mono ?_; rintro e w4 ⟨rfl, hf4, h4⟩; have HF4 := hid hf4; have H4 := hid h4; clear hf4 h4))
      all_goals
        simp only [List.getElem_toArray, List.getElem_cons_zero, List.getElem_cons_succ, Act.put, List.setIfInBounds_toArray, List.set_cons_zero, List.set_cons_succ]
        go_wp2_with fail
        go_meet
        exact ⟨rfl, Fr.trans (by first | exact (Fr.refl _ _).drew | exact Fr.refl _ _) HF4.out, H4.out⟩
    case rest =>
      obtain ⟨h35, hf1, h1⟩ := hcut
      subst h35
      obtain ⟨wr, hwr⟩ : ∃ wr, wr = wc := ⟨_, rfl⟩
      rw [← hwr] at hf1 h1 ⊢
      clear hwr k8 t1 C1
      have HF1 := hid hf1
      have H2 := hid h1
      clear hf1 h1
      by_cases hx1 : x1 = 0
      · subst hx1
        have hR := HR1.out
        rw [if_pos rfl, HST.out] at hR
        have C2 := hid (fun w1 (h1 : LOn L t ga gr w1 { s with P := P1 } d1) => llit_any L t ga gr { s with P := P1 } d1 w1 h1 (by show s.place ≤ 1000000; omega))
        generalize llit (ahead t ga).nx L { s with P := P1 } d1 = q at C2 hR
        obtain ⟨m, P2, d2⟩ := q
        dsimp only at C2 hR
        have HR2 := hid hR
        clear hR
        go_wp2_with fail
        refine (C2.out _ H2.out).mono ?_
        rintro e w3 ⟨rfl, hf3, h3⟩
        have k8 := h3.is_.headC 8 (v := .pointer (some ⟨gr, 0, none⟩)) (by decide) rfl
        have t9 := h3.is_.tailC 9 (v := .bool s.bad) rfl
        have z9 := blk_frozen h3.is_.at_ (1856 + 9)
        have HF3 := hid hf3
        have H3 := hid h3
        clear hf3 h3
        go_wp2_with fail
        refine (dbadq_any (ahead t ga) gr d2 _ H3.out.dec).mono ?_
        rintro e w4 ⟨rfl, rfl⟩
        go_wp2_with fail
        have H5 := hid (H3.out.bad_ d2.bad)
        have t9 := H5.out.is_.tailC 9 (v := .bool d2.bad) rfl
        have HF5 := hid ((HF0.out.mono (fun _ _ e => e.elim)).trans (HF1.out.trans (HF3.out.setCell (p := ⟨L.gd, 1865, none⟩) (fun _ => .inl (.inl rfl)) (.bool d2.bad))))
        obtain ⟨wv, hwv⟩ : ∃ wv, wv = w3.setCell ⟨L.gd, 1865, none⟩ (.bool d2.bad) := ⟨_, rfl⟩
        rw [← hwv] at t9 H5 HF5 ⊢
        clear hwv
        go_quiet (fail)
        go_wp2_with fail
        go_ret2
        rw [HR2.out]
        exact ⟨by first | rfl | (congr 1; push_cast; rfl), HF5.out.drewN _, H5.out.any ((Fr.refl Non _).drewN _)⟩
      · have e1 : x1 = 1 := by omega
        subst e1
        have hR := HR1.out
        rw [if_neg (by decide)] at hR
        have k8 := H2.out.is_.headC 8 (v := .pointer (some ⟨gr, 0, none⟩)) (by decide) rfl
        have t1 := H2.out.is_.tailC 1 (v := .int .i64 s.st) rfl
        rw [← HST.out] at t1
        have C2 := hid (fun w1 (h1 : LOn L t ga gr w1 { s with P := P1 } d1) => lbitP L t ga gr { s with P := P1 } d1 (192 + st) (393 + st) w1 h1 (by omega) (by unfold sgL; rw [if_neg (by omega), if_pos (by omega)]; omega))
        have L2 := lbit_le (ahead t ga).nx P1 d1 (192 + st)
        dsimp only at C2
        generalize lbit (ahead t ga).nx P1 d1 (192 + st) = r2 at C2 L2 hR
        obtain ⟨x2, P2, d2⟩ := r2
        dsimp only at C2 L2 hR
        have HR2 := hid hR
        clear hR
        go_upto_region 6 with fail
        go_cut [66] (fun a wx => a = .bool ((x2 : Int) == 0) ∧ Fr (LFt L t ga gr) wr wx ∧ LOn L t ga gr wx { s with P := P2 } d2)
        case first =>
          go_region_with (first | (go_at_call 87; refine (C2.out _ (by first | exact H2.out.any ((Fr.refl Non _).drew) | exact H2.out)).mono ?_; rintro e w4 ⟨rfl, hf4, h4⟩; have HF4 := hid hf4; have H4 := hid h4; clear hf4 h4))
          all_goals
            simp only [List.getElem_toArray, List.getElem_cons_zero, List.getElem_cons_succ, Act.put, List.setIfInBounds_toArray, List.set_cons_zero, List.set_cons_succ]
            go_wp2_with fail
            go_meet
            exact ⟨rfl, Fr.trans (by first | exact (Fr.refl _ _).drew | exact Fr.refl _ _) HF4.out, H4.out⟩
        case rest =>
          obtain ⟨h66, hf2, h2⟩ := hcut
          subst h66
          obtain ⟨wt, hwt⟩ : ∃ wt, wt = wc := ⟨_, rfl⟩
          rw [← hwt] at hf2 h2 ⊢
          clear hwt k8 t1 C2
          have k6 := h2.is_.headC 6 (v := .pointer (some ⟨L.gw, 0, none⟩)) (by decide) rfl
          have t9 := h2.is_.tailC 9 (v := .bool s.bad) rfl
          have z9 := blk_frozen h2.is_.at_ (1856 + 9)
          have HF2 := hid hf2
          have H4 := hid h2
          clear hf2 h2
          go_upto_if 66 with fail
          go_cut [] (fun wx => ∃ (s' : LS) (d' : RD (AhS S)), Fr (LFt L t ga gr) wt wx ∧ LOn L t ga gr wx s' d' ∧ R = ((0, false), lpEnd L s' d', d'))
          case first =>
            by_cases hx2 : x2 = 0
            · subst hx2
              have hR := HR2.out
              rw [if_pos rfl] at hR
              have C3 := hid (fun w1 (h1 : LOn L t ga gr w1 { s with P := P2 } d2) => lfresh_any L t ga gr { s with P := P2 } d2 sp w1 h1 hsp)
              have HR3 := hid hR
              clear hR
              go_wp2_with fail
              refine (C3.out _ H4.out).mono ?_
              rintro e w5 ⟨rfl, hf5, h5⟩
              have t7 := h5.is_.tailC 7 rfl
              have z7 := blk_frozen h5.is_.at_ (1856 + 7)
              have HF5 := hid hf5
              have H5 := hid h5
              clear hf5 h5
              go_wp2_with fail
              go_meet
              exact ⟨_, _, HF5.out.setCell (p := ⟨L.gd, 1863, none⟩) (fun _ => .inl (.inl rfl)) _, H5.out.left_ (lfresh_le _ _ _ _), HR3.out.trans (by rw [HST.out])⟩
            · have e2 : x2 = 1 := by omega
              subst e2
              have hR := HR2.out
              rw [if_neg (by decide)] at hR
              by_cases hc : min s.H.length L.n = 0
              · rw [if_pos hc] at hR
                have HR3 := hid hR
                have HC := hid hc
                clear hR hc
                go_wp2_with fail
                refine (wcount_any L.gw L.gn L.gm L.n s.H _ H4.out.is_.win).mono ?_
                rintro e w5 ⟨rfl, rfl⟩
                rw [HC.out]
                go_wp2_with fail
                go_meet
                exact ⟨_, _, (Fr.refl (LFt L t ga gr) _).setCell (p := ⟨L.gd, 1865, none⟩) (fun _ => .inl (.inl rfl)) _, H4.out.bad_ true, HR3.out.trans (by rw [HST.out])⟩
              · rw [if_neg hc] at hR
                obtain ⟨c, hce⟩ : ∃ c, c = min s.H.length L.n := ⟨_, rfl⟩
                have hc0 : ¬ (c : Int) = 0 := by omega
                have hcb : ((c : Int) == 0) = false := by simp; omega
                have C3 := hid (fun w1 (h1 : LOn L t ga gr w1 { s with P := P2 } d2) => lagain_any L t ga gr { s with P := P2 } d2 sp w1 h1 hsp)
                have HR3 := hid hR
                have HCE := hid hce
                clear hR hc hce
                go_wp2_with fail
                refine (wcount_any L.gw L.gn L.gm L.n s.H _ H4.out.is_.win).mono ?_
                rintro e w5 ⟨rfl, rfl⟩
                rw [← HCE.out]
                go_wp2_with fail
                refine (C3.out _ H4.out).mono ?_
                rintro e w5 ⟨rfl, hf5, h5⟩
                have t7 := h5.is_.tailC 7 rfl
                have z7 := blk_frozen h5.is_.at_ (1856 + 7)
                have HF5 := hid hf5
                have H5 := hid h5
                clear hf5 h5
                go_wp2_with fail
                go_meet
                exact ⟨_, _, HF5.out.setCell (p := ⟨L.gd, 1863, none⟩) (fun _ => .inl (.inl rfl)) _, H5.out.left_ (lagain_le _ _ _ _), HR3.out.trans (by rw [HST.out])⟩
          case rest =>
            obtain ⟨s', d', hf5, h5, hR⟩ := hcut
            obtain ⟨wz, hwz⟩ : ∃ wz, wz = wc := ⟨_, rfl⟩
            rw [← hwz] at hf5 h5 ⊢
            clear hwz k6 t9 z9
            have k8 := h5.is_.headC 8 (v := .pointer (some ⟨gr, 0, none⟩)) (by decide) rfl
            have t9 := h5.is_.tailC 9 (v := .bool s'.bad) rfl
            have z9 := blk_frozen h5.is_.at_ (1856 + 9)
            obtain ⟨b0, hb0⟩ : ∃ b, b = s'.bad := ⟨_, rfl⟩
            rw [← hb0] at t9
            have HF5 := hid ((HF0.out.mono (fun _ _ e => e.elim)).trans (HF1.out.trans (HF2.out.trans hf5)))
            have H5 := hid h5
            have HRR := hid hR
            have HB0 := hid hb0
            clear hf5 h5 hR hb0
            go_upto_region 11 with fail
            go_cut [] (fun wx => Fr (LFt L t ga gr) wz wx ∧ LOn L t ga gr wx { s' with bad := b0 || d'.bad } d')
            case first =>
              cases b0 with
              | true =>
                go_wp2_with fail
                go_meet
                exact ⟨(Fr.refl (LFt L t ga gr) _).setCell (p := ⟨L.gd, 1865, none⟩) (fun _ => .inl (.inl rfl)) _, H5.out.bad_ true⟩
              | false =>
                go_wp2_with fail
                refine (dbadq_any (ahead t ga) gr d' _ H5.out.dec).mono ?_
                rintro e w4 ⟨rfl, rfl⟩
                go_wp2_with fail
                go_meet
                exact ⟨(Fr.refl (LFt L t ga gr) _).setCell (p := ⟨L.gd, 1865, none⟩) (fun _ => .inl (.inl rfl)) _, H5.out.bad_ d'.bad⟩
            case rest =>
              obtain ⟨hf6, h6⟩ := hcut
              obtain ⟨wv, hwv⟩ : ∃ wv, wv = wc := ⟨_, rfl⟩
              rw [← hwv] at hf6 h6 ⊢
              clear hwv k8 t9 z9
              have k3 := h6.is_.headC 3 (v := .int .i64 s'.dict) (by decide) rfl
              have k6 := h6.is_.headC 6 (v := .pointer (some ⟨L.gw, 0, none⟩)) (by decide) rfl
              have t2 := h6.repCell (i := 0) (by decide)
              have t8 := h6.is_.tailC 8 (v := .bool s'.ended) rfl
              have t9 := h6.is_.tailC 9 (v := .bool (b0 || d'.bad)) rfl
              have z7 := blk_frozen h6.is_.at_ (1856 + 7)
              have z9 := blk_frozen h6.is_.at_ (1856 + 9)
              have hr0 := h6.is_.ok.rep 0 (by decide)
              have hdi := h6.is_.ok.dict
              have t7 := h6.is_.tailC 7 (v := .int .i64 s'.left) rfl
              obtain ⟨b, hb⟩ : ∃ b, b = (b0 || d'.bad) := ⟨_, rfl⟩
              obtain ⟨en, hen⟩ : ∃ en, en = s'.ended := ⟨_, rfl⟩
              obtain ⟨r0, hr0e⟩ : ∃ r0, r0 = s'.rep 0 := ⟨_, rfl⟩
              obtain ⟨di, hdie⟩ : ∃ di, di = s'.dict := ⟨_, rfl⟩
              change s'.rep 0 < 4294967296 at hr0
              change s'.dict ≤ 4294967295 at hdi
              change wv.cell? ⟨L.gd, 1858 + 0, none⟩ = some (.int .u32 (s'.rep 0)) at t2
              rw [← hb] at t9 h6
              rw [← hen] at t8
              rw [← hr0e] at t2 hr0
              rw [← hdie] at k3 hdi
              have HF6 := hid (HF5.out.trans hf6)
              have H6 := hid h6
              have HQ := hid hr0e
              have HB := hid hb
              have HEN := hid hen
              have HDI := hid hdie
              clear hf6 h6 hb hen hr0e hdie
              cases b with
              | true =>
                have hE := (lpEnd_out L s' d').1 (by rw [← HB0.out, ← HB.out]; rfl)
                rw [← HB0.out, ← HB.out] at hE
                have HE := hid hE
                clear hE
                go_wp2_with fail
                go_ret2
                rw [HRR.out, HE.out]
                exact ⟨rfl, HF6.out.setCell (p := ⟨L.gd, 1863, none⟩) (fun _ => .inl (.inl rfl)) _, H6.out.left_ (x := 0) (by decide)⟩
              | false =>
                cases en with
                | true =>
                  have hE := (lpEnd_out L s' d').1 (by rw [← HB0.out, ← HB.out, ← HEN.out]; rfl)
                  rw [← HB0.out, ← HB.out] at hE
                  have HE := hid hE
                  clear hE
                  go_wp2_with fail
                  go_ret2
                  rw [HRR.out, HE.out]
                  exact ⟨rfl, HF6.out.setCell (p := ⟨L.gd, 1863, none⟩) (fun _ => .inl (.inl rfl)) _, H6.out.left_ (x := 0) (by decide)⟩
                | false =>
                  have hw : IntKind.i64.wrap (r0 : Int) = (r0 : Int) := by rw [IntKind.wrap_i64]; omega
                  by_cases hge : di ≤ r0
                  · have hE := (lpEnd_out L s' d').2.1 (by rw [← HB0.out, ← HB.out, ← HEN.out]; rfl) (.inl (by rw [← HQ.out, ← HDI.out]; exact hge))
                    have HE := hid hE
                    have hgd : decide ((di : Int) ≤ (r0 : Int)) = true := decide_eq_true (by omega)
                    clear hE
                    go_upto_region 14 with fail
                    go_cut [140] (fun a wx => a = .bool true ∧ Fr Non wv wx)
                    case first =>
                      go_quiet (fail)
                      go_wp2_with fail
                      go_meet
                      exact ⟨by first | rfl | (rw [hgd]), (Fr.refl Non _).drewN _⟩
                    case rest =>
                      obtain ⟨h140, hf7⟩ := hcut
                      subst h140
                      obtain ⟨wy, hwy⟩ : ∃ wy, wy = wc := ⟨_, rfl⟩
                      rw [← hwy] at hf7 ⊢
                      clear hwy k3 k6 t2 t7 t8 t9 z7 z9
                      have h7 := H6.out.any hf7
                      have t7 := h7.is_.tailC 7 (v := .int .i64 s'.left) rfl
                      have t9 := h7.is_.tailC 9 (v := .bool false) rfl
                      have z7 := blk_frozen h7.is_.at_ (1856 + 7)
                      have z9 := blk_frozen h7.is_.at_ (1856 + 9)
                      have HF7 := hid (HF6.out.trans hf7.any)
                      have H7 := hid h7
                      clear hf7 h7
                      go_wp2_with fail
                      go_ret2
                      rw [HRR.out, HE.out]
                      exact ⟨rfl, (HF7.out.setCell (p := ⟨L.gd, 1865, none⟩) (fun _ => .inl (.inl rfl)) _).setCell (p := ⟨L.gd, 1863, none⟩) (fun _ => .inl (.inl rfl)) _, (H7.out.bad_ true).left_ (x := 0) (by decide)⟩
                  · have hlb : decide (di ≤ r0) = false := decide_eq_false hge
                    obtain ⟨hs, hhs⟩ : ∃ hs, hs = decide (r0 < min s'.H.length L.n) := ⟨_, rfl⟩
                    have HHS := hid hhs
                    have C7 := hid (fun w1 (h1 : LOn L t ga gr w1 { s' with bad := false } d') => whas_same L.gw L.gn L.gm L.n s'.H r0 w1 hs h1.is_.win HHS.out.symm)
                    clear hhs
                    cases hs with
                    | true =>
                      have hE := (lpEnd_out L s' d').2.2 (by rw [← HB0.out, ← HB.out, ← HEN.out]; rfl) (by rw [← HQ.out, ← HDI.out]; intro e; exact e.elim hge (fun e => e (of_decide_eq_true HHS.out.symm)))
                      rw [← HB0.out, ← HB.out] at hE
                      have HE := hid hE
                      clear hE hge
                      go_upto_region 14 with fail
                      go_cut [140] (fun a wx => a = .bool false ∧ Fr Non wv wx)
                      case first =>
                        go_quiet ((go_at_call 93; exact Calls.quiet_of_same (C7.out _ (by first | exact H6.out | exact H6.out.any ((Fr.refl Non _).drewN _)))))
                        go_wp2_with fail
                        go_meet
                        exact ⟨by rfl, (Fr.refl Non _).drewN _⟩
                      case rest =>
                        obtain ⟨h140, hf7⟩ := hcut
                        subst h140
                        obtain ⟨wy, hwy⟩ : ∃ wy, wy = wc := ⟨_, rfl⟩
                        rw [← hwy] at hf7 ⊢
                        clear hwy k3 k6 t2 t7 t8 t9 z7 z9
                        have HF7 := hid (HF6.out.trans hf7.any)
                        have H7 := hid (H6.out.any hf7)
                        clear hf7
                        go_wp2_with fail
                        go_ret2
                        rw [HRR.out, HE.out]
                        exact ⟨rfl, HF7.out, H7.out⟩
                    | false =>
                      have hE := (lpEnd_out L s' d').2.1 (by rw [← HB0.out, ← HB.out, ← HEN.out]; rfl) (.inr (by rw [← HQ.out]; exact of_decide_eq_false HHS.out.symm))
                      have HE := hid hE
                      clear hE hge
                      go_upto_region 14 with fail
                      go_cut [140] (fun a wx => a = .bool true ∧ Fr Non wv wx)
                      case first =>
                        go_quiet ((go_at_call 93; exact Calls.quiet_of_same (C7.out _ (by first | exact H6.out | exact H6.out.any ((Fr.refl Non _).drewN _)))))
                        go_wp2_with fail
                        go_meet
                        exact ⟨by rfl, (Fr.refl Non _).drewN _⟩
                      case rest =>
                        obtain ⟨h140, hf7⟩ := hcut
                        subst h140
                        obtain ⟨wy, hwy⟩ : ∃ wy, wy = wc := ⟨_, rfl⟩
                        rw [← hwy] at hf7 ⊢
                        clear hwy k3 k6 t2 t7 t8 t9 z7 z9
                        have h7 := H6.out.any hf7
                        have t7 := h7.is_.tailC 7 (v := .int .i64 s'.left) rfl
                        have t9 := h7.is_.tailC 9 (v := .bool false) rfl
                        have z7 := blk_frozen h7.is_.at_ (1856 + 7)
                        have z9 := blk_frozen h7.is_.at_ (1856 + 9)
                        have HF7 := hid (HF6.out.trans hf7.any)
                        have H7 := hid h7
                        clear hf7 h7
                        go_wp2_with fail
                        go_ret2
                        rw [HRR.out, HE.out]
                        exact ⟨rfl, (HF7.out.setCell (p := ⟨L.gd, 1865, none⟩) (fun _ => .inl (.inl rfl)) _).setCell (p := ⟨L.gd, 1863, none⟩) (fun _ => .inl (.inl rfl)) _, (H7.out.bad_ true).left_ (x := 0) (by decide)⟩
end Go.Proofs.Ytjnegcambbeblaa

/- lzma: Next. -/
namespace Go.Proofs.Ytjnegcambbeblaa
open Go.RowKit

def lputS (s : LS) (b : Int) : LS := { s with H := s.H ++ [b], place := s.place + 1 }
def lnext2 {S : Type} (L : LL) (s : LS) (d : RD S) : (Int × Bool) × LS × RD S :=
  if s.left = 0 then ((0, false), s, d)
  else ((backH s.H L.n (s.rep 0), true), { s with left := s.left - 1, place := s.place + 1, H := s.H ++ [backH s.H L.n (s.rep 0)] }, d)
/-- the next byte, whether there is one; the decoder behind it. -/
def lnext {S : Type} (nx : S → Int × Bool × S) (L : LL) (s : LS) (d : RD S) : (Int × Bool) × LS × RD S :=
  if s.bad = true ∨ s.ended = true then ((0, false), s, d)
  else if s.left = 0 then
    if (lpacket nx L s d).1.2 = true then ((((lpacket nx L s d).1.1 : Nat), true), lputS (lpacket nx L s d).2.1 ((lpacket nx L s d).1.1 : Nat), (lpacket nx L s d).2.2)
    else lnext2 L (lpacket nx L s d).2.1 (lpacket nx L s d).2.2
  else lnext2 L s d
/-- what is to be copied is there. -/
def LS.Fit (L : LL) (s : LS) : Prop := s.left ≠ 0 → s.rep 0 < min s.H.length L.n
/-- what a packet leaves as it was. -/
structure LSame (s s' : LS) : Prop where
  place : s'.place = s.place
  H : s'.H = s.H
  lc : s'.lc = s.lc
  lp : s'.lp = s.lp
  pb : s'.pb = s.pb
  dict : s'.dict = s.dict
  taken : s'.taken = s.taken
theorem LSame.refl (s : LS) : LSame s s := ⟨rfl, rfl, rfl, rfl, rfl, rfl, rfl⟩
theorem LSame.trans {a b c : LS} (h : LSame a b) (h2 : LSame b c) : LSame a c :=
  ⟨h2.place.trans h.place, h2.H.trans h.H, h2.lc.trans h.lc, h2.lp.trans h.lp, h2.pb.trans h.pb, h2.dict.trans h.dict, h2.taken.trans h.taken⟩
theorem lpEnd_same {S : Type} (L : LL) (s : LS) (d : RD S) : LSame s (lpEnd L s d) := by
  unfold lpEnd
  split
  · exact ⟨rfl, rfl, rfl, rfl, rfl, rfl, rfl⟩
  · split <;> exact ⟨rfl, rfl, rfl, rfl, rfl, rfl, rfl⟩
theorem lpEnd_fit {S : Type} (L : LL) (s : LS) (d : RD S) : (lpEnd L s d).Fit L := by
  unfold lpEnd
  split
  · exact fun h => absurd rfl h
  · split
    · exact fun h => absurd rfl h
    · rename_i h
      intro _
      show s.rep 0 < min s.H.length L.n
      by_cases e : s.rep 0 < min s.H.length L.n
      · exact e
      · exact absurd (.inr e) h
theorem lagain_same {S : Type} (nx : S → Int × Bool × S) (s : LS) (d : RD S) (sp : Nat) : LSame s (lagain nx s d sp).2.1 := by
  unfold lagain
  split
  · exact ⟨rfl, rfl, rfl, rfl, rfl, rfl, rfl⟩
  · exact ⟨rfl, rfl, rfl, rfl, rfl, rfl, rfl⟩
theorem lpEnd_same' {S : Type} {a : LS} (L : LL) (s : LS) (d : RD S) (h : LSame a s) : LSame a (lpEnd L s d) := h.trans (lpEnd_same L s d)
theorem lpacket_same {S : Type} (nx : S → Int × Bool × S) (L : LL) (s : LS) (d : RD S) : LSame s (lpacket nx L s d).2.1 := by
  unfold lpacket
  dsimp only
  split
  · exact ⟨rfl, rfl, rfl, rfl, rfl, rfl, rfl⟩
  · split
    · refine lpEnd_same' L _ _ ?_
      exact ⟨rfl, rfl, rfl, rfl, rfl, rfl, rfl⟩
    · split
      · dsimp only
        refine lpEnd_same' L _ _ ?_
        exact ⟨rfl, rfl, rfl, rfl, rfl, rfl, rfl⟩
      · dsimp only
        refine lpEnd_same' L _ _ ?_
        have := lagain_same nx { s with P := (lbit nx (lbit nx s.P d (16 * s.st + s.place % 2 ^ s.pb)).2.1 (lbit nx s.P d (16 * s.st + s.place % 2 ^ s.pb)).2.2 (192 + s.st)).2.1 } (lbit nx (lbit nx s.P d (16 * s.st + s.place % 2 ^ s.pb)).2.1 (lbit nx s.P d (16 * s.st + s.place % 2 ^ s.pb)).2.2 (192 + s.st)).2.2 (s.place % 2 ^ s.pb)
        exact ⟨this.place, this.H, this.lc, this.lp, this.pb, this.dict, this.taken⟩
theorem lpacket_fit {S : Type} (nx : S → Int × Bool × S) (L : LL) (s : LS) (d : RD S) (h : s.left = 0) : (lpacket nx L s d).2.1.Fit L := by
  unfold lpacket
  dsimp only
  split
  · exact fun e => absurd h e
  · split
    · exact lpEnd_fit L _ _
    · split <;> exact lpEnd_fit L _ _
theorem lpacket_lt {S : Type} (nx : S → Int × Bool × S) (L : LL) (s : LS) (d : RD S) : (lpacket nx L s d).1.1 < 256 := by
  unfold lpacket
  dsimp only
  split
  · exact Nat.mod_lt _ (by decide)
  · split
    · exact (show 0 < 256 by decide)
    · split <;> exact (show 0 < 256 by decide)
theorem lnext2_fit {S : Type} (L : LL) (s : LS) (d : RD S) (h : s.Fit L) : (lnext2 L s d).2.1.Fit L := by
  unfold lnext2
  split
  · exact h
  · rename_i h0
    intro h1
    have := h h0
    show s.rep 0 < min (s.H ++ [_]).length L.n
    simp
    omega
theorem lnext_fit {S : Type} (nx : S → Int × Bool × S) (L : LL) (s : LS) (d : RD S) (h : s.Fit L) : (lnext nx L s d).2.1.Fit L := by
  unfold lnext
  split
  · exact h
  · split
    · rename_i h0
      split
      · have := lpacket_fit nx L s d h0
        intro h1
        have := this h1
        show (lpacket nx L s d).2.1.rep 0 < min (_ ++ [_]).length L.n
        simp
        omega
      · exact lnext2_fit L _ _ (lpacket_fit nx L s d h0)
    · exact lnext2_fit L _ _ h
theorem lnext2_place {S : Type} (L : LL) (s : LS) (d : RD S) : (lnext2 L s d).2.1.place ≤ s.place + 1 := by
  unfold lnext2
  split
  · exact Nat.le_succ _
  · exact Nat.le_refl _
theorem lnext_place {S : Type} (nx : S → Int × Bool × S) (L : LL) (s : LS) (d : RD S) : (lnext nx L s d).2.1.place ≤ s.place + 1 := by
  have e := (lpacket_same nx L s d).place
  unfold lnext
  split
  · exact Nat.le_succ _
  · split
    · split
      · show (lpacket nx L s d).2.1.place + 1 ≤ _
        omega
      · have := lnext2_place L (lpacket nx L s d).2.1 (lpacket nx L s d).2.2
        omega
    · exact lnext2_place L s d
theorem LOn.put {S : Type} {L : LL} {t : Sour S} {ga gr : Nat} {w w' : World} {s s' : LS} {d : RD (AhS S)} (h : LOn L t ga gr w s d) (hf : Fr L.foot w w') (h' : LIs L (.pointer (some ⟨ga, 0, none⟩)) (.pointer (some ⟨gr, 0, none⟩)) w' s') : LOn L t ga gr w' s' d := h.own hf (fun _ e => e) h'
def LXPost {S : Type} (L : LL) (t : Sour S) (ga gr : Nat) (R : (Int × Bool) × LS × RD (AhS S)) (w : World) (e : Ending) (w' : World) : Prop :=
  LOPost L t ga gr (.tuple #[.int .u8 R.1.1, .bool R.1.2]) R.2.1 R.2.2 w e w'
set_option maxRecDepth 100000 in
set_option maxHeartbeats 800000 in
theorem lnext_any {S : Type} (L : LL) (t : Sour S) (ga gr : Nat) (s : LS) (d : RD (AhS S)) (w : World) (h : LOn L t ga gr w s d) (hp : s.place ≤ 1000000) (hfit : s.Fit L) :
    Calls Try.prog 23 #[.pointer (some ⟨L.gd, 0, none⟩)] w (LXPost L t ga gr (lnext (ahead t ga).nx L s d) w) := by
  obtain ⟨R, hR⟩ : ∃ R, R = lnext (ahead t ga).nx L s d := ⟨_, rfl⟩
  rw [← hR]
  unfold lnext at hR
  have k8 := h.is_.headC 8 (v := .pointer (some ⟨gr, 0, none⟩)) (by decide) rfl
  have t7 := h.is_.tailC 7 (v := .int .i64 s.left) rfl
  have t8 := h.is_.tailC 8 (v := .bool s.ended) rfl
  have t9 := h.is_.tailC 9 (v := .bool s.bad) rfl
  have H := hid h
  obtain ⟨b, hb⟩ : ∃ b, b = s.bad := ⟨_, rfl⟩
  obtain ⟨en, hen⟩ : ∃ en, en = s.ended := ⟨_, rfl⟩
  obtain ⟨l, hl⟩ : ∃ l, l = s.left := ⟨_, rfl⟩
  rw [← hb, ← hen, ← hl] at hR
  rw [← hb] at t9
  rw [← hen] at t8
  rw [← hl] at t7
  have HR := hid hR
  have HL := hid hl
  have HFI := hid hfit
  have HPL := hid (show (s.place : Int) ≤ 1000000 by omega)
  clear h hR hb hen hl hfit hp
  go_enter Try.func23, Try.ntmps23
  cases b with
  | true =>
    have hR := HR.out
    rw [if_pos (.inl rfl)] at hR
    have HR2 := hid hR
    clear hR
    go_wp2_with fail
    go_ret2
    rw [HR2.out]
    exact ⟨rfl, Fr.refl _ _, H.out⟩
  | false =>
    cases en with
    | true =>
      have hR := HR.out
      rw [if_pos (.inr rfl)] at hR
      have HR2 := hid hR
      clear hR
      go_wp2_with fail
      go_ret2
      rw [HR2.out]
      exact ⟨rfl, Fr.refl _ _, H.out⟩
    | false =>
      have hR := HR.out
      rw [if_neg (by decide)] at hR
      have HR2 := hid hR
      clear hR
      go_upto_if 27 with fail
      go_cut [] (fun wx => ∃ (s' : LS) (d' : RD (AhS S)), Fr (LFt L t ga gr) w wx ∧ LOn L t ga gr wx s' d' ∧ s'.Fit L ∧ s'.place ≤ s.place ∧ R = lnext2 L s' d')
      case first =>
        by_cases hl0 : l = 0
        · subst hl0
          have hR := HR2.out
          rw [if_pos rfl] at hR
          have C1 := hid (lpacket_any L t ga gr s d w H.out (by have := HPL.out; omega))
          have q1 := lpacket_lt (ahead t ga).nx L s d
          have q2 := (lpacket_same (ahead t ga).nx L s d).place
          have q3 := hid (lpacket_fit (ahead t ga).nx L s d HL.out.symm)
          generalize lpacket (ahead t ga).nx L s d = q at C1 q1 q2 q3 hR
          obtain ⟨⟨x, ok⟩, s1, d1⟩ := q
          dsimp only at C1 q1 q2 q3 hR
          have HR3 := hid hR
          clear hR
          go_wp2_with fail
          refine C1.out.mono ?_
          rintro e w4 ⟨rfl, hf4, h4⟩
          have HF4 := hid hf4
          have H4 := hid h4
          dsimp only at H4
          clear hf4 h4
          cases ok with
          | true =>
            have hR := HR3.out
            rw [if_pos rfl] at hR
            have HR4 := hid hR
            have hx0 : (0 : Int) ≤ (x : Int) := by omega
            have hx1 : (x : Int) < 256 := by omega
            have HQ2 := hid q2
            clear hR q1 q2
            go_wp2_with fail
            refine (lput_any L _ _ s1 (x : Int) _ H4.out.is_ ⟨hx0, hx1⟩ (by have := HQ2.out; have := HPL.out; omega)).mono ?_
            rintro e w5 ⟨rfl, hf5, h5⟩
            have H5 := hid (H4.out.put hf5 h5)
            have HF5 := hid (HF4.out.trans (hf5.mono (fun _ _ e => .inl e) : Fr (LFt L t ga gr) w4 w5))
            clear hf5 h5
            go_wp2_with fail
            go_ret2
            rw [HR4.out]
            exact ⟨rfl, HF5.out, H5.out⟩
          | false =>
            have hR := HR3.out
            rw [if_neg (by decide)] at hR
            have HR4 := hid hR
            have HQ2 := hid q2
            clear hR q2
            go_wp2_with fail
            go_meet
            exact ⟨_, _, HF4.out, H4.out, q3.out, Nat.le_of_eq HQ2.out, HR4.out⟩
        · have hR := HR2.out
          rw [if_neg hl0] at hR
          have HR3 := hid hR
          have hlb : ((l : Int) == 0) = false := by simp; omega
          clear hR
          go_wp2_with fail
          go_meet
          exact ⟨s, d, Fr.refl _ _, H.out, HFI.out, Nat.le_refl _, HR3.out⟩
      case rest =>
        obtain ⟨s', d', hf1, h1, hfit, hpl, hR⟩ := hcut
        obtain ⟨wz, hwz⟩ : ∃ wz, wz = wc := ⟨_, rfl⟩
        rw [← hwz] at hf1 h1 ⊢
        clear hwz k8 t7 t8 t9
        unfold lnext2 at hR
        have t7 := h1.is_.tailC 7 (v := .int .i64 s'.left) rfl
        have z7 := blk_frozen h1.is_.at_ (1856 + 7)
        have z6 := blk_frozen h1.is_.at_ (1856 + 6)
        have t6 := h1.is_.tailC 6 (v := .int .i64 s'.place) rfl
        have k6 := h1.is_.headC 6 (v := .pointer (some ⟨L.gw, 0, none⟩)) (by decide) rfl
        have r0 := h1.repCell (i := 0) (by decide)
        change wz.cell? ⟨L.gd, 1858, none⟩ = some (.int .u32 (s'.rep 0)) at r0
        have hle := h1.is_.ok.left
        have hre := h1.is_.ok.rep 0 (by decide)
        obtain ⟨l1, hl1⟩ : ∃ l, l = s'.left := ⟨_, rfl⟩
        obtain ⟨r, hre2⟩ : ∃ r, r = s'.rep 0 := ⟨_, rfl⟩
        rw [← hl1] at t7 hle hR
        rw [← hre2] at r0 hre
        have hp0 : (0 : Int) ≤ (s'.place : Int) := by omega
        have hp1 : (s'.place : Int) ≤ 1000000 := by have := HPL.out; omega
        have HF1 := hid hf1
        have H1 := hid h1
        have HFT := hid hfit
        have HL1 := hid hl1
        have HRE := hid hre2
        have HRR := hid hR
        clear hf1 h1 hfit hl1 hre2 hR hpl
        by_cases hl0 : l1 = 0
        · subst hl0
          have hR := HRR.out
          rw [if_pos rfl] at hR
          have HR3 := hid hR
          clear hR
          go_wp2_with fail
          go_ret2
          rw [HR3.out]
          exact ⟨rfl, HF1.out, H1.out⟩
        · have hR := HRR.out
          rw [if_neg hl0] at hR
          have HR3 := hid hR
          have hlb : ((l1 : Int) == 0) = false := by simp; omega
          have hl0' : (1 : Int) ≤ (l1 : Int) := by omega
          have hl9 : (l1 : Int) ≤ 273 := by omega
          clear hR
          go_upto_region 12 with fail
          rw [show ((l1 : Int) - 1) = ((l1 - 1 : Nat) : Int) by omega, show ((s'.place : Int) + 1) = ((s'.place + 1 : Nat) : Int) by omega]
          obtain ⟨wv, hwv⟩ : ∃ wv, wv = (wz.setCell ⟨L.gd, 1863, none⟩ (.int .i64 ((l1 - 1 : Nat) : Int))).setCell ⟨L.gd, 1862, none⟩ (.int .i64 ((s'.place + 1 : Nat) : Int)) := ⟨_, rfl⟩
          rw [← hwv]
          have h6 : LOn L t ga gr wv { s' with left := l1 - 1, place := s'.place + 1 } d' := by
            rw [hwv]
            exact (H1.out.left_ (x := l1 - 1) (by omega)).place_ (s'.place + 1)
          have hf6 : Fr (LFt L t ga gr) w wv := by
            rw [hwv]
            exact (HF1.out.setCell (p := ⟨L.gd, 1863, none⟩) (fun _ => .inl (.inl rfl)) _).setCell (p := ⟨L.gd, 1862, none⟩) (fun _ => .inl (.inl rfl)) _
          clear hwv t6 t7 z6 z7 k6 r0 hl0' hl9 hp0 hp1
          have k6 := h6.is_.headC 6 (v := .pointer (some ⟨L.gw, 0, none⟩)) (by decide) rfl
          have r0 := h6.repCell (i := 0) (by decide)
          change wv.cell? ⟨L.gd, 1858, none⟩ = some (.int .u32 (s'.rep 0)) at r0
          rw [← HRE.out] at r0
          have hw : IntKind.i64.wrap (r : Int) = (r : Int) := by rw [IntKind.wrap_i64]; omega
          have hby := h6.is_.ok.by_
          have hrm : r < min s'.H.length L.n := by rw [HRE.out]; exact HFT.out (by rw [← HL1.out]; exact hl0)
          have C6 := hid (fun w1 (h1 : WinIs L.gw L.gn L.gm L.n w1 s'.H) => wcopy_any L.gw L.gn L.gm L.n s'.H r w1 h1 hby hrm)
          have HBY := hid hby
          have H6 := hid h6
          have HF6 := hid hf6
          clear h6 hf6 hby hrm
          go_region_with (first | (go_at_call 62; refine (C6.out _ (by first | exact H6.out.is_.win | exact (H6.out.any ((Fr.refl Non _).drew)).is_.win)).mono ?_; rintro e w7 ⟨rfl, hf7, hw7⟩; have HF7 := hid hf7; have HW7 := hid hw7; clear hf7 hw7) | fail)
          all_goals
            simp only [List.getElem_toArray, List.getElem_cons_zero, List.getElem_cons_succ, Act.put, List.setIfInBounds_toArray, List.set_cons_zero, List.set_cons_succ]
            go_wp2_with fail
            go_ret2
            rw [HR3.out, ← HRE.out]
            have hby2 := backH_by HBY.out L.n r
            refine ⟨rfl, HF6.out.trans ((Fr.trans (by first | exact (Fr.refl _ _).drew | exact Fr.refl _ _) HF7.out).mono (fun k _ e => .inl (foot_w L k e))), ?_⟩
            have h7 := (show LOn L t ga gr _ _ d' from H6.out.any (by first | exact (Fr.refl Non _).drew | exact Fr.refl Non _))
            have h8 := h7.put (HF7.out.mono (fun k _ e => foot_w L k e)) (h7.is_.win_ HF7.out HW7.out (bytesL_push HBY.out hby2))
            exact h8
end Go.Proofs.Ytjnegcambbeblaa

/- The document's walk through LZMA (garblerref08): what codes beneath it, its state, where it lies. -/
namespace Go.Proofs.Ytjnegcambbeblaa
open Go.RowKit

/-- what decodes, or codes, beneath the document's walk. -/
structure Cdr (C : Type) where
  lo : Nat
  gd : Option Nat
  ev : Value
  I : (Nat → Prop) → World → C → Prop
  nb : C → Int → Int → Nat × Int × C
  ns : C → Nat → Int → Nat × C
  bad : C → Bool
  free : Prop
  fit : C → Nat → Prop
def Cdr.dv {C : Type} (K : Cdr C) : Value := match K.gd with
  | none => .pointer none
  | some g => .pointer (some ⟨g, 0, none⟩)
def Cdr.may {C : Type} (K : Cdr C) (b : Int) : Prop := K.free ∨ (0 ≤ b ∧ b ≤ 1)
structure Cdr.Ok {C : Type} (K : Cdr C) : Prop where
  more : ∀ A w w' c T, K.I A w c → Fr T w w' → (∀ k, k < w.heap.size → T k → A k) → K.I (fun k => A k ∨ (w.heap.size ≤ k ∧ k < w'.heap.size)) w' c
  old : ∀ A w c k, K.I A w c → A k → K.lo ≤ k ∧ k < w.heap.size
  low : ∀ A w c, K.I A w c → K.lo ≤ w.heap.size
  cell : ∀ A w c g, K.gd = some g → K.I A w c → w.cell? ⟨g, 4, none⟩ = some (.bool (K.bad c))
  nod : K.gd = none → ∀ c, K.bad c = false
  one : ∀ c p b, K.may b → (K.nb c p b).1 ≤ 1
  echo : K.free ∨ ∀ c p b, 0 ≤ b → b ≤ 1 → ((K.nb c p b).1 : Int) = b
  pr : ∀ c p b, 31 ≤ p → p ≤ 2017 → 31 ≤ (K.nb c p b).2.1 ∧ (K.nb c p b).2.1 ≤ 2017
  slt : ∀ c n v, n ≤ 32 → K.free ∨ (0 ≤ v ∧ v < 2 ^ n) → (K.ns c n v).1 < 2 ^ n
  fitB : ∀ c p b n, K.fit c (n + 1) → K.fit (K.nb c p b).2.2 n
  fitS : ∀ c k v n, K.fit c (n + k) → K.fit (K.ns c k v).2 n
  fitM : ∀ c n m, n ≤ m → K.fit c m → K.fit c n
def kcells {C : Type} (K : Cdr C) (gp np cap : Nat) (v : Value) (s : LS) : Array Value :=
  #[.int .i64 s.lc, .int .i64 s.lp, .int .i64 s.pb, .int .i64 s.dict, K.dv, K.ev, .slice (some ⟨gp, 0, none⟩) np cap, v, .int .i64 s.st, .int .u32 (s.rep 0), .int .u32 (s.rep 1), .int .u32 (s.rep 2), .int .u32 (s.rep 3), .bool s.ended, .bool s.bad]
structure KOk (np : Nat) (s : LS) : Prop where
  pr : Pr s.P np
  st : s.st < 12
  rep : ∀ i, i < 4 → s.rep i < 4294967296
  lc : s.lc ≤ 8
  lp : s.lp ≤ 4
  pb : s.pb ≤ 4
  room : 1847 + 768 * 2 ^ (s.lc + s.lp) ≤ np
  few : np ≤ 60000
  dict : s.dict ≤ 4294967295
  by_ : ∀ x ∈ s.H, 0 ≤ x ∧ x < 256
/-- what may be written: none of the blocks U, nothing below lo. -/
def KF {C : Type} (K : Cdr C) (U : Nat → Prop) : Nat → Prop := fun k => K.lo ≤ k ∧ ¬ U k
structure KV {C : Type} (K : Cdr C) (U A : Nat → Prop) (g gp np cap : Nat) (v : Value) (w : World) (s : LS) (c : C) : Prop where
  at_ : w.heap[g]? = some (.cells (kcells K gp np cap v s) 85)
  row : Own w 0 .u16 40 (.slice (some ⟨gp, 0, none⟩) np cap) ((List.range np).map s.P)
  own : Own w 0 .u8 5 v s.H
  sep : ∀ k, v.ownBlock = some k → k ≠ g ∧ k ≠ gp ∧ A k
  ne : g ≠ gp
  ag : A g
  ap : A gp
  co : K.I A w c
  ok : KOk np s
  un : ∀ k, U k → A k ∧ k ≠ g ∧ k ≠ gp ∧ v.ownBlock ≠ some k
def KIs {C : Type} (K : Cdr C) (U : Nat → Prop) (g gp np cap : Nat) (w : World) (s : LS) (c : C) : Prop := ∃ A v, KV K U A g gp np cap v w s c
def KPost {C : Type} (K : Cdr C) (U : Nat → Prop) (g gp np cap : Nat) (v : Value) (s : LS) (c : C) (w : World) (e : Ending) (w' : World) : Prop :=
  e = .returned v ∧ Fr (KF K U) w w' ∧ KIs K U g gp np cap w' s c
section
variable {C : Type} {K : Cdr C} {U A : Nat → Prop} {g gp np cap : Nat} {v : Value} {w w' : World} {s : LS} {c : C}
theorem KV.up (hK : K.Ok) (h : KV K U A g gp np cap v w s c) : KF K U g ∧ g < w.heap.size ∧ KF K U gp ∧ gp < w.heap.size ∧ ∀ k, v.ownBlock = some k → KF K U k ∧ k < w.heap.size :=
  ⟨⟨(hK.old _ _ _ _ h.co h.ag).1, fun e => (h.un g e).2.1 rfl⟩, (hK.old _ _ _ _ h.co h.ag).2, ⟨(hK.old _ _ _ _ h.co h.ap).1, fun e => (h.un gp e).2.2.1 rfl⟩, (hK.old _ _ _ _ h.co h.ap).2, fun k hk => ⟨⟨(hK.old _ _ _ _ h.co (h.sep k hk).2.2).1, fun e => (h.un k e).2.2.2 hk⟩, (hK.old _ _ _ _ h.co (h.sep k hk).2.2).2⟩⟩
/-- nothing of it is touched. -/
theorem KV.any (hK : K.Ok) (h : KV K U A g gp np cap v w s c) (hf : Fr Non w w') : KV K U (fun k => A k ∨ (w.heap.size ≤ k ∧ k < w'.heap.size)) g gp np cap v w' s c :=
  ⟨hf.blk h.at_ id, h.row.fr hf (fun _ _ => id), h.own.fr hf (fun _ _ => id), fun k hk => ⟨(h.sep k hk).1, (h.sep k hk).2.1, .inl (h.sep k hk).2.2⟩, h.ne, .inl h.ag, .inl h.ap, hK.more _ _ _ _ _ h.co hf (fun _ _ e => e.elim), h.ok, fun k hk => ⟨.inl (h.un k hk).1, (h.un k hk).2⟩⟩
theorem KIs.any (hK : K.Ok) (h : KIs K U g gp np cap w s c) (hf : Fr Non w w') : KIs K U g gp np cap w' s c := by
  obtain ⟨A, v, h⟩ := h
  exact ⟨_, v, h.any hK hf⟩
/-- what is new may be held. -/
theorem KIs.hold (hK : K.Ok) (h : KIs K U g gp np cap w s c) (hf : Fr Non w w') : KIs K (fun k => U k ∨ (w.heap.size ≤ k ∧ k < w'.heap.size)) g gp np cap w' s c := by
  obtain ⟨A, v, h⟩ := h
  have h2 := h.any hK hf
  have hup := h.up hK
  refine ⟨_, v, h2.at_, h2.row, h2.own, h2.sep, h2.ne, h2.ag, h2.ap, h2.co, h2.ok, fun k hk => ?_⟩
  rcases hk with hk | hk
  · exact h2.un k hk
  · refine ⟨.inr hk, fun e => ?_, fun e => ?_, fun e => ?_⟩
    · have := hup.2.1; omega
    · have := hup.2.2.2.1; omega
    · have := (hup.2.2.2.2 k e).2; omega
theorem KIs.drop {U' : Nat → Prop} (h : KIs K U g gp np cap w s c) (hu : ∀ k, U' k → U k) : KIs K U' g gp np cap w s c := by
  obtain ⟨A, v, h⟩ := h
  exact ⟨A, v, h.at_, h.row, h.own, h.sep, h.ne, h.ag, h.ap, h.co, h.ok, fun k hk => h.un k (hu k hk)⟩
theorem KV.act {c' : C} (h : KV K U A g gp np cap v w s c) (hf : Fr (fun k => ¬ A k) w w') (hc : K.I A w' c') : KV K U A g gp np cap v w' s c' :=
  ⟨hf.blk h.at_ (fun e => e h.ag), h.row.fr hf (fun k hk e => by
    have : gp = k := by simpa [Value.ownBlock] using hk
    subst this
    exact e h.ap), h.own.fr hf (fun k hk e => e (h.sep k hk).2.2), h.sep, h.ne, h.ag, h.ap, hc, h.ok, h.un⟩
theorem no_more (A : Nat → Prop) (n : Nat) : (fun k => A k ∨ (n ≤ k ∧ k < n)) = A := by
  funext k
  apply propext
  constructor
  · rintro (h | h)
    · exact h
    · omega
  · exact .inl
/-- only drawn. -/
theorem KV.quiet (hK : K.Ok) (h : KV K U A g gp np cap v w s c) (hf : Fr Non w w') (hs : w'.heap.size = w.heap.size) : KV K U A g gp np cap v w' s c := by
  have := h.any hK hf
  rw [hs, no_more] at this
  exact this
theorem map_upd (f : Nat → Int) (n j : Nat) (x : Int) : ((List.range n).map f).set j x = (List.range n).map (upd f j x) := by
  apply List.ext_getElem
  · simp
  · intro i h1 h2
    rw [List.getElem_set, List.getElem_map, List.getElem_map, List.getElem_range]
    unfold upd
    by_cases e : j = i
    · rw [if_pos e, if_pos e.symm]
    · rw [if_neg e, if_neg (fun q => e q.symm)]
/-- a probability is laid down. -/
theorem KV.setP (hK : K.Ok) (h : KV K U A g gp np cap v w s c) {j : Nat} {x : Int} (h0 : 31 ≤ x) (h1 : x ≤ 2017) : KV K U A g gp np cap v (w.setCell ⟨gp, j, none⟩ (.int .u16 x)) { s with P := upd s.P j x } c := by
  have hf : Fr (fun k => k = gp) w (w.setCell ⟨gp, j, none⟩ (.int .u16 x)) := (Fr.refl _ _).setOne _ _
  refine ⟨blk_set_ne h.at_ h.ne, ?_, h.own.fr hf (fun k hk => (h.sep k hk).2.1), h.sep, h.ne, h.ag, h.ap, ?_, ⟨h.ok.pr.upd j h0 h1, h.ok.st, h.ok.rep, h.ok.lc, h.ok.lp, h.ok.pb, h.ok.room, h.ok.few, h.ok.dict, h.ok.by_⟩, h.un⟩
  · show Own _ 0 .u16 _ _ ((List.range np).map (upd s.P j x))
    rw [← map_upd]
    exact h.row.setAt rfl j x
  · have := hK.more _ _ _ _ _ h.co hf (fun k _ e => by rw [e]; exact h.ap)
    rw [show (w.setCell _ _).heap.size = w.heap.size by simp, no_more] at this
    exact this
/-- one of its cells is laid down. -/
theorem KV.setC (hK : K.Ok) (h : KV K U A g gp np cap v w s c) {i : Nat} {x : Value} {s' : LS} (hc : (kcells K gp np cap v s).setIfInBounds i x = kcells K gp np cap v s') (hP : s'.P = s.P) (hH : s'.H = s.H) (hok : KOk np s') :
    KV K U A g gp np cap v (w.setCell ⟨g, i, none⟩ x) s' c := by
  have hf : Fr (fun k => k = g) w (w.setCell ⟨g, i, none⟩ x) := (Fr.refl _ _).setOne _ _
  refine ⟨?_, ?_, ?_, h.sep, h.ne, h.ag, h.ap, ?_, hok, h.un⟩
  · rw [← hc]; exact blk_set h.at_
  · rw [hP]
    exact h.row.fr hf (fun k hk e => by
      have e2 : gp = k := by simpa [Value.ownBlock] using hk
      exact h.ne (by rw [e2]; exact e.symm))
  · rw [hH]
    exact h.own.fr hf (fun k hk => (h.sep k hk).1)
  · have := hK.more _ _ _ _ _ h.co hf (fun k _ e => by rw [e]; exact h.ag)
    rw [show (w.setCell _ _).heap.size = w.heap.size by simp, no_more] at this
    exact this
theorem KV.cellC (h : KV K U A g gp np cap v w s c) (i : Nat) {x : Value} (hx : (kcells K gp np cap v s)[i]? = some x) : w.cell? ⟨g, i, none⟩ = some x := blk_cell h.at_ hx
theorem KV.prob (h : KV K U A g gp np cap v w s c) {j : Nat} (hj : j < np) : w.cell? ⟨gp, j, none⟩ = some (.int .u16 (s.P j)) ∧ w.frozen? ⟨gp, j, none⟩ = false := by
  have e := h.row.cellAt (i := j) (by simpa using hj)
  rw [show ((List.range np).map s.P).getD j 0 = s.P j by simp [List.getD, hj]] at e
  exact e
theorem KV.npcap (h : KV K U A g gp np cap v w s c) : np ≤ cap ∧ cap ≤ maxLen := by
  rcases h.row.2 with ⟨h0, _⟩ | ⟨g', cap', cur, h0, hb, hh, hn, hc, hs, ht⟩
  · cases h0
  · injection h0 with e1 e2 e3
    subst e3
    exact ⟨by simpa using hn, hc⟩
theorem KPost.then {e : Ending} {w2 : World} {x : Value} (hf : Fr (KF K U) w w') (h : KPost K U g gp np cap x s c w' e w2) : KPost K U g gp np cap x s c w e w2 :=
  ⟨h.1, hf.trans h.2.1, h.2.2⟩
end
/-- a bit with the probability at a place. -/
def kbit {C : Type} (K : Cdr C) (P : Nat → Int) (c : C) (k : Nat) (b : Int) : Nat × (Nat → Int) × C := ((K.nb c (P k) b).1, upd P k (K.nb c (P k) b).2.1, (K.nb c (P k) b).2.2)
/-- the calls beneath. -/
structure Cdr.Good {C : Type} (K : Cdr C) : Prop where
  ok : K.Ok
  bit : ∀ (U : Nat → Prop) (g gp np cap : Nat) (s : LS) (c : C) (k : Nat) (b : Int) (w : World), KIs K U g gp np cap w s c → k < np → K.may b → K.fit c 1 →
    Calls Try.prog 105 #[.pointer (some ⟨g, 0, none⟩), .int .i64 k, .int .i64 b] w (KPost K U g gp np cap (.int .i64 (kbit K s.P c k b).1) { s with P := (kbit K s.P c k b).2.1 } (kbit K s.P c k b).2.2 w)
  str : ∀ (U : Nat → Prop) (g gp np cap : Nat) (s : LS) (c : C) (n : Nat) (v : Int) (w : World), KIs K U g gp np cap w s c → n ≤ 30 → 0 ≤ v → v < 4294967296 → K.fit c n →
    Calls Try.prog 110 #[.pointer (some ⟨g, 0, none⟩), .int .i64 n, .int .u32 v] w (KPost K U g gp np cap (.int .u32 (K.ns c n v).1) s (K.ns c n v).2 w)
end Go.Proofs.Ytjnegcambbeblaa

/- The document's walk through LZMA: its small helpers. -/
namespace Go.Proofs.Ytjnegcambbeblaa
open Go.RowKit

theorem mirrork {P : Program} {f : FuncId} {args : Array Value} {w : World} {v : Value} (h : Calls P f args w fun e w' => e = .returned v ∧ w = w') : Calls P f args w fun e w' => e = .returned v ∧ w' = w :=
  h.mono fun _ _ ⟨h1, h2⟩ => ⟨h1, h2.symm⟩
set_option maxRecDepth 100000 in
set_option maxHeartbeats 800000 in
theorem kpower_any (n : Nat) (hn : n ≤ 40) (w : World) : Calls Try.prog 76 #[.int .i64 n] w fun e w' => e = .returned (.int .i64 ((2 ^ n : Nat) : Int)) ∧ w = w' := by
  go_enter Try.func76, Try.ntmps76
  go_wp2_with fail
  go_loopw [3, 4] (fun vv iv wr => ∃ i : Nat, i ≤ n ∧ iv = .int .i64 i ∧ vv = .int .i64 ((2 ^ i : Nat) : Int) ∧ w = wr) (fun _ iv _ => n - (intOf iv).toNat)
  case atStart => exact ⟨0, Nat.zero_le _, rfl, rfl, rfl⟩
  case round =>
    obtain ⟨i, hi, rfl, rfl, rfl⟩ := hrel
    by_cases hlt : i < n
    · have hp : 2 ^ i ≤ 2 ^ 40 := Nat.pow_le_pow_right (by decide) (by omega)
      have hw : IntKind.i64.wrap (((2 ^ i : Nat) : Int) * 2) = ((2 ^ (i + 1) : Nat) : Int) := by rw [IntKind.wrap_i64, Nat.pow_succ]; omega
      obtain ⟨x, hx⟩ : ∃ x : Int, x = ((2 ^ i : Nat) : Int) := ⟨_, rfl⟩
      obtain ⟨y, hy⟩ : ∃ y : Int, y = ((2 ^ (i + 1) : Nat) : Int) := ⟨_, rfl⟩
      rw [← hx, ← hy] at hw
      rw [← hx]
      have HY := hid hy
      clear hp hx hy
      go_wp2_with fail
      go_roundw
      case rel => exact ⟨i + 1, by omega, by go_num, by rw [← HY.out], trivial⟩
      case measure => simp [intOf]; omega
    · have e : i = n := by omega
      subst e
      go_wp2_with fail
      go_ret
      exact ⟨rfl, rfl⟩
set_option maxRecDepth 100000 in
theorem kchoose_any (b : Bool) (x y : Int) (w : World) : Calls Try.prog 106 #[.bool b, .int .i64 x, .int .i64 y] w fun e w' => e = .returned (.int .i64 (if b = true then x else y)) ∧ w = w' := by
  cases b
  · go_enter Try.func106, Try.ntmps106
    go_wp2_with fail
    go_ret
    exact ⟨rfl, rfl⟩
  · go_enter Try.func106, Try.ntmps106
    go_wp2_with fail
    go_ret
    exact ⟨rfl, rfl⟩
def afterL (st young old : Nat) : Nat := if st < 7 then young else old
set_option maxRecDepth 100000 in
set_option maxHeartbeats 800000 in
theorem kafter_any {U : Nat → Prop} {C : Type} {K : Cdr C} (hK : K.Ok) (g gp np cap : Nat) (s : LS) (c : C) (y o : Nat) (w : World) (h : KIs K U g gp np cap w s c) (hy : y < 12) (ho : o < 12) :
    Calls Try.prog 80 #[.pointer (some ⟨g, 0, none⟩), .int .i64 y, .int .i64 o] w fun e w' => e = .returned (.tuple #[]) ∧ Fr (KF K U) w w' ∧ KIs K U g gp np cap w' { s with st := afterL s.st y o } c := by
  obtain ⟨A, v, h⟩ := h
  have H := hid h
  have hup := h.up hK
  have c8 := h.cellC 8 (x := .int .i64 s.st) rfl
  have z8 := blk_frozen h.at_ 8
  obtain ⟨st, hst⟩ : ∃ st, st = s.st := ⟨_, rfl⟩
  rw [← hst] at c8 ⊢
  have key : ∀ x : Nat, x < 12 → Fr (KF K U) w (w.setCell ⟨g, 8, none⟩ (.int .i64 x)) ∧ KIs K U g gp np cap (w.setCell ⟨g, 8, none⟩ (.int .i64 x)) { s with st := x } c := by
    intro x hx
    refine ⟨((Fr.refl _ _).setOne (g := g) _ _).mono (fun k _ e => by rw [e]; exact hup.1), _, v, H.out.setC hK (s' := { s with st := x }) rfl rfl rfl ⟨H.out.ok.pr, hx, H.out.ok.rep, H.out.ok.lc, H.out.ok.lp, H.out.ok.pb, H.out.ok.room, H.out.ok.few, H.out.ok.dict, H.out.ok.by_⟩⟩
  have HK := hid key
  clear key h hup
  unfold afterL
  by_cases h7 : st < 7
  · have h7' : (st : Int) < 7 := by omega
    rw [if_pos h7]
    clear h7
    go_enter Try.func80, Try.ntmps80
    go_wp2_with fail
    go_end0
    exact ⟨rfl, HK.out y hy⟩
  · have h7' : ¬ (st : Int) < 7 := by omega
    rw [if_neg h7]
    clear h7
    go_enter Try.func80, Try.ntmps80
    go_wp2_with fail
    go_end0
    exact ⟨rfl, HK.out o ho⟩
end Go.Proofs.Ytjnegcambbeblaa

/- The document's walk through LZMA: trees of bits. -/
namespace Go.Proofs.Ytjnegcambbeblaa
open Go.RowKit

/-- the i-th bit of a number. -/
def bitAt (v : Int) (i : Nat) : Int := (v.tdiv ((2 ^ i : Nat) : Int)).tmod 2
theorem bitAt_01 {v : Int} (h : 0 ≤ v) (i : Nat) : 0 ≤ bitAt v i ∧ bitAt v i ≤ 1 := by
  unfold bitAt
  have h1 : 0 ≤ v.tdiv ((2 ^ i : Nat) : Int) := Int.tdiv_nonneg h (Int.natCast_nonneg _)
  rw [Int.tmod_eq_emod_of_nonneg h1]
  omega
theorem bitAt_may {C : Type} {K : Cdr C} {v : Int} (h : K.free ∨ 0 ≤ v) (i : Nat) : K.may (bitAt v i) := by
  rcases h with h | h
  · exact .inl h
  · exact .inr (bitAt_01 h i)
def ktreeGo {C : Type} (K : Cdr C) (o : Nat) (v : Int) : Nat → (Nat → Int) → C → Nat → Nat × (Nat → Int) × C
  | 0, P, c, m => (m, P, c)
  | i + 1, P, c, m => ktreeGo K o v i (kbit K P c (o + m) (bitAt v i)).2.1 (kbit K P c (o + m) (bitAt v i)).2.2 (2 * m + (kbit K P c (o + m) (bitAt v i)).1)
def ktree {C : Type} (K : Cdr C) (P : Nat → Int) (c : C) (o B : Nat) (v : Int) : Nat × (Nat → Int) × C := ((ktreeGo K o v B P c 1).1 - 2 ^ B, (ktreeGo K o v B P c 1).2)
theorem kbit_one {C : Type} {K : Cdr C} (hK : K.Ok) (P : Nat → Int) (c : C) (k : Nat) {b : Int} (hb : K.may b) : (kbit K P c k b).1 ≤ 1 := hK.one _ _ _ hb
theorem ktreeGo_rng {C : Type} {K : Cdr C} (hK : K.Ok) (o : Nat) {v : Int} (hv : K.free ∨ 0 ≤ v) : ∀ (i : Nat) (P : Nat → Int) (c : C) (m : Nat), m * 2 ^ i ≤ (ktreeGo K o v i P c m).1 ∧ (ktreeGo K o v i P c m).1 < (m + 1) * 2 ^ i
  | 0, P, c, m => by unfold ktreeGo; simp
  | i + 1, P, c, m => by
    have h1 := kbit_one hK P c (o + m) (bitAt_may (K := K) hv i)
    have h := ktreeGo_rng hK o hv i (kbit K P c (o + m) (bitAt v i)).2.1 (kbit K P c (o + m) (bitAt v i)).2.2 (2 * m + (kbit K P c (o + m) (bitAt v i)).1)
    have e1 : m * 2 ^ (i + 1) = (2 * m) * 2 ^ i := by rw [Nat.pow_succ, Nat.mul_comm (2 ^ i) 2, ← Nat.mul_assoc, Nat.mul_comm m 2]
    have e2 : (m + 1) * 2 ^ (i + 1) = (2 * m + 2) * 2 ^ i := by rw [Nat.pow_succ, Nat.mul_comm (2 ^ i) 2, ← Nat.mul_assoc]; congr 1; omega
    rw [e1, e2]
    exact ⟨Nat.le_trans (Nat.mul_le_mul_right _ (by omega)) h.1, Nat.lt_of_lt_of_le h.2 (Nat.mul_le_mul_right _ (by omega))⟩
theorem ktree_lt {C : Type} {K : Cdr C} (hK : K.Ok) (P : Nat → Int) (c : C) (o B : Nat) {v : Int} (hv : K.free ∨ 0 ≤ v) : (ktree K P c o B v).1 < 2 ^ B := by
  have h := ktreeGo_rng hK o hv B P c 1
  show (ktreeGo K o v B P c 1).1 - 2 ^ B < 2 ^ B
  omega
theorem div_range (v x : Int) (h0 : -4294967296 ≤ v) (h1 : v ≤ 4294967296) : IntKind.i64.wrap (v.tdiv x) = v.tdiv x := by
  have h := Int.natAbs_tdiv_le_natAbs v x
  rw [IntKind.wrap_i64]
  omega
set_option maxRecDepth 100000 in
set_option maxHeartbeats 1600000 in
theorem ktree_any {U : Nat → Prop} {C : Type} {K : Cdr C} (hG : K.Good) (g gp np cap : Nat) (s : LS) (c : C) (o B : Nat) (v : Int) (w : World) (h : KIs K U g gp np cap w s c) (hB : B ≤ 8) (ho : o + 2 ^ B ≤ np) (ho2 : o ≤ 60000) (hv : K.free ∨ 0 ≤ v) (hv0 : -4294967296 ≤ v) (hv1 : v ≤ 4294967296) (hfit : K.fit c B) :
    Calls Try.prog 107 #[.pointer (some ⟨g, 0, none⟩), .int .i64 o, .int .i64 B, .int .i64 v] w (KPost K U g gp np cap (.int .i64 (ktree K s.P c o B v).1) { s with P := (ktree K s.P c o B v).2.1 } (ktree K s.P c o B v).2.2 w) := by
  obtain ⟨r, hr⟩ : ∃ r, r = ktreeGo K o v B s.P c 1 := ⟨_, rfl⟩
  have hrng := ktreeGo_rng hG.ok o hv B s.P c 1
  have ey : ktree K s.P c o B v = (r.1 - 2 ^ B, r.2) := by unfold ktree; rw [hr]
  rw [ey]
  rw [← hr] at hrng
  have H := hid h
  have HR := hid hr
  have HRNG := hid hrng
  have HO := hid ho
  have HV := hid hv
  have HFIT := hid hfit
  have HVR := hid (And.intro hv0 hv1)
  clear h hr hrng ho hv hfit ey
  go_enter Try.func107, Try.ntmps107
  go_wp2_with fail
  go_loopw [9, 10] (fun mv iv wr => ∃ (k m : Nat) (P1 : Nat → Int) (c1 : C), k ≤ B ∧ iv = .int .i64 ((k : Int) - 1) ∧ mv = .int .i64 m ∧ 2 ^ (B - k) ≤ m ∧ m < 2 ^ (B - k + 1) ∧ ktreeGo K o v k P1 c1 m = r ∧ Fr (KF K U) w wr ∧ KIs K U g gp np cap wr { s with P := P1 } c1 ∧ K.fit c1 k) (fun _ iv _ => (intOf iv + 1).toNat)
  case atStart => exact ⟨B, 1, s.P, c, Nat.le_refl _, by go_num, rfl, by simp, by simp, HR.out.symm, Fr.refl _ _, H.out, HFIT.out⟩
  case round =>
    obtain ⟨k, m, P1, c1, hk, rfl, rfl, hm0, hm1, hgo, hfr, hst, hfit⟩ := hrel
    have HGO := hid hgo
    have HFR := hid hfr
    have HST := hid hst
    have HM := hid (And.intro hm0 hm1)
    have HF := hid hfit
    have hm9 : m < 512 := by
      have : 2 ^ (B - k + 1) ≤ 2 ^ 9 := Nat.pow_le_pow_right (by decide) (by omega)
      omega
    clear hgo hfr hst hfit hm0 hm1
    cases k with
    | zero =>
      go_wp2_with fail
      refine (kpower_any B (by omega) _).mono ?_
      rintro e w1 ⟨rfl, rfl⟩
      have hmr : r = (m, P1, c1) := HGO.out.symm
      have hrg := HRNG.out
      rw [hmr] at hrg
      have hB8 : 2 ^ B ≤ 2 ^ 8 := Nat.pow_le_pow_right (by decide) hB
      have hsub : wrap64 ((m : Int) - 2 ^ B) = ((m - 2 ^ B : Nat) : Int) := by
        have h1 : 1 * 2 ^ B ≤ m := hrg.1
        rw [show (2 : Int) ^ B = ((2 ^ B : Nat) : Int) by simp, IntWalk.wrap64_in _ ⟨by omega, by omega⟩]
        omega
      have HSUB := hid hsub
      clear hsub hrg hB8
      go_wp2_with fail
      go_ret
      rw [hmr]
      exact ⟨by show Ending.returned (.int .i64 (wrap64 ((m : Int) - 2 ^ B))) = _; rw [HSUB.out], HFR.out, HST.out⟩
    | succ i =>
      have hpr : o + m < np := by
        have h1 := HM.out.2
        have h2 : 2 ^ (B - (i + 1) + 1) ≤ 2 ^ B := Nat.pow_le_pow_right (by decide) (by omega)
        have := HO.out
        omega
      have hi8 : i ≤ 8 := by omega
      obtain ⟨x, hx⟩ : ∃ x : Int, x = ((2 ^ i : Nat) : Int) := ⟨_, rfl⟩
      have hx1 : 1 ≤ x := by have : 0 < 2 ^ i := Nat.pow_pos (by decide); omega
      have hdv : IntKind.i64.wrap (v.tdiv x) = v.tdiv x := div_range v x HVR.out.1 HVR.out.2
      obtain ⟨b, hb⟩ : ∃ b : Int, b = bitAt v i := ⟨_, rfl⟩
      have hbx : (v.tdiv x).tmod 2 = b := by rw [hb, hx]; rfl
      have HX := hid hx
      have HB := hid hb
      obtain ⟨q, hq⟩ : ∃ q, q = o + m := ⟨_, rfl⟩
      have hqw : IntKind.i64.wrap ((o : Int) + (m : Int)) = (q : Int) := by rw [IntKind.wrap_i64]; omega
      obtain ⟨y, hy⟩ : ∃ y, y = kbit K P1 c1 q b := ⟨_, rfl⟩
      have hmay : K.may b := by rw [hb]; exact bitAt_may HV.out i
      have hy1 : y.1 ≤ 1 := by rw [hy]; exact kbit_one hG.ok _ _ _ hmay
      have hqn : q < np := by rw [hq]; exact hpr
      have HQ := hid hq
      have HY := hid hy
      have HMAY := hid hmay
      have HQN := hid hqn
      clear hx hb hy hq hmay hpr hqn
      go_wp2_with fail
      refine (kpower_any i (by omega) _).mono ?_
      rintro e w1 ⟨rfl, rfl⟩
      rw [← HX.out]
      go_wp2_with fail
      refine (hG.bit U g gp np cap _ c1 q b _ HST.out HQN.out HMAY.out (hG.ok.fitM _ _ _ (by omega) HF.out)).mono ?_
      rintro e w1 ⟨rfl, hf1, h1⟩
      have hF1 := hid (HFR.out.trans hf1)
      have hfit1 := hid (hG.ok.fitB c1 (P1 q) b i HF.out)
      have H1 := hid (show KIs K U g gp np cap w1 { s with P := y.2.1 } y.2.2 by rw [HY.out]; exact h1)
      rw [show (kbit K ({ s with P := P1 } : LS).P c1 q b).1 = y.1 by rw [HY.out]]
      clear hf1 h1
      obtain ⟨z, hz⟩ : ∃ z, z = y.1 := ⟨_, rfl⟩
      rw [← hz] at hy1 ⊢
      have HZ := hid hz
      clear hz
      go_wp2_with fail
      go_roundw
      case rel =>
        refine ⟨i, 2 * m + z, y.2.1, y.2.2, by omega, by go_num, by go_num, ?_, ?_, ?_, hF1.out, H1.out, ?_⟩
        · have h1 := HM.out.1
          rw [show B - i = B - (i + 1) + 1 by omega, Nat.pow_succ]
          omega
        · have h1 := HM.out.2
          rw [show B - i + 1 = (B - (i + 1) + 1) + 1 by omega, Nat.pow_succ]
          omega
        · have h1 := HGO.out
          rw [← h1]
          show _ = ktreeGo K o v i (kbit K P1 c1 (o + m) (bitAt v i)).2.1 (kbit K P1 c1 (o + m) (bitAt v i)).2.2 (2 * m + (kbit K P1 c1 (o + m) (bitAt v i)).1)
          rw [HZ.out, HY.out, HQ.out, HB.out]
        · rw [HY.out]
          exact hfit1.out
      case measure => simp [intOf]
end Go.Proofs.Ytjnegcambbeblaa

/- The document's walk through LZMA: bits the least first. -/
namespace Go.Proofs.Ytjnegcambbeblaa
open Go.RowKit

def krevGo {C : Type} (K : Cdr C) (o : Nat) (v : Int) : Nat → Nat → (Nat → Int) → C → Nat → Nat → Nat × (Nat → Int) × C
  | 0, _, P, c, _, out => (out, P, c)
  | k + 1, i, P, c, m, out => krevGo K o v k (i + 1) (kbit K P c (o + m) (bitAt v i)).2.1 (kbit K P c (o + m) (bitAt v i)).2.2 (2 * m + (kbit K P c (o + m) (bitAt v i)).1) (out + (kbit K P c (o + m) (bitAt v i)).1 * 2 ^ i)
def krev {C : Type} (K : Cdr C) (P : Nat → Int) (c : C) (o B : Nat) (v : Int) : Nat × (Nat → Int) × C := krevGo K o v B 0 P c 1 0
theorem krevGo_rng {C : Type} {K : Cdr C} (hK : K.Ok) (o : Nat) {v : Int} (hv : K.free ∨ 0 ≤ v) : ∀ (k i : Nat) (P : Nat → Int) (c : C) (m out : Nat), out < 2 ^ i → (krevGo K o v k i P c m out).1 < 2 ^ (i + k)
  | 0, i, P, c, m, out, h => h
  | k + 1, i, P, c, m, out, h => by
    have h1 := kbit_one hK P c (o + m) (bitAt_may (K := K) hv i)
    have h2 := krevGo_rng hK o hv k (i + 1) (kbit K P c (o + m) (bitAt v i)).2.1 (kbit K P c (o + m) (bitAt v i)).2.2 (2 * m + (kbit K P c (o + m) (bitAt v i)).1) (out + (kbit K P c (o + m) (bitAt v i)).1 * 2 ^ i) (by
      have := Nat.mul_le_mul_right (2 ^ i) h1
      rw [Nat.pow_succ]
      omega)
    rw [show i + (k + 1) = i + 1 + k by omega]
    exact h2
theorem krev_lt {C : Type} {K : Cdr C} (hK : K.Ok) (P : Nat → Int) (c : C) (o B : Nat) {v : Int} (hv : K.free ∨ 0 ≤ v) : (krev K P c o B v).1 < 2 ^ B := by
  have h := krevGo_rng hK o hv B 0 P c 1 0 (by decide)
  rw [Nat.zero_add] at h
  exact h
set_option maxRecDepth 100000 in
set_option maxHeartbeats 1600000 in
theorem krev_any {U : Nat → Prop} {C : Type} {K : Cdr C} (hG : K.Good) (g gp np cap : Nat) (s : LS) (c : C) (o B : Nat) (v : Int) (w : World) (h : KIs K U g gp np cap w s c) (hB : B ≤ 8) (ho : o + 2 ^ B ≤ np) (ho2 : o ≤ 60000) (hv : K.free ∨ 0 ≤ v) (hv0 : -4294967296 ≤ v) (hv1 : v ≤ 4294967296) (hfit : K.fit c B) :
    Calls Try.prog 109 #[.pointer (some ⟨g, 0, none⟩), .int .i64 o, .int .i64 B, .int .i64 v] w (KPost K U g gp np cap (.int .i64 (krev K s.P c o B v).1) { s with P := (krev K s.P c o B v).2.1 } (krev K s.P c o B v).2.2 w) := by
  obtain ⟨r, hr⟩ : ∃ r, r = krev K s.P c o B v := ⟨_, rfl⟩
  rw [← hr]
  have H := hid h
  have HR := hid hr
  have HO := hid ho
  have HV := hid hv
  have HFIT := hid hfit
  have HVR := hid (And.intro hv0 hv1)
  clear h hr ho hv hfit
  go_enter Try.func109, Try.ntmps109
  go_wp2_with fail
  go_loopw [9, 10, 11, 12] (fun mv ov iv _ wr => ∃ (i m out : Nat) (P1 : Nat → Int) (c1 : C), i ≤ B ∧ iv = .int .i64 i ∧ mv = .int .i64 m ∧ ov = .int .i64 out ∧ 2 ^ i ≤ m ∧ m < 2 ^ (i + 1) ∧ out < 2 ^ i ∧ krevGo K o v (B - i) i P1 c1 m out = r ∧ Fr (KF K U) w wr ∧ KIs K U g gp np cap wr { s with P := P1 } c1 ∧ K.fit c1 (B - i)) (fun _ _ iv _ _ => B - (intOf iv).toNat)
  case atStart => exact ⟨0, 1, 0, s.P, c, Nat.zero_le _, rfl, rfl, rfl, by simp, by simp, by simp, HR.out.symm, Fr.refl _ _, H.out, HFIT.out⟩
  case round =>
    obtain ⟨i, m, out, P1, c1, hi, rfl, rfl, rfl, hm0, hm1, hout, hgo, hfr, hst, hfit⟩ := hrel
    have HGO := hid hgo
    have HFR := hid hfr
    have HST := hid hst
    have HM := hid (And.intro hm0 (And.intro hm1 hout))
    have HF := hid hfit
    have hm9 : m < 512 := by
      have : 2 ^ (i + 1) ≤ 2 ^ 9 := Nat.pow_le_pow_right (by decide) (by omega)
      omega
    have ho9 : out < 256 := by
      have : 2 ^ i ≤ 2 ^ 8 := Nat.pow_le_pow_right (by decide) (by omega)
      omega
    clear hgo hfr hst hfit hm0 hm1 hout
    by_cases hlt : i < B
    · have hpr : o + m < np := by
        have h1 := HM.out.2.1
        have h2 : 2 ^ (i + 1) ≤ 2 ^ B := Nat.pow_le_pow_right (by decide) (by omega)
        have := HO.out
        omega
      have hi8 : i ≤ 8 := by omega
      obtain ⟨x, hx⟩ : ∃ x : Int, x = ((2 ^ i : Nat) : Int) := ⟨_, rfl⟩
      have hx1 : 1 ≤ x := by have : 0 < 2 ^ i := Nat.pow_pos (by decide); omega
      have hdv : IntKind.i64.wrap (v.tdiv x) = v.tdiv x := div_range v x HVR.out.1 HVR.out.2
      obtain ⟨b, hb⟩ : ∃ b : Int, b = bitAt v i := ⟨_, rfl⟩
      have hbx : (v.tdiv x).tmod 2 = b := by rw [hb, hx]; rfl
      have HX := hid hx
      have HB := hid hb
      obtain ⟨q, hq⟩ : ∃ q, q = o + m := ⟨_, rfl⟩
      have hqw : IntKind.i64.wrap ((o : Int) + (m : Int)) = (q : Int) := by rw [IntKind.wrap_i64]; omega
      obtain ⟨y, hy⟩ : ∃ y, y = kbit K P1 c1 q b := ⟨_, rfl⟩
      have hmay : K.may b := by rw [hb]; exact bitAt_may HV.out i
      have hy1 : y.1 ≤ 1 := by rw [hy]; exact kbit_one hG.ok _ _ _ hmay
      have hqn : q < np := by rw [hq]; exact hpr
      have HQ := hid hq
      have HY := hid hy
      have HMAY := hid hmay
      have HQN := hid hqn
      clear hx hb hy hq hmay hpr hqn
      go_wp2_with fail
      refine (kpower_any i (by omega) _).mono ?_
      rintro e w1 ⟨rfl, rfl⟩
      rw [← HX.out]
      go_wp2_with fail
      refine (hG.bit U g gp np cap _ c1 q b _ HST.out HQN.out HMAY.out (hG.ok.fitM _ _ _ (by omega) HF.out)).mono ?_
      rintro e w1 ⟨rfl, hf1, h1⟩
      have hF1 := hid (HFR.out.trans hf1)
      have hfit1 := hid (hG.ok.fitB c1 (P1 q) b (B - (i + 1)) (by rw [show B - (i + 1) + 1 = B - i by omega]; exact HF.out))
      have H1 := hid (show KIs K U g gp np cap w1 { s with P := y.2.1 } y.2.2 by rw [HY.out]; exact h1)
      rw [show (kbit K ({ s with P := P1 } : LS).P c1 q b).1 = y.1 by rw [HY.out]]
      clear hf1 h1
      obtain ⟨z, hz⟩ : ∃ z, z = y.1 := ⟨_, rfl⟩
      rw [← hz] at hy1 ⊢
      have HZ := hid hz
      obtain ⟨t, ht⟩ : ∃ t, t = z * 2 ^ i := ⟨_, rfl⟩
      have ht9 : t ≤ 256 := by
        have h1 : 2 ^ i ≤ 2 ^ 8 := Nat.pow_le_pow_right (by decide) (by omega)
        have := Nat.mul_le_mul_right (2 ^ i) hy1
        omega
      have htx : IntKind.i64.wrap ((z : Int) * x) = (t : Int) := by
        rw [HX.out, show (z : Int) * ((2 ^ i : Nat) : Int) = (t : Int) by rw [ht]; simp, IntKind.wrap_i64]
        omega
      have HT := hid ht
      clear hz ht
      go_wp2_with fail
      refine (kpower_any i (by omega) _).mono ?_
      rintro e w2 ⟨rfl, rfl⟩
      rw [← HX.out]
      go_wp2_with fail
      go_roundw
      case rel =>
        refine ⟨i + 1, 2 * m + z, out + t, y.2.1, y.2.2, by omega, by go_num, by go_num, by go_num, ?_, ?_, ?_, ?_, hF1.out, H1.out, ?_⟩
        · have h1 := HM.out.1
          rw [Nat.pow_succ]
          omega
        · have h1 := HM.out.2.1
          rw [Nat.pow_succ]
          omega
        · have h1 := HM.out.2.2
          have := Nat.mul_le_mul_right (2 ^ i) hy1
          rw [Nat.pow_succ, HT.out]
          omega
        · have h1 := HGO.out
          rw [← h1, show B - i = B - (i + 1) + 1 by omega]
          show _ = krevGo K o v (B - (i + 1)) (i + 1) (kbit K P1 c1 (o + m) (bitAt v i)).2.1 (kbit K P1 c1 (o + m) (bitAt v i)).2.2 (2 * m + (kbit K P1 c1 (o + m) (bitAt v i)).1) (out + (kbit K P1 c1 (o + m) (bitAt v i)).1 * 2 ^ i)
          rw [HT.out, HZ.out, HY.out, HQ.out, HB.out]
        · rw [HY.out]
          exact hfit1.out
      case measure => simp [intOf]; omega
    · have e : i = B := by omega
      subst e
      have hmr : r = (out, P1, c1) := by
        have := HGO.out
        rw [Nat.sub_self] at this
        exact this.symm
      go_wp2_with fail
      go_ret
      rw [hmr]
      exact ⟨rfl, HFR.out, HST.out⟩
end Go.Proofs.Ytjnegcambbeblaa
