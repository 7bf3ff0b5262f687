/- Texts of this proof, one behind the other. -/
import Derived.Test.YtjnegcambbeblaaMg14

/- lzma2: pack. -/
namespace Go.Proofs.Ytjnegcambbeblaa
open Go.RowKit

/-- a packed chunk is on. -/
structure L2On {S : Type} (L : LL) (t : Sour S) (g gp ga gr : Nat) (w : World) (z : L2 S) (rd : RD (AhS (S × Nat))) : Prop where
  at_ : w.heap[g]? = some (.cells (z.cells L (.iface t.ty t.val) (.pointer (some ⟨gp, 0, none⟩))) 145)
  on : LOn L (lim t gp) ga gr w z.c rd
  ng : ¬ LFt L (lim t gp) ga gr g
  ok : z.Ok L
theorem L2.empty_ok {S : Type} {L : LL} {z : L2 S} (h : z.Ok L) : z.empty.Ok L := ⟨h.lclp, h.pb, h.nl, h.left⟩
theorem L2.setting_ok {S : Type} (t : Sour S) {L : LL} {z : L2 S} (h : z.Ok L) : (z.setting t.nx).Ok L := by
  have hb := L2.byte_by t z
  unfold L2.setting
  by_cases hc : (bySet (z.byte t.nx).1).2 ≠ 0 ∨ 4 < (bySet (z.byte t.nx).1).1.lc + (bySet (z.byte t.nx).1).1.lp
  · rw [if_pos hc]; exact ⟨h.lclp, h.pb, h.nl, h.left⟩
  · rw [if_neg hc]
    have h1 : (bySet (z.byte t.nx).1).2 = 0 := by
      by_cases e : (bySet (z.byte t.nx).1).2 = 0
      · exact e
      · exact absurd (.inl e) hc
    have h2 : ¬ 4 < (bySet (z.byte t.nx).1).1.lc + (bySet (z.byte t.nx).1).1.lp := fun e => hc (.inr e)
    obtain ⟨l0, l1, l2, l3, l4, l5⟩ := bySet_lt hb.1 hb.2 h1
    exact ⟨by show (bySet _).1.lc.toNat + (bySet _).1.lp.toNat ≤ 4; omega, by show (bySet _).1.pb.toNat ≤ 4; omega, h.nl, h.left⟩
theorem and31 {k : Int} (h0 : 0 ≤ k) (h1 : k < 256) : bits .and .i64 k 31 = k % 32 := by
  obtain ⟨n, rfl⟩ := Int.eq_ofNat_of_zero_le h0
  have e := i64_and_nat n 31 (by omega) (by omega)
  rw [show ((31 : Nat) : Int) = 31 from rfl] at e
  show bits BinOp.and IntKind.i64 ((n : Nat) : Int) 31 = ((n : Nat) : Int) % 32
  rw [e, show (31 : Nat) = 2 ^ 5 - 1 from rfl, Nat.and_two_pow_sub_one_eq_mod]
  rfl
theorem L2At.src_ {S : Type} {L : LL} {t : Sour S} {g : Nat} {pv sp rp : Value} {w : World} {z : L2 S} (h : L2At L t g pv sp rp w z) {s : S} (e : z.s = s) : t.I w s := by rw [← e]; exact h.src
def PackPost {S : Type} (L : LL) (t : Sour S) (g : Nat) (pv sp rp : Value) (z : L2 S) (w : World) (e : Ending) (w' : World) : Prop :=
  e = .returned (.tuple #[]) ∧ Fr (L2.foot L t g) w w' ∧
    ((z.mode = none ∧ z.bad = true ∧ L2At L t g pv sp rp w' z) ∨
     (∃ rd gp ga gr, z.mode = some rd ∧ L2On L t g gp ga gr w' z rd ∧ w.heap.size ≤ gp ∧ gp < w'.heap.size ∧ w.heap.size ≤ ga ∧ ga < w'.heap.size ∧ w.heap.size ≤ gr ∧ gr < w'.heap.size))
set_option maxRecDepth 100000 in
set_option maxHeartbeats 800000 in
theorem l2pack_any {S : Type} (L : LL) (t : Sour S) (g : Nat) (pv sp rp : Value) (k : Int) (z : L2 S) (w : World) (h : L2At L t g pv sp rp w z) (hk0 : 128 ≤ k) (hk1 : k < 256) (hm : z.mode = none) (hb : z.bad = false) (hlt : ∀ i, t.foot i → i < w.heap.size) :
    Calls Try.prog 122 #[.pointer (some ⟨g, 0, none⟩), .int .i64 k] w (PackPost L t g pv sp rp (z.pack t.nx k) w) := by
  obtain ⟨R, hR⟩ : ∃ R, R = z.pack t.nx k := ⟨_, rfl⟩
  rw [← hR]
  unfold L2.pack at hR
  obtain ⟨how, hhow⟩ : ∃ how, how = k / 32 - 4 := ⟨_, rfl⟩
  have hh0 : 0 ≤ how := by omega
  have hh3 : how ≤ 3 := by omega
  have hw0 : IntKind.i64.wrap (k / 32) = k / 32 := by rw [IntKind.wrap_i64]; omega
  have hw1 : IntKind.i64.wrap (k / 32 - 4) = how := by rw [hhow, IntKind.wrap_i64]; omega
  rw [← hhow] at hR
  obtain ⟨y, hy⟩ : ∃ y, y = z.st0 how := ⟨_, rfl⟩
  rw [← hy] at hR
  have H := hid h
  have HY := hid hy
  have HR := hid hR
  have HMZ := hid hm
  have HBZ := hid hb
  have HLT := hid hlt
  have HAND := hid (and31 (by omega) hk1)
  clear h hy hR hm hb hlt
  go_enter Try.func122, Try.ntmps122
  go_upto_if 11 with fail
  rw [← hhow]
  have HHOW := hid hhow
  clear hhow hw0 hw1
  go_cut [] (fun wx => Fr (L2.foot L t g) w wx ∧ L2At L t g pv sp rp wx y)
  case first =>
    by_cases hk : how = 3
    · subst hk
      have HE := hid (show y = z.empty by rw [HY.out]; exact if_pos rfl)
      go_wp2_with fail
      refine (l2empty_any L t g pv sp rp z w H.out).mono ?_
      rintro e w1 ⟨rfl, hf1, h1⟩
      have HF1 := hid hf1
      have H1 := hid h1
      clear hf1 h1
      go_wp2_with fail
      go_meet
      rw [HE.out]
      exact ⟨HF1.out, H1.out⟩
    · have HE := hid (show y = z by rw [HY.out]; exact if_neg hk)
      have hkb : (how == 3) = false := by simpa using hk
      go_wp2_with fail
      go_meet
      rw [HE.out]
      exact ⟨Fr.refl _ _, H.out⟩
  case rest =>
    obtain ⟨hf1, h1⟩ := hcut
    obtain ⟨w1, hw1⟩ : ∃ w1, w1 = wc := ⟨_, rfl⟩
    rw [← hw1] at hf1 h1 ⊢
    have C1 := hid (l2pair_any L t g pv sp rp y w1 h1)
    have hpb := L2.pair_by t y
    obtain ⟨a, ha⟩ : ∃ a, a = y.pair t.nx := ⟨_, rfl⟩
    have hR := HR.out
    rw [← ha] at C1 hpb hR
    have HYM := hid (show a.2.mode = none by rw [ha]; show y.mode = none; rw [HY.out]; unfold L2.st0; split <;> exact HMZ.out)
    obtain ⟨l, y1⟩ := a
    dsimp only at C1 hpb hR HYM
    have hpb2 := L2.pair_by t y1
    have C2 := hid (fun w1 (h1 : L2At L t g pv sp rp w1 y1) => l2pair_any L t g pv sp rp y1 w1 h1)
    obtain ⟨b, hb⟩ : ∃ b, b = y1.pair t.nx := ⟨_, rfl⟩
    rw [← hb] at C2 hpb2 hR
    have HYM2 := hid (show b.2.mode = none by rw [hb]; exact HYM.out)
    obtain ⟨q, y2⟩ := b
    dsimp only at C2 hpb2 hR HYM2
    have HR := hid hR
    have HF1 := hid hf1
    have hl1 : (l : Int) ≤ 65536 := by omega
    have hl0 : (1 : Int) ≤ (l : Int) := by omega
    have hm0 : 0 ≤ k % 32 := by omega
    have hm1 : k % 32 < 32 := by omega
    have hw2 : IntKind.i64.wrap (k % 32 * 65536) = k % 32 * 65536 := by rw [IntKind.wrap_i64]; omega
    obtain ⟨lf, hlf⟩ : ∃ lf : Nat, lf = (k % 32 * 65536 + (l : Int)).toNat := ⟨_, rfl⟩
    have hlfi : (lf : Int) = k % 32 * 65536 + (l : Int) := by omega
    have hw3 : IntKind.i64.wrap (k % 32 * 65536 + (l : Int)) = (lf : Int) := by rw [hlfi, IntKind.wrap_i64]; omega
    have HAND' := HAND.out
    have HLF := hid hlf
    have HLFI := hid (show lf ≤ 2097152 by omega)
    clear hw1 hf1 h1 ha hb hlf hlfi hR
    go_wp2_with fail
    refine C1.out.mono ?_
    rintro e w2 ⟨rfl, hf2, h2⟩
    have HF2 := hid (HF1.out.trans hf2)
    have H2 := hid h2
    clear hf2 h2
    go_wp2_with fail
    refine (C2.out _ H2.out).mono ?_
    rintro e w3 ⟨rfl, hf3, h3⟩
    have HF3 := hid (HF2.out.trans hf3)
    have H3 := hid h3
    clear hf3 h3 hw2 hw3
    -- the new setting
    obtain ⟨u, hu⟩ : ∃ u, u = y2.st2 t.nx how := ⟨_, rfl⟩
    have hR := HR.out
    rw [← hu, ← HLF.out] at hR
    have HR := hid hR
    have HU := hid hu
    clear hR hu
    go_upto_if 23 with fail
    go_cut [] (fun wx => Fr (L2.foot L t g) w3 wx ∧ L2At L t g pv sp rp wx u)
    case first =>
      by_cases hk : 2 ≤ how
      · have HE := hid (show u = y2.setting t.nx by rw [HU.out]; exact if_pos hk)
        have hkb : decide (2 ≤ how) = true := decide_eq_true hk
        go_wp2_with fail
        refine (l2setting_any L t g pv sp rp y2 w3 H3.out).mono ?_
        rintro e w4 ⟨rfl, hf4, h4⟩
        have HF4 := hid hf4
        have H4 := hid h4
        clear hf4 h4
        go_wp2_with fail
        go_meet
        rw [HE.out]
        exact ⟨HF4.out, H4.out⟩
      · have HE := hid (show u = y2 by rw [HU.out]; exact if_neg hk)
        have hkb : decide (2 ≤ how) = false := decide_eq_false hk
        go_wp2_with fail
        go_meet
        rw [HE.out]
        exact ⟨Fr.refl _ _, H3.out⟩
    case rest =>
      obtain ⟨hf4, h4⟩ := hcut
      obtain ⟨w4, hw4⟩ : ∃ w4, w4 = wc := ⟨_, rfl⟩
      rw [← hw4] at hf4 h4 ⊢
      have HUM := hid (show u.mode = none by
        rw [HU.out]; unfold L2.st2; split
        · unfold L2.setting
          split
          · exact HYM2.out
          · exact HYM2.out
        · exact HYM2.out)
      have HF4 := hid (HF3.out.trans hf4)
      have H4 := hid h4
      have c9 := h4.cell 9 (v := .bool u.stated) rfl
      have z9 := blk_frozen h4.at_ 9
      clear hw4 hf4 h4
      -- stated
      obtain ⟨v, hv⟩ : ∃ v, v = u.st3 how := ⟨_, rfl⟩
      have hR := HR.out
      rw [← hv] at hR
      have HR := hid hR
      have HV := hid hv
      clear hR hv
      go_upto_if 27 with fail
      go_cut [] (fun wx => Fr (L2.foot L t g) w4 wx ∧ L2At L t g pv sp rp wx v)
      case first =>
        by_cases hk : 1 ≤ how
        · have HE := hid (show v = { u with stated := true } by rw [HV.out]; exact if_pos hk)
          have hkb : decide (1 ≤ how) = true := decide_eq_true hk
          go_wp2_with fail
          go_meet
          rw [HE.out]
          exact ⟨(Fr.refl _ _).setCell (p := ⟨g, 9, none⟩) (fun _ => .inl rfl) _, H4.out.set (z' := { u with stated := true }) rfl rfl rfl ⟨H4.out.ok.lclp, H4.out.ok.pb, H4.out.ok.nl, H4.out.ok.left⟩⟩
        · have HE := hid (show v = u by rw [HV.out]; exact if_neg hk)
          have hkb : decide (1 ≤ how) = false := decide_eq_false hk
          go_wp2_with fail
          go_meet
          rw [HE.out]
          exact ⟨Fr.refl _ _, H4.out⟩
      case rest =>
        obtain ⟨hf5, h5⟩ := hcut
        obtain ⟨w5, hw5⟩ : ∃ w5, w5 = wc := ⟨_, rfl⟩
        rw [← hw5] at hf5 h5 ⊢
        have HVM := hid (show v.mode = none by rw [HV.out]; unfold L2.st3; split <;> exact HUM.out)
        have HF5 := hid (HF4.out.trans hf5)
        have H5 := hid h5
        clear c9 z9 hw5
        have c8 := h5.cell 8 (v := .bool v.emptied) rfl
        have c9 := h5.cell 9 (v := .bool v.stated) rfl
        have c10 := h5.cell 10 (v := .bool v.setted) rfl
        have c12 := h5.cell 12 (v := .bool v.bad) rfl
        have z12 := blk_frozen h5.at_ 12
        obtain ⟨f8, e8⟩ : ∃ f, f = v.emptied := ⟨_, rfl⟩
        obtain ⟨f9, e9⟩ : ∃ f, f = v.stated := ⟨_, rfl⟩
        obtain ⟨f10, e10⟩ : ∃ f, f = v.setted := ⟨_, rfl⟩
        obtain ⟨f12, e12⟩ : ∃ f, f = v.bad := ⟨_, rfl⟩
        rw [← e8] at c8
        rw [← e9] at c9
        rw [← e10] at c10
        rw [← e12] at c12
        have HJ := hid (show ∀ b, b = (f12 || (!f8 || (!f10 || !f9))) → Fr (L2.foot L t g) w5 (w5.setCell ⟨g, 12, none⟩ (.bool b)) ∧ L2At L t g pv sp rp (w5.setCell ⟨g, 12, none⟩ (.bool b)) v.judge ∧ v.judge.bad = b from fun b hb => by
          have hjb : v.judge.bad = b := by rw [hb, e8, e9, e10, e12]; rfl
          refine ⟨(Fr.refl _ _).setCell (p := ⟨g, 12, none⟩) (fun _ => .inl rfl) _, ?_, hjb⟩
          refine h5.set (z' := v.judge) (i := 12) (v := .bool b) ?_ rfl rfl ⟨h5.ok.lclp, h5.ok.pb, h5.ok.nl, h5.ok.left⟩
          rw [← hjb]
          rfl)
        clear hf5 h5 e8 e9 e10 e12
        go_upto_region 9 with fail
        go_cut [] (fun wx => Fr (L2.foot L t g) w5 wx ∧ L2At L t g pv sp rp wx v.judge)
        case first =>
          cases f12 with
          | true =>
            go_wp2_with fail
            go_meet
            exact ⟨(HJ.out true rfl).1, (HJ.out true rfl).2.1⟩
          | false =>
            cases f8 with
            | false =>
              go_wp2_with fail
              go_meet
              exact ⟨(HJ.out true rfl).1, (HJ.out true rfl).2.1⟩
            | true =>
              cases f10 with
              | false =>
                go_wp2_with fail
                go_meet
                exact ⟨(HJ.out true rfl).1, (HJ.out true rfl).2.1⟩
              | true =>
                cases f9 with
                | false =>
                  go_wp2_with fail
                  go_meet
                  exact ⟨(HJ.out true rfl).1, (HJ.out true rfl).2.1⟩
                | true =>
                  go_wp2_with fail
                  go_meet
                  exact ⟨(HJ.out false rfl).1, (HJ.out false rfl).2.1⟩
        case rest =>
          obtain ⟨hf6, h6⟩ := hcut
          obtain ⟨w6, hw6⟩ : ∃ w6, w6 = wc := ⟨_, rfl⟩
          rw [← hw6] at hf6 h6 ⊢
          clear c8 c9 c10 c12 z12 hw6 HJ
          obtain ⟨j, hj⟩ : ∃ j, j = v.judge := ⟨_, rfl⟩
          have hR := HR.out
          rw [← hj] at hR h6
          have HJM := hid (show j.mode = none by rw [hj]; exact HVM.out)
          have HF6 := hid (HF5.out.trans hf6)
          have H6 := hid h6
          have c12 := h6.cell 12 (v := .bool j.bad) rfl
          obtain ⟨jb, hjb⟩ : ∃ b, b = j.bad := ⟨_, rfl⟩
          rw [← hjb] at c12
          unfold L2.packEnd at hR
          have HJB := hid hjb
          have HR := hid hR
          clear hf6 h6 hj hjb hR
          cases jb with
          | true =>
            have HE := hid (show R = j by rw [HR.out]; exact if_pos HJB.out.symm)
            go_wp2_with fail
            refine bodyPost_ret (results_none rfl _ _ _) rfl ?_
            rw [HE.out]
            exact ⟨rfl, HF6.out, .inl ⟨HJM.out, HJB.out.symm, H6.out⟩⟩
          | false =>
            have HE := hid (show R = j.pack1 t.nx how lf q by rw [HR.out]; exact if_neg (by rw [← HJB.out]; decide))
            obtain ⟨c', hc'⟩ : ∃ c', c' = if 1 ≤ how then j.c.reset j.lc j.lp j.pb else j.c := ⟨_, rfl⟩
            have HC := hid hc'
            have c0 := H6.out.cell 0 (v := .pointer (some ⟨L.gd, 0, none⟩)) rfl
            have c1 := H6.out.cell 1 (v := .int .i64 j.lc) rfl
            have c2 := H6.out.cell 2 (v := .int .i64 j.lp) rfl
            have c3 := H6.out.cell 3 (v := .int .i64 j.pb) rfl
            have c4 := H6.out.cell 4 (v := .int .i64 j.dict) rfl
            clear hc'
            go_upto_if 64 with fail
            go_cut [] (fun wx => Fr (L2.foot L t g) w6 wx ∧ L2At L t g pv sp rp wx { j with c := c' })
            case first =>
              by_cases hk : 1 ≤ how
              · have HE2 := hid (show c' = j.c.reset j.lc j.lp j.pb by rw [HC.out]; exact if_pos hk)
                have hkb : decide (1 ≤ how) = true := decide_eq_true hk
                have CR := hid (fun W (hW : Fr Non w6 W) => lreset_any L sp rp j.c j.lc j.lp j.pb (j.dict : Int) W (H6.out.core.keep hW (fun _ _ => id)) H6.out.ok.set)
                go_wp2_with fail
                go_region_with (first | (go_at_call 57; refine (CR.out _ (by repeat (first | exact Fr.refl _ _ | refine Fr.drewN ?_ _ | refine Fr.drew ?_))).mono ?_; rintro e wm ⟨rfl, hfm, hcm⟩; have HFM := hid hfm; have HCM := hid hcm; clear hfm hcm) | fail)
                all_goals
                  go_wp2_with fail
                  go_meet
                  have h60 := H6.out.keep (show Fr Non w6 _ from (by first | exact (Fr.refl Non w6).drew | exact Fr.refl Non w6)) (fun _ _ => id)
                  rw [HE2.out]
                  exact ⟨Fr.trans (by first | exact (Fr.refl _ _).drew | exact Fr.refl _ _) (HFM.out.mono (fun _ _ e => .inr (.inl e))), h60.coreTo HFM.out HCM.out⟩
              · have HE2 := hid (show c' = j.c by rw [HC.out]; exact if_neg hk)
                have hkb : decide (1 ≤ how) = false := decide_eq_false hk
                go_wp2_with fail
                go_meet
                rw [HE2.out]
                exact ⟨Fr.refl _ _, H6.out⟩
            case rest =>
              obtain ⟨hf7, h7⟩ := hcut
              obtain ⟨w7, hw7⟩ : ∃ w7, w7 = wc := ⟨_, rfl⟩
              rw [← hw7] at hf7 h7 ⊢
              clear c0 c1 c2 c3 c4 c12 hw7
              have c5 := h7.cell 5 (v := .iface t.ty t.val) rfl
              have c6 := h7.cell 6 (v := pv) rfl
              have c7 := h7.cell 7 (v := .int .i64 j.left) rfl
              have z6 := blk_frozen h7.at_ 6
              have z7 := blk_frozen h7.at_ 7
              have HF7 := hid (HF6.out.trans hf7)
              have H7 := hid h7
              obtain ⟨gp, hgp⟩ : ∃ gp, gp = w7.heap.size := ⟨_, rfl⟩
              have HGP := hid hgp
              have c6' := fun o => blk_cell (blk_alloc (o' := o) h7.at_) (j := 6) (v := pv) rfl
              have c7' := fun o => blk_cell (blk_alloc (o' := o) h7.at_) (j := 7) (v := .int .i64 j.left) rfl
              have z6' := fun o => blk_frozen (blk_alloc (o' := o) h7.at_) 6
              have z7' := fun o => blk_frozen (blk_alloc (o' := o) h7.at_) 7
              clear hf7 h7
              go_upto_region 14 with fail
              rw [← hgp]
              obtain ⟨w8, hw8⟩ : ∃ w8, w8 = ((w7.alloc (.cells #[.iface t.ty t.val, .int .i64 q] 186)).setCell ⟨g, 7, none⟩ (.int .i64 lf)).setCell ⟨g, 6, none⟩ (.pointer (some ⟨gp, 0, none⟩)) := ⟨_, rfl⟩
              rw [← hw8]
              obtain ⟨jj, hjj⟩ : ∃ jj : L2 S, jj = { j with c := c', left := lf } := ⟨_, rfl⟩
              have hal : L2At L t g pv sp rp (w7.alloc (.cells #[.iface t.ty t.val, .int .i64 q] 186)) { j with c := c' } := H7.out.keep ((Fr.refl Non _).alloc _) (fun _ _ => id)
              have h8 : L2At L t g (.pointer (some ⟨gp, 0, none⟩)) sp rp w8 jj := by
                rw [hw8, hjj]
                refine L2At.set (pv := pv) (z := { j with c := c', left := lf }) ?_ (i := 6) (v := .pointer (some ⟨gp, 0, none⟩)) rfl rfl rfl ⟨H7.out.ok.lclp, H7.out.ok.pb, H7.out.ok.nl, HLFI.out⟩
                exact hal.set (z' := { j with c := c', left := lf }) (i := 7) (v := .int .i64 lf) rfl rfl rfl ⟨H7.out.ok.lclp, H7.out.ok.pb, H7.out.ok.nl, HLFI.out⟩
              have hfg : Fr (fun k => k = g) w7 w8 := by rw [hw8]; exact (((Fr.refl _ _).alloc _).setOne _ _).setOne _ _
              have hs8 : w8.heap.size = gp + 1 := by rw [hw8, hgp]; simp
              have hgl : g < gp := by rw [hgp]; exact blk_lt H7.out.at_
              have hli : LimIs t gp w8 (j.s, q) := by
                refine ⟨?_, h8.src_ (by rw [hjj]), fun e => by have := HLT.out gp e; have := HF7.out.size; omega, by have := hpb2.2; exact this⟩
                rw [hw8]
                refine blk_set_ne (blk_set_ne ?_ (by show gp ≠ g; omega)) (by show gp ≠ g; omega)
                rw [hgp]
                exact blk_new _ _
              have c0 := h8.cell 0 (v := .pointer (some ⟨L.gd, 0, none⟩)) rfl
              have c6 := h8.cell 6 (v := .pointer (some ⟨gp, 0, none⟩)) rfl
              have HF8 := hid (HF7.out.trans (hfg.mono (fun _ _ e => .inl e) : Fr (L2.foot L t g) w7 w8))
              have H8 := hid h8
              have HLI := hid hli
              have HS8 := hid hs8
              have HGL := hid hgl
              have HJJ := hid hjj
              have hs17 := HF7.out.size
              have HLTP := hid (show ∀ i, (lim t gp).foot i → i < w8.heap.size from fun i hi => by
                rcases hi with e | e
                · omega
                · have := HLT.out i e; omega)
              have HAPP := hid (show ∀ i, L.foot i → ¬ (lim t gp).foot i from fun i hi e => by
                rcases e with e | e
                · have h9 := H7.out.core.lt i hi
                  have e' : i = gp := e
                  have := HGP.out; omega
                · exact H7.out.ap i hi e)
              have CB := hid (show ∀ W, Fr Non w8 W → Calls Try.prog 21 #[.pointer (some ⟨L.gd, 0, none⟩), .iface 143 (.pointer (some ⟨gp, 0, none⟩))] W (LBeginPost L (lim t gp) jj.c (j.s, q) W) from fun W (hW : Fr Non w8 W) => lbegin_any L (lim t gp) sp rp jj.c (j.s, q) W (H8.out.core.keep hW (fun _ _ => id)) (show (lim t gp).I W (j.s, q) from HLI.out.keep hW (fun _ _ => id)) (fun i hi => Nat.lt_of_lt_of_le (HLTP.out i hi) hW.size) HAPP.out)
              clear c5 c7 z6 z7 c6' c7' z6' z7' hw8 hjj hal h8 hfg hs8 hgl hli hgp hs17
              go_region_with (first | (go_at_call 21; refine (CB.out _ (by repeat (first | exact Fr.refl _ _ | refine Fr.drewN ?_ _ | refine Fr.drew ?_))).mono ?_; rintro e wm ⟨ga, gr, rfl, hfm, hon, hga0, hga1, hgr0, hgr1⟩; have HFM := hid hfm; have HON := hid hon; have HGA := hid (And.intro hga0 (And.intro hga1 (And.intro hgr0 hgr1))); clear hfm hon hga0 hga1 hgr0 hgr1) | fail)
              all_goals
                go_wp2_with fail
                go_end0
                have hga := HGA.out
                have hsz := Fr.size (show Fr Non w8 _ from (by first | exact (Fr.refl Non w8).drew | exact Fr.refl Non w8))
                have h80 := H8.out.keep (show Fr Non w8 _ from (by first | exact (Fr.refl Non w8).drew | exact Fr.refl Non w8)) (fun _ _ => id)
                have hsgd := H8.out.core.lt L.gd (.inl rfl)
                have hs8 := HS8.out
                have hg9 := HGL.out
                have hsm := HFM.out.size
                have hww7 := HF7.out.size
                have hgp7 := HGP.out
                have hng : ¬ LFt L (lim t gp) ga gr g := by
                  rintro (e | e | e | e | e)
                  · exact H8.out.ng e
                  · have e' : g = gr := e; omega
                  · have e' : g = ga := e; omega
                  · have e' : g = gp := e; omega
                  · exact H8.out.nt e
                have hfm9 := Fr.trans (show Fr (fun k => k = L.gd ∨ (lim t gp).foot k) w8 _ from (by first | exact (Fr.refl _ w8).drew | exact Fr.refl _ w8)) HFM.out
                refine ⟨rfl, HF8.out.then hfm9 (fun i hi e => ?_), .inr ⟨RD.new (anx (lnx t.nx)) ⟨(j.s, q), 0, false⟩, gp, ga, gr, by rw [HE.out]; rfl, ?_, by omega, by omega, by omega, by omega, by omega, by omega⟩⟩
                · rcases e with e | e | e
                  · exact .inr (.inl (by rw [show i = L.gd from e]; exact .inl rfl))
                  · have e' : i = gp := e; omega
                  · exact .inr (.inr e)
                · rw [HE.out]
                  have hjc : (j.pack1 t.nx how lf q).c = jj.c := by rw [HJJ.out, HC.out]; rfl
                  refine ⟨?_, by rw [hjc]; exact HON.out, hng, ⟨H7.out.ok.lclp, H7.out.ok.pb, H7.out.ok.nl, HLFI.out⟩⟩
                  have e1 := hfm9.blk H8.out.at_ (fun e => e.elim (fun e => H8.out.ng (by rw [e]; exact .inl rfl)) (fun e => hng (.inr (.inr (.inr e)))))
                  rw [HJJ.out] at e1
                  exact e1
end Go.Proofs.Ytjnegcambbeblaa

/- lzma2: chunk, closed, open. -/
namespace Go.Proofs.Ytjnegcambbeblaa
open Go.RowKit

/-- a decoder as it lies, its blocks among F. -/
def L2Is {S : Type} (L : LL) (t : Sour S) (g : Nat) (F : Nat → Prop) (w : World) (z : L2 S) : Prop :=
  (∀ k, F k → k < w.heap.size) ∧ (∀ k, L2.foot L t g k → F k) ∧
    match z.mode with
    | none => ∃ pv sp rp, L2At L t g pv sp rp w z ∧ (pv = .pointer none ∨ z.ended = true ∨ z.bad = true)
    | some rd => ∃ gp ga gr, L2On L t g gp ga gr w z rd ∧ F gp ∧ F ga ∧ F gr
/-- the blocks behind a call. -/
def L2F (F : Nat → Prop) (w w' : World) : Nat → Prop := fun k => F k ∨ (w.heap.size ≤ k ∧ k < w'.heap.size)
theorem L2Is.new {S : Type} {L : LL} {t : Sour S} {g : Nat} {F : Nat → Prop} {w : World} {z : L2 S} (h : L2Is L t g F w z) {w' : World} (hs : w.heap.size ≤ w'.heap.size) : ∀ k, L2F F w w' k → k < w'.heap.size := by
  rintro k (e | e)
  · have := h.1 k e; omega
  · exact e.2
def L2CPost {S : Type} (L : LL) (t : Sour S) (g : Nat) (F : Nat → Prop) (v : Value) (z : L2 S) (w : World) (e : Ending) (w' : World) : Prop :=
  e = .returned v ∧ Fr F w w' ∧ L2Is L t g (L2F F w w') w' z
/-- idle: nothing packed is on; its source goes on where the packed chunk left it. -/
theorem L2On.idle {S : Type} {L : LL} {t : Sour S} {g gp ga gr : Nat} {w : World} {z : L2 S} {rd : RD (AhS (S × Nat))} (h : L2On L t g gp ga gr w z rd) (hm : z.mode = some rd) : L2At L t g (.pointer (some ⟨gp, 0, none⟩)) (.pointer (some ⟨ga, 0, none⟩)) (.pointer (some ⟨gr, 0, none⟩)) w z.idle := by
  have hs : z.idle.s = rd.src.s.1 := by unfold L2.idle L2.src; rw [hm]
  refine ⟨h.at_, h.on.is_, ?_, fun e => h.ng (.inl e), fun e => h.ng (.inr (.inr (.inr (.inr e)))), fun k hk e => h.on.ap k hk (.inr (.inr (.inr e))), ⟨h.ok.lclp, h.ok.pb, h.ok.nl, h.ok.left⟩⟩
  rw [hs]
  exact h.on.dec.src.src.src
theorem L2.plain_mode {S : Type} (nx : S → Int × Bool × S) (k : Int) {z : L2 S} (h : z.mode = none) : (z.plain nx k).mode = none := by
  unfold L2.plain
  dsimp only
  show (if k = 1 then z.empty else z).mode = none
  split
  · exact h
  · exact h
def ChunkPost {S : Type} (L : LL) (t : Sour S) (g : Nat) (z : L2 S) (w : World) (e : Ending) (w' : World) : Prop :=
  e = .returned (.tuple #[]) ∧ Fr (L2.foot L t g) w w' ∧
    ((z.mode = none ∧ ∃ pv sp rp, L2At L t g pv sp rp w' z ∧ (pv = .pointer none ∨ z.ended = true ∨ z.bad = true)) ∨
     (∃ rd gp ga gr, z.mode = some rd ∧ L2On L t g gp ga gr w' z rd ∧ w.heap.size ≤ gp ∧ gp < w'.heap.size ∧ w.heap.size ≤ ga ∧ ga < w'.heap.size ∧ w.heap.size ≤ gr ∧ gr < w'.heap.size))
set_option maxRecDepth 100000 in
set_option maxHeartbeats 800000 in
theorem l2chunk_any {S : Type} (L : LL) (t : Sour S) (g : Nat) (pv sp rp : Value) (z : L2 S) (w : World) (h : L2At L t g pv sp rp w z) (hm : z.mode = none) (hlt : ∀ i, t.foot i → i < w.heap.size) :
    Calls Try.prog 104 #[.pointer (some ⟨g, 0, none⟩)] w (ChunkPost L t g ((z.byte t.nx).2.chunk1 t.nx (z.byte t.nx).1) w) := by
  have hbb := L2.byte_by t z
  have C1 := hid (l2byte_any L t g pv sp rp z w h)
  obtain ⟨a, ha⟩ : ∃ a, a = z.byte t.nx := ⟨_, rfl⟩
  rw [← ha] at C1 hbb ⊢
  have HAM := hid (show a.2.mode = none by rw [ha]; exact hm)
  obtain ⟨k, y⟩ := a
  dsimp only at C1 hbb HAM ⊢
  obtain ⟨k0, k1⟩ := hbb
  obtain ⟨R, hR⟩ : ∃ R, R = y.chunk1 t.nx k := ⟨_, rfl⟩
  rw [← hR]
  unfold L2.chunk1 at hR
  have HR := hid hR
  have HLT := hid hlt
  clear h hR hm hlt ha
  go_enter Try.func104, Try.ntmps104
  go_wp2_with fail
  refine C1.out.mono ?_
  rintro e w1 ⟨rfl, hf1, h1⟩
  have c11 := h1.cell 11 (v := .bool y.ended) rfl
  have z11 := blk_frozen h1.at_ 11
  have c12 := h1.cell 12 (v := .bool y.bad) rfl
  have z12 := blk_frozen h1.at_ 12
  have HF1 := hid hf1
  have H1 := hid h1
  have hs1 := hf1.size
  obtain ⟨b, hbe⟩ : ∃ b, b = y.bad := ⟨_, rfl⟩
  rw [← hbe] at c12
  have HBE := hid hbe
  clear hf1 h1 hbe
  cases b with
  | true =>
    have HE := hid (show R = y by rw [HR.out]; exact if_pos HBE.out.symm)
    go_wp2_with fail
    go_end0
    rw [HE.out]
    exact ⟨rfl, HF1.out, .inl ⟨HAM.out, _, _, _, H1.out, .inr (.inr HBE.out.symm)⟩⟩
  | false =>
    have HR2 := hid (HR.out.trans (if_neg (by rw [← HBE.out]; decide)))
    by_cases hk0 : k = 0
    · subst hk0
      have HE := hid (HR2.out.trans (if_pos rfl))
      go_wp2_with fail
      go_end0
      rw [HE.out]
      exact ⟨rfl, HF1.out.setCell (p := ⟨g, 11, none⟩) (fun _ => .inl rfl) _, .inl ⟨HAM.out, _, _, _, H1.out.set (z' := { y with ended := true }) (i := 11) (v := .bool true) rfl rfl rfl ⟨H1.out.ok.lclp, H1.out.ok.pb, H1.out.ok.nl, H1.out.ok.left⟩, .inr (.inl rfl)⟩⟩
    · have hk0b : (k == 0) = false := by simpa using hk0
      have HR3 := hid (HR2.out.trans (if_neg hk0))
      by_cases hk2 : k ≤ 2
      · have hk2b : decide (k ≤ 2) = true := decide_eq_true hk2
        have HE := hid (HR3.out.trans (if_pos hk2))
        go_wp2_with fail
        refine (l2plain_any L t g pv sp rp k y w1 H1.out).mono ?_
        rintro e w2 ⟨rfl, hf2, h2⟩
        have HF2 := hid (HF1.out.trans hf2)
        have H2 := hid h2
        clear hf2 h2
        go_wp2_with fail
        go_end0
        rw [HE.out]
        exact ⟨rfl, HF2.out, .inl ⟨L2.plain_mode t.nx k HAM.out, _, _, _, H2.out, .inl rfl⟩⟩
      · have hk2b : decide (k ≤ 2) = false := decide_eq_false hk2
        have HR4 := hid (HR3.out.trans (if_neg hk2))
        by_cases hk128 : 128 ≤ k
        · have hkb : decide (128 ≤ k) = true := decide_eq_true hk128
          have HE := hid (HR4.out.trans (if_pos hk128))
          go_wp2_with fail
          refine (l2pack_any L t g pv sp rp k y w1 H1.out hk128 k1 HAM.out HBE.out.symm (fun i hi => by have := HLT.out i hi; omega)).mono ?_
          rintro e w2 ⟨rfl, hf2, hc2⟩
          have HF2 := hid (HF1.out.trans hf2)
          have HC2 := hid hc2
          clear hf2 hc2
          go_wp2_with fail
          go_end0
          rw [HE.out]
          refine ⟨rfl, HF2.out, ?_⟩
          rcases HC2.out with ⟨hm, hb, hat⟩ | ⟨rd, gp, ga, gr, hm, hon, q1, q2, q3, q4, q5, q6⟩
          · exact .inl ⟨hm, _, _, _, hat, .inr (.inr hb)⟩
          · exact .inr ⟨rd, gp, ga, gr, hm, hon, by omega, q2, by omega, q4, by omega, q6⟩
        · have hkb : decide (128 ≤ k) = false := decide_eq_false hk128
          have HE := hid (HR4.out.trans (if_neg hk128))
          go_wp2_with fail
          go_end0
          rw [HE.out]
          exact ⟨rfl, HF1.out.setCell (p := ⟨g, 12, none⟩) (fun _ => .inl rfl) _, .inl ⟨HAM.out, _, _, _, H1.out.set (z' := { y with bad := true }) (i := 12) (v := .bool true) rfl rfl rfl ⟨H1.out.ok.lclp, H1.out.ok.pb, H1.out.ok.nl, H1.out.ok.left⟩, .inr (.inr rfl)⟩⟩
end Go.Proofs.Ytjnegcambbeblaa

/- lzma2: closed, open. -/
namespace Go.Proofs.Ytjnegcambbeblaa
open Go.RowKit

theorem L2On.set {S : Type} {L : LL} {t : Sour S} {g gp ga gr : Nat} {w : World} {z z' : L2 S} {rd : RD (AhS (S × Nat))} (h : L2On L t g gp ga gr w z rd) {i : Nat} {v : Value}
    (hc : (z.cells L (.iface t.ty t.val) (.pointer (some ⟨gp, 0, none⟩))).setIfInBounds i v = z'.cells L (.iface t.ty t.val) (.pointer (some ⟨gp, 0, none⟩))) (h1 : z'.c = z.c) (hok : z'.Ok L) : L2On L t g gp ga gr (w.setCell ⟨g, i, none⟩ v) z' rd := by
  have hf : Fr (fun k => k = g) w (w.setCell ⟨g, i, none⟩ v) := (Fr.refl _ _).setOne _ _
  refine ⟨?_, by rw [h1]; exact h.on.keep hf (fun k hk e => h.ng (by have e' : k = g := e; rw [← e']; exact hk)), h.ng, hok⟩
  have e := blk_set (i := i) (v := v) h.at_
  rw [hc] at e
  exact e
theorem L2.idle_none {S : Type} {z : L2 S} (h : z.mode = none) : z.idle = z := by
  unfold L2.idle L2.src
  rw [h]
  obtain ⟨_, m, _⟩ := z
  dsimp only at h ⊢
  rw [h]
/-- whatever is on: the decoder's block. -/
theorem L2Is.cells {S : Type} {L : LL} {t : Sour S} {g : Nat} {F : Nat → Prop} {w : World} {z : L2 S} (h : L2Is L t g F w z) : ∃ pv, w.heap[g]? = some (.cells (z.cells L (.iface t.ty t.val) pv) 145) := by
  obtain ⟨_, _, h3⟩ := h
  cases hm : z.mode with
  | none => rw [hm] at h3; obtain ⟨pv, sp, rp, h, _⟩ := h3; exact ⟨pv, h.at_⟩
  | some rd => rw [hm] at h3; obtain ⟨gp, ga, gr, h, _⟩ := h3; exact ⟨_, h.at_⟩
set_option maxRecDepth 100000 in
set_option maxHeartbeats 800000 in
theorem l2closed_any {S : Type} (L : LL) (t : Sour S) (g : Nat) (F : Nat → Prop) (z : L2 S) (w : World) (h : L2Is L t g F w z) (hb : z.bad = false) (he : z.ended = false) :
    Calls Try.prog 103 #[.pointer (some ⟨g, 0, none⟩)] w fun e w' => e = .returned (.bool z.closed) ∧ w = w' := by
  obtain ⟨_, _, h3⟩ := h
  unfold L2.closed
  cases hm : z.mode with
  | none =>
    rw [hm] at h3
    obtain ⟨pv, sp, rp, h, hp⟩ := h3
    have hp : pv = .pointer none := by
      rcases hp with h | h | h
      · exact h
      · rw [he] at h; cases h
      · rw [hb] at h; cases h
    subst hp
    have c6 := h.cell 6 (v := .pointer none) rfl
    dsimp only
    clear h hm hb he
    go_enter Try.func103, Try.ntmps103
    go_wp2_with fail
    go_ret
    exact ⟨rfl, rfl⟩
  | some rd =>
    rw [hm] at h3
    obtain ⟨gp, ga, gr, h, _⟩ := h3
    have c6 := blk_cell h.at_ (j := 6) (v := .pointer (some ⟨gp, 0, none⟩)) rfl
    have c0 := blk_cell h.at_ (j := 0) (v := .pointer (some ⟨L.gd, 0, none⟩)) rfl
    have q1 := blk_cell h.on.dec.src.src.at_ (j := 1) (v := .int .i64 rd.src.s.2) rfl
    have CW := hid (lwhole_any L (lim t gp) ga gr z.c rd w h.on)
    dsimp only
    obtain ⟨wb, hwb⟩ : ∃ b, b = lwhole z.c rd := ⟨_, rfl⟩
    obtain ⟨n, hn⟩ : ∃ n, n = rd.src.s.2 := ⟨_, rfl⟩
    rw [← hwb] at CW ⊢
    rw [← hn] at q1 ⊢
    clear h hm hb he hwb hn
    go_enter Try.func103, Try.ntmps103
    go_wp2_with fail
    refine CW.out.mono ?_
    rintro e w1 ⟨rfl, rfl⟩
    cases wb with
    | true =>
      by_cases h0 : n = 0
      · subst h0
        go_wp2_with fail
        go_ret
        exact ⟨rfl, rfl⟩
      · have hnb : ((n : Int) == 0) = false := by simp; omega
        go_wp2_with fail
        go_ret
        exact ⟨by rw [decide_eq_false h0]; rfl, rfl⟩
    | false =>
      go_wp2_with fail
      go_ret
      exact ⟨rfl, rfl⟩
/-- what a chunk's beginning leaves. -/
theorem ChunkPost.is_ {S : Type} {L : LL} {t : Sour S} {g : Nat} {z : L2 S} {F : Nat → Prop} {w0 w : World} {e : Ending} {w' : World} (h : ChunkPost L t g z w e w') (hF1 : ∀ k, F k → k < w0.heap.size) (hF2 : ∀ k, L2.foot L t g k → F k) (hs : w0.heap.size = w.heap.size) : e = .returned (.tuple #[]) ∧ Fr (L2.foot L t g) w w' ∧ L2Is L t g (L2F F w0 w') w' z := by
  obtain ⟨h1, h2, h3⟩ := h
  have hsz := h2.size
  refine ⟨h1, h2, ?_, fun k hk => .inl (hF2 k hk), ?_⟩
  · rintro k (e | e)
    · have := hF1 k e; omega
    · exact e.2
  · rcases h3 with ⟨hm, pv, sp, rp, hat, hp⟩ | ⟨rd, gp, ga, gr, hm, hon, q1, q2, q3, q4, q5, q6⟩
    · rw [hm]; exact ⟨pv, sp, rp, hat, hp⟩
    · rw [hm]; exact ⟨gp, ga, gr, hon, .inr ⟨by omega, q2⟩, .inr ⟨by omega, q4⟩, .inr ⟨by omega, q6⟩⟩
theorem L2Is.mono {S : Type} {L : LL} {t : Sour S} {g : Nat} {F F' : Nat → Prop} {w : World} {z : L2 S} (h : L2Is L t g F w z) (hF : ∀ k, F k → F' k) (hF' : ∀ k, F' k → k < w.heap.size) : L2Is L t g F' w z := by
  obtain ⟨_, h2, h3⟩ := h
  refine ⟨hF', fun k hk => hF k (h2 k hk), ?_⟩
  cases hm : z.mode with
  | none => rw [hm] at h3; exact h3
  | some rd => rw [hm] at h3; obtain ⟨gp, ga, gr, h, a, b, c⟩ := h3; exact ⟨gp, ga, gr, h, hF _ a, hF _ b, hF _ c⟩
/-- the decoder is bad, or not. -/
theorem L2Is.setBad {S : Type} {L : LL} {t : Sour S} {g : Nat} {F : Nat → Prop} {w : World} {z : L2 S} (h : L2Is L t g F w z) (b : Bool) (hb : z.bad = true → b = true) : L2Is L t g F (w.setCell ⟨g, 12, none⟩ (.bool b)) { z with bad := b } := by
  obtain ⟨h1, h2, h3⟩ := h
  refine ⟨fun k hk => by simp; exact h1 k hk, h2, ?_⟩
  cases hm : z.mode with
  | none =>
    rw [hm] at h3
    obtain ⟨pv, sp, rp, h, hp⟩ := h3
    exact ⟨pv, sp, rp, h.set (z' := { z with mode := none, bad := b }) (i := 12) (v := .bool b) rfl rfl rfl ⟨h.ok.lclp, h.ok.pb, h.ok.nl, h.ok.left⟩, hp.imp id (Or.imp id (fun e => hb e))⟩
  | some rd =>
    rw [hm] at h3
    obtain ⟨gp, ga, gr, h, q⟩ := h3
    exact ⟨gp, ga, gr, h.set (z' := { z with mode := some rd, bad := b }) (i := 12) (v := .bool b) rfl rfl ⟨h.ok.lclp, h.ok.pb, h.ok.nl, h.ok.left⟩, q⟩
theorem L2Is.idle {S : Type} {L : LL} {t : Sour S} {g : Nat} {F : Nat → Prop} {w : World} {z : L2 S} (h : L2Is L t g F w z) : ∃ pv sp rp, L2At L t g pv sp rp w z.idle := by
  obtain ⟨_, _, h3⟩ := h
  cases hm : z.mode with
  | none => rw [hm] at h3; obtain ⟨pv, sp, rp, h, _⟩ := h3; rw [L2.idle_none hm]; exact ⟨pv, sp, rp, h⟩
  | some rd => rw [hm] at h3; obtain ⟨gp, ga, gr, h, _⟩ := h3; exact ⟨_, _, _, h.idle hm⟩
set_option maxRecDepth 100000 in
set_option maxHeartbeats 800000 in
theorem l2open_any {S : Type} (L : LL) (t : Sour S) (g : Nat) (F : Nat → Prop) (z : L2 S) (w : World) (h : L2Is L t g F w z) :
    Calls Try.prog 72 #[.pointer (some ⟨g, 0, none⟩)] w (L2CPost L t g F (.bool (z.open_ t.nx).1) (z.open_ t.nx).2 w) := by
  obtain ⟨R, hR⟩ : ∃ R, R = z.open_ t.nx := ⟨_, rfl⟩
  rw [← hR]
  unfold L2.open_ at hR
  obtain ⟨pv, hat⟩ := h.cells
  have c5 := blk_cell hat (j := 5) (v := .iface t.ty t.val) rfl
  have c7 := blk_cell hat (j := 7) (v := .int .i64 z.left) rfl
  have c11 := blk_cell hat (j := 11) (v := .bool z.ended) rfl
  have c12 := blk_cell hat (j := 12) (v := .bool z.bad) rfl
  have z12 := blk_frozen hat 12
  have H := hid h
  have HSAME := hid (show L2Is L t g (L2F F w w) w z from h.mono (fun _ e => .inl e) (h.new (Nat.le_refl _)))
  obtain ⟨b, hb⟩ : ∃ b, b = z.bad := ⟨_, rfl⟩
  obtain ⟨en, hen⟩ : ∃ en, en = z.ended := ⟨_, rfl⟩
  obtain ⟨l, hl⟩ : ∃ l, l = z.left := ⟨_, rfl⟩
  rw [← hb, ← hen, ← hl] at hR
  rw [← hb] at c12
  rw [← hen] at c11
  rw [← hl] at c7
  have HR := hid hR
  have HB := hid hb
  have HEN := hid hen
  clear h hR hat hb hen hl
  cases b with
  | true =>
    have HE := hid (HR.out.trans (if_pos (.inl rfl)))
    go_enter Try.func72, Try.ntmps72
    go_wp2_with fail
    go_ret
    rw [HE.out]
    exact ⟨rfl, Fr.refl _ _, HSAME.out⟩
  | false =>
    cases en with
    | true =>
      have HE := hid (HR.out.trans (if_pos (.inr rfl)))
      go_enter Try.func72, Try.ntmps72
      go_wp2_with fail
      go_ret
      rw [HE.out]
      exact ⟨rfl, Fr.refl _ _, HSAME.out⟩
    | false =>
      have HR2 := hid (HR.out.trans (if_neg (by decide)))
      by_cases hl0 : l = 0
      · subst hl0
        have HR3 := hid (HR2.out.trans (if_pos rfl))
        have CC := hid (l2closed_any L t g F z w H.out HB.out.symm HEN.out.symm)
        obtain ⟨cl, hcl⟩ : ∃ cl, cl = z.closed := ⟨_, rfl⟩
        have hR := HR3.out
        rw [← hcl] at CC hR
        have HR4 := hid hR
        clear hR hcl
        go_enter Try.func72, Try.ntmps72
        go_wp2_with fail
        refine CC.out.mono ?_
        rintro e w1 ⟨rfl, rfl⟩
        cases cl with
        | true =>
          have HE := hid (HR4.out.trans (if_pos rfl))
          obtain ⟨pv2, sp2, rp2, hid2⟩ := H.out.idle
          have hid3 : L2At L t g pv2 sp2 rp2 (w.setCell ⟨g, 12, none⟩ (.bool false)) z.idle := hid2.set (z' := z.idle) (i := 12) (v := .bool false) (by
            have hb : z.idle.bad = false := HB.out.symm
            unfold L2.cells
            rw [hb]
            rfl) rfl rfl hid2.ok
          have CH := hid (l2chunk_any L t g pv2 sp2 rp2 z.idle _ hid3 rfl (fun i hi => by simp; exact H.out.1 i (H.out.2.1 i (.inr (.inr hi)))))
          clear hid2 hid3
          go_upto_region 6 with fail
          go_wp2_with fail
          refine CH.out.mono ?_
          intro e w2 hq
          obtain ⟨rfl, hf2, his⟩ := hq.is_ (F := F) (w0 := w) H.out.1 H.out.2.1 (by simp)
          obtain ⟨pv3, hat3⟩ := his.cells
          obtain ⟨y, hy⟩ : ∃ y, y = (z.idle.byte t.nx).2.chunk1 t.nx (z.idle.byte t.nx).1 := ⟨_, rfl⟩
          rw [← hy] at his hat3
          have hy2 : y = z.chunk t.nx := hy
          have HY2 := hid hy2
          have HIS := hid his
          have HF2 := hid (show Fr F w w2 from ((Fr.refl F w).setCell (p := ⟨g, 12, none⟩) (fun _ => H.out.2.1 g (.inl rfl)) (.bool false)).trans (hf2.mono (fun k _ hk => H.out.2.1 k hk)))
          clear c5 c7 c11 c12 z12 hq hf2 his hy hy2
          have c11 := blk_cell hat3 (j := 11) (v := .bool y.ended) rfl
          have c12 := blk_cell hat3 (j := 12) (v := .bool y.bad) rfl
          obtain ⟨yb, hyb⟩ : ∃ b, b = y.bad := ⟨_, rfl⟩
          obtain ⟨ye, hye⟩ : ∃ b, b = y.ended := ⟨_, rfl⟩
          rw [← hyb] at c12
          rw [← hye] at c11
          have HYB := hid hyb
          have HYE := hid hye
          have HFIN := hid (show L2CPost L t g F (.bool (!yb && !ye)) y w (.returned (.bool (!yb && !ye))) w2 from ⟨rfl, HF2.out, HIS.out⟩)
          have HRR := hid (show R = (!yb && !ye, y) by rw [HE.out, ← HY2.out, ← HYB.out, ← HYE.out])
          clear hat3 hyb hye
          cases yb with
          | true =>
            go_wp2_with fail
            go_ret
            rw [HRR.out]
            exact HFIN.out
          | false =>
            go_wp2_with fail
            go_ret
            rw [HRR.out]
            cases ye <;> exact HFIN.out
        | false =>
          have HE := hid (HR4.out.trans (if_neg (by decide)))
          have HBAD := hid (H.out.setBad true (fun _ => rfl))
          go_wp2_with fail
          go_ret
          rw [HE.out]
          have hbad : L2Is L t g (L2F F w (w.setCell ⟨g, 12, none⟩ (.bool true))) (w.setCell ⟨g, 12, none⟩ (.bool true)) z.spoil := HBAD.out.mono (fun _ e => Or.inl e) (fun k hk => by
            rcases hk with e | e
            · simp; exact H.out.1 k e
            · exact e.2)
          exact ⟨rfl, (Fr.refl F w).setCell (p := ⟨g, 12, none⟩) (fun _ => H.out.2.1 g (.inl rfl)) _, hbad⟩
      · have HE := hid (HR2.out.trans (if_neg hl0))
        have hlb : ((l : Int) == 0) = false := by simp; omega
        go_enter Try.func72, Try.ntmps72
        go_wp2_with fail
        go_ret
        rw [HE.out]
        exact ⟨rfl, Fr.refl _ _, HSAME.out⟩
end Go.Proofs.Ytjnegcambbeblaa

/- lzma2: Next. -/
namespace Go.Proofs.Ytjnegcambbeblaa
open Go.RowKit

structure L2.Good {S : Type} (L : LL) (z : L2 S) : Prop where
  idle : z.mode = none → z.c.left = 0
  fit : z.c.Fit L
theorem left0_fit {L : LL} {c : LS} (h : c.left = 0) : c.Fit L := fun e => absurd h e
theorem L2.st0_c {S : Type} (how : Int) (z : L2 S) : (z.st0 how).c.left = z.c.left ∧ (z.st0 how).c.place ≤ z.c.place := by
  unfold L2.st0
  split
  · exact ⟨rfl, Nat.zero_le _⟩
  · exact ⟨rfl, Nat.le_refl _⟩
theorem L2.setting_c {S : Type} (nx : S → Int × Bool × S) (z : L2 S) : (z.setting nx).c = z.c := by
  unfold L2.setting
  split <;> rfl
theorem L2.st2_c {S : Type} (nx : S → Int × Bool × S) (how : Int) (z : L2 S) : (z.st2 nx how).c = z.c := by
  unfold L2.st2
  split
  · exact L2.setting_c nx z
  · rfl
theorem L2.st3_c {S : Type} (how : Int) (z : L2 S) : (z.st3 how).c = z.c := by
  unfold L2.st3
  split <;> rfl
/-- a chunk's beginning: the core has nothing left to copy, and where it is. -/
theorem L2.chunk1_c {S : Type} (nx : S → Int × Bool × S) (k : Int) (z : L2 S) : (z.chunk1 nx k).c.left = z.c.left ∧ (z.chunk1 nx k).c.place ≤ z.c.place := by
  unfold L2.chunk1
  split
  · exact ⟨rfl, Nat.le_refl _⟩
  · split
    · exact ⟨rfl, Nat.le_refl _⟩
    · split
      · unfold L2.plain
        dsimp only
        show (if k = 1 then z.empty else z).c.left = _ ∧ (if k = 1 then z.empty else z).c.place ≤ _
        split
        · exact ⟨rfl, Nat.zero_le _⟩
        · exact ⟨rfl, Nat.le_refl _⟩
      · split
        · unfold L2.pack L2.packEnd
          have h0 := L2.st0_c (k / 32 - 4) z
          have e : ∀ y : L2 S, (L2.judge (L2.st3 (k / 32 - 4) (L2.st2 nx (k / 32 - 4) y))).c = y.c := fun y => by
            show (L2.st3 (k / 32 - 4) (L2.st2 nx (k / 32 - 4) y)).c = _
            rw [L2.st3_c, L2.st2_c]
          split
          · rw [e]; exact h0
          · unfold L2.pack1
            dsimp only
            rw [e]
            split
            · exact h0
            · exact h0
        · exact ⟨rfl, Nat.le_refl _⟩
theorem L2.closed_left {S : Type} {L : LL} {z : L2 S} (hg : z.Good L) (h : z.closed = true) : z.c.left = 0 := by
  unfold L2.closed at h
  cases hm : z.mode with
  | none => exact hg.idle hm
  | some rd =>
    rw [hm] at h
    dsimp only at h
    unfold lwhole at h
    simp at h
    exact h.1.1.2
theorem L2.chunk_c {S : Type} (nx : S → Int × Bool × S) {z : L2 S} : (z.chunk nx).c.left = z.c.left ∧ (z.chunk nx).c.place ≤ z.c.place := L2.chunk1_c nx _ _
theorem L2.open_c {S : Type} (nx : S → Int × Bool × S) (z : L2 S) : (z.open_ nx).2.c.place ≤ z.c.place := by
  unfold L2.open_
  split
  · exact Nat.le_refl _
  · split
    · split
      · exact L2.chunk_c nx |>.2
      · exact Nat.le_refl _
    · exact Nat.le_refl _
theorem L2.open_good {S : Type} (nx : S → Int × Bool × S) {L : LL} {z : L2 S} (h : z.Good L) : (z.open_ nx).2.Good L := by
  unfold L2.open_
  split
  · exact h
  · split
    · split
      · rename_i hc
        have h1 := (L2.chunk_c nx (z := z)).1.trans (L2.closed_left h hc)
        exact ⟨fun _ => h1, left0_fit h1⟩
      · exact ⟨h.idle, h.fit⟩
    · exact h
theorem L2.pair_pos {S : Type} (t : Sour S) (z : L2 S) : 1 ≤ (z.pair t.nx).1 := (L2.pair_by t z).1
theorem L2.chunk1_left {S : Type} (t : Sour S) (k : Int) (z : L2 S) (hb : (z.chunk1 t.nx k).bad = false) (he : (z.chunk1 t.nx k).ended = false) : 1 ≤ (z.chunk1 t.nx k).left := by
  unfold L2.chunk1 at hb he ⊢
  split
  · rename_i h; rw [if_pos h] at hb; rw [h] at hb; cases hb
  · rename_i h
    rw [if_neg h] at hb he
    split
    · rename_i h1; rw [if_pos h1] at he; cases he
    · rename_i h1
      rw [if_neg h1] at hb he
      split
      · unfold L2.plain
        exact L2.pair_pos t _
      · rename_i h2
        rw [if_neg h2] at hb he
        split
        · rename_i h3
          rw [if_pos h3] at hb
          unfold L2.pack L2.packEnd at hb ⊢
          split
          · rename_i h4; rw [if_pos h4] at hb; rw [h4] at hb; cases hb
          · have := L2.pair_pos t (z.st0 (k / 32 - 4))
            show 1 ≤ ((k % 32) * 65536 + (((z.st0 (k / 32 - 4)).pair t.nx).1 : Int)).toNat
            omega
        · rename_i h3; rw [if_neg h3] at hb; cases hb
theorem L2.open_left {S : Type} (t : Sour S) (z : L2 S) (h : (z.open_ t.nx).1 = true) : 1 ≤ (z.open_ t.nx).2.left ∧ (z.open_ t.nx).2.bad = false ∧ (z.open_ t.nx).2.ended = false := by
  unfold L2.open_ at h ⊢
  split
  · rename_i h0; rw [if_pos h0] at h; cases h
  · rename_i h0
    rw [if_neg h0] at h
    split
    · rename_i h1
      rw [if_pos h1] at h
      split
      · rename_i h2
        rw [if_pos h2] at h
        dsimp only at h ⊢
        simp at h
        exact ⟨L2.chunk1_left t _ _ h.1 h.2, h.1, h.2⟩
      · rename_i h2; rw [if_neg h2] at h; cases h
    · rename_i h1
      refine ⟨by show 1 ≤ z.left; omega, ?_, ?_⟩
      · show z.bad = false
        cases hq : z.bad
        · rfl
        · exact absurd (.inl hq) h0
      · show z.ended = false
        cases hq : z.ended
        · rfl
        · exact absurd (.inr hq) h0
def L2NPost {S : Type} (L : LL) (t : Sour S) (g : Nat) (F : Nat → Prop) (R : (Int × Bool) × L2 S) (w : World) (e : Ending) (w' : World) : Prop :=
  L2CPost L t g F (.tuple #[.int .u8 R.1.1, .bool R.1.2]) R.2 w e w'
/-- the number of bytes that are left. -/
theorem L2Is.setLeft {S : Type} {L : LL} {t : Sour S} {g : Nat} {F : Nat → Prop} {w : World} {z : L2 S} (h : L2Is L t g F w z) (n : Nat) (hn : n ≤ 2097152) : L2Is L t g F (w.setCell ⟨g, 7, none⟩ (.int .i64 n)) { z with left := n } := by
  obtain ⟨h1, h2, h3⟩ := h
  refine ⟨fun k hk => by simp; exact h1 k hk, h2, ?_⟩
  cases hm : z.mode with
  | none =>
    rw [hm] at h3
    obtain ⟨pv, sp, rp, h, hp⟩ := h3
    exact ⟨pv, sp, rp, h.set (z' := { z with mode := none, left := n }) (i := 7) (v := .int .i64 n) rfl rfl rfl ⟨h.ok.lclp, h.ok.pb, h.ok.nl, hn⟩, hp⟩
  | some rd =>
    rw [hm] at h3
    obtain ⟨gp, ga, gr, h, q⟩ := h3
    exact ⟨gp, ga, gr, h.set (z' := { z with mode := some rd, left := n }) (i := 7) (v := .int .i64 n) rfl rfl ⟨h.ok.lclp, h.ok.pb, h.ok.nl, hn⟩, q⟩
theorem L2F.trans {F : Nat → Prop} {w w1 w2 : World} (h1 : w.heap.size ≤ w1.heap.size) (h2 : w1.heap.size ≤ w2.heap.size) : ∀ k, L2F (L2F F w w1) w1 w2 k → L2F F w w2 k := by
  rintro k ((e | e) | e)
  · exact .inl e
  · exact .inr ⟨e.1, by omega⟩
  · exact .inr ⟨by omega, e.2⟩
theorem L2Is.okleft {S : Type} {L : LL} {t : Sour S} {g : Nat} {F : Nat → Prop} {w : World} {z : L2 S} (h : L2Is L t g F w z) : z.Ok L := by
  obtain ⟨_, _, h3⟩ := h
  cases hm : z.mode with
  | none => rw [hm] at h3; obtain ⟨pv, sp, rp, h, _⟩ := h3; exact h.ok
  | some rd => rw [hm] at h3; obtain ⟨gp, ga, gr, h, _⟩ := h3; exact h.ok
end Go.Proofs.Ytjnegcambbeblaa

/- lzma2: Next's walk. -/
namespace Go.Proofs.Ytjnegcambbeblaa
open Go.RowKit

theorem L2Is.none_ {S : Type} {L : LL} {t : Sour S} {g : Nat} {F : Nat → Prop} {w : World} {z : L2 S} {pv sp rp : Value} (h1 : ∀ k, F k → k < w.heap.size) (h2 : ∀ k, L2.foot L t g k → F k) (hm : z.mode = none) (h : L2At L t g pv sp rp w z) (hp : pv = .pointer none ∨ z.ended = true ∨ z.bad = true) : L2Is L t g F w z :=
  ⟨h1, h2, by rw [hm]; exact ⟨pv, sp, rp, h, hp⟩⟩
set_option maxRecDepth 100000 in
set_option maxHeartbeats 800000 in
theorem l2next_any {S : Type} (L : LL) (t : Sour S) (g : Nat) (F : Nat → Prop) (z : L2 S) (w : World) (h : L2Is L t g F w z) (hg : z.Good L) (hp : z.c.place ≤ 1000000) :
    Calls Try.prog 41 #[.pointer (some ⟨g, 0, none⟩)] w (L2NPost L t g F (z.next t.nx L) w) := by
  obtain ⟨R, hR⟩ : ∃ R, R = z.next t.nx L := ⟨_, rfl⟩
  rw [← hR]
  unfold L2.next at hR
  have CO := hid (l2open_any L t g F z w h)
  have GO := hid (L2.open_good t.nx hg)
  have PO := hid (Nat.le_trans (L2.open_c t.nx z) hp)
  have LO := hid (L2.open_left t z)
  have HF1 := hid h.1
  have HF2 := hid h.2.1
  generalize z.open_ t.nx = o at CO GO PO LO hR
  obtain ⟨ob, y⟩ := o
  dsimp only at CO GO PO LO hR
  have HR := hid hR
  clear h hR hg hp
  go_enter Try.func41, Try.ntmps41
  go_wp2_with fail
  refine CO.out.mono ?_
  rintro e w1 ⟨rfl, hf1, h1⟩
  have HFR1 := hid hf1
  have H1 := hid h1
  have hs1 := hf1.size
  clear hf1 h1
  cases ob with
  | false =>
    have HE := hid (HR.out.trans (if_neg (by decide)))
    go_wp2_with fail
    go_ret2
    rw [HE.out]
    exact ⟨rfl, HFR1.out, H1.out⟩
  | true =>
    have HE := hid (HR.out.trans (if_pos rfl))
    obtain ⟨hl1, hb1, he1⟩ := LO.out rfl
    obtain ⟨l, hl⟩ : ∃ l, l = y.left - 1 := ⟨_, rfl⟩
    have hyl : (y.left : Int) - 1 = (l : Int) := by omega
    have hl2 : l ≤ 2097152 := by have := H1.out.okleft.left; omega
    have hy2 : (y.left : Int) ≤ 2097152 := by have := H1.out.okleft.left; omega
    have hy1 : (1 : Int) ≤ (y.left : Int) := by omega
    obtain ⟨pv, hat⟩ := H1.out.cells
    have c7 := blk_cell hat (j := 7) (v := .int .i64 y.left) rfl
    have z7 := blk_frozen hat 7
    have H2 := hid (H1.out.setLeft l hl2)
    have HFR2 := hid (HFR1.out.trans ((Fr.refl F w1).setCell (p := ⟨g, 7, none⟩) (fun _ => HF2.out g (.inl rfl)) (.int .i64 (l : Int))))
    obtain ⟨w2, hw2⟩ : ∃ w2, w2 = w1.setCell ⟨g, 7, none⟩ (.int .i64 (l : Int)) := ⟨_, rfl⟩
    have hs2 : w2.heap.size = w1.heap.size := by rw [hw2]; simp
    obtain ⟨x, hx⟩ : ∃ x : L2 S, x = { y with left := y.left - 1 } := ⟨_, rfl⟩
    rw [← hl] at hx
    have hE := HE.out
    rw [← hl, ← hx] at hE
    rw [← hx] at H2
    have HX := hid hx
    have HEX := hid hE
    have HXG := hid (show x.Good L by rw [hx]; exact ⟨GO.out.idle, GO.out.fit⟩)
    have HXP := hid (show x.c.place ≤ 1000000 by rw [hx]; exact PO.out)
    have HXB := hid (show x.bad = false by rw [hx]; exact hb1)
    have HXE := hid (show x.ended = false by rw [hx]; exact he1)
    clear hat hE hx hl1 hb1 he1 hl
    go_upto_region 4 with fail
    rw [← hw2]
    rw [← hw2] at H2 HFR2
    clear hyl hw2 c7 z7 hy1 hy2 hl2
    obtain ⟨k1, k2, k3⟩ := H2.out
    unfold L2.take at HEX
    cases hm : x.mode with
    | none =>
      rw [hm] at k3
      obtain ⟨pv2, sp, rp, hat2, hpv⟩ := k3
      have hpv : pv2 = .pointer none := by
        rcases hpv with h | h | h
        · exact h
        · rw [HXE.out] at h; cases h
        · rw [HXB.out] at h; cases h
      subst hpv
      have c6 := hat2.cell 6 (v := .pointer none) rfl
      have hE2 := HEX.out
      rw [hm] at hE2
      dsimp only at hE2
      have hbb := L2.byte_by t x
      have C1 := hid (l2byte_any L t g _ sp rp x w2 hat2)
      have hidle := HXG.out.idle hm
      obtain ⟨a, ha⟩ : ∃ a, a = x.byte t.nx := ⟨_, rfl⟩
      rw [← ha] at C1 hbb hE2
      have HAM := hid (show a.2.mode = none ∧ a.2.c = x.c by rw [ha]; exact ⟨hm, rfl⟩)
      obtain ⟨b, u⟩ := a
      dsimp only at C1 hbb HAM hE2
      obtain ⟨b0, b1⟩ := hbb
      have hw8 : IntKind.u8.wrap b = b := by rw [IntKind.wrap_u8]; omega
      have HE2 := hid hE2
      have HIDLE := hid hidle
      clear k1 k2 hat2 ha hE2 hidle hm
      go_wp2_with fail
      refine C1.out.mono ?_
      rintro e w3 ⟨rfl, hf3, h3⟩
      have c12 := h3.cell 12 (v := .bool u.bad) rfl
      have c0 := h3.cell 0 (v := .pointer (some ⟨L.gd, 0, none⟩)) rfl
      obtain ⟨ub, hub⟩ : ∃ ub, ub = u.bad := ⟨_, rfl⟩
      rw [← hub] at c12
      have HUB := hid hub
      have HFR3 := hid (HFR2.out.trans (hf3.mono (fun k _ e => HF2.out k e)))
      have H3 := hid h3
      have hs3 := hf3.size
      clear hf3 h3 hub c6
      cases ub with
      | true =>
        have HE3 := hid (HE2.out.trans (if_pos HUB.out.symm))
        go_wp2_with fail
        go_ret2
        rw [HE3.out]
        refine ⟨rfl, HFR3.out, ?_, fun k hk => .inl (HF2.out k hk), ?_⟩
        · rintro k (e | e)
          · have := HF1.out k e; omega
          · exact e.2
        · show match u.mode with | none => _ | some rd => _
          rw [HAM.out.1]
          exact ⟨_, _, _, H3.out, .inl rfl⟩
      | false =>
        have HE3 := hid (HE2.out.trans (if_neg (by rw [← HUB.out]; decide)))
        go_wp2_with fail
        refine (lput_any L sp rp u.c b w3 H3.out.core ⟨b0, b1⟩ (by rw [HAM.out.2]; exact HXP.out)).mono ?_
        rintro e w4 ⟨rfl, hf4, hc4⟩
        have h4 := H3.out.coreTo hf4 hc4
        have HFR4 := hid (HFR3.out.trans (hf4.mono (fun k _ e => HF2.out k (.inr (.inl e)))))
        have hs4 := hf4.size
        have H4 := hid h4
        clear hf4 hc4 h4
        go_wp2_with fail
        go_ret2
        rw [HE3.out]
        refine ⟨rfl, HFR4.out, L2Is.none_ (pv := .pointer none) (sp := sp) (rp := rp) ?_ (fun k hk => .inl (HF2.out k hk)) HAM.out.1 ?_ (.inl rfl)⟩
        · rintro k (e | e)
          · have := HF1.out k e; omega
          · exact e.2
        · rw [← HAM.out.2]
          exact H4.out
    | some rd =>
      rw [hm] at k3
      obtain ⟨gp, ga, gr, hon, fp, fa, fr⟩ := k3
      have c6 := blk_cell hon.at_ (j := 6) (v := .pointer (some ⟨gp, 0, none⟩)) rfl
      have c0 := blk_cell hon.at_ (j := 0) (v := .pointer (some ⟨L.gd, 0, none⟩)) rfl
      have hE2 := HEX.out
      rw [hm] at hE2
      dsimp only at hE2
      have C1 := hid (lnext_any L (lim t gp) ga gr x.c rd w2 hon.on HXP.out HXG.out.fit)
      rw [show (ahead (lim t gp) ga).nx = anx (lnx t.nx) from rfl] at C1
      obtain ⟨q, hq⟩ : ∃ q, q = lnext (anx (lnx t.nx)) L x.c rd := ⟨_, rfl⟩
      rw [← hq] at C1 hE2
      obtain ⟨⟨b, ok⟩, c', rd'⟩ := q
      dsimp only at hE2
      have HE2 := hid hE2
      have HON := hid hon
      have HFP := hid (And.intro fp (And.intro fa fr))
      have HK1 := hid k1
      have HOK9 := hid hon.ok
      clear k1 k2 hon hq hE2 hm fp fa fr
      go_wp2_with fail
      refine C1.out.mono ?_
      rintro e w3 ⟨rfl, hf3, h3⟩
      dsimp only at hf3 h3
      have hat3 := hf3.blk HON.out.at_ HON.out.ng
      have c12 := blk_cell hat3 (j := 12) (v := .bool x.bad) rfl
      have z12 := blk_frozen hat3 12
      have hFT : ∀ k, LFt L (lim t gp) ga gr k → L2F F w w1 k := by
        rintro k (e | e | e | e | e)
        · exact .inl (HF2.out k (.inr (.inl e)))
        · rw [show k = gr from e]; exact HFP.out.2.2
        · rw [show k = ga from e]; exact HFP.out.2.1
        · rw [show k = gp from e]; exact HFP.out.1
        · exact .inl (HF2.out k (.inr (.inr e)))
      have HFR3 := hid (HFR2.out.then hf3 (fun k hk e => by
        rcases hFT k e with e | e
        · exact e
        · omega))
      have HAT3 := hid hat3
      have H3 := hid h3
      have hs3 := hf3.size
      clear hf3 h3 hat3 hFT c6
      go_wp2_with fail
      go_ret2
      rw [HE2.out]
      have hfs : Fr (fun k => k = g) w3 (w3.setCell ⟨g, 12, none⟩ (.bool (!ok))) := (Fr.refl _ _).setOne _ _
      refine ⟨rfl, HFR3.out.setCell (p := ⟨g, 12, none⟩) (fun _ => HF2.out g (.inl rfl)) _, ?_, fun k hk => .inl (HF2.out k hk), gp, ga, gr, ⟨blk_set (i := 12) HAT3.out, H3.out.keep hfs (fun k hk e => HON.out.ng (by rw [← (show k = g from e)]; exact hk)), HON.out.ng, ⟨HOK9.out.lclp, HOK9.out.pb, HOK9.out.nl, HOK9.out.left⟩⟩, ?_, ?_, ?_⟩
      · rintro k (e | e)
        · have := HF1.out k e; simp; omega
        · exact e.2
      · rcases HFP.out.1 with e | e
        · exact .inl e
        · exact .inr ⟨e.1, by simp; omega⟩
      · rcases HFP.out.2.1 with e | e
        · exact .inl e
        · exact .inr ⟨e.1, by simp; omega⟩
      · rcases HFP.out.2.2 with e | e
        · exact .inl e
        · exact .inr ⟨e.1, by simp; omega⟩
end Go.Proofs.Ytjnegcambbeblaa

/- lzma2: Finish, Begin, New, Close. -/
namespace Go.Proofs.Ytjnegcambbeblaa
open Go.RowKit

theorem L2.setting_en {S : Type} (nx : S → Int × Bool × S) (z : L2 S) : (z.setting nx).ended = z.ended ∧ (z.setting nx).mode = z.mode := by
  unfold L2.setting
  split <;> exact ⟨rfl, rfl⟩
theorem L2.st2_en {S : Type} (nx : S → Int × Bool × S) (how : Int) (z : L2 S) : (z.st2 nx how).ended = z.ended ∧ (z.st2 nx how).mode = z.mode := by
  unfold L2.st2
  split
  · exact L2.setting_en nx z
  · exact ⟨rfl, rfl⟩
theorem L2.st3_en {S : Type} (how : Int) (z : L2 S) : (z.st3 how).ended = z.ended ∧ (z.st3 how).mode = z.mode := by
  unfold L2.st3
  split <;> exact ⟨rfl, rfl⟩
theorem L2.st0_en {S : Type} (how : Int) (z : L2 S) : (z.st0 how).ended = z.ended ∧ (z.st0 how).mode = z.mode := by
  unfold L2.st0
  split <;> exact ⟨rfl, rfl⟩
theorem L2.chunk1_en {S : Type} (nx : S → Int × Bool × S) (k : Int) (z : L2 S) (hm : z.mode = none) (he : z.ended = false) (h : (z.chunk1 nx k).ended = true) : (z.chunk1 nx k).mode = none := by
  unfold L2.chunk1 at h ⊢
  split
  · exact hm
  · rename_i h0
    rw [if_neg h0] at h
    split
    · exact hm
    · rename_i h1
      rw [if_neg h1] at h
      split
      · exact L2.plain_mode nx k hm
      · rename_i h2
        rw [if_neg h2] at h
        split
        · rename_i h3
          rw [if_pos h3] at h
          have e : ∀ y : L2 S, (L2.judge (L2.st3 (k / 32 - 4) (L2.st2 nx (k / 32 - 4) y))).ended = y.ended ∧ (L2.judge (L2.st3 (k / 32 - 4) (L2.st2 nx (k / 32 - 4) y))).mode = y.mode := fun y => by
            show (L2.st3 (k / 32 - 4) (L2.st2 nx (k / 32 - 4) y)).ended = _ ∧ (L2.st3 (k / 32 - 4) (L2.st2 nx (k / 32 - 4) y)).mode = _
            rw [(L2.st3_en _ _).1, (L2.st3_en _ _).2]
            exact L2.st2_en nx _ y
          unfold L2.pack L2.packEnd at h ⊢
          split
          · rw [(e _).2]
            exact (L2.st0_en _ z).2.trans hm
          · rename_i h4
            rw [if_neg h4] at h
            have h5 : (L2.judge (L2.st3 (k / 32 - 4) (L2.st2 nx (k / 32 - 4) (((z.st0 (k / 32 - 4)).pair nx).2.pair nx).2))).ended = true := h
            rw [(e _).1] at h5
            have h6 : (z.st0 (k / 32 - 4)).ended = true := h5
            rw [(L2.st0_en _ z).1, he] at h6
            cases h6
        · exact hm
theorem L2.open_en {S : Type} (nx : S → Int × Bool × S) {z : L2 S} (hg : z.ended = true → z.mode = none) : (z.open_ nx).2.ended = true → (z.open_ nx).2.mode = none := by
  unfold L2.open_
  split
  · exact hg
  · rename_i h0
    split
    · split
      · intro h
        refine L2.chunk1_en nx _ _ rfl ?_ h
        show z.ended = false
        cases hq : z.ended
        · rfl
        · exact absurd (.inr hq) h0
      · exact hg
    · exact hg
theorem L2.open_taken {S : Type} (nx : S → Int × Bool × S) (z : L2 S) : (z.open_ nx).2.c.taken = z.c.taken := by
  have hc : ∀ (k : Int) (y : L2 S), (y.chunk1 nx k).c.taken = y.c.taken := by
    intro k y
    unfold L2.chunk1
    split
    · rfl
    · split
      · rfl
      · split
        · unfold L2.plain
          dsimp only
          show (if k = 1 then y.empty else y).c.taken = _
          split <;> rfl
        · split
          · have h0 : (y.st0 (k / 32 - 4)).c.taken = y.c.taken := by unfold L2.st0; split <;> rfl
            have e : ∀ y : L2 S, (L2.judge (L2.st3 (k / 32 - 4) (L2.st2 nx (k / 32 - 4) y))).c = y.c := fun y => by
              show (L2.st3 (k / 32 - 4) (L2.st2 nx (k / 32 - 4) y)).c = _
              rw [L2.st3_c, L2.st2_c]
            unfold L2.pack L2.packEnd
            split
            · rw [e]; exact h0
            · unfold L2.pack1
              dsimp only
              rw [e]
              split
              · exact h0
              · exact h0
          · rfl
  unfold L2.open_
  split
  · rfl
  · split
    · split
      · exact hc _ _
      · rfl
    · rfl
/-- the core of a decoder, whatever is on. -/
theorem L2Is.core {S : Type} {L : LL} {t : Sour S} {g : Nat} {F : Nat → Prop} {w : World} {z : L2 S} (h : L2Is L t g F w z) : ∃ sp rp, LIs L sp rp w z.c := by
  obtain ⟨_, _, h3⟩ := h
  cases hm : z.mode with
  | none => rw [hm] at h3; obtain ⟨pv, sp, rp, h, _⟩ := h3; exact ⟨sp, rp, h.core⟩
  | some rd => rw [hm] at h3; obtain ⟨gp, ga, gr, h, _⟩ := h3; exact ⟨_, _, h.on.is_⟩
def L2FinPost {S : Type} (L : LL) (t : Sour S) (g : Nat) (F : Nat → Prop) (b : Bool) (T : Nat) (w : World) (e : Ending) (w' : World) : Prop :=
  e = .returned (.bool b) ∧ Fr F w w' ∧ ∃ z' : L2 S, L2Is L t g (L2F F w w') w' z' ∧ z'.c.taken = T ∧ z'.bad = true
set_option maxRecDepth 100000 in
set_option maxHeartbeats 800000 in
theorem l2finish_any {S : Type} (L : LL) (t : Sour S) (g : Nat) (F : Nat → Prop) (z : L2 S) (w : World) (h : L2Is L t g F w z) (hen : z.ended = true → z.mode = none) :
    Calls Try.prog 43 #[.pointer (some ⟨g, 0, none⟩)] w (L2FinPost L t g F (z.finish t.nx) z.c.taken w) := by
  obtain ⟨R, hR⟩ : ∃ R, R = z.finish t.nx := ⟨_, rfl⟩
  rw [← hR]
  unfold L2.finish at hR
  have CO := hid (l2open_any L t g F z w h)
  have EO := hid (L2.open_en t.nx hen)
  have TO := hid (L2.open_taken t.nx z)
  have HF1 := hid h.1
  have HF2 := hid h.2.1
  obtain ⟨pv, hat⟩ := h.cells
  have c7 := blk_cell hat (j := 7) (v := .int .i64 z.left) rfl
  have c12 := blk_cell hat (j := 12) (v := .bool z.bad) rfl
  have z12 := blk_frozen hat 12
  obtain ⟨l, hl⟩ : ∃ l, l = z.left := ⟨_, rfl⟩
  rw [← hl] at c7 hR
  generalize z.open_ t.nx = o at CO EO TO hR
  obtain ⟨ob, y⟩ := o
  dsimp only at CO EO TO hR
  have HR := hid hR
  have H := hid h
  clear h hR hat hl hen
  have hfin : ∀ (F' : Nat → Prop) (wx : World) (y : L2 S), Fr F w wx → (∀ k, F' k → L2F F w wx k) → L2Is L t g F' wx y → y.c.taken = z.c.taken → L2FinPost L t g F R z.c.taken w (.returned (.bool R)) (wx.setCell ⟨g, 12, none⟩ (.bool true)) := by
    intro F' wx y hfr hsub his ht
    have h1 := his.setBad true (fun _ => rfl)
    refine ⟨rfl, hfr.setCell (p := ⟨g, 12, none⟩) (fun _ => HF2.out g (.inl rfl)) _, _, h1.mono (fun k hk => ?_) ?_, ht, rfl⟩
    · rcases hsub k hk with e | e
      · exact .inl e
      · exact .inr ⟨e.1, by simp; exact e.2⟩
    · rintro k (e | e)
      · have := HF1.out k e; have := hfr.size; simp; omega
      · exact e.2
  have HFIN := hid hfin
  clear hfin
  go_enter Try.func43, Try.ntmps43
  by_cases hl0 : l = 0
  · subst hl0
    have HR2 := hid (HR.out.trans (if_pos rfl))
    go_wp2_with fail
    refine CO.out.mono ?_
    rintro e w1 ⟨rfl, hf1, h1⟩
    obtain ⟨pv1, hat1⟩ := h1.cells
    clear c7 c12 z12
    have c11 := blk_cell hat1 (j := 11) (v := .bool y.ended) rfl
    have c12 := blk_cell hat1 (j := 12) (v := .bool y.bad) rfl
    have z12 := blk_frozen hat1 12
    obtain ⟨ye, hye⟩ : ∃ b, b = y.ended := ⟨_, rfl⟩
    obtain ⟨yb, hyb⟩ : ∃ b, b = y.bad := ⟨_, rfl⟩
    have hR := HR2.out
    rw [← hye, ← hyb] at hR
    rw [← hye] at c11
    rw [← hyb] at c12
    have HFR1 := hid hf1
    have H1 := hid h1
    have HYE := hid hye
    have HYB := hid hyb
    have HR3 := hid hR
    have c5 := blk_cell hat1 (j := 5) (v := .iface t.ty t.val) rfl
    have hs1 := hf1.size
    clear hf1 h1 hat1 hye hyb hR
    cases ob with
    | true =>
      have HE := hid (show R = false from HR3.out)
      go_wp2_with fail
      go_ret
      have := HFIN.out _ w1 y HFR1.out (fun _ e => e) H1.out TO.out
      rw [HE.out] at this ⊢
      exact this
    | false =>
      cases ye with
      | false =>
        have HE := hid (show R = false from HR3.out)
        go_wp2_with fail
        go_ret
        have := HFIN.out _ w1 y HFR1.out (fun _ e => e) H1.out TO.out
        rw [HE.out] at this ⊢
        exact this
      | true =>
        cases yb with
        | true =>
          have HE := hid (show R = false from HR3.out)
          go_wp2_with fail
          go_ret
          have := HFIN.out _ w1 y HFR1.out (fun _ e => e) H1.out TO.out
          rw [HE.out] at this ⊢
          exact this
        | false =>
          have hym := EO.out HYE.out.symm
          obtain ⟨k1, k2, k3⟩ := H1.out
          rw [hym] at k3
          obtain ⟨pv2, sp, rp, hat2, hpv⟩ := k3
          have hsrc : y.src = y.s := by unfold L2.src; rw [hym]
          obtain ⟨mo, hmo⟩ : ∃ m, m = (t.nx y.s).2.1 := ⟨_, rfl⟩
          have HE := hid (show R = !mo by rw [HR3.out, hsrc, hmo]; rfl)
          have CS := hid (t.call w1 y.s hat2.src)
          rw [← hmo] at CS
          have HAT2 := hid hat2
          have HYM := hid hym
          have HPV := hid hpv
          have HK1 := hid k1
          clear k1 k2 hat2 hsrc hmo hym hpv
          go_wp2_with (refine opInvoke rfl (.tmp 34) _ rfl t.ty t.val rfl t.fid t.val t.meth t.enter (fun K hK => ?_))
          refine CS.out.mono ?_
          rintro e w2 ⟨rfl, hf2, hi2⟩
          have h2 := HAT2.out.srcTo hf2 hi2
          have hs2 := hf2.size
          clear c12 z12
          have c12 := h2.cell 12 (v := .bool y.bad) rfl
          have z12 := blk_frozen h2.at_ 12
          have HFR2 := hid (HFR1.out.trans (hf2.mono (fun k _ e => HF2.out k (.inr (.inr e)))))
          have H2 := hid h2
          clear hf2 hi2 h2
          go_wp2_with fail
          go_ret
          have hz : L2Is L t g (L2F F w w2) w2 { y with s := (t.nx y.s).2.2 } := L2Is.none_ (by
            rintro k (e | e)
            · have := HF1.out k e; omega
            · exact e.2) (fun k hk => .inl (HF2.out k hk)) HYM.out H2.out (by rcases HPV.out with h | h | h; exact .inl h; exact .inr (.inl h); exact .inr (.inr h))
          have := HFIN.out _ w2 _ HFR2.out (fun _ e => e) hz TO.out
          rw [HE.out] at this ⊢
          exact this
  · have HE := hid (HR.out.trans (if_neg hl0))
    have hlb : ((l : Int) == 0) = false := by simp; omega
    go_wp2_with fail
    go_ret
    have := HFIN.out F w z (Fr.refl _ _) (fun _ e => .inl e) H.out rfl
    rw [HE.out] at this ⊢
    exact this
end Go.Proofs.Ytjnegcambbeblaa
