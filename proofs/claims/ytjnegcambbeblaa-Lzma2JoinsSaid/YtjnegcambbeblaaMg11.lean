/- Texts of this proof, one behind the other. -/
import Derived.Test.YtjnegcambbeblaaMg10
import Derived.Test.YtjnegcambbeblaaMg08
import Derived.Test.YtjnegcambbeblaaMg03
import Derived.Test.YtjnegcambbeblaaMg09

/- lzma2: Next's walk. -/
namespace Go.Proofs.Ytjnegcambbeblaa
open Go.RowKit

theorem L2Is.none_ {S : Type} {L : LL} {t : Sour S} {g : Nat} {F : Nat → Prop} {w : World} {z : L2 S} {pv sp rp : Value} (h1 : ∀ k, F k → k < w.heap.size) (h2 : ∀ k, L2.foot L t g k → F k) (hm : z.mode = none) (h : L2At L t g pv sp rp w z) (hp : pv = .pointer none ∨ z.ended = true ∨ z.bad = true) : L2Is L t g F w z :=
  ⟨h1, h2, by rw [hm]; exact ⟨pv, sp, rp, h, hp⟩⟩
set_option maxRecDepth 100000 in
set_option maxHeartbeats 800000 in
theorem l2next_any {S : Type} (L : LL) (t : Sour S) (g : Nat) (F : Nat → Prop) (z : L2 S) (w : World) (h : L2Is L t g F w z) (hg : z.Good L) (hp : z.c.place ≤ 1000000) :
    Calls Try.prog 41 #[.pointer (some ⟨g, 0, none⟩)] w (L2NPost L t g F (z.next t.nx L) w) := by
  obtain ⟨R, hR⟩ : ∃ R, R = z.next t.nx L := ⟨_, rfl⟩
  rw [← hR]
  unfold L2.next at hR
  have CO := hid (l2open_any L t g F z w h)
  have GO := hid (L2.open_good t.nx hg)
  have PO := hid (Nat.le_trans (L2.open_c t.nx z) hp)
  have LO := hid (L2.open_left t z)
  have HF1 := hid h.1
  have HF2 := hid h.2.1
  generalize z.open_ t.nx = o at CO GO PO LO hR
  obtain ⟨ob, y⟩ := o
  dsimp only at CO GO PO LO hR
  have HR := hid hR
  clear h hR hg hp
  go_enter Try.func41, Try.ntmps41
  go_wp2_with fail
  refine CO.out.mono ?_
  rintro e w1 ⟨rfl, hf1, h1⟩
  have HFR1 := hid hf1
  have H1 := hid h1
  have hs1 := hf1.size
  clear hf1 h1
  cases ob with
  | false =>
    have HE := hid (HR.out.trans (if_neg (by decide)))
    go_wp2_with fail
    go_ret2
    rw [HE.out]
    exact ⟨rfl, HFR1.out, H1.out⟩
  | true =>
    have HE := hid (HR.out.trans (if_pos rfl))
    obtain ⟨hl1, hb1, he1⟩ := LO.out rfl
    obtain ⟨l, hl⟩ : ∃ l, l = y.left - 1 := ⟨_, rfl⟩
    have hyl : (y.left : Int) - 1 = (l : Int) := by omega
    have hl2 : l ≤ 2097152 := by have := H1.out.okleft.left; omega
    have hy2 : (y.left : Int) ≤ 2097152 := by have := H1.out.okleft.left; omega
    have hy1 : (1 : Int) ≤ (y.left : Int) := by omega
    obtain ⟨pv, hat⟩ := H1.out.cells
    have c7 := blk_cell hat (j := 7) (v := .int .i64 y.left) rfl
    have z7 := blk_frozen hat 7
    have H2 := hid (H1.out.setLeft l hl2)
    have HFR2 := hid (HFR1.out.trans ((Fr.refl F w1).setCell (p := ⟨g, 7, none⟩) (fun _ => HF2.out g (.inl rfl)) (.int .i64 (l : Int))))
    obtain ⟨w2, hw2⟩ : ∃ w2, w2 = w1.setCell ⟨g, 7, none⟩ (.int .i64 (l : Int)) := ⟨_, rfl⟩
    have hs2 : w2.heap.size = w1.heap.size := by rw [hw2]; simp
    obtain ⟨x, hx⟩ : ∃ x : L2 S, x = { y with left := y.left - 1 } := ⟨_, rfl⟩
    rw [← hl] at hx
    have hE := HE.out
    rw [← hl, ← hx] at hE
    rw [← hx] at H2
    have HX := hid hx
    have HEX := hid hE
    have HXG := hid (show x.Good L by rw [hx]; exact ⟨GO.out.idle, GO.out.fit⟩)
    have HXP := hid (show x.c.place ≤ 1000000 by rw [hx]; exact PO.out)
    have HXB := hid (show x.bad = false by rw [hx]; exact hb1)
    have HXE := hid (show x.ended = false by rw [hx]; exact he1)
    clear hat hE hx hl1 hb1 he1 hl
    go_upto_region 4 with fail
    rw [← hw2]
    rw [← hw2] at H2 HFR2
    clear hyl hw2 c7 z7 hy1 hy2 hl2
    obtain ⟨k1, k2, k3⟩ := H2.out
    unfold L2.take at HEX
    cases hm : x.mode with
    | none =>
      rw [hm] at k3
      obtain ⟨pv2, sp, rp, hat2, hpv⟩ := k3
      have hpv : pv2 = .pointer none := by
        rcases hpv with h | h | h
        · exact h
        · rw [HXE.out] at h; cases h
        · rw [HXB.out] at h; cases h
      subst hpv
      have c6 := hat2.cell 6 (v := .pointer none) rfl
      have hE2 := HEX.out
      rw [hm] at hE2
      dsimp only at hE2
      have hbb := L2.byte_by t x
      have C1 := hid (l2byte_any L t g _ sp rp x w2 hat2)
      have hidle := HXG.out.idle hm
      obtain ⟨a, ha⟩ : ∃ a, a = x.byte t.nx := ⟨_, rfl⟩
      rw [← ha] at C1 hbb hE2
      have HAM := hid (show a.2.mode = none ∧ a.2.c = x.c by rw [ha]; exact ⟨hm, rfl⟩)
      obtain ⟨b, u⟩ := a
      dsimp only at C1 hbb HAM hE2
      obtain ⟨b0, b1⟩ := hbb
      have hw8 : IntKind.u8.wrap b = b := by rw [IntKind.wrap_u8]; omega
      have HE2 := hid hE2
      have HIDLE := hid hidle
      clear k1 k2 hat2 ha hE2 hidle hm
      go_wp2_with fail
      refine C1.out.mono ?_
      rintro e w3 ⟨rfl, hf3, h3⟩
      have c12 := h3.cell 12 (v := .bool u.bad) rfl
      have c0 := h3.cell 0 (v := .pointer (some ⟨L.gd, 0, none⟩)) rfl
      obtain ⟨ub, hub⟩ : ∃ ub, ub = u.bad := ⟨_, rfl⟩
      rw [← hub] at c12
      have HUB := hid hub
      have HFR3 := hid (HFR2.out.trans (hf3.mono (fun k _ e => HF2.out k e)))
      have H3 := hid h3
      have hs3 := hf3.size
      clear hf3 h3 hub c6
      cases ub with
      | true =>
        have HE3 := hid (HE2.out.trans (if_pos HUB.out.symm))
        go_wp2_with fail
        go_ret2
        rw [HE3.out]
        refine ⟨rfl, HFR3.out, ?_, fun k hk => .inl (HF2.out k hk), ?_⟩
        · rintro k (e | e)
          · have := HF1.out k e; omega
          · exact e.2
        · show match u.mode with | none => _ | some rd => _
          rw [HAM.out.1]
          exact ⟨_, _, _, H3.out, .inl rfl⟩
      | false =>
        have HE3 := hid (HE2.out.trans (if_neg (by rw [← HUB.out]; decide)))
        go_wp2_with fail
        refine (lput_any L sp rp u.c b w3 H3.out.core ⟨b0, b1⟩ (by rw [HAM.out.2]; exact HXP.out)).mono ?_
        rintro e w4 ⟨rfl, hf4, hc4⟩
        have h4 := H3.out.coreTo hf4 hc4
        have HFR4 := hid (HFR3.out.trans (hf4.mono (fun k _ e => HF2.out k (.inr (.inl e)))))
        have hs4 := hf4.size
        have H4 := hid h4
        clear hf4 hc4 h4
        go_wp2_with fail
        go_ret2
        rw [HE3.out]
        refine ⟨rfl, HFR4.out, L2Is.none_ (pv := .pointer none) (sp := sp) (rp := rp) ?_ (fun k hk => .inl (HF2.out k hk)) HAM.out.1 ?_ (.inl rfl)⟩
        · rintro k (e | e)
          · have := HF1.out k e; omega
          · exact e.2
        · rw [← HAM.out.2]
          exact H4.out
    | some rd =>
      rw [hm] at k3
      obtain ⟨gp, ga, gr, hon, fp, fa, fr⟩ := k3
      have c6 := blk_cell hon.at_ (j := 6) (v := .pointer (some ⟨gp, 0, none⟩)) rfl
      have c0 := blk_cell hon.at_ (j := 0) (v := .pointer (some ⟨L.gd, 0, none⟩)) rfl
      have hE2 := HEX.out
      rw [hm] at hE2
      dsimp only at hE2
      have C1 := hid (lnext_any L (lim t gp) ga gr x.c rd w2 hon.on HXP.out HXG.out.fit)
      rw [show (ahead (lim t gp) ga).nx = anx (lnx t.nx) from rfl] at C1
      obtain ⟨q, hq⟩ : ∃ q, q = lnext (anx (lnx t.nx)) L x.c rd := ⟨_, rfl⟩
      rw [← hq] at C1 hE2
      obtain ⟨⟨b, ok⟩, c', rd'⟩ := q
      dsimp only at hE2
      have HE2 := hid hE2
      have HON := hid hon
      have HFP := hid (And.intro fp (And.intro fa fr))
      have HK1 := hid k1
      have HOK9 := hid hon.ok
      clear k1 k2 hon hq hE2 hm fp fa fr
      go_wp2_with fail
      refine C1.out.mono ?_
      rintro e w3 ⟨rfl, hf3, h3⟩
      dsimp only at hf3 h3
      have hat3 := hf3.blk HON.out.at_ HON.out.ng
      have c12 := blk_cell hat3 (j := 12) (v := .bool x.bad) rfl
      have z12 := blk_frozen hat3 12
      have hFT : ∀ k, LFt L (lim t gp) ga gr k → L2F F w w1 k := by
        rintro k (e | e | e | e | e)
        · exact .inl (HF2.out k (.inr (.inl e)))
        · rw [show k = gr from e]; exact HFP.out.2.2
        · rw [show k = ga from e]; exact HFP.out.2.1
        · rw [show k = gp from e]; exact HFP.out.1
        · exact .inl (HF2.out k (.inr (.inr e)))
      have HFR3 := hid (HFR2.out.then hf3 (fun k hk e => by
        rcases hFT k e with e | e
        · exact e
        · omega))
      have HAT3 := hid hat3
      have H3 := hid h3
      have hs3 := hf3.size
      clear hf3 h3 hat3 hFT c6
      go_wp2_with fail
      go_ret2
      rw [HE2.out]
      have hfs : Fr (fun k => k = g) w3 (w3.setCell ⟨g, 12, none⟩ (.bool (!ok))) := (Fr.refl _ _).setOne _ _
      refine ⟨rfl, HFR3.out.setCell (p := ⟨g, 12, none⟩) (fun _ => HF2.out g (.inl rfl)) _, ?_, fun k hk => .inl (HF2.out k hk), gp, ga, gr, ⟨blk_set (i := 12) HAT3.out, H3.out.keep hfs (fun k hk e => HON.out.ng (by rw [← (show k = g from e)]; exact hk)), HON.out.ng, ⟨HOK9.out.lclp, HOK9.out.pb, HOK9.out.nl, HOK9.out.left⟩⟩, ?_, ?_, ?_⟩
      · rintro k (e | e)
        · have := HF1.out k e; simp; omega
        · exact e.2
      · rcases HFP.out.1 with e | e
        · exact .inl e
        · exact .inr ⟨e.1, by simp; omega⟩
      · rcases HFP.out.2.1 with e | e
        · exact .inl e
        · exact .inr ⟨e.1, by simp; omega⟩
      · rcases HFP.out.2.2 with e | e
        · exact .inl e
        · exact .inr ⟨e.1, by simp; omega⟩
end Go.Proofs.Ytjnegcambbeblaa

/- lzma2: Finish, Begin, New, Close. -/
namespace Go.Proofs.Ytjnegcambbeblaa
open Go.RowKit

theorem L2.setting_en {S : Type} (nx : S → Int × Bool × S) (z : L2 S) : (z.setting nx).ended = z.ended ∧ (z.setting nx).mode = z.mode := by
  unfold L2.setting
  split <;> exact ⟨rfl, rfl⟩
theorem L2.st2_en {S : Type} (nx : S → Int × Bool × S) (how : Int) (z : L2 S) : (z.st2 nx how).ended = z.ended ∧ (z.st2 nx how).mode = z.mode := by
  unfold L2.st2
  split
  · exact L2.setting_en nx z
  · exact ⟨rfl, rfl⟩
theorem L2.st3_en {S : Type} (how : Int) (z : L2 S) : (z.st3 how).ended = z.ended ∧ (z.st3 how).mode = z.mode := by
  unfold L2.st3
  split <;> exact ⟨rfl, rfl⟩
theorem L2.st0_en {S : Type} (how : Int) (z : L2 S) : (z.st0 how).ended = z.ended ∧ (z.st0 how).mode = z.mode := by
  unfold L2.st0
  split <;> exact ⟨rfl, rfl⟩
theorem L2.chunk1_en {S : Type} (nx : S → Int × Bool × S) (k : Int) (z : L2 S) (hm : z.mode = none) (he : z.ended = false) (h : (z.chunk1 nx k).ended = true) : (z.chunk1 nx k).mode = none := by
  unfold L2.chunk1 at h ⊢
  split
  · exact hm
  · rename_i h0
    rw [if_neg h0] at h
    split
    · exact hm
    · rename_i h1
      rw [if_neg h1] at h
      split
      · exact L2.plain_mode nx k hm
      · rename_i h2
        rw [if_neg h2] at h
        split
        · rename_i h3
          rw [if_pos h3] at h
          have e : ∀ y : L2 S, (L2.judge (L2.st3 (k / 32 - 4) (L2.st2 nx (k / 32 - 4) y))).ended = y.ended ∧ (L2.judge (L2.st3 (k / 32 - 4) (L2.st2 nx (k / 32 - 4) y))).mode = y.mode := fun y => by
            show (L2.st3 (k / 32 - 4) (L2.st2 nx (k / 32 - 4) y)).ended = _ ∧ (L2.st3 (k / 32 - 4) (L2.st2 nx (k / 32 - 4) y)).mode = _
            rw [(L2.st3_en _ _).1, (L2.st3_en _ _).2]
            exact L2.st2_en nx _ y
          unfold L2.pack L2.packEnd at h ⊢
          split
          · rw [(e _).2]
            exact (L2.st0_en _ z).2.trans hm
          · rename_i h4
            rw [if_neg h4] at h
            have h5 : (L2.judge (L2.st3 (k / 32 - 4) (L2.st2 nx (k / 32 - 4) (((z.st0 (k / 32 - 4)).pair nx).2.pair nx).2))).ended = true := h
            rw [(e _).1] at h5
            have h6 : (z.st0 (k / 32 - 4)).ended = true := h5
            rw [(L2.st0_en _ z).1, he] at h6
            cases h6
        · exact hm
theorem L2.open_en {S : Type} (nx : S → Int × Bool × S) {z : L2 S} (hg : z.ended = true → z.mode = none) : (z.open_ nx).2.ended = true → (z.open_ nx).2.mode = none := by
  unfold L2.open_
  split
  · exact hg
  · rename_i h0
    split
    · split
      · intro h
        refine L2.chunk1_en nx _ _ rfl ?_ h
        show z.ended = false
        cases hq : z.ended
        · rfl
        · exact absurd (.inr hq) h0
      · exact hg
    · exact hg
theorem L2.open_taken {S : Type} (nx : S → Int × Bool × S) (z : L2 S) : (z.open_ nx).2.c.taken = z.c.taken := by
  have hc : ∀ (k : Int) (y : L2 S), (y.chunk1 nx k).c.taken = y.c.taken := by
    intro k y
    unfold L2.chunk1
    split
    · rfl
    · split
      · rfl
      · split
        · unfold L2.plain
          dsimp only
          show (if k = 1 then y.empty else y).c.taken = _
          split <;> rfl
        · split
          · have h0 : (y.st0 (k / 32 - 4)).c.taken = y.c.taken := by unfold L2.st0; split <;> rfl
            have e : ∀ y : L2 S, (L2.judge (L2.st3 (k / 32 - 4) (L2.st2 nx (k / 32 - 4) y))).c = y.c := fun y => by
              show (L2.st3 (k / 32 - 4) (L2.st2 nx (k / 32 - 4) y)).c = _
              rw [L2.st3_c, L2.st2_c]
            unfold L2.pack L2.packEnd
            split
            · rw [e]; exact h0
            · unfold L2.pack1
              dsimp only
              rw [e]
              split
              · exact h0
              · exact h0
          · rfl
  unfold L2.open_
  split
  · rfl
  · split
    · split
      · exact hc _ _
      · rfl
    · rfl
/-- the core of a decoder, whatever is on. -/
theorem L2Is.core {S : Type} {L : LL} {t : Sour S} {g : Nat} {F : Nat → Prop} {w : World} {z : L2 S} (h : L2Is L t g F w z) : ∃ sp rp, LIs L sp rp w z.c := by
  obtain ⟨_, _, h3⟩ := h
  cases hm : z.mode with
  | none => rw [hm] at h3; obtain ⟨pv, sp, rp, h, _⟩ := h3; exact ⟨sp, rp, h.core⟩
  | some rd => rw [hm] at h3; obtain ⟨gp, ga, gr, h, _⟩ := h3; exact ⟨_, _, h.on.is_⟩
def L2FinPost {S : Type} (L : LL) (t : Sour S) (g : Nat) (F : Nat → Prop) (b : Bool) (T : Nat) (w : World) (e : Ending) (w' : World) : Prop :=
  e = .returned (.bool b) ∧ Fr F w w' ∧ ∃ z' : L2 S, L2Is L t g (L2F F w w') w' z' ∧ z'.c.taken = T ∧ z'.bad = true
set_option maxRecDepth 100000 in
set_option maxHeartbeats 800000 in
theorem l2finish_any {S : Type} (L : LL) (t : Sour S) (g : Nat) (F : Nat → Prop) (z : L2 S) (w : World) (h : L2Is L t g F w z) (hen : z.ended = true → z.mode = none) :
    Calls Try.prog 43 #[.pointer (some ⟨g, 0, none⟩)] w (L2FinPost L t g F (z.finish t.nx) z.c.taken w) := by
  obtain ⟨R, hR⟩ : ∃ R, R = z.finish t.nx := ⟨_, rfl⟩
  rw [← hR]
  unfold L2.finish at hR
  have CO := hid (l2open_any L t g F z w h)
  have EO := hid (L2.open_en t.nx hen)
  have TO := hid (L2.open_taken t.nx z)
  have HF1 := hid h.1
  have HF2 := hid h.2.1
  obtain ⟨pv, hat⟩ := h.cells
  have c7 := blk_cell hat (j := 7) (v := .int .i64 z.left) rfl
  have c12 := blk_cell hat (j := 12) (v := .bool z.bad) rfl
  have z12 := blk_frozen hat 12
  obtain ⟨l, hl⟩ : ∃ l, l = z.left := ⟨_, rfl⟩
  rw [← hl] at c7 hR
  generalize z.open_ t.nx = o at CO EO TO hR
  obtain ⟨ob, y⟩ := o
  dsimp only at CO EO TO hR
  have HR := hid hR
  have H := hid h
  clear h hR hat hl hen
  have hfin : ∀ (F' : Nat → Prop) (wx : World) (y : L2 S), Fr F w wx → (∀ k, F' k → L2F F w wx k) → L2Is L t g F' wx y → y.c.taken = z.c.taken → L2FinPost L t g F R z.c.taken w (.returned (.bool R)) (wx.setCell ⟨g, 12, none⟩ (.bool true)) := by
    intro F' wx y hfr hsub his ht
    have h1 := his.setBad true (fun _ => rfl)
    refine ⟨rfl, hfr.setCell (p := ⟨g, 12, none⟩) (fun _ => HF2.out g (.inl rfl)) _, _, h1.mono (fun k hk => ?_) ?_, ht, rfl⟩
    · rcases hsub k hk with e | e
      · exact .inl e
      · exact .inr ⟨e.1, by simp; exact e.2⟩
    · rintro k (e | e)
      · have := HF1.out k e; have := hfr.size; simp; omega
      · exact e.2
  have HFIN := hid hfin
  clear hfin
  go_enter Try.func43, Try.ntmps43
  by_cases hl0 : l = 0
  · subst hl0
    have HR2 := hid (HR.out.trans (if_pos rfl))
    go_wp2_with fail
    refine CO.out.mono ?_
    rintro e w1 ⟨rfl, hf1, h1⟩
    obtain ⟨pv1, hat1⟩ := h1.cells
    clear c7 c12 z12
    have c11 := blk_cell hat1 (j := 11) (v := .bool y.ended) rfl
    have c12 := blk_cell hat1 (j := 12) (v := .bool y.bad) rfl
    have z12 := blk_frozen hat1 12
    obtain ⟨ye, hye⟩ : ∃ b, b = y.ended := ⟨_, rfl⟩
    obtain ⟨yb, hyb⟩ : ∃ b, b = y.bad := ⟨_, rfl⟩
    have hR := HR2.out
    rw [← hye, ← hyb] at hR
    rw [← hye] at c11
    rw [← hyb] at c12
    have HFR1 := hid hf1
    have H1 := hid h1
    have HYE := hid hye
    have HYB := hid hyb
    have HR3 := hid hR
    have c5 := blk_cell hat1 (j := 5) (v := .iface t.ty t.val) rfl
    have hs1 := hf1.size
    clear hf1 h1 hat1 hye hyb hR
    cases ob with
    | true =>
      have HE := hid (show R = false from HR3.out)
      go_wp2_with fail
      go_ret
      have := HFIN.out _ w1 y HFR1.out (fun _ e => e) H1.out TO.out
      rw [HE.out] at this ⊢
      exact this
    | false =>
      cases ye with
      | false =>
        have HE := hid (show R = false from HR3.out)
        go_wp2_with fail
        go_ret
        have := HFIN.out _ w1 y HFR1.out (fun _ e => e) H1.out TO.out
        rw [HE.out] at this ⊢
        exact this
      | true =>
        cases yb with
        | true =>
          have HE := hid (show R = false from HR3.out)
          go_wp2_with fail
          go_ret
          have := HFIN.out _ w1 y HFR1.out (fun _ e => e) H1.out TO.out
          rw [HE.out] at this ⊢
          exact this
        | false =>
          have hym := EO.out HYE.out.symm
          obtain ⟨k1, k2, k3⟩ := H1.out
          rw [hym] at k3
          obtain ⟨pv2, sp, rp, hat2, hpv⟩ := k3
          have hsrc : y.src = y.s := by unfold L2.src; rw [hym]
          obtain ⟨mo, hmo⟩ : ∃ m, m = (t.nx y.s).2.1 := ⟨_, rfl⟩
          have HE := hid (show R = !mo by rw [HR3.out, hsrc, hmo]; rfl)
          have CS := hid (t.call w1 y.s hat2.src)
          rw [← hmo] at CS
          have HAT2 := hid hat2
          have HYM := hid hym
          have HPV := hid hpv
          have HK1 := hid k1
          clear k1 k2 hat2 hsrc hmo hym hpv
          go_wp2_with (refine opInvoke rfl (.tmp 34) _ rfl t.ty t.val rfl t.fid t.val t.meth t.enter (fun K hK => ?_))
          refine CS.out.mono ?_
          rintro e w2 ⟨rfl, hf2, hi2⟩
          have h2 := HAT2.out.srcTo hf2 hi2
          have hs2 := hf2.size
          clear c12 z12
          have c12 := h2.cell 12 (v := .bool y.bad) rfl
          have z12 := blk_frozen h2.at_ 12
          have HFR2 := hid (HFR1.out.trans (hf2.mono (fun k _ e => HF2.out k (.inr (.inr e)))))
          have H2 := hid h2
          clear hf2 hi2 h2
          go_wp2_with fail
          go_ret
          have hz : L2Is L t g (L2F F w w2) w2 { y with s := (t.nx y.s).2.2 } := L2Is.none_ (by
            rintro k (e | e)
            · have := HF1.out k e; omega
            · exact e.2) (fun k hk => .inl (HF2.out k hk)) HYM.out H2.out (by rcases HPV.out with h | h | h; exact .inl h; exact .inr (.inl h); exact .inr (.inr h))
          have := HFIN.out _ w2 _ HFR2.out (fun _ e => e) hz TO.out
          rw [HE.out] at this ⊢
          exact this
  · have HE := hid (HR.out.trans (if_neg hl0))
    have hlb : ((l : Int) == 0) = false := by simp; omega
    go_wp2_with fail
    go_ret
    have := HFIN.out F w z (Fr.refl _ _) (fun _ e => .inl e) H.out rfl
    rw [HE.out] at this ⊢
    exact this
end Go.Proofs.Ytjnegcambbeblaa

/- lzma2: Dict, New, Begin, Close. -/
namespace Go.Proofs.Ytjnegcambbeblaa
open Go.RowKit

def dict2 (p : Nat) : Nat := if p = 40 then 4294967295 else (2 + p % 2) * 2 ^ (p / 2 + 11)
theorem dict2_or : ∀ p : Nat, p < 40 → bits BinOp.or IntKind.u8 2 (bits BinOp.and IntKind.u8 (p : Int) 1) = ((2 + p % 2 : Nat) : Int) := by decide
theorem dict2_le : ∀ p : Nat, p < 41 → 4096 ≤ dict2 p ∧ dict2 p ≤ 4294967295 := by decide
set_option maxRecDepth 100000 in
set_option maxHeartbeats 800000 in
theorem dict2_any (p : Nat) (hp : p ≤ 40) (w : World) : Calls Try.prog 45 #[.int .u8 p] w fun e w' => e = .returned (.tuple #[.int .i64 (dict2 p : Nat), .int .i64 0]) ∧ w = w' := by
  by_cases h40 : p = 40
  · subst h40
    go_enter Try.func45, Try.ntmps45
    go_wp2_with fail
    go_ret2
    exact ⟨rfl, rfl⟩
  · have hor := dict2_or p (by omega)
    have hd := dict2_le p (by omega)
    have hde : dict2 p = (2 + p % 2) * 2 ^ (p / 2 + 11) := if_neg h40
    have h1 : ¬ (40 : Int) < (p : Int) := by omega
    have h2 : ((p : Int) == 40) = false := by simp; omega
    have h3 : IntKind.u8.wrap ((p : Int) / 2 + 11) = ((p / 2 + 11 : Nat) : Int) := by rw [IntKind.wrap_u8]; omega
    have h4 : IntKind.i64.wrap (((2 + p % 2 : Nat) : Int)) = ((2 + p % 2 : Nat) : Int) := by rw [IntKind.wrap_i64]; omega
    have HDE := hid hde
    have HD := hid hd
    clear hde hd h40
    go_enter Try.func45, Try.ntmps45
    go_wp2_with fail
    go_ret2
    have e : wrap64 ((2 + (p : Int) % 2) * 2 ^ (p / 2 + 11)) = ((dict2 p : Nat) : Int) := by
      rw [show (2 + (p : Int) % 2) * 2 ^ (p / 2 + 11) = ((dict2 p : Nat) : Int) by rw [HDE.out]; push_cast; rfl]
      exact w64_nat _ (by have := HD.out.2; omega)
    rw [← e]
    exact ⟨rfl, rfl⟩
/-- the setting by which a decoder begins. -/
def set2 (p : Nat) : Lset := ⟨4, 0, 0, dict2 p⟩
theorem set2_light {p : Nat} (hp : p ≤ 40) : (set2 p).Light := by
  have h := dict2_le p (by omega)
  exact ⟨⟨by show (0 : Int) ≤ 4; decide, by show (4 : Int) ≤ 8; decide, by show (0 : Int) ≤ 0; decide, by show (0 : Int) ≤ 4; decide, by show (0 : Int) ≤ 0; decide, by show (0 : Int) ≤ 4; decide, by show (4096 : Int) ≤ (dict2 p : Nat); omega, by show ((dict2 p : Nat) : Int) ≤ 4294967295; omega⟩, by show (4 : Int) + 0 ≤ 6; decide⟩
theorem set2_nl (p : Nat) : (set2 p).nl = 12288 := rfl
/-- a decoder that has not begun. -/
def L2New (L : LL) (p g : Nat) (w : World) : Prop := w.heap[g]? = some (.cells #[.pointer (some ⟨L.gd, 0, none⟩), .int .i64 4, .int .i64 0, .int .i64 0, .int .i64 (dict2 p : Nat), .nilIface, .pointer none, .int .i64 0, .bool false, .bool false, .bool false, .bool false, .bool false] 145)
def L2NewPost (gm : Nat) (m : MS) (p N : Nat) (w : World) (e : Ending) (w' : World) : Prop :=
  ∃ (L : LL) (g : Nat), e = .returned (.tuple #[.pointer (some ⟨g, 0, none⟩), .int .i64 0]) ∧ Fr (fun k => k = gm) w w' ∧ MAt w' gm ((m.mem (set2 p).need).2.mem N).2 ∧
     LIs L (.pointer none) (.pointer none) w' (lstart (set2 p)) ∧ L.gm = gm ∧ L.n = N ∧ L.nl = 12288 ∧ (∀ k, L.foot k → w.heap.size < k ∧ k < g) ∧ L2New L p g w' ∧ g < w'.heap.size
set_option maxRecDepth 100000 in
set_option maxHeartbeats 800000 in
theorem l2new_any (gm : Nat) (m : MS) (p : Nat) (size : Int) (w : World) (N : Nat) (hN : N = wsize (min (set2 p).dict size)) (h : MAt w gm m) (hok : m.Ok) (hp : p ≤ 40) (hs : size ≤ 1048576) (hs0 : -9223372036854775808 ≤ size)
    (h1 : (m.mem (set2 p).need).1 = true) (h2 : ((m.mem (set2 p).need).2.mem N).1 = true) :
    Calls Try.prog 39 #[.int .u8 p, .int .i64 size, .pointer (some ⟨gm, 0, none⟩)] w (L2NewPost gm m p N w) := by
  subst hN
  have H1 := hid h1
  have H2 := hid h2
  clear h1 h2
  have HGM := hid (blk_lt h)
  obtain ⟨d, hd⟩ : ∃ d : Int, d = ((dict2 p : Nat) : Int) := ⟨_, rfl⟩
  have hset : (set2 p).val = .agg #[.int .i64 4, .int .i64 0, .int .i64 0, .int .i64 d] := by rw [hd]; rfl
  have CN := hid (show ∀ W, Fr Non w W → Calls Try.prog 20 #[.agg #[.int .i64 4, .int .i64 0, .int .i64 0, .int .i64 d], .int .i64 size, .pointer (some ⟨gm, 0, none⟩)] W (LNewPost gm m (set2 p) size W) from fun W hW => by
    have h := lnew_any gm m (set2 p) size W (hW.blk h id) hok (set2_light hp) hs hs0
    rw [hset] at h
    exact h)
  have CD := hid (dict2_any p hp)
  rw [← hd] at CD
  have HD := hid hd
  have HSET := hid hset
  clear h hok hs hs0 hset hd
  go_enter Try.func39, Try.ntmps39
  go_wp2_with fail
  refine (CD.out w).mono ?_
  rintro e w1 ⟨rfl, rfl⟩
  go_upto_region 5 with fail
  have k0 := blk_cell (blk_new w (.cells #[.int .i64 4, .int .i64 0, .int .i64 0, .int .i64 d] 23)) (j := 0) (v := .int .i64 4) rfl
  have k1 := blk_cell (blk_new w (.cells #[.int .i64 4, .int .i64 0, .int .i64 0, .int .i64 d] 23)) (j := 1) (v := .int .i64 0) rfl
  have k2 := blk_cell (blk_new w (.cells #[.int .i64 4, .int .i64 0, .int .i64 0, .int .i64 d] 23)) (j := 2) (v := .int .i64 0) rfl
  have k3 := blk_cell (blk_new w (.cells #[.int .i64 4, .int .i64 0, .int .i64 0, .int .i64 d] 23)) (j := 3) (v := .int .i64 d) rfl
  have HB := hid (blk_new w (.cells #[.int .i64 4, .int .i64 0, .int .i64 0, .int .i64 d] 23))
  have HF := hid ((Fr.refl Non w).alloc (.cells #[.int .i64 4, .int .i64 0, .int .i64 0, .int .i64 d] 23))
  go_wp2_with fail
  refine (CN.out _ HF.out).mono ?_
  intro e w2 hq
  rcases hq with ⟨_, _, hno, _⟩ | ⟨_, _, L, rfl, hf1, hm1, hl1, hLgm, hLn, hLnl, hLf⟩
  · exact absurd ⟨H1.out, H2.out⟩ hno
  have HLF := hid (show ∀ k, L.foot k → w.heap.size < k ∧ k < w2.heap.size from fun k hk => by
    have := hLf k hk
    simp at this
    omega)
  have F1 := hid (show Fr (fun k => k = gm) w w2 from (HF.out.any).trans hf1)
  have HB2 := hid (hf1.blk HB.out (fun e => by have := HGM.out; omega))
  have HQ := hid (And.intro hm1 (And.intro hl1 (And.intro hLgm (And.intro hLn hLnl))))
  clear hf1 hm1 hl1 hLgm hLn hLnl hLf k0 k1 k2 k3
  have k0 := blk_cell HB2.out (j := 0) (v := .int .i64 4) rfl
  have k1 := blk_cell HB2.out (j := 1) (v := .int .i64 0) rfl
  have k2 := blk_cell HB2.out (j := 2) (v := .int .i64 0) rfl
  have k3 := blk_cell HB2.out (j := 3) (v := .int .i64 d) rfl
  go_wp2_with fail
  go_ret2
  obtain ⟨hm1, hl1, hLgm, hLn, hLnl⟩ := HQ.out
  refine ⟨L, w2.heap.size, rfl, F1.out.alloc _, blk_alloc hm1, hl1.keep ((Fr.refl Non w2).alloc _) (fun _ _ e => e), hLgm, hLn, hLnl, HLF.out, ?_, by simp⟩
  unfold L2New
  rw [← HD.out]
  exact blk_new w2 _
end Go.Proofs.Ytjnegcambbeblaa

/- lzma2: Begin, Close. -/
namespace Go.Proofs.Ytjnegcambbeblaa
open Go.RowKit

def l2start {S : Type} (p : Nat) (s : S) : L2 S := ⟨lstart (set2 p), none, s, 4, 0, 0, dict2 p, 0, false, false, false, false, false⟩
def L2BPost {S : Type} (L : LL) (t : Sour S) (g p : Nat) (s : S) (w : World) (e : Ending) (w' : World) : Prop := e = .returned (.tuple #[]) ∧ Fr (fun k => k = g) w w' ∧ L2At L t g (.pointer none) (.pointer none) (.pointer none) w' (l2start p s)
set_option maxRecDepth 100000 in
set_option maxHeartbeats 800000 in
theorem l2begin_any {S : Type} (L : LL) (t : Sour S) (g p : Nat) (s : S) (w : World) (h : L2New L p g w) (hl : LIs L (.pointer none) (.pointer none) w (lstart (set2 p))) (hi : t.I w s) (ng : ¬ L.foot g) (nt : ¬ t.foot g) (ap : ∀ k, L.foot k → ¬ t.foot k) (hnl : L.nl = 12288) :
    Calls Try.prog 42 #[.pointer (some ⟨g, 0, none⟩), .iface t.ty t.val] w (L2BPost L t g p s w) := by
  have c5 := blk_cell h (j := 5) (v := .nilIface) rfl
  have c6 := blk_cell h (j := 6) (v := .pointer none) rfl
  have c7 := blk_cell h (j := 7) (v := .int .i64 0) rfl
  have c8 := blk_cell h (j := 8) (v := .bool false) rfl
  have c9 := blk_cell h (j := 9) (v := .bool false) rfl
  have c10 := blk_cell h (j := 10) (v := .bool false) rfl
  have c11 := blk_cell h (j := 11) (v := .bool false) rfl
  have c12 := blk_cell h (j := 12) (v := .bool false) rfl
  have z5 := blk_frozen h 5
  have z6 := blk_frozen h 6
  have z7 := blk_frozen h 7
  have z8 := blk_frozen h 8
  have z9 := blk_frozen h 9
  have z10 := blk_frozen h 10
  have z11 := blk_frozen h 11
  have z12 := blk_frozen h 12
  have hfin : L2BPost L t g p s w (.returned (.tuple #[])) ((((((((w.setCell ⟨g, 5, none⟩ (.iface t.ty t.val)).setCell ⟨g, 6, none⟩ (.pointer none)).setCell ⟨g, 7, none⟩ (.int .i64 0)).setCell ⟨g, 8, none⟩ (.bool false)).setCell ⟨g, 9, none⟩ (.bool false)).setCell ⟨g, 10, none⟩ (.bool false)).setCell ⟨g, 11, none⟩ (.bool false)).setCell ⟨g, 12, none⟩ (.bool false)) := by
    have hf : Fr (fun k => k = g) w ((((((((w.setCell ⟨g, 5, none⟩ (.iface t.ty t.val)).setCell ⟨g, 6, none⟩ (.pointer none)).setCell ⟨g, 7, none⟩ (.int .i64 0)).setCell ⟨g, 8, none⟩ (.bool false)).setCell ⟨g, 9, none⟩ (.bool false)).setCell ⟨g, 10, none⟩ (.bool false)).setCell ⟨g, 11, none⟩ (.bool false)).setCell ⟨g, 12, none⟩ (.bool false)) := (Fr.setCell (p := ⟨g, 12, none⟩) (Fr.setCell (p := ⟨g, 11, none⟩) (Fr.setCell (p := ⟨g, 10, none⟩) (Fr.setCell (p := ⟨g, 9, none⟩) (Fr.setCell (p := ⟨g, 8, none⟩) (Fr.setCell (p := ⟨g, 7, none⟩) (Fr.setCell (p := ⟨g, 6, none⟩) (Fr.setCell (p := ⟨g, 5, none⟩) (Fr.refl (fun k => k = g) w) (fun _ => rfl) (.iface t.ty t.val)) (fun _ => rfl) (.pointer none)) (fun _ => rfl) (.int .i64 0)) (fun _ => rfl) (.bool false)) (fun _ => rfl) (.bool false)) (fun _ => rfl) (.bool false)) (fun _ => rfl) (.bool false)) (fun _ => rfl) (.bool false))
    have e := (blk_set (i := 12) (v := (.bool false)) (blk_set (i := 11) (v := (.bool false)) (blk_set (i := 10) (v := (.bool false)) (blk_set (i := 9) (v := (.bool false)) (blk_set (i := 8) (v := (.bool false)) (blk_set (i := 7) (v := (.int .i64 0)) (blk_set (i := 6) (v := (.pointer none)) (blk_set (i := 5) (v := (.iface t.ty t.val)) h))))))))
    generalize ((((((((w.setCell ⟨g, 5, none⟩ (.iface t.ty t.val)).setCell ⟨g, 6, none⟩ (.pointer none)).setCell ⟨g, 7, none⟩ (.int .i64 0)).setCell ⟨g, 8, none⟩ (.bool false)).setCell ⟨g, 9, none⟩ (.bool false)).setCell ⟨g, 10, none⟩ (.bool false)).setCell ⟨g, 11, none⟩ (.bool false)).setCell ⟨g, 12, none⟩ (.bool false)) = W at hf e ⊢
    refine ⟨rfl, hf, ?_, hl.keep hf (fun k hk e => ng (by have e' : k = g := e; rw [← e']; exact hk)), t.keep _ _ _ _ hi hf (fun k hk e => nt (by have e' : k = g := e; rw [← e']; exact hk)), ng, nt, ap, ?_⟩
    · generalize hd : (dict2 p : Nat) = d at e
      rw [e]
      simp only [List.setIfInBounds_toArray, List.set_cons_succ, List.set_cons_zero]
      unfold L2.cells l2start
      rw [hd]
      rfl
    · exact ⟨by show 4 + 0 ≤ 4; decide, by show 0 ≤ 4; decide, hnl, by show 0 ≤ 2097152; decide⟩
  have HFIN := hid hfin
  clear h hl hi ng nt ap hnl hfin
  go_enter Try.func42, Try.ntmps42
  go_wp2_with fail
  go_end0
  exact HFIN.out
def L2ClosePost (L : LL) (g T : Nat) (m : MS) (w : World) (e : Ending) (w' : World) : Prop :=
  e = .returned (.tuple #[]) ∧ Fr (fun k => k = g ∨ k = L.gd ∨ k = L.gw ∨ k = L.gm) w w' ∧ MAt w' L.gm ((m.free T).free L.n) ∧ ((m.free T).free L.n).Ok
set_option maxRecDepth 100000 in
set_option maxHeartbeats 800000 in
theorem l2closeD_any {S : Type} (L : LL) (t : Sour S) (g : Nat) (F : Nat → Prop) (z : L2 S) (m : MS) (u : FrameMode) (w : World) (h : L2Is L t g F w z) (hm : MAt w L.gm m) (hok : m.Ok) (ht : z.c.taken ≤ 1048576) (hgm : L.gm ≠ g) :
    CallsD Try.prog 44 #[.pointer (some ⟨g, 0, none⟩)] u w fun e u' w' => u' = u ∧ L2ClosePost L g z.c.taken m w e w' := by
  have hok0 := hok
  obtain ⟨sp, rp, hc⟩ := h.core
  obtain ⟨nx, hr⟩ := hc.raw hm hok ht
  obtain ⟨pv, hat⟩ := h.cells
  have c0 := blk_cell hat (j := 0) (v := .pointer (some ⟨L.gd, 0, none⟩)) rfl
  have HAT := hid hat
  have HG := hid hgm
  have HNG : ¬ L.foot g := by
    obtain ⟨_, _, h3⟩ := h
    cases hm : z.mode with
    | none => rw [hm] at h3; obtain ⟨pv, sp, rp, h, _⟩ := h3; exact h.ng
    | some rd => rw [hm] at h3; obtain ⟨gp, ga, gr, h, _⟩ := h3; exact fun e => h.ng (.inl e)
  have HN := hid HNG
  have HR := hid hr
  clear h hm hok ht hgm hc hr hat HNG
  go_enter_d Try.func44, Try.ntmps44
  go_wp2_with fail
  refine (lclose_raw L L.lit sp rp z.c _ L.n nx _ m w HR.out).mono ?_
  rintro e w1 ⟨rfl, hf1, hr1⟩
  have hb := hf1.blk HAT.out (fun e => by
    rcases e with e | e | e
    · exact HN.out (.inl e)
    · exact HN.out (.inr (.inr (.inl e)))
    · exact HG.out e.symm)
  have c12 := blk_cell hb (j := 12) (v := .bool z.bad) rfl
  have z12 := blk_frozen hb 12
  have HF1 := hid hf1
  have HR1 := hid hr1
  clear hf1 hr1 hb c0
  go_wp2_with fail
  go_end0
  refine ⟨rfl, ?_, ?_, MS.free_ok (MS.free_ok hok0 _) _⟩
  · exact Fr.setCell (p := ⟨g, 12, none⟩) (HF1.out.mono (fun _ _ e => .inr e)) (fun _ => .inl rfl) _
  · exact blk_set_ne HR1.out.met HG.out
end Go.Proofs.Ytjnegcambbeblaa

/- lzma2: runs; Unpack's door. -/
namespace Go.Proofs.Ytjnegcambbeblaa
open Go.RowKit

/-- what holds of a decoder all the while. -/
structure L2.Inv {S : Type} (z : L2 S) (L : LL) : Prop where
  good : z.Good L
  en : z.ended = true → z.mode = none
theorem L2.take_inv {S : Type} (nx : S → Int × Bool × S) (L : LL) {z : L2 S} (h : z.Inv L) : (z.take nx L).2.Inv L := by
  unfold L2.take
  cases hm : z.mode with
  | none =>
    dsimp only
    have h0 := h.good.idle hm
    split
    · exact ⟨⟨fun _ => h0, left0_fit h0⟩, fun _ => hm⟩
    · exact ⟨⟨fun _ => h0, left0_fit h0⟩, fun _ => hm⟩
  | some rd =>
    dsimp only
    refine ⟨⟨fun e => (by cases e), lnext_fit (anx (lnx nx)) L z.c rd h.good.fit⟩, fun e => ?_⟩
    have := h.en e
    rw [hm] at this
    cases this
theorem L2.next_inv {S : Type} (nx : S → Int × Bool × S) (L : LL) {z : L2 S} (h : z.Inv L) : (z.next nx L).2.Inv L := by
  unfold L2.next
  have h1 := L2.open_good nx h.good
  have h2 := L2.open_en nx h.en
  split
  · exact L2.take_inv nx L ⟨⟨h1.idle, h1.fit⟩, h2⟩
  · exact ⟨h1, h2⟩
theorem L2.take_place {S : Type} (nx : S → Int × Bool × S) (L : LL) (z : L2 S) : (z.take nx L).2.c.place ≤ z.c.place + 1 := by
  unfold L2.take
  cases hm : z.mode with
  | none =>
    dsimp only
    split
    · exact Nat.le_succ _
    · exact Nat.le_refl _
  | some rd =>
    dsimp only
    exact lnext_place (anx (lnx nx)) L z.c rd
theorem L2.next_place {S : Type} (nx : S → Int × Bool × S) (L : LL) (z : L2 S) : (z.next nx L).2.c.place ≤ z.c.place + 1 := by
  unfold L2.next
  have h1 := L2.open_c nx z
  split
  · have h2 := L2.take_place nx L { (z.open_ nx).2 with left := (z.open_ nx).2.left - 1 }
    have h3 : ({ (z.open_ nx).2 with left := (z.open_ nx).2.left - 1 } : L2 S).c.place = (z.open_ nx).2.c.place := rfl
    omega
  · show (z.open_ nx).2.c.place ≤ _
    omega
theorem L2.next_taken {S : Type} (nx : S → Int × Bool × S) (L : LL) (z : L2 S) : (z.next nx L).2.c.taken = z.c.taken := by
  unfold L2.next
  have h1 := L2.open_taken nx z
  split
  · rw [← h1]
    unfold L2.take
    cases hm : ({ (z.open_ nx).2 with left := (z.open_ nx).2.left - 1 } : L2 S).mode with
    | none =>
      dsimp only
      split
      · rfl
      · rfl
    | some rd =>
      dsimp only
      exact (lnext_same (anx (lnx nx)) L _ rd).1
  · exact h1
theorem L2.next_of {S : Type} (nx : S → Int × Bool × S) (L : LL) (z : L2 S) : z.next nx L = z.next nx (LL.of L.n) := rfl
/-- the decoder behind so many bytes. -/
def l2run {S : Type} (nx : S → Int × Bool × S) (L : LL) (z : L2 S) : Nat → L2 S
  | 0 => z
  | k + 1 => ((l2run nx L z k).next nx L).2
def l2at {S : Type} (nx : S → Int × Bool × S) (L : LL) (z : L2 S) (k : Nat) : Int := ((l2run nx L z k).next nx L).1.1
def l2has {S : Type} (nx : S → Int × Bool × S) (L : LL) (z : L2 S) (k : Nat) : Bool := ((l2run nx L z k).next nx L).1.2
def l2bytes {S : Type} (nx : S → Int × Bool × S) (L : LL) (z : L2 S) (k : Nat) : List Int := (List.range k).map (l2at nx L z)
theorem l2bytes_snoc {S : Type} (nx : S → Int × Bool × S) (L : LL) (z : L2 S) (k : Nat) : l2bytes nx L z (k + 1) = l2bytes nx L z k ++ [l2at nx L z k] := by
  unfold l2bytes; rw [List.range_succ, List.map_append]; rfl
theorem l2bytes_len {S : Type} (nx : S → Int × Bool × S) (L : LL) (z : L2 S) (k : Nat) : (l2bytes nx L z k).length = k := by simp [l2bytes]
theorem l2run_inv {S : Type} (nx : S → Int × Bool × S) (L : LL) (z : L2 S) (h : z.Inv L) : ∀ k, (l2run nx L z k).Inv L
  | 0 => h
  | k + 1 => L2.next_inv nx L (l2run_inv nx L z h k)
theorem l2run_place {S : Type} (nx : S → Int × Bool × S) (L : LL) (z : L2 S) : ∀ k, (l2run nx L z k).c.place ≤ z.c.place + k
  | 0 => Nat.le_refl _
  | k + 1 => by
    have h1 := L2.next_place nx L (l2run nx L z k)
    have h2 := l2run_place nx L z k
    show ((l2run nx L z k).next nx L).2.c.place ≤ _
    omega
theorem l2run_taken {S : Type} (nx : S → Int × Bool × S) (L : LL) (z : L2 S) : ∀ k, (l2run nx L z k).c.taken = z.c.taken
  | 0 => rfl
  | k + 1 => (L2.next_taken nx L _).trans (l2run_taken nx L z k)
theorem l2run_of {S : Type} (nx : S → Int × Bool × S) (L : LL) (z : L2 S) : ∀ k, l2run nx L z k = l2run nx (LL.of L.n) z k
  | 0 => rfl
  | k + 1 => by
    show ((l2run nx L z k).next nx L).2 = ((l2run nx (LL.of L.n) z k).next nx (LL.of L.n)).2
    rw [l2run_of nx L z k, L2.next_of]
theorem l2at_of {S : Type} (nx : S → Int × Bool × S) (L : LL) (z : L2 S) (k : Nat) : l2at nx L z k = l2at nx (LL.of L.n) z k := by
  unfold l2at
  rw [l2run_of, L2.next_of]
theorem l2has_of {S : Type} (nx : S → Int × Bool × S) (L : LL) (z : L2 S) (k : Nat) : l2has nx L z k = l2has nx (LL.of L.n) z k := by
  unfold l2has
  rw [l2run_of, L2.next_of]
/-- what a stream is unpacked to: its bytes, or nothing. -/
def l2unpack {S : Type} (nx : S → Int × Bool × S) (s0 : S) (p N size : Nat) : Option (List Int) :=
  if (List.range size).all (l2has nx (LL.of N) (l2start p s0)) = true ∧ (l2run nx (LL.of N) (l2start p s0) size).finish nx = true then some (l2bytes nx (LL.of N) (l2start p s0) size) else none
theorem l2start_inv {S : Type} (p : Nat) (s0 : S) (L : LL) : (l2start p s0).Inv L := ⟨⟨fun _ => rfl, lstart_fit (set2 p) L⟩, fun _ => rfl⟩
theorem l2start_place {S : Type} (p : Nat) (s0 : S) : (l2start p s0).c.place = 0 := rfl
theorem l2start_taken {S : Type} (p : Nat) (s0 : S) : (l2start p s0).c.taken = (set2 p).need := rfl
theorem L2Is.keep {S : Type} {L : LL} {t : Sour S} {g : Nat} {F : Nat → Prop} {w w' : World} {z : L2 S} (h : L2Is L t g F w z) {T : Nat → Prop} (hf : Fr T w w') (ht : ∀ k, F k → ¬ T k) : L2Is L t g F w' z := by
  obtain ⟨h1, h2, h3⟩ := h
  refine ⟨fun k hk => Nat.lt_of_lt_of_le (h1 k hk) hf.size, h2, ?_⟩
  cases hm : z.mode with
  | none =>
    rw [hm] at h3
    obtain ⟨pv, sp, rp, h, hp⟩ := h3
    exact ⟨pv, sp, rp, h.keep hf (fun k hk => ht k (h2 k hk)), hp⟩
  | some rd =>
    rw [hm] at h3
    obtain ⟨gp, ga, gr, h, q1, q2, q3⟩ := h3
    refine ⟨gp, ga, gr, ⟨hf.blk h.at_ (ht g (h2 g (.inl rfl))), h.on.keep hf (fun k hk => ht k ?_), h.ng, h.ok⟩, q1, q2, q3⟩
    rcases hk with e | e | e | e
    · exact h2 k (.inr (.inl e))
    · have e' : k = gr := e; rw [e']; exact q3
    · have e' : k = ga := e; rw [e']; exact q2
    · rcases e with e | e
      · rw [e]; exact q1
      · exact h2 k (.inr (.inr e))
/-- the last of a call that defers Close. -/
theorem l2un_door {L : LL} {t : Sour Nat} {g gm : Nat} {F : Nat → Prop} {w wr : World} {z : L2 Nat} {m : MS} {T N : Nat} {R : Option (List Int)} {v : Value} {q : Int} {m' : MS} {tmps : Array Value} (B : Nat)
    (h : L2Is L t g F wr z) (hm : MAt wr gm m) (hok : m.Ok) (hT : z.c.taken = T) (ht : T ≤ 1048576) (hg : L.gm = gm) (hn : L.n = N) (hm' : (m.free T).free N = m') (hf : Fr (fun k => k = gm) w wr)
    (hlo : ∀ k, L.foot k → w.heap.size < k ∧ k < B) (hgl0 : w.heap.size < g ∧ g < B)
    (hres : ∀ W : World, (results Try.f38 tmps).run Try.prog W = .ok (.tuple #[v, .int .i64 q]) W)
    (hR : (R = none ∧ v = .slice none 0 0 ∧ q = 12) ∨ (∃ xs, R = some xs ∧ q = 0 ∧ RowO wr B v xs)) (hBw : w.heap.size ≤ B) (hgl : gm < w.heap.size) :
    Leaves Try.prog Try.f38 tmps (LUnPost gm R m' w) [{ target := Target.fn (Fn.func 44) #[], args := #[.pointer (some ⟨g, 0, none⟩)] }] .returning wr := by
  subst hg hn hm' hT
  refine leaves_cons (f := 44) (args := #[.pointer (some ⟨g, 0, none⟩)]) (by simp) (by simp [go_sem]) ?_
  refine (l2closeD_any L t g F z m _ wr h hm hok ht (by omega)).mono ?_
  rintro e u' w'' ⟨rfl, rfl, h3, h4, h5⟩
  refine ⟨.tuple #[v, .int .i64 q], hres _, hf.then h3 (fun k hk e => ?_), h4, h5, ?_⟩
  · rcases e with e | e | e | e
    · omega
    · have := hlo L.gd (.inl rfl); omega
    · have := hlo L.gw (.inr (.inr (.inl rfl))); omega
    · exact e
  · rcases hR with ⟨h1, rfl, rfl⟩ | ⟨xs, h1, rfl, ho⟩
    · exact .inl ⟨h1, rfl⟩
    · refine .inr ⟨xs, v, h1, rfl, (ho.fr h3 (fun k h8 _ e => ?_)).low hBw⟩
      rcases e with e | e | e | e
      · omega
      · have := hlo L.gd (.inl rfl); omega
      · have := hlo L.gw (.inr (.inr (.inl rfl))); omega
      · omega
end Go.Proofs.Ytjnegcambbeblaa

/- lzma2: Unpack's walk. -/
namespace Go.Proofs.Ytjnegcambbeblaa
open Go.RowKit

set_option maxRecDepth 100000 in
theorem dict2_bad (p : Nat) (hp : 40 < p) (hp2 : p < 256) (w : World) : Calls Try.prog 45 #[.int .u8 p] w fun e w' => e = .returned (.tuple #[.int .i64 0, .int .i64 11]) ∧ w = w' := by
  have h1 : (40 : Int) < (p : Int) := by omega
  have h2 : (p : Int) < 256 := by omega
  go_enter Try.func45, Try.ntmps45
  go_wp2_with fail
  go_ret2
  exact ⟨rfl, rfl⟩
theorem Own.high {w : World} {e : TypeId} {v : Value} {xs : List Int} (h : Own w 0 .u8 e v xs) {B : Nat} (hB : ∀ b, v.ownBlock = some b → B ≤ b) : Own w B .u8 e v xs := by
  obtain ⟨h1, h2 | ⟨g, cap, cur, hv, hg, r⟩⟩ := h
  · exact ⟨h1, .inl h2⟩
  · exact ⟨h1, .inr ⟨g, cap, cur, hv, hB g (by rw [hv]; rfl), r⟩⟩
set_option maxRecDepth 100000 in
set_option maxHeartbeats 800000 in
theorem l2unpack_any (gm : Nat) (m : MS) (p : Nat) (hp : p ≤ 40) (x : Int) (size : Nat) (hx : x.toNat = size) (a : Option Addr) (n c : Nat) (f : Nat → Int) (hf : ∀ i, i < n → 0 ≤ f i ∧ f i < 256) (w : World) (N : Nat) (hN : N = wsize (min (set2 p).dict x))
    (h : MAt w gm m) (hok : m.Ok) (hs : x ≤ 5000) (hs0 : -9223372036854775808 ≤ x) (hn : n ≤ 20000) (hnc : n ≤ c) (hnil : a = none → c = 0) (hr : RowIn w.heap.size .u8 w a n f)
    (h1 : (m.mem (set2 p).need).1 = true) (h2 : ((m.mem (set2 p).need).2.mem N).1 = true) :
    Calls Try.prog 38 #[.slice a n c, .int .u8 p, .int .i64 x, .pointer (some ⟨gm, 0, none⟩)] w (LUnPost gm (l2unpack (feedNx f n) 0 p N size) (lmet m (set2 p) N) w) := by
  obtain ⟨R, hR⟩ : ∃ R, R = l2unpack (feedNx f n) 0 p N size := ⟨_, rfl⟩
  rw [← hR]
  unfold l2unpack at hR
  have hpn : (set2 p).need ≤ 200000 := by
    have hp' := set2_light hp
    have := hp'.nl_le
    have hm : (set2 p).may = true := Lset.may_iff.2 hp'.may
    have hprob : (set2 p).probs = 1847 + (set2 p).nl := by unfold Lset.probs Lset.nl; rw [if_pos hm]
    unfold Lset.need
    omega
  have HR := hid hR
  have HX := hid hx
  have HM := hid h
  have HMO := hid hok
  have HROW := hid hr
  have HNIL := hid hnil
  have HC := hid hnc
  have HM1 := hid h1
  have HM2 := hid h2
  have Hf := hid hf
  have HPN := hid hpn
  have hgm : gm < w.heap.size := blk_lt h
  have HGM := hid hgm
  have hx5 : size ≤ 5000 := by omega
  have CNEW := hid (l2new_any gm m p x w N hN h hok hp (by omega) hs0 h1 h2)
  obtain ⟨T, hT⟩ : ∃ T, T = (set2 p).need := ⟨_, rfl⟩
  have HT0 := hid hT
  clear hR hx hN h hok hr hnil hnc h1 h2 hf hgm hpn hs0 hs hT
  go_enter_defers Try.func38, Try.ntmps38
  go_wp2_with fail
  refine CNEW.out.mono ?_
  rintro e w1 ⟨L, g, rfl, hf1, hm1, hl1, hLgm, hLn, hLnl, hLf, hnew, hgs⟩
  have HLN := hid hLn
  have HLG := hid hLgm
  have HLNL := hid hLnl
  have HGS := hid hgs
  have HLF := hid hLf
  have hg0 : w.heap.size < g := by have := hLf L.gd (.inl rfl); omega
  have HG0 := hid hg0
  have F1 := hid hf1
  have hs1 := hf1.size
  have M1 := hid hm1
  have L1 := hid hl1
  have N1 := hid hnew
  clear hf1 hm1 hl1 hLgm hLn hLnl hLf hnew hgs hg0
  go_wp2_with fail
  refine (newFeed_any a n c f w1 (by omega) HC.out HNIL.out (by exact (HROW.out.meter HM.out F1.out).mono hs1)).mono ?_
  intro e w2 hq
  obtain ⟨fg, fa, fc, rfl, hf2, hi2, hl2⟩ := feedNew_q _ _ _ Hf.out (by omega) _ _ hq
  obtain ⟨t, ht⟩ : ∃ t, t = feed fg fa n fc f Hf.out := ⟨_, rfl⟩
  have HT := hid (show Value.iface 45 (.pointer (some ⟨fg, 0, none⟩)) = Value.iface t.ty t.val from by rw [ht]; rfl)
  have HTN := hid (show t.nx = feedNx f n from by rw [ht]; rfl)
  rw [← ht] at hi2 hl2
  have HI2 := hid hi2
  have HL2 := hid hl2
  have F2 := hid (F1.out.trans hf2.any)
  have M2 := hid (show MAt w2 gm _ from hf2.blk M1.out id)
  have LI2 := hid (L1.out.keep hf2 (fun _ _ e => e))
  have N2 := hid (show L2New L p g w2 from hf2.blk N1.out id)
  have hs2 := hf2.size
  clear hq hf2 hi2 hl2 ht
  go_wp2_with fail
  rw [HT.out]
  refine (l2begin_any L t g p 0 w2 N2.out LI2.out HI2.out (fun e => by have := (HLF.out g e).2; omega) (fun e => by have := (HL2.out g e).1; have := HGS.out; omega) (fun k hk e => by have := (HLF.out k hk).2; have := (HL2.out k e).1; have := HGS.out; omega) HLNL.out).mono ?_
  rintro e w3 ⟨rfl, hf3, hat3⟩
  have hs3 := hf3.size
  have F3 := hid (F2.out.then hf3 (fun k hk e => by have e' : k = g := e; have := HG0.out; omega))
  have M3 := hid (show MAt w3 gm _ from hf3.blk M2.out (fun e => by have e' : gm = g := e; have := HG0.out; have := HGM.out; omega))
  obtain ⟨z0, hz0⟩ : ∃ z, z = l2start p 0 := ⟨_, rfl⟩
  have HLT := hid (show ∀ k, L2.foot L t g k → w.heap.size < k ∧ k < w3.heap.size from by
    have := HGS.out
    have := HG0.out
    rintro k (e | e | e)
    · rw [e]; omega
    · have := HLF.out k e; omega
    · have := HL2.out k e; omega)
  have IS3 := hid (L2Is.none_ (F := L2.foot L t g) (fun k hk => (HLT.out k hk).2) (fun _ e => e) rfl hat3 (.inl rfl))
  rw [← hz0] at IS3
  have hR := HR.out
  rw [← hz0] at hR
  have HRR := hid hR
  have HINV := hid (l2run_inv (feedNx f n) L z0 (by rw [hz0]; exact l2start_inv p 0 L))
  have HPLA := hid (l2run_place (feedNx f n) L z0)
  have HPL0 := hid (show z0.c.place = 0 by rw [hz0]; rfl)
  have HTK := hid (show ∀ k, (l2run (feedNx f n) L z0 k).c.taken = T from fun k => by rw [l2run_taken, hz0, HT0.out]; rfl)
  have HX2 := hid (show ∀ k : Nat, ((k : Int) < x ↔ k < size) from fun k => by have := HX.out; omega)
  clear hf3 hat3 hz0 hR
  go_wp2_with fail
  go_loopw [12] (fun v wr => ∃ k F, k ≤ size ∧ (∀ i, i < k → l2has (feedNx f n) L z0 i = true) ∧ L2Is L t g F wr (l2run (feedNx f n) L z0 k) ∧ (∀ i, F i → w.heap.size < i) ∧ (∀ b, v.ownBlock = some b → w3.heap.size ≤ b ∧ ¬ F b) ∧ Own wr 0 .u8 5 v (l2bytes (feedNx f n) L z0 k) ∧ Fr (fun k => k = gm) w wr ∧ MAt wr gm ((m.mem (set2 p).need).2.mem N).2 ∧ w3.heap.size ≤ wr.heap.size) (fun v _ => size - lenV v)
  case atStart => exact ⟨0, _, Nat.zero_le _, (fun i hi => by omega), IS3.out, (fun i hi => (HLT.out i hi).1), (fun b hb => by cases hb), Own.nil _ _ _ _, F3.out, M3.out, Nat.le_refl _⟩
  case round =>
    obtain ⟨k, F, hk, hks, his, hFlo, hFown, hown, hfr, hmt, hwz⟩ := hrel
    have HKS := hid hks
    have HIS := hid his
    have HFLO := hid hFlo
    have HOW := hid hown
    have HFW := hid hfr
    have HMT := hid hmt
    have hlv := hown.lenV
    rw [l2bytes_len] at hlv
    have HLV := hid hlv
    obtain ⟨ra, rc, hva, hrc, hrm, hrw⟩ := hown.rowN (l2bytes_len _ _ _ _)
    have HZ := hid (show ra = none → rc = 0 from fun e => by
      subst e
      have h2 := hown.2
      rcases h2 with ⟨h3, h4⟩ | ⟨g, cap, cur, hv, hg, r⟩
      · rw [hva] at h3; injection h3
      · rw [hva] at hv; injection hv with e1 e2 e3; cases e1)
    have HSEP := hid (fun b hb => (hFown b hb).2)
    have HBL := hid (fun b hb => (hFown b hb).1)
    clear hks his hFlo hFown hown hfr hmt hlv hrm hrw
    subst hva
    have C1 := l2next_any L t g F _ wr HIS.out (HINV.out k).good (by have := HPLA.out k; have := HPL0.out; omega)
    rw [HTN.out] at C1
    have C1 := hid C1
    by_cases hlt : k < size
    · have hlx : (k : Int) < x := (HX2.out k).2 hlt
      obtain ⟨ok, hok⟩ : ∃ ok, ok = l2has (feedNx f n) L z0 k := ⟨_, rfl⟩
      obtain ⟨b, hb⟩ : ∃ b, b = l2at (feedNx f n) L z0 k := ⟨_, rfl⟩
      go_wp2_with fail
      refine C1.out.mono ?_
      rintro e w5 ⟨rfl, hf5, his5⟩
      rw [show ((l2run (feedNx f n) L z0 k).next (feedNx f n) L).1.2 = ok from hok.symm, show ((l2run (feedNx f n) L z0 k).next (feedNx f n) L).1.1 = b from hb.symm]
      have HF5 := hid hf5
      have IS5 := hid (show L2Is L t g (L2F F wr w5) w5 (l2run (feedNx f n) L z0 (k + 1)) from his5)
      have hs5 := hf5.size
      have hw03 : w.heap.size ≤ w3.heap.size := F3.out.size
      have FW5 := hid (HFW.out.then hf5 (fun i hi e => by have := HFLO.out i e; omega))
      have M5 := hid (show MAt w5 gm _ from hf5.blk HMT.out (fun e => by have := HFLO.out _ e; have := HGM.out; omega))
      have HO5 := hid (HOW.out.fr HF5.out HSEP.out)
      have HFLO5 := hid (show ∀ i, L2F F wr w5 i → w.heap.size < i from by
        have := HLT.out g (.inl rfl)
        rintro i (e | e)
        · exact HFLO.out i e
        · omega)
      have HSEP5 := hid (show ∀ b, (Value.slice ra k rc).ownBlock = some b → ¬ L2F F wr w5 b from by
        rintro b hb (e | e)
        · exact HSEP.out b hb e
        · have := (HOW.out.block b hb).2; omega)
      have HOK := hid hok
      have HB := hid hb
      clear hf5 his5 hok hb C1
      cases ok with
      | true =>
        go_wp2_with (refine opGrow1 (some 45) rfl rfl (.tmp 42) (.tmp 44) 30 rfl .u8 5 1 Try.underlying30 Try.info_u8q _ _ rfl (by exact HO5.out.alloc _) ⟨_, 0, none⟩ 1 _ rfl (cell_new1 _ _ _) (by decide) (by rw [l2bytes_len]; omega) ?_; intro v' w6 hown6 hg6 hwhere)
        have hs6 := hg6.size
        simp at hs6
        have HL := hid HOW.out.block
        have HF6 := hid (Fr.grown (FW5.out.alloc _) hg6 (fun b hb hlt => by have := HBL.out b hb; omega))
        have H6 := hid (IS5.out.keep (Fr.grown ((Fr.refl (fun b => (Value.slice ra k rc).ownBlock = some b) w5).alloc _) hg6 (fun b hb _ => hb)) (fun b hb e => HSEP5.out b e hb))
        have M6 := hid (show MAt w6 gm _ from (Fr.grown ((Fr.refl (fun b => (Value.slice ra k rc).ownBlock = some b) w5).alloc _) hg6 (fun b hb _ => hb)).blk M5.out (fun e => by have := HBL.out _ e; have := HGM.out; omega))
        rw [HB.out, ← l2bytes_snoc] at hown6
        have HO6 := hid hown6
        have hlv6 := hown6.lenV
        rw [l2bytes_len] at hlv6
        have HLV6 := hid hlv6
        have HKS' := hid (show ∀ i, i < k + 1 → l2has (feedNx f n) L z0 i = true from fun i hi => by
          by_cases e : i = k
          · rw [e]; exact HOK.out.symm
          · exact HKS.out i (by omega))
        have HW6 := hid (show ∀ b, v'.ownBlock = some b → w3.heap.size ≤ b ∧ ¬ L2F F wr w5 b from fun b hb => by
          rcases hwhere with e | e
          · rw [e] at hb
            exact ⟨HBL.out b hb, HSEP5.out b hb⟩
          · rw [e] at hb
            injection hb with hb
            simp at hb
            refine ⟨by omega, fun e => ?_⟩
            have := IS5.out.1 b e
            omega)
        clear hown6 hg6 hlv6 hwhere
        go_roundw
        case rel => exact ⟨k + 1, _, by omega, HKS'.out, H6.out, HFLO5.out, HW6.out, HO6.out, HF6.out, M6.out, by omega⟩
        case measure =>
          rw [HLV.out, HLV6.out]
          omega
      | false =>
        go_wp2_with fail
        refine l2un_door w3.heap.size IS5.out M5.out (MS.mem_ok (MS.mem_ok HMO.out _) _) (T := T) (HTK.out (k + 1)) (by have := HPN.out; have := HT0.out; omega) HLG.out HLN.out (by rw [HT0.out]; rfl) FW5.out (fun j hj => HLT.out j (.inr (.inl hj))) (HLT.out g (.inl rfl)) (fun W => Eq.trans (results_tmp2 rfl _ _ W) rfl) (.inl ⟨?_, rfl, rfl⟩) hw03 HGM.out
        rw [HRR.out, if_neg]
        intro e
        have e1 := List.all_eq_true.1 e.1 k (List.mem_range.2 hlt)
        rw [← HLN.out, ← l2has_of, ← HOK.out] at e1
        cases e1
    · have e : k = size := by omega
      subst e
      have hlx : ¬ (k : Int) < x := fun e => hlt ((HX2.out k).1 e)
      have C2 := l2finish_any L t g F _ wr HIS.out (HINV.out k).en
      rw [HTN.out] at C2
      obtain ⟨fb, hfb⟩ : ∃ b, b = (l2run (feedNx f n) L z0 k).finish (feedNx f n) := ⟨_, rfl⟩
      rw [← hfb] at C2
      have C2 := hid C2
      have HFE := hid hfb
      have HTKK := hid (HTK.out k)
      clear hfb C1
      go_wp2_with fail
      refine C2.out.mono ?_
      rintro e w5 ⟨rfl, hf5, z5, his5, hzt, _⟩
      have HZT := hid (hzt.trans HTKK.out)
      have HF5 := hid hf5
      have IS5 := hid his5
      have hs5 := hf5.size
      have FW5 := hid (HFW.out.then hf5 (fun i hi e => by have := HFLO.out i e; omega))
      have M5 := hid (show MAt w5 gm _ from hf5.blk HMT.out (fun e => by have := HFLO.out _ e; have := HGM.out; omega))
      have HO5 := hid (HOW.out.fr HF5.out HSEP.out)
      have hw03 : w.heap.size ≤ w3.heap.size := F3.out.size
      clear hf5 his5 hzt
      cases fb with
      | true =>
        go_wp2_with fail
        refine l2un_door w3.heap.size IS5.out M5.out (MS.mem_ok (MS.mem_ok HMO.out _) _) (T := T) HZT.out (by have := HPN.out; have := HT0.out; omega) HLG.out HLN.out (by rw [HT0.out]; rfl) FW5.out (fun j hj => HLT.out j (.inr (.inl hj))) (HLT.out g (.inl rfl)) (fun W => Eq.trans (results_tmp2 rfl _ _ W) rfl) (.inr ⟨l2bytes (feedNx f n) L z0 k, ?_, rfl, ?_⟩) hw03 HGM.out
        · rw [HRR.out, if_pos]
          · congr 1
            unfold l2bytes
            exact List.map_congr_left (fun i _ => by rw [← HLN.out, ← l2at_of])
          · refine ⟨List.all_eq_true.2 (fun i hi => ?_), ?_⟩
            · rw [← HLN.out, ← l2has_of]
              exact HKS.out i (List.mem_range.1 hi)
            · rw [← HLN.out, ← l2run_of, ← HFE.out]
        · exact (HO5.out.high HBL.out).rowO
      | false =>
        go_wp2_with fail
        refine l2un_door w3.heap.size IS5.out M5.out (MS.mem_ok (MS.mem_ok HMO.out _) _) (T := T) HZT.out (by have := HPN.out; have := HT0.out; omega) HLG.out HLN.out (by rw [HT0.out]; rfl) FW5.out (fun j hj => HLT.out j (.inr (.inl hj))) (HLT.out g (.inl rfl)) (fun W => Eq.trans (results_tmp2 rfl _ _ W) rfl) (.inl ⟨?_, rfl, rfl⟩) hw03 HGM.out
        rw [HRR.out, if_neg]
        intro e
        have e1 := e.2
        rw [← HLN.out, ← l2run_of, ← HFE.out] at e1
        cases e1
end Go.Proofs.Ytjnegcambbeblaa

/- lzma2: Unpack by much memory; awake (11). -/
namespace Go.Proofs.Ytjnegcambbeblaa
open Go.RowKit

theorem set2_need_le {p : Nat} (hp : p ≤ 40) : (set2 p).need ≤ 200000 := by
  have hp' := set2_light hp
  have := hp'.nl_le
  have hm : (set2 p).may = true := Lset.may_iff.2 hp'.may
  have hprob : (set2 p).probs = 1847 + (set2 p).nl := by unfold Lset.probs Lset.nl; rw [if_pos hm]
  unfold Lset.need
  omega
def L2MPost (R : Option (List Int)) (W : World) (e : Ending) (w' : World) : Prop :=
  Fr Non W w' ∧ ((R = none ∧ e = .returned (.tuple #[.slice none 0 0, .int .i64 12])) ∨ (∃ xs v, R = some xs ∧ e = .returned (.tuple #[v, .int .i64 0]) ∧ RowO w' W.heap.size v xs))
theorem l2unpack_much (p : Nat) (hp : p ≤ 40) (x : Int) (size : Nat) (hx : x.toNat = size) (a : Option Addr) (n c : Nat) (f : Nat → Int) (hf : ∀ i, i < n → 0 ≤ f i ∧ f i < 256) (gm : Nat) (W w : World) (N : Nat) (hN : N = wsize (min (set2 p).dict x))
    (hW : Fr Non W w) (hgW : W.heap.size ≤ gm) (h : MAt w gm MUCH) (hs : x ≤ 5000) (hs0 : -9223372036854775808 ≤ x) (hn : n ≤ 20000) (hnc : n ≤ c) (hnil : a = none → c = 0) (hr : RowIn w.heap.size .u8 w a n f) :
    Calls Try.prog 38 #[.slice a n c, .int .u8 p, .int .i64 x, .pointer (some ⟨gm, 0, none⟩)] w (L2MPost (l2unpack (feedNx f n) 0 p N size) W) := by
  have hd := dict2_le p (by omega)
  have hM := much_mem (a := (set2 p).need) (b := N) (set2_need_le hp) (by subst hN; unfold wsize; omega)
  refine (l2unpack_any gm MUCH p hp x size hx a n c f hf w N hN h MUCH_ok hs hs0 hn hnc hnil hr hM.1 hM.2).mono ?_
  rintro e w' ⟨h1, h2, h3, h4⟩
  refine ⟨hW.then h1 (fun i hi e => by have e' : i = gm := e; omega), ?_⟩
  rcases h4 with h4 | ⟨xs, v, h5, h6, h7⟩
  · exact .inl h4
  · exact .inr ⟨xs, v, h5, h6, h7.low hW.size⟩
def aw11a : Nat → Int := fun i => [1, 0, 1, 97, 98, 0].getD i 0
def aw11b : Nat → Int := fun i => [2, 0, 0, 97, 0].getD i 0
theorem aw11_yes : l2unpack (feedNx aw11a 6) 0 0 2 2 = some [97, 98] := by kernel_rfl
theorem aw11_no : l2unpack (feedNx aw11b 5) 0 0 1 1 = none := by kernel_rfl
theorem aw11_one (b gm : Nat) (W w : World) (hW : Fr Non W w) (hgW : W.heap.size ≤ gm) (hb : w.heap[b]? = some (.cells #[.int .u8 1, .int .u8 0, .int .u8 1, .int .u8 97, .int .u8 98, .int .u8 0] 5)) (hm : MAt w gm MUCH) :
    Calls Try.prog 38 #[.slice (some ⟨b, 0, none⟩) 6 6, .int .u8 0, .int .i64 2, .pointer (some ⟨gm, 0, none⟩)] w
      fun e w' => ∃ v, e = .returned (.tuple #[v, .int .i64 0]) ∧ Fr Non W w' ∧ RowO w' W.heap.size v [97, 98] := by
  refine (l2unpack_much 0 (by decide) 2 2 rfl _ 6 6 aw11a (by decide) gm W w 2 (by decide) hW hgW hm (by decide) (by decide) (by decide) (by decide) (fun e => by cases e)
    (.inr ⟨b, 0, rfl, blk_lt hb, fun i hi => blk_cell hb (by rw [Nat.zero_add]; match i, hi with | 0, _ => rfl | 1, _ => rfl | 2, _ => rfl | 3, _ => rfl | 4, _ => rfl | 5, _ => rfl)⟩)).mono ?_
  rintro e w' ⟨h1, h4⟩
  rw [aw11_yes] at h4
  rcases h4 with ⟨h5, _⟩ | ⟨xs, v, h5, h6, h7⟩
  · cases h5
  · injection h5 with h5
    subst h5
    exact ⟨v, h6, h1, h7⟩
theorem aw11_two (b gm : Nat) (W w : World) (hW : Fr Non W w) (hgW : W.heap.size ≤ gm) (hb : w.heap[b]? = some (.cells #[.int .u8 2, .int .u8 0, .int .u8 0, .int .u8 97, .int .u8 0] 5)) (hm : MAt w gm MUCH) :
    Calls Try.prog 38 #[.slice (some ⟨b, 0, none⟩) 5 5, .int .u8 0, .int .i64 1, .pointer (some ⟨gm, 0, none⟩)] w
      fun e w' => e = .returned (.tuple #[.slice none 0 0, .int .i64 12]) ∧ Fr Non W w' := by
  refine (l2unpack_much 0 (by decide) 1 1 rfl _ 5 5 aw11b (by decide) gm W w 1 (by decide) hW hgW hm (by decide) (by decide) (by decide) (by decide) (fun e => by cases e)
    (.inr ⟨b, 0, rfl, blk_lt hb, fun i hi => blk_cell hb (by rw [Nat.zero_add]; match i, hi with | 0, _ => rfl | 1, _ => rfl | 2, _ => rfl | 3, _ => rfl | 4, _ => rfl)⟩)).mono ?_
  rintro e w' ⟨h1, h4⟩
  rw [aw11_no] at h4
  rcases h4 with ⟨_, h6⟩ | ⟨xs, v, h5, h6, h7⟩
  · exact ⟨h6, h1⟩
  · cases h5
set_option maxRecDepth 100000 in
theorem RowO.str {w : World} {B : Nat} {a : Option Addr} {n c : Nat} (h : RowO w B (.slice a n c) [97, 98]) : (convert 30 9 (.slice a n c)).run Try.prog w = .ok (.string { data := #[97, 98] }) w := by
  obtain ⟨a', c', h1, h2, h3, h4, h5⟩ := h
  injection h1 with e1 e2 e3
  subst e1 e3
  rw [e2]
  rcases h4 with h4 | ⟨b, off, e, hb, hc⟩
  · cases h4
  · subst e
    exact run_convert_bytes_arg (P := Try.prog) w 30 5 Try.underlying30 (by kernel_rfl) b off 2 _ [97, 98] rfl (fun i hi => hc i hi) 9 (by kernel_rfl)
set_option maxRecDepth 100000 in
set_option maxHeartbeats 800000 in
theorem awake11_any (w : World) : Calls Try.prog 37 #[] w fun e w' => e = .returned (.bool true) ∧ Fr Non w w' := by
  go_enter Try.func37, Try.ntmps37
  go_upto_region 1 with fail
  go_cut [1, 2] (fun v q wx => q = .int .i64 0 ∧ Fr Non w wx ∧ RowO wx w.heap.size v [97, 98])
  case first =>
    go_wp2_with fail
    refine (much_any _).mono ?_
    rintro e wm ⟨gm, rfl, hgm, hfm, hmm⟩
    have HFM := hid hfm
    have HMM := hid hmm
    clear hfm hmm
    simp at hgm
    go_wp2_with fail
    refine (aw11_one _ gm w _ (((Fr.refl Non w).alloc _).trans HFM.out) (by omega) (HFM.out.blk (blk_new _ _) id) HMM.out).mono ?_
    rintro e wn ⟨v, rfl, hWn, hro⟩
    have HWN := hid hWn
    have HRO := hid hro
    clear hWn hro
    go_wp2_with fail
    go_meet
    exact ⟨rfl, HWN.out, HRO.out⟩
  case rest =>
    obtain ⟨rfl, hf1, hro⟩ := hcut
    obtain ⟨X, hX⟩ : ∃ X, X = wc := ⟨_, rfl⟩
    rw [← hX] at hf1 hro ⊢
    have HF1 := hid hf1
    have HRO := hid hro
    clear hX hf1 hro
    go_upto_region 2 with fail
    go_cut [3, 4] (fun v q wx => q = .int .i64 12 ∧ Fr Non X wx)
    case first =>
      go_wp2_with fail
      refine (much_any _).mono ?_
      rintro e wm ⟨gm, rfl, hgm, hfm, hmm⟩
      have HFM := hid hfm
      have HMM := hid hmm
      clear hfm hmm
      simp at hgm
      go_wp2_with fail
      refine (aw11_two _ gm X _ (((Fr.refl Non X).alloc _).trans HFM.out) (by omega) (HFM.out.blk (blk_new _ _) id) HMM.out).mono ?_
      rintro e wn ⟨rfl, hWn⟩
      have HWN := hid hWn
      clear hWn
      go_wp2_with fail
      go_meet
      exact ⟨rfl, HWN.out⟩
    case rest =>
      obtain ⟨rfl, hf2⟩ := hcut
      obtain ⟨Y, hY⟩ : ∃ Y, Y = wc := ⟨_, rfl⟩
      rw [← hY] at hf2 ⊢
      clear hY
      have hro := HRO.out.fr hf2 (fun _ _ _ e => e)
      obtain ⟨ra, rc, hra, _⟩ := id hro
      subst hra
      have hcv : (convert 30 9 (.slice ra 2 rc)).run Try.prog Y = .ok (.string { data := #[97, 98] }) Y := hro.str
      have HF2 := hid (HF1.out.trans hf2)
      clear hf2 hro
      go_wp2_with fail
      go_ret
      exact ⟨rfl, HF2.out⟩
end Go.Proofs.Ytjnegcambbeblaa
