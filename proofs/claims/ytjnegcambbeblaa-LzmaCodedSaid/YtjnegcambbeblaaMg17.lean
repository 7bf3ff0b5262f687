/- Texts of this proof, one behind the other. -/
import Derived.Test.YtjnegcambbeblaaMg16
import Derived.Test.YtjnegcambbeblaaMg10

/- lzma2: chunk, closed, open. -/
namespace Go.Proofs.Ytjnegcambbeblaa
open Go.RowKit

/-- a decoder as it lies, its blocks among F. -/
def L2Is {S : Type} (L : LL) (t : Sour S) (g : Nat) (F : Nat → Prop) (w : World) (z : L2 S) : Prop :=
  (∀ k, F k → k < w.heap.size) ∧ (∀ k, L2.foot L t g k → F k) ∧
    match z.mode with
    | none => ∃ pv sp rp, L2At L t g pv sp rp w z ∧ (pv = .pointer none ∨ z.ended = true ∨ z.bad = true)
    | some rd => ∃ gp ga gr, L2On L t g gp ga gr w z rd ∧ F gp ∧ F ga ∧ F gr
/-- the blocks behind a call. -/
def L2F (F : Nat → Prop) (w w' : World) : Nat → Prop := fun k => F k ∨ (w.heap.size ≤ k ∧ k < w'.heap.size)
theorem L2Is.new {S : Type} {L : LL} {t : Sour S} {g : Nat} {F : Nat → Prop} {w : World} {z : L2 S} (h : L2Is L t g F w z) {w' : World} (hs : w.heap.size ≤ w'.heap.size) : ∀ k, L2F F w w' k → k < w'.heap.size := by
  rintro k (e | e)
  · have := h.1 k e; omega
  · exact e.2
def L2CPost {S : Type} (L : LL) (t : Sour S) (g : Nat) (F : Nat → Prop) (v : Value) (z : L2 S) (w : World) (e : Ending) (w' : World) : Prop :=
  e = .returned v ∧ Fr F w w' ∧ L2Is L t g (L2F F w w') w' z
/-- idle: nothing packed is on; its source goes on where the packed chunk left it. -/
theorem L2On.idle {S : Type} {L : LL} {t : Sour S} {g gp ga gr : Nat} {w : World} {z : L2 S} {rd : RD (AhS (S × Nat))} (h : L2On L t g gp ga gr w z rd) (hm : z.mode = some rd) : L2At L t g (.pointer (some ⟨gp, 0, none⟩)) (.pointer (some ⟨ga, 0, none⟩)) (.pointer (some ⟨gr, 0, none⟩)) w z.idle := by
  have hs : z.idle.s = rd.src.s.1 := by unfold L2.idle L2.src; rw [hm]
  refine ⟨h.at_, h.on.is_, ?_, fun e => h.ng (.inl e), fun e => h.ng (.inr (.inr (.inr (.inr e)))), fun k hk e => h.on.ap k hk (.inr (.inr (.inr e))), ⟨h.ok.lclp, h.ok.pb, h.ok.nl, h.ok.left⟩⟩
  rw [hs]
  exact h.on.dec.src.src.src
theorem L2.plain_mode {S : Type} (nx : S → Int × Bool × S) (k : Int) {z : L2 S} (h : z.mode = none) : (z.plain nx k).mode = none := by
  unfold L2.plain
  dsimp only
  show (if k = 1 then z.empty else z).mode = none
  split
  · exact h
  · exact h
def ChunkPost {S : Type} (L : LL) (t : Sour S) (g : Nat) (z : L2 S) (w : World) (e : Ending) (w' : World) : Prop :=
  e = .returned (.tuple #[]) ∧ Fr (L2.foot L t g) w w' ∧
    ((z.mode = none ∧ ∃ pv sp rp, L2At L t g pv sp rp w' z ∧ (pv = .pointer none ∨ z.ended = true ∨ z.bad = true)) ∨
     (∃ rd gp ga gr, z.mode = some rd ∧ L2On L t g gp ga gr w' z rd ∧ w.heap.size ≤ gp ∧ gp < w'.heap.size ∧ w.heap.size ≤ ga ∧ ga < w'.heap.size ∧ w.heap.size ≤ gr ∧ gr < w'.heap.size))
set_option maxRecDepth 100000 in
set_option maxHeartbeats 800000 in
theorem l2chunk_any {S : Type} (L : LL) (t : Sour S) (g : Nat) (pv sp rp : Value) (z : L2 S) (w : World) (h : L2At L t g pv sp rp w z) (hm : z.mode = none) (hlt : ∀ i, t.foot i → i < w.heap.size) :
    Calls Try.prog 104 #[.pointer (some ⟨g, 0, none⟩)] w (ChunkPost L t g ((z.byte t.nx).2.chunk1 t.nx (z.byte t.nx).1) w) := by
  have hbb := L2.byte_by t z
  have C1 := hid (l2byte_any L t g pv sp rp z w h)
  obtain ⟨a, ha⟩ : ∃ a, a = z.byte t.nx := ⟨_, rfl⟩
  rw [← ha] at C1 hbb ⊢
  have HAM := hid (show a.2.mode = none by rw [ha]; exact hm)
  obtain ⟨k, y⟩ := a
  dsimp only at C1 hbb HAM ⊢
  obtain ⟨k0, k1⟩ := hbb
  obtain ⟨R, hR⟩ : ∃ R, R = y.chunk1 t.nx k := ⟨_, rfl⟩
  rw [← hR]
  unfold L2.chunk1 at hR
  have HR := hid hR
  have HLT := hid hlt
  clear h hR hm hlt ha
  go_enter Try.func104, Try.ntmps104
  go_wp2_with fail
  refine C1.out.mono ?_
  rintro e w1 ⟨rfl, hf1, h1⟩
  have c11 := h1.cell 11 (v := .bool y.ended) rfl
  have z11 := blk_frozen h1.at_ 11
  have c12 := h1.cell 12 (v := .bool y.bad) rfl
  have z12 := blk_frozen h1.at_ 12
  have HF1 := hid hf1
  have H1 := hid h1
  have hs1 := hf1.size
  obtain ⟨b, hbe⟩ : ∃ b, b = y.bad := ⟨_, rfl⟩
  rw [← hbe] at c12
  have HBE := hid hbe
  clear hf1 h1 hbe
  cases b with
  | true =>
    have HE := hid (show R = y by rw [HR.out]; exact if_pos HBE.out.symm)
    go_wp2_with fail
    go_end0
    rw [HE.out]
    exact ⟨rfl, HF1.out, .inl ⟨HAM.out, _, _, _, H1.out, .inr (.inr HBE.out.symm)⟩⟩
  | false =>
    have HR2 := hid (HR.out.trans (if_neg (by rw [← HBE.out]; decide)))
    by_cases hk0 : k = 0
    · subst hk0
      have HE := hid (HR2.out.trans (if_pos rfl))
      go_wp2_with fail
      go_end0
      rw [HE.out]
      exact ⟨rfl, HF1.out.setCell (p := ⟨g, 11, none⟩) (fun _ => .inl rfl) _, .inl ⟨HAM.out, _, _, _, H1.out.set (z' := { y with ended := true }) (i := 11) (v := .bool true) rfl rfl rfl ⟨H1.out.ok.lclp, H1.out.ok.pb, H1.out.ok.nl, H1.out.ok.left⟩, .inr (.inl rfl)⟩⟩
    · have hk0b : (k == 0) = false := by simpa using hk0
      have HR3 := hid (HR2.out.trans (if_neg hk0))
      by_cases hk2 : k ≤ 2
      · have hk2b : decide (k ≤ 2) = true := decide_eq_true hk2
        have HE := hid (HR3.out.trans (if_pos hk2))
        go_wp2_with fail
        refine (l2plain_any L t g pv sp rp k y w1 H1.out).mono ?_
        rintro e w2 ⟨rfl, hf2, h2⟩
        have HF2 := hid (HF1.out.trans hf2)
        have H2 := hid h2
        clear hf2 h2
        go_wp2_with fail
        go_end0
        rw [HE.out]
        exact ⟨rfl, HF2.out, .inl ⟨L2.plain_mode t.nx k HAM.out, _, _, _, H2.out, .inl rfl⟩⟩
      · have hk2b : decide (k ≤ 2) = false := decide_eq_false hk2
        have HR4 := hid (HR3.out.trans (if_neg hk2))
        by_cases hk128 : 128 ≤ k
        · have hkb : decide (128 ≤ k) = true := decide_eq_true hk128
          have HE := hid (HR4.out.trans (if_pos hk128))
          go_wp2_with fail
          refine (l2pack_any L t g pv sp rp k y w1 H1.out hk128 k1 HAM.out HBE.out.symm (fun i hi => by have := HLT.out i hi; omega)).mono ?_
          rintro e w2 ⟨rfl, hf2, hc2⟩
          have HF2 := hid (HF1.out.trans hf2)
          have HC2 := hid hc2
          clear hf2 hc2
          go_wp2_with fail
          go_end0
          rw [HE.out]
          refine ⟨rfl, HF2.out, ?_⟩
          rcases HC2.out with ⟨hm, hb, hat⟩ | ⟨rd, gp, ga, gr, hm, hon, q1, q2, q3, q4, q5, q6⟩
          · exact .inl ⟨hm, _, _, _, hat, .inr (.inr hb)⟩
          · exact .inr ⟨rd, gp, ga, gr, hm, hon, by omega, q2, by omega, q4, by omega, q6⟩
        · have hkb : decide (128 ≤ k) = false := decide_eq_false hk128
          have HE := hid (HR4.out.trans (if_neg hk128))
          go_wp2_with fail
          go_end0
          rw [HE.out]
          exact ⟨rfl, HF1.out.setCell (p := ⟨g, 12, none⟩) (fun _ => .inl rfl) _, .inl ⟨HAM.out, _, _, _, H1.out.set (z' := { y with bad := true }) (i := 12) (v := .bool true) rfl rfl rfl ⟨H1.out.ok.lclp, H1.out.ok.pb, H1.out.ok.nl, H1.out.ok.left⟩, .inr (.inr rfl)⟩⟩
end Go.Proofs.Ytjnegcambbeblaa

/- lzma2: closed, open. -/
namespace Go.Proofs.Ytjnegcambbeblaa
open Go.RowKit

theorem L2On.set {S : Type} {L : LL} {t : Sour S} {g gp ga gr : Nat} {w : World} {z z' : L2 S} {rd : RD (AhS (S × Nat))} (h : L2On L t g gp ga gr w z rd) {i : Nat} {v : Value}
    (hc : (z.cells L (.iface t.ty t.val) (.pointer (some ⟨gp, 0, none⟩))).setIfInBounds i v = z'.cells L (.iface t.ty t.val) (.pointer (some ⟨gp, 0, none⟩))) (h1 : z'.c = z.c) (hok : z'.Ok L) : L2On L t g gp ga gr (w.setCell ⟨g, i, none⟩ v) z' rd := by
  have hf : Fr (fun k => k = g) w (w.setCell ⟨g, i, none⟩ v) := (Fr.refl _ _).setOne _ _
  refine ⟨?_, by rw [h1]; exact h.on.keep hf (fun k hk e => h.ng (by have e' : k = g := e; rw [← e']; exact hk)), h.ng, hok⟩
  have e := blk_set (i := i) (v := v) h.at_
  rw [hc] at e
  exact e
theorem L2.idle_none {S : Type} {z : L2 S} (h : z.mode = none) : z.idle = z := by
  unfold L2.idle L2.src
  rw [h]
  obtain ⟨_, m, _⟩ := z
  dsimp only at h ⊢
  rw [h]
/-- whatever is on: the decoder's block. -/
theorem L2Is.cells {S : Type} {L : LL} {t : Sour S} {g : Nat} {F : Nat → Prop} {w : World} {z : L2 S} (h : L2Is L t g F w z) : ∃ pv, w.heap[g]? = some (.cells (z.cells L (.iface t.ty t.val) pv) 145) := by
  obtain ⟨_, _, h3⟩ := h
  cases hm : z.mode with
  | none => rw [hm] at h3; obtain ⟨pv, sp, rp, h, _⟩ := h3; exact ⟨pv, h.at_⟩
  | some rd => rw [hm] at h3; obtain ⟨gp, ga, gr, h, _⟩ := h3; exact ⟨_, h.at_⟩
set_option maxRecDepth 100000 in
set_option maxHeartbeats 800000 in
theorem l2closed_any {S : Type} (L : LL) (t : Sour S) (g : Nat) (F : Nat → Prop) (z : L2 S) (w : World) (h : L2Is L t g F w z) (hb : z.bad = false) (he : z.ended = false) :
    Calls Try.prog 103 #[.pointer (some ⟨g, 0, none⟩)] w fun e w' => e = .returned (.bool z.closed) ∧ w = w' := by
  obtain ⟨_, _, h3⟩ := h
  unfold L2.closed
  cases hm : z.mode with
  | none =>
    rw [hm] at h3
    obtain ⟨pv, sp, rp, h, hp⟩ := h3
    have hp : pv = .pointer none := by
      rcases hp with h | h | h
      · exact h
      · rw [he] at h; cases h
      · rw [hb] at h; cases h
    subst hp
    have c6 := h.cell 6 (v := .pointer none) rfl
    dsimp only
    clear h hm hb he
    go_enter Try.func103, Try.ntmps103
    go_wp2_with fail
    go_ret
    exact ⟨rfl, rfl⟩
  | some rd =>
    rw [hm] at h3
    obtain ⟨gp, ga, gr, h, _⟩ := h3
    have c6 := blk_cell h.at_ (j := 6) (v := .pointer (some ⟨gp, 0, none⟩)) rfl
    have c0 := blk_cell h.at_ (j := 0) (v := .pointer (some ⟨L.gd, 0, none⟩)) rfl
    have q1 := blk_cell h.on.dec.src.src.at_ (j := 1) (v := .int .i64 rd.src.s.2) rfl
    have CW := hid (lwhole_any L (lim t gp) ga gr z.c rd w h.on)
    dsimp only
    obtain ⟨wb, hwb⟩ : ∃ b, b = lwhole z.c rd := ⟨_, rfl⟩
    obtain ⟨n, hn⟩ : ∃ n, n = rd.src.s.2 := ⟨_, rfl⟩
    rw [← hwb] at CW ⊢
    rw [← hn] at q1 ⊢
    clear h hm hb he hwb hn
    go_enter Try.func103, Try.ntmps103
    go_wp2_with fail
    refine CW.out.mono ?_
    rintro e w1 ⟨rfl, rfl⟩
    cases wb with
    | true =>
      by_cases h0 : n = 0
      · subst h0
        go_wp2_with fail
        go_ret
        exact ⟨rfl, rfl⟩
      · have hnb : ((n : Int) == 0) = false := by simp; omega
        go_wp2_with fail
        go_ret
        exact ⟨by rw [decide_eq_false h0]; rfl, rfl⟩
    | false =>
      go_wp2_with fail
      go_ret
      exact ⟨rfl, rfl⟩
/-- what a chunk's beginning leaves. -/
theorem ChunkPost.is_ {S : Type} {L : LL} {t : Sour S} {g : Nat} {z : L2 S} {F : Nat → Prop} {w0 w : World} {e : Ending} {w' : World} (h : ChunkPost L t g z w e w') (hF1 : ∀ k, F k → k < w0.heap.size) (hF2 : ∀ k, L2.foot L t g k → F k) (hs : w0.heap.size = w.heap.size) : e = .returned (.tuple #[]) ∧ Fr (L2.foot L t g) w w' ∧ L2Is L t g (L2F F w0 w') w' z := by
  obtain ⟨h1, h2, h3⟩ := h
  have hsz := h2.size
  refine ⟨h1, h2, ?_, fun k hk => .inl (hF2 k hk), ?_⟩
  · rintro k (e | e)
    · have := hF1 k e; omega
    · exact e.2
  · rcases h3 with ⟨hm, pv, sp, rp, hat, hp⟩ | ⟨rd, gp, ga, gr, hm, hon, q1, q2, q3, q4, q5, q6⟩
    · rw [hm]; exact ⟨pv, sp, rp, hat, hp⟩
    · rw [hm]; exact ⟨gp, ga, gr, hon, .inr ⟨by omega, q2⟩, .inr ⟨by omega, q4⟩, .inr ⟨by omega, q6⟩⟩
theorem L2Is.mono {S : Type} {L : LL} {t : Sour S} {g : Nat} {F F' : Nat → Prop} {w : World} {z : L2 S} (h : L2Is L t g F w z) (hF : ∀ k, F k → F' k) (hF' : ∀ k, F' k → k < w.heap.size) : L2Is L t g F' w z := by
  obtain ⟨_, h2, h3⟩ := h
  refine ⟨hF', fun k hk => hF k (h2 k hk), ?_⟩
  cases hm : z.mode with
  | none => rw [hm] at h3; exact h3
  | some rd => rw [hm] at h3; obtain ⟨gp, ga, gr, h, a, b, c⟩ := h3; exact ⟨gp, ga, gr, h, hF _ a, hF _ b, hF _ c⟩
/-- the decoder is bad, or not. -/
theorem L2Is.setBad {S : Type} {L : LL} {t : Sour S} {g : Nat} {F : Nat → Prop} {w : World} {z : L2 S} (h : L2Is L t g F w z) (b : Bool) (hb : z.bad = true → b = true) : L2Is L t g F (w.setCell ⟨g, 12, none⟩ (.bool b)) { z with bad := b } := by
  obtain ⟨h1, h2, h3⟩ := h
  refine ⟨fun k hk => by simp; exact h1 k hk, h2, ?_⟩
  cases hm : z.mode with
  | none =>
    rw [hm] at h3
    obtain ⟨pv, sp, rp, h, hp⟩ := h3
    exact ⟨pv, sp, rp, h.set (z' := { z with mode := none, bad := b }) (i := 12) (v := .bool b) rfl rfl rfl ⟨h.ok.lclp, h.ok.pb, h.ok.nl, h.ok.left⟩, hp.imp id (Or.imp id (fun e => hb e))⟩
  | some rd =>
    rw [hm] at h3
    obtain ⟨gp, ga, gr, h, q⟩ := h3
    exact ⟨gp, ga, gr, h.set (z' := { z with mode := some rd, bad := b }) (i := 12) (v := .bool b) rfl rfl ⟨h.ok.lclp, h.ok.pb, h.ok.nl, h.ok.left⟩, q⟩
theorem L2Is.idle {S : Type} {L : LL} {t : Sour S} {g : Nat} {F : Nat → Prop} {w : World} {z : L2 S} (h : L2Is L t g F w z) : ∃ pv sp rp, L2At L t g pv sp rp w z.idle := by
  obtain ⟨_, _, h3⟩ := h
  cases hm : z.mode with
  | none => rw [hm] at h3; obtain ⟨pv, sp, rp, h, _⟩ := h3; rw [L2.idle_none hm]; exact ⟨pv, sp, rp, h⟩
  | some rd => rw [hm] at h3; obtain ⟨gp, ga, gr, h, _⟩ := h3; exact ⟨_, _, _, h.idle hm⟩
set_option maxRecDepth 100000 in
set_option maxHeartbeats 800000 in
theorem l2open_any {S : Type} (L : LL) (t : Sour S) (g : Nat) (F : Nat → Prop) (z : L2 S) (w : World) (h : L2Is L t g F w z) :
    Calls Try.prog 72 #[.pointer (some ⟨g, 0, none⟩)] w (L2CPost L t g F (.bool (z.open_ t.nx).1) (z.open_ t.nx).2 w) := by
  obtain ⟨R, hR⟩ : ∃ R, R = z.open_ t.nx := ⟨_, rfl⟩
  rw [← hR]
  unfold L2.open_ at hR
  obtain ⟨pv, hat⟩ := h.cells
  have c5 := blk_cell hat (j := 5) (v := .iface t.ty t.val) rfl
  have c7 := blk_cell hat (j := 7) (v := .int .i64 z.left) rfl
  have c11 := blk_cell hat (j := 11) (v := .bool z.ended) rfl
  have c12 := blk_cell hat (j := 12) (v := .bool z.bad) rfl
  have z12 := blk_frozen hat 12
  have H := hid h
  have HSAME := hid (show L2Is L t g (L2F F w w) w z from h.mono (fun _ e => .inl e) (h.new (Nat.le_refl _)))
  obtain ⟨b, hb⟩ : ∃ b, b = z.bad := ⟨_, rfl⟩
  obtain ⟨en, hen⟩ : ∃ en, en = z.ended := ⟨_, rfl⟩
  obtain ⟨l, hl⟩ : ∃ l, l = z.left := ⟨_, rfl⟩
  rw [← hb, ← hen, ← hl] at hR
  rw [← hb] at c12
  rw [← hen] at c11
  rw [← hl] at c7
  have HR := hid hR
  have HB := hid hb
  have HEN := hid hen
  clear h hR hat hb hen hl
  cases b with
  | true =>
    have HE := hid (HR.out.trans (if_pos (.inl rfl)))
    go_enter Try.func72, Try.ntmps72
    go_wp2_with fail
    go_ret
    rw [HE.out]
    exact ⟨rfl, Fr.refl _ _, HSAME.out⟩
  | false =>
    cases en with
    | true =>
      have HE := hid (HR.out.trans (if_pos (.inr rfl)))
      go_enter Try.func72, Try.ntmps72
      go_wp2_with fail
      go_ret
      rw [HE.out]
      exact ⟨rfl, Fr.refl _ _, HSAME.out⟩
    | false =>
      have HR2 := hid (HR.out.trans (if_neg (by decide)))
      by_cases hl0 : l = 0
      · subst hl0
        have HR3 := hid (HR2.out.trans (if_pos rfl))
        have CC := hid (l2closed_any L t g F z w H.out HB.out.symm HEN.out.symm)
        obtain ⟨cl, hcl⟩ : ∃ cl, cl = z.closed := ⟨_, rfl⟩
        have hR := HR3.out
        rw [← hcl] at CC hR
        have HR4 := hid hR
        clear hR hcl
        go_enter Try.func72, Try.ntmps72
        go_wp2_with fail
        refine CC.out.mono ?_
        rintro e w1 ⟨rfl, rfl⟩
        cases cl with
        | true =>
          have HE := hid (HR4.out.trans (if_pos rfl))
          obtain ⟨pv2, sp2, rp2, hid2⟩ := H.out.idle
          have hid3 : L2At L t g pv2 sp2 rp2 (w.setCell ⟨g, 12, none⟩ (.bool false)) z.idle := hid2.set (z' := z.idle) (i := 12) (v := .bool false) (by
            have hb : z.idle.bad = false := HB.out.symm
            unfold L2.cells
            rw [hb]
            rfl) rfl rfl hid2.ok
          have CH := hid (l2chunk_any L t g pv2 sp2 rp2 z.idle _ hid3 rfl (fun i hi => by simp; exact H.out.1 i (H.out.2.1 i (.inr (.inr hi)))))
          clear hid2 hid3
          go_upto_region 6 with fail
          go_wp2_with fail
          refine CH.out.mono ?_
          intro e w2 hq
          obtain ⟨rfl, hf2, his⟩ := hq.is_ (F := F) (w0 := w) H.out.1 H.out.2.1 (by simp)
          obtain ⟨pv3, hat3⟩ := his.cells
          obtain ⟨y, hy⟩ : ∃ y, y = (z.idle.byte t.nx).2.chunk1 t.nx (z.idle.byte t.nx).1 := ⟨_, rfl⟩
          rw [← hy] at his hat3
          have hy2 : y = z.chunk t.nx := hy
          have HY2 := hid hy2
          have HIS := hid his
          have HF2 := hid (show Fr F w w2 from ((Fr.refl F w).setCell (p := ⟨g, 12, none⟩) (fun _ => H.out.2.1 g (.inl rfl)) (.bool false)).trans (hf2.mono (fun k _ hk => H.out.2.1 k hk)))
          clear c5 c7 c11 c12 z12 hq hf2 his hy hy2
          have c11 := blk_cell hat3 (j := 11) (v := .bool y.ended) rfl
          have c12 := blk_cell hat3 (j := 12) (v := .bool y.bad) rfl
          obtain ⟨yb, hyb⟩ : ∃ b, b = y.bad := ⟨_, rfl⟩
          obtain ⟨ye, hye⟩ : ∃ b, b = y.ended := ⟨_, rfl⟩
          rw [← hyb] at c12
          rw [← hye] at c11
          have HYB := hid hyb
          have HYE := hid hye
          have HFIN := hid (show L2CPost L t g F (.bool (!yb && !ye)) y w (.returned (.bool (!yb && !ye))) w2 from ⟨rfl, HF2.out, HIS.out⟩)
          have HRR := hid (show R = (!yb && !ye, y) by rw [HE.out, ← HY2.out, ← HYB.out, ← HYE.out])
          clear hat3 hyb hye
          cases yb with
          | true =>
            go_wp2_with fail
            go_ret
            rw [HRR.out]
            exact HFIN.out
          | false =>
            go_wp2_with fail
            go_ret
            rw [HRR.out]
            cases ye <;> exact HFIN.out
        | false =>
          have HE := hid (HR4.out.trans (if_neg (by decide)))
          have HBAD := hid (H.out.setBad true (fun _ => rfl))
          go_wp2_with fail
          go_ret
          rw [HE.out]
          have hbad : L2Is L t g (L2F F w (w.setCell ⟨g, 12, none⟩ (.bool true))) (w.setCell ⟨g, 12, none⟩ (.bool true)) z.spoil := HBAD.out.mono (fun _ e => Or.inl e) (fun k hk => by
            rcases hk with e | e
            · simp; exact H.out.1 k e
            · exact e.2)
          exact ⟨rfl, (Fr.refl F w).setCell (p := ⟨g, 12, none⟩) (fun _ => H.out.2.1 g (.inl rfl)) _, hbad⟩
      · have HE := hid (HR2.out.trans (if_neg hl0))
        have hlb : ((l : Int) == 0) = false := by simp; omega
        go_enter Try.func72, Try.ntmps72
        go_wp2_with fail
        go_ret
        rw [HE.out]
        exact ⟨rfl, Fr.refl _ _, HSAME.out⟩
end Go.Proofs.Ytjnegcambbeblaa

/- lzma2: Next. -/
namespace Go.Proofs.Ytjnegcambbeblaa
open Go.RowKit

structure L2.Good {S : Type} (L : LL) (z : L2 S) : Prop where
  idle : z.mode = none → z.c.left = 0
  fit : z.c.Fit L
theorem left0_fit {L : LL} {c : LS} (h : c.left = 0) : c.Fit L := fun e => absurd h e
theorem L2.st0_c {S : Type} (how : Int) (z : L2 S) : (z.st0 how).c.left = z.c.left ∧ (z.st0 how).c.place ≤ z.c.place := by
  unfold L2.st0
  split
  · exact ⟨rfl, Nat.zero_le _⟩
  · exact ⟨rfl, Nat.le_refl _⟩
theorem L2.setting_c {S : Type} (nx : S → Int × Bool × S) (z : L2 S) : (z.setting nx).c = z.c := by
  unfold L2.setting
  split <;> rfl
theorem L2.st2_c {S : Type} (nx : S → Int × Bool × S) (how : Int) (z : L2 S) : (z.st2 nx how).c = z.c := by
  unfold L2.st2
  split
  · exact L2.setting_c nx z
  · rfl
theorem L2.st3_c {S : Type} (how : Int) (z : L2 S) : (z.st3 how).c = z.c := by
  unfold L2.st3
  split <;> rfl
/-- a chunk's beginning: the core has nothing left to copy, and where it is. -/
theorem L2.chunk1_c {S : Type} (nx : S → Int × Bool × S) (k : Int) (z : L2 S) : (z.chunk1 nx k).c.left = z.c.left ∧ (z.chunk1 nx k).c.place ≤ z.c.place := by
  unfold L2.chunk1
  split
  · exact ⟨rfl, Nat.le_refl _⟩
  · split
    · exact ⟨rfl, Nat.le_refl _⟩
    · split
      · unfold L2.plain
        dsimp only
        show (if k = 1 then z.empty else z).c.left = _ ∧ (if k = 1 then z.empty else z).c.place ≤ _
        split
        · exact ⟨rfl, Nat.zero_le _⟩
        · exact ⟨rfl, Nat.le_refl _⟩
      · split
        · unfold L2.pack L2.packEnd
          have h0 := L2.st0_c (k / 32 - 4) z
          have e : ∀ y : L2 S, (L2.judge (L2.st3 (k / 32 - 4) (L2.st2 nx (k / 32 - 4) y))).c = y.c := fun y => by
            show (L2.st3 (k / 32 - 4) (L2.st2 nx (k / 32 - 4) y)).c = _
            rw [L2.st3_c, L2.st2_c]
          split
          · rw [e]; exact h0
          · unfold L2.pack1
            dsimp only
            rw [e]
            split
            · exact h0
            · exact h0
        · exact ⟨rfl, Nat.le_refl _⟩
theorem L2.closed_left {S : Type} {L : LL} {z : L2 S} (hg : z.Good L) (h : z.closed = true) : z.c.left = 0 := by
  unfold L2.closed at h
  cases hm : z.mode with
  | none => exact hg.idle hm
  | some rd =>
    rw [hm] at h
    dsimp only at h
    unfold lwhole at h
    simp at h
    exact h.1.1.2
theorem L2.chunk_c {S : Type} (nx : S → Int × Bool × S) {z : L2 S} : (z.chunk nx).c.left = z.c.left ∧ (z.chunk nx).c.place ≤ z.c.place := L2.chunk1_c nx _ _
theorem L2.open_c {S : Type} (nx : S → Int × Bool × S) (z : L2 S) : (z.open_ nx).2.c.place ≤ z.c.place := by
  unfold L2.open_
  split
  · exact Nat.le_refl _
  · split
    · split
      · exact L2.chunk_c nx |>.2
      · exact Nat.le_refl _
    · exact Nat.le_refl _
theorem L2.open_good {S : Type} (nx : S → Int × Bool × S) {L : LL} {z : L2 S} (h : z.Good L) : (z.open_ nx).2.Good L := by
  unfold L2.open_
  split
  · exact h
  · split
    · split
      · rename_i hc
        have h1 := (L2.chunk_c nx (z := z)).1.trans (L2.closed_left h hc)
        exact ⟨fun _ => h1, left0_fit h1⟩
      · exact ⟨h.idle, h.fit⟩
    · exact h
theorem L2.pair_pos {S : Type} (t : Sour S) (z : L2 S) : 1 ≤ (z.pair t.nx).1 := (L2.pair_by t z).1
theorem L2.chunk1_left {S : Type} (t : Sour S) (k : Int) (z : L2 S) (hb : (z.chunk1 t.nx k).bad = false) (he : (z.chunk1 t.nx k).ended = false) : 1 ≤ (z.chunk1 t.nx k).left := by
  unfold L2.chunk1 at hb he ⊢
  split
  · rename_i h; rw [if_pos h] at hb; rw [h] at hb; cases hb
  · rename_i h
    rw [if_neg h] at hb he
    split
    · rename_i h1; rw [if_pos h1] at he; cases he
    · rename_i h1
      rw [if_neg h1] at hb he
      split
      · unfold L2.plain
        exact L2.pair_pos t _
      · rename_i h2
        rw [if_neg h2] at hb he
        split
        · rename_i h3
          rw [if_pos h3] at hb
          unfold L2.pack L2.packEnd at hb ⊢
          split
          · rename_i h4; rw [if_pos h4] at hb; rw [h4] at hb; cases hb
          · have := L2.pair_pos t (z.st0 (k / 32 - 4))
            show 1 ≤ ((k % 32) * 65536 + (((z.st0 (k / 32 - 4)).pair t.nx).1 : Int)).toNat
            omega
        · rename_i h3; rw [if_neg h3] at hb; cases hb
theorem L2.open_left {S : Type} (t : Sour S) (z : L2 S) (h : (z.open_ t.nx).1 = true) : 1 ≤ (z.open_ t.nx).2.left ∧ (z.open_ t.nx).2.bad = false ∧ (z.open_ t.nx).2.ended = false := by
  unfold L2.open_ at h ⊢
  split
  · rename_i h0; rw [if_pos h0] at h; cases h
  · rename_i h0
    rw [if_neg h0] at h
    split
    · rename_i h1
      rw [if_pos h1] at h
      split
      · rename_i h2
        rw [if_pos h2] at h
        dsimp only at h ⊢
        simp at h
        exact ⟨L2.chunk1_left t _ _ h.1 h.2, h.1, h.2⟩
      · rename_i h2; rw [if_neg h2] at h; cases h
    · rename_i h1
      refine ⟨by show 1 ≤ z.left; omega, ?_, ?_⟩
      · show z.bad = false
        cases hq : z.bad
        · rfl
        · exact absurd (.inl hq) h0
      · show z.ended = false
        cases hq : z.ended
        · rfl
        · exact absurd (.inr hq) h0
def L2NPost {S : Type} (L : LL) (t : Sour S) (g : Nat) (F : Nat → Prop) (R : (Int × Bool) × L2 S) (w : World) (e : Ending) (w' : World) : Prop :=
  L2CPost L t g F (.tuple #[.int .u8 R.1.1, .bool R.1.2]) R.2 w e w'
/-- the number of bytes that are left. -/
theorem L2Is.setLeft {S : Type} {L : LL} {t : Sour S} {g : Nat} {F : Nat → Prop} {w : World} {z : L2 S} (h : L2Is L t g F w z) (n : Nat) (hn : n ≤ 2097152) : L2Is L t g F (w.setCell ⟨g, 7, none⟩ (.int .i64 n)) { z with left := n } := by
  obtain ⟨h1, h2, h3⟩ := h
  refine ⟨fun k hk => by simp; exact h1 k hk, h2, ?_⟩
  cases hm : z.mode with
  | none =>
    rw [hm] at h3
    obtain ⟨pv, sp, rp, h, hp⟩ := h3
    exact ⟨pv, sp, rp, h.set (z' := { z with mode := none, left := n }) (i := 7) (v := .int .i64 n) rfl rfl rfl ⟨h.ok.lclp, h.ok.pb, h.ok.nl, hn⟩, hp⟩
  | some rd =>
    rw [hm] at h3
    obtain ⟨gp, ga, gr, h, q⟩ := h3
    exact ⟨gp, ga, gr, h.set (z' := { z with mode := some rd, left := n }) (i := 7) (v := .int .i64 n) rfl rfl ⟨h.ok.lclp, h.ok.pb, h.ok.nl, hn⟩, q⟩
theorem L2F.trans {F : Nat → Prop} {w w1 w2 : World} (h1 : w.heap.size ≤ w1.heap.size) (h2 : w1.heap.size ≤ w2.heap.size) : ∀ k, L2F (L2F F w w1) w1 w2 k → L2F F w w2 k := by
  rintro k ((e | e) | e)
  · exact .inl e
  · exact .inr ⟨e.1, by omega⟩
  · exact .inr ⟨by omega, e.2⟩
theorem L2Is.okleft {S : Type} {L : LL} {t : Sour S} {g : Nat} {F : Nat → Prop} {w : World} {z : L2 S} (h : L2Is L t g F w z) : z.Ok L := by
  obtain ⟨_, _, h3⟩ := h
  cases hm : z.mode with
  | none => rw [hm] at h3; obtain ⟨pv, sp, rp, h, _⟩ := h3; exact h.ok
  | some rd => rw [hm] at h3; obtain ⟨gp, ga, gr, h, _⟩ := h3; exact h.ok
end Go.Proofs.Ytjnegcambbeblaa

/- lzma2: Next's walk. -/
namespace Go.Proofs.Ytjnegcambbeblaa
open Go.RowKit

theorem L2Is.none_ {S : Type} {L : LL} {t : Sour S} {g : Nat} {F : Nat → Prop} {w : World} {z : L2 S} {pv sp rp : Value} (h1 : ∀ k, F k → k < w.heap.size) (h2 : ∀ k, L2.foot L t g k → F k) (hm : z.mode = none) (h : L2At L t g pv sp rp w z) (hp : pv = .pointer none ∨ z.ended = true ∨ z.bad = true) : L2Is L t g F w z :=
  ⟨h1, h2, by rw [hm]; exact ⟨pv, sp, rp, h, hp⟩⟩
set_option maxRecDepth 100000 in
set_option maxHeartbeats 800000 in
theorem l2next_any {S : Type} (L : LL) (t : Sour S) (g : Nat) (F : Nat → Prop) (z : L2 S) (w : World) (h : L2Is L t g F w z) (hg : z.Good L) (hp : z.c.place ≤ 1000000) :
    Calls Try.prog 41 #[.pointer (some ⟨g, 0, none⟩)] w (L2NPost L t g F (z.next t.nx L) w) := by
  obtain ⟨R, hR⟩ : ∃ R, R = z.next t.nx L := ⟨_, rfl⟩
  rw [← hR]
  unfold L2.next at hR
  have CO := hid (l2open_any L t g F z w h)
  have GO := hid (L2.open_good t.nx hg)
  have PO := hid (Nat.le_trans (L2.open_c t.nx z) hp)
  have LO := hid (L2.open_left t z)
  have HF1 := hid h.1
  have HF2 := hid h.2.1
  generalize z.open_ t.nx = o at CO GO PO LO hR
  obtain ⟨ob, y⟩ := o
  dsimp only at CO GO PO LO hR
  have HR := hid hR
  clear h hR hg hp
  go_enter Try.func41, Try.ntmps41
  go_wp2_with fail
  refine CO.out.mono ?_
  rintro e w1 ⟨rfl, hf1, h1⟩
  have HFR1 := hid hf1
  have H1 := hid h1
  have hs1 := hf1.size
  clear hf1 h1
  cases ob with
  | false =>
    have HE := hid (HR.out.trans (if_neg (by decide)))
    go_wp2_with fail
    go_ret2
    rw [HE.out]
    exact ⟨rfl, HFR1.out, H1.out⟩
  | true =>
    have HE := hid (HR.out.trans (if_pos rfl))
    obtain ⟨hl1, hb1, he1⟩ := LO.out rfl
    obtain ⟨l, hl⟩ : ∃ l, l = y.left - 1 := ⟨_, rfl⟩
    have hyl : (y.left : Int) - 1 = (l : Int) := by omega
    have hl2 : l ≤ 2097152 := by have := H1.out.okleft.left; omega
    have hy2 : (y.left : Int) ≤ 2097152 := by have := H1.out.okleft.left; omega
    have hy1 : (1 : Int) ≤ (y.left : Int) := by omega
    obtain ⟨pv, hat⟩ := H1.out.cells
    have c7 := blk_cell hat (j := 7) (v := .int .i64 y.left) rfl
    have z7 := blk_frozen hat 7
    have H2 := hid (H1.out.setLeft l hl2)
    have HFR2 := hid (HFR1.out.trans ((Fr.refl F w1).setCell (p := ⟨g, 7, none⟩) (fun _ => HF2.out g (.inl rfl)) (.int .i64 (l : Int))))
    obtain ⟨w2, hw2⟩ : ∃ w2, w2 = w1.setCell ⟨g, 7, none⟩ (.int .i64 (l : Int)) := ⟨_, rfl⟩
    have hs2 : w2.heap.size = w1.heap.size := by rw [hw2]; simp
    obtain ⟨x, hx⟩ : ∃ x : L2 S, x = { y with left := y.left - 1 } := ⟨_, rfl⟩
    rw [← hl] at hx
    have hE := HE.out
    rw [← hl, ← hx] at hE
    rw [← hx] at H2
    have HX := hid hx
    have HEX := hid hE
    have HXG := hid (show x.Good L by rw [hx]; exact ⟨GO.out.idle, GO.out.fit⟩)
    have HXP := hid (show x.c.place ≤ 1000000 by rw [hx]; exact PO.out)
    have HXB := hid (show x.bad = false by rw [hx]; exact hb1)
    have HXE := hid (show x.ended = false by rw [hx]; exact he1)
    clear hat hE hx hl1 hb1 he1 hl
    go_upto_region 4 with fail
    rw [← hw2]
    rw [← hw2] at H2 HFR2
    clear hyl hw2 c7 z7 hy1 hy2 hl2
    obtain ⟨k1, k2, k3⟩ := H2.out
    unfold L2.take at HEX
    cases hm : x.mode with
    | none =>
      rw [hm] at k3
      obtain ⟨pv2, sp, rp, hat2, hpv⟩ := k3
      have hpv : pv2 = .pointer none := by
        rcases hpv with h | h | h
        · exact h
        · rw [HXE.out] at h; cases h
        · rw [HXB.out] at h; cases h
      subst hpv
      have c6 := hat2.cell 6 (v := .pointer none) rfl
      have hE2 := HEX.out
      rw [hm] at hE2
      dsimp only at hE2
      have hbb := L2.byte_by t x
      have C1 := hid (l2byte_any L t g _ sp rp x w2 hat2)
      have hidle := HXG.out.idle hm
      obtain ⟨a, ha⟩ : ∃ a, a = x.byte t.nx := ⟨_, rfl⟩
      rw [← ha] at C1 hbb hE2
      have HAM := hid (show a.2.mode = none ∧ a.2.c = x.c by rw [ha]; exact ⟨hm, rfl⟩)
      obtain ⟨b, u⟩ := a
      dsimp only at C1 hbb HAM hE2
      obtain ⟨b0, b1⟩ := hbb
      have hw8 : IntKind.u8.wrap b = b := by rw [IntKind.wrap_u8]; omega
      have HE2 := hid hE2
      have HIDLE := hid hidle
      clear k1 k2 hat2 ha hE2 hidle hm
      go_wp2_with fail
      refine C1.out.mono ?_
      rintro e w3 ⟨rfl, hf3, h3⟩
      have c12 := h3.cell 12 (v := .bool u.bad) rfl
      have c0 := h3.cell 0 (v := .pointer (some ⟨L.gd, 0, none⟩)) rfl
      obtain ⟨ub, hub⟩ : ∃ ub, ub = u.bad := ⟨_, rfl⟩
      rw [← hub] at c12
      have HUB := hid hub
      have HFR3 := hid (HFR2.out.trans (hf3.mono (fun k _ e => HF2.out k e)))
      have H3 := hid h3
      have hs3 := hf3.size
      clear hf3 h3 hub c6
      cases ub with
      | true =>
        have HE3 := hid (HE2.out.trans (if_pos HUB.out.symm))
        go_wp2_with fail
        go_ret2
        rw [HE3.out]
        refine ⟨rfl, HFR3.out, ?_, fun k hk => .inl (HF2.out k hk), ?_⟩
        · rintro k (e | e)
          · have := HF1.out k e; omega
          · exact e.2
        · show match u.mode with | none => _ | some rd => _
          rw [HAM.out.1]
          exact ⟨_, _, _, H3.out, .inl rfl⟩
      | false =>
        have HE3 := hid (HE2.out.trans (if_neg (by rw [← HUB.out]; decide)))
        go_wp2_with fail
        refine (lput_any L sp rp u.c b w3 H3.out.core ⟨b0, b1⟩ (by rw [HAM.out.2]; exact HXP.out)).mono ?_
        rintro e w4 ⟨rfl, hf4, hc4⟩
        have h4 := H3.out.coreTo hf4 hc4
        have HFR4 := hid (HFR3.out.trans (hf4.mono (fun k _ e => HF2.out k (.inr (.inl e)))))
        have hs4 := hf4.size
        have H4 := hid h4
        clear hf4 hc4 h4
        go_wp2_with fail
        go_ret2
        rw [HE3.out]
        refine ⟨rfl, HFR4.out, L2Is.none_ (pv := .pointer none) (sp := sp) (rp := rp) ?_ (fun k hk => .inl (HF2.out k hk)) HAM.out.1 ?_ (.inl rfl)⟩
        · rintro k (e | e)
          · have := HF1.out k e; omega
          · exact e.2
        · rw [← HAM.out.2]
          exact H4.out
    | some rd =>
      rw [hm] at k3
      obtain ⟨gp, ga, gr, hon, fp, fa, fr⟩ := k3
      have c6 := blk_cell hon.at_ (j := 6) (v := .pointer (some ⟨gp, 0, none⟩)) rfl
      have c0 := blk_cell hon.at_ (j := 0) (v := .pointer (some ⟨L.gd, 0, none⟩)) rfl
      have hE2 := HEX.out
      rw [hm] at hE2
      dsimp only at hE2
      have C1 := hid (lnext_any L (lim t gp) ga gr x.c rd w2 hon.on HXP.out HXG.out.fit)
      rw [show (ahead (lim t gp) ga).nx = anx (lnx t.nx) from rfl] at C1
      obtain ⟨q, hq⟩ : ∃ q, q = lnext (anx (lnx t.nx)) L x.c rd := ⟨_, rfl⟩
      rw [← hq] at C1 hE2
      obtain ⟨⟨b, ok⟩, c', rd'⟩ := q
      dsimp only at hE2
      have HE2 := hid hE2
      have HON := hid hon
      have HFP := hid (And.intro fp (And.intro fa fr))
      have HK1 := hid k1
      have HOK9 := hid hon.ok
      clear k1 k2 hon hq hE2 hm fp fa fr
      go_wp2_with fail
      refine C1.out.mono ?_
      rintro e w3 ⟨rfl, hf3, h3⟩
      dsimp only at hf3 h3
      have hat3 := hf3.blk HON.out.at_ HON.out.ng
      have c12 := blk_cell hat3 (j := 12) (v := .bool x.bad) rfl
      have z12 := blk_frozen hat3 12
      have hFT : ∀ k, LFt L (lim t gp) ga gr k → L2F F w w1 k := by
        rintro k (e | e | e | e | e)
        · exact .inl (HF2.out k (.inr (.inl e)))
        · rw [show k = gr from e]; exact HFP.out.2.2
        · rw [show k = ga from e]; exact HFP.out.2.1
        · rw [show k = gp from e]; exact HFP.out.1
        · exact .inl (HF2.out k (.inr (.inr e)))
      have HFR3 := hid (HFR2.out.then hf3 (fun k hk e => by
        rcases hFT k e with e | e
        · exact e
        · omega))
      have HAT3 := hid hat3
      have H3 := hid h3
      have hs3 := hf3.size
      clear hf3 h3 hat3 hFT c6
      go_wp2_with fail
      go_ret2
      rw [HE2.out]
      have hfs : Fr (fun k => k = g) w3 (w3.setCell ⟨g, 12, none⟩ (.bool (!ok))) := (Fr.refl _ _).setOne _ _
      refine ⟨rfl, HFR3.out.setCell (p := ⟨g, 12, none⟩) (fun _ => HF2.out g (.inl rfl)) _, ?_, fun k hk => .inl (HF2.out k hk), gp, ga, gr, ⟨blk_set (i := 12) HAT3.out, H3.out.keep hfs (fun k hk e => HON.out.ng (by rw [← (show k = g from e)]; exact hk)), HON.out.ng, ⟨HOK9.out.lclp, HOK9.out.pb, HOK9.out.nl, HOK9.out.left⟩⟩, ?_, ?_, ?_⟩
      · rintro k (e | e)
        · have := HF1.out k e; simp; omega
        · exact e.2
      · rcases HFP.out.1 with e | e
        · exact .inl e
        · exact .inr ⟨e.1, by simp; omega⟩
      · rcases HFP.out.2.1 with e | e
        · exact .inl e
        · exact .inr ⟨e.1, by simp; omega⟩
      · rcases HFP.out.2.2 with e | e
        · exact .inl e
        · exact .inr ⟨e.1, by simp; omega⟩
end Go.Proofs.Ytjnegcambbeblaa

/- lzma2: Finish, Begin, New, Close. -/
namespace Go.Proofs.Ytjnegcambbeblaa
open Go.RowKit

theorem L2.setting_en {S : Type} (nx : S → Int × Bool × S) (z : L2 S) : (z.setting nx).ended = z.ended ∧ (z.setting nx).mode = z.mode := by
  unfold L2.setting
  split <;> exact ⟨rfl, rfl⟩
theorem L2.st2_en {S : Type} (nx : S → Int × Bool × S) (how : Int) (z : L2 S) : (z.st2 nx how).ended = z.ended ∧ (z.st2 nx how).mode = z.mode := by
  unfold L2.st2
  split
  · exact L2.setting_en nx z
  · exact ⟨rfl, rfl⟩
theorem L2.st3_en {S : Type} (how : Int) (z : L2 S) : (z.st3 how).ended = z.ended ∧ (z.st3 how).mode = z.mode := by
  unfold L2.st3
  split <;> exact ⟨rfl, rfl⟩
theorem L2.st0_en {S : Type} (how : Int) (z : L2 S) : (z.st0 how).ended = z.ended ∧ (z.st0 how).mode = z.mode := by
  unfold L2.st0
  split <;> exact ⟨rfl, rfl⟩
theorem L2.chunk1_en {S : Type} (nx : S → Int × Bool × S) (k : Int) (z : L2 S) (hm : z.mode = none) (he : z.ended = false) (h : (z.chunk1 nx k).ended = true) : (z.chunk1 nx k).mode = none := by
  unfold L2.chunk1 at h ⊢
  split
  · exact hm
  · rename_i h0
    rw [if_neg h0] at h
    split
    · exact hm
    · rename_i h1
      rw [if_neg h1] at h
      split
      · exact L2.plain_mode nx k hm
      · rename_i h2
        rw [if_neg h2] at h
        split
        · rename_i h3
          rw [if_pos h3] at h
          have e : ∀ y : L2 S, (L2.judge (L2.st3 (k / 32 - 4) (L2.st2 nx (k / 32 - 4) y))).ended = y.ended ∧ (L2.judge (L2.st3 (k / 32 - 4) (L2.st2 nx (k / 32 - 4) y))).mode = y.mode := fun y => by
            show (L2.st3 (k / 32 - 4) (L2.st2 nx (k / 32 - 4) y)).ended = _ ∧ (L2.st3 (k / 32 - 4) (L2.st2 nx (k / 32 - 4) y)).mode = _
            rw [(L2.st3_en _ _).1, (L2.st3_en _ _).2]
            exact L2.st2_en nx _ y
          unfold L2.pack L2.packEnd at h ⊢
          split
          · rw [(e _).2]
            exact (L2.st0_en _ z).2.trans hm
          · rename_i h4
            rw [if_neg h4] at h
            have h5 : (L2.judge (L2.st3 (k / 32 - 4) (L2.st2 nx (k / 32 - 4) (((z.st0 (k / 32 - 4)).pair nx).2.pair nx).2))).ended = true := h
            rw [(e _).1] at h5
            have h6 : (z.st0 (k / 32 - 4)).ended = true := h5
            rw [(L2.st0_en _ z).1, he] at h6
            cases h6
        · exact hm
theorem L2.open_en {S : Type} (nx : S → Int × Bool × S) {z : L2 S} (hg : z.ended = true → z.mode = none) : (z.open_ nx).2.ended = true → (z.open_ nx).2.mode = none := by
  unfold L2.open_
  split
  · exact hg
  · rename_i h0
    split
    · split
      · intro h
        refine L2.chunk1_en nx _ _ rfl ?_ h
        show z.ended = false
        cases hq : z.ended
        · rfl
        · exact absurd (.inr hq) h0
      · exact hg
    · exact hg
theorem L2.open_taken {S : Type} (nx : S → Int × Bool × S) (z : L2 S) : (z.open_ nx).2.c.taken = z.c.taken := by
  have hc : ∀ (k : Int) (y : L2 S), (y.chunk1 nx k).c.taken = y.c.taken := by
    intro k y
    unfold L2.chunk1
    split
    · rfl
    · split
      · rfl
      · split
        · unfold L2.plain
          dsimp only
          show (if k = 1 then y.empty else y).c.taken = _
          split <;> rfl
        · split
          · have h0 : (y.st0 (k / 32 - 4)).c.taken = y.c.taken := by unfold L2.st0; split <;> rfl
            have e : ∀ y : L2 S, (L2.judge (L2.st3 (k / 32 - 4) (L2.st2 nx (k / 32 - 4) y))).c = y.c := fun y => by
              show (L2.st3 (k / 32 - 4) (L2.st2 nx (k / 32 - 4) y)).c = _
              rw [L2.st3_c, L2.st2_c]
            unfold L2.pack L2.packEnd
            split
            · rw [e]; exact h0
            · unfold L2.pack1
              dsimp only
              rw [e]
              split
              · exact h0
              · exact h0
          · rfl
  unfold L2.open_
  split
  · rfl
  · split
    · split
      · exact hc _ _
      · rfl
    · rfl
/-- the core of a decoder, whatever is on. -/
theorem L2Is.core {S : Type} {L : LL} {t : Sour S} {g : Nat} {F : Nat → Prop} {w : World} {z : L2 S} (h : L2Is L t g F w z) : ∃ sp rp, LIs L sp rp w z.c := by
  obtain ⟨_, _, h3⟩ := h
  cases hm : z.mode with
  | none => rw [hm] at h3; obtain ⟨pv, sp, rp, h, _⟩ := h3; exact ⟨sp, rp, h.core⟩
  | some rd => rw [hm] at h3; obtain ⟨gp, ga, gr, h, _⟩ := h3; exact ⟨_, _, h.on.is_⟩
def L2FinPost {S : Type} (L : LL) (t : Sour S) (g : Nat) (F : Nat → Prop) (b : Bool) (T : Nat) (w : World) (e : Ending) (w' : World) : Prop :=
  e = .returned (.bool b) ∧ Fr F w w' ∧ ∃ z' : L2 S, L2Is L t g (L2F F w w') w' z' ∧ z'.c.taken = T ∧ z'.bad = true
set_option maxRecDepth 100000 in
set_option maxHeartbeats 800000 in
theorem l2finish_any {S : Type} (L : LL) (t : Sour S) (g : Nat) (F : Nat → Prop) (z : L2 S) (w : World) (h : L2Is L t g F w z) (hen : z.ended = true → z.mode = none) :
    Calls Try.prog 43 #[.pointer (some ⟨g, 0, none⟩)] w (L2FinPost L t g F (z.finish t.nx) z.c.taken w) := by
  obtain ⟨R, hR⟩ : ∃ R, R = z.finish t.nx := ⟨_, rfl⟩
  rw [← hR]
  unfold L2.finish at hR
  have CO := hid (l2open_any L t g F z w h)
  have EO := hid (L2.open_en t.nx hen)
  have TO := hid (L2.open_taken t.nx z)
  have HF1 := hid h.1
  have HF2 := hid h.2.1
  obtain ⟨pv, hat⟩ := h.cells
  have c7 := blk_cell hat (j := 7) (v := .int .i64 z.left) rfl
  have c12 := blk_cell hat (j := 12) (v := .bool z.bad) rfl
  have z12 := blk_frozen hat 12
  obtain ⟨l, hl⟩ : ∃ l, l = z.left := ⟨_, rfl⟩
  rw [← hl] at c7 hR
  generalize z.open_ t.nx = o at CO EO TO hR
  obtain ⟨ob, y⟩ := o
  dsimp only at CO EO TO hR
  have HR := hid hR
  have H := hid h
  clear h hR hat hl hen
  have hfin : ∀ (F' : Nat → Prop) (wx : World) (y : L2 S), Fr F w wx → (∀ k, F' k → L2F F w wx k) → L2Is L t g F' wx y → y.c.taken = z.c.taken → L2FinPost L t g F R z.c.taken w (.returned (.bool R)) (wx.setCell ⟨g, 12, none⟩ (.bool true)) := by
    intro F' wx y hfr hsub his ht
    have h1 := his.setBad true (fun _ => rfl)
    refine ⟨rfl, hfr.setCell (p := ⟨g, 12, none⟩) (fun _ => HF2.out g (.inl rfl)) _, _, h1.mono (fun k hk => ?_) ?_, ht, rfl⟩
    · rcases hsub k hk with e | e
      · exact .inl e
      · exact .inr ⟨e.1, by simp; exact e.2⟩
    · rintro k (e | e)
      · have := HF1.out k e; have := hfr.size; simp; omega
      · exact e.2
  have HFIN := hid hfin
  clear hfin
  go_enter Try.func43, Try.ntmps43
  by_cases hl0 : l = 0
  · subst hl0
    have HR2 := hid (HR.out.trans (if_pos rfl))
    go_wp2_with fail
    refine CO.out.mono ?_
    rintro e w1 ⟨rfl, hf1, h1⟩
    obtain ⟨pv1, hat1⟩ := h1.cells
    clear c7 c12 z12
    have c11 := blk_cell hat1 (j := 11) (v := .bool y.ended) rfl
    have c12 := blk_cell hat1 (j := 12) (v := .bool y.bad) rfl
    have z12 := blk_frozen hat1 12
    obtain ⟨ye, hye⟩ : ∃ b, b = y.ended := ⟨_, rfl⟩
    obtain ⟨yb, hyb⟩ : ∃ b, b = y.bad := ⟨_, rfl⟩
    have hR := HR2.out
    rw [← hye, ← hyb] at hR
    rw [← hye] at c11
    rw [← hyb] at c12
    have HFR1 := hid hf1
    have H1 := hid h1
    have HYE := hid hye
    have HYB := hid hyb
    have HR3 := hid hR
    have c5 := blk_cell hat1 (j := 5) (v := .iface t.ty t.val) rfl
    have hs1 := hf1.size
    clear hf1 h1 hat1 hye hyb hR
    cases ob with
    | true =>
      have HE := hid (show R = false from HR3.out)
      go_wp2_with fail
      go_ret
      have := HFIN.out _ w1 y HFR1.out (fun _ e => e) H1.out TO.out
      rw [HE.out] at this ⊢
      exact this
    | false =>
      cases ye with
      | false =>
        have HE := hid (show R = false from HR3.out)
        go_wp2_with fail
        go_ret
        have := HFIN.out _ w1 y HFR1.out (fun _ e => e) H1.out TO.out
        rw [HE.out] at this ⊢
        exact this
      | true =>
        cases yb with
        | true =>
          have HE := hid (show R = false from HR3.out)
          go_wp2_with fail
          go_ret
          have := HFIN.out _ w1 y HFR1.out (fun _ e => e) H1.out TO.out
          rw [HE.out] at this ⊢
          exact this
        | false =>
          have hym := EO.out HYE.out.symm
          obtain ⟨k1, k2, k3⟩ := H1.out
          rw [hym] at k3
          obtain ⟨pv2, sp, rp, hat2, hpv⟩ := k3
          have hsrc : y.src = y.s := by unfold L2.src; rw [hym]
          obtain ⟨mo, hmo⟩ : ∃ m, m = (t.nx y.s).2.1 := ⟨_, rfl⟩
          have HE := hid (show R = !mo by rw [HR3.out, hsrc, hmo]; rfl)
          have CS := hid (t.call w1 y.s hat2.src)
          rw [← hmo] at CS
          have HAT2 := hid hat2
          have HYM := hid hym
          have HPV := hid hpv
          have HK1 := hid k1
          clear k1 k2 hat2 hsrc hmo hym hpv
          go_wp2_with (refine opInvoke rfl (.tmp 34) _ rfl t.ty t.val rfl t.fid t.val t.meth t.enter (fun K hK => ?_))
          refine CS.out.mono ?_
          rintro e w2 ⟨rfl, hf2, hi2⟩
          have h2 := HAT2.out.srcTo hf2 hi2
          have hs2 := hf2.size
          clear c12 z12
          have c12 := h2.cell 12 (v := .bool y.bad) rfl
          have z12 := blk_frozen h2.at_ 12
          have HFR2 := hid (HFR1.out.trans (hf2.mono (fun k _ e => HF2.out k (.inr (.inr e)))))
          have H2 := hid h2
          clear hf2 hi2 h2
          go_wp2_with fail
          go_ret
          have hz : L2Is L t g (L2F F w w2) w2 { y with s := (t.nx y.s).2.2 } := L2Is.none_ (by
            rintro k (e | e)
            · have := HF1.out k e; omega
            · exact e.2) (fun k hk => .inl (HF2.out k hk)) HYM.out H2.out (by rcases HPV.out with h | h | h; exact .inl h; exact .inr (.inl h); exact .inr (.inr h))
          have := HFIN.out _ w2 _ HFR2.out (fun _ e => e) hz TO.out
          rw [HE.out] at this ⊢
          exact this
  · have HE := hid (HR.out.trans (if_neg hl0))
    have hlb : ((l : Int) == 0) = false := by simp; omega
    go_wp2_with fail
    go_ret
    have := HFIN.out F w z (Fr.refl _ _) (fun _ e => .inl e) H.out rfl
    rw [HE.out] at this ⊢
    exact this
end Go.Proofs.Ytjnegcambbeblaa

/- lzma2: Dict, New, Begin, Close. -/
namespace Go.Proofs.Ytjnegcambbeblaa
open Go.RowKit

def dict2 (p : Nat) : Nat := if p = 40 then 4294967295 else (2 + p % 2) * 2 ^ (p / 2 + 11)
theorem dict2_or : ∀ p : Nat, p < 40 → bits BinOp.or IntKind.u8 2 (bits BinOp.and IntKind.u8 (p : Int) 1) = ((2 + p % 2 : Nat) : Int) := by decide
theorem dict2_le : ∀ p : Nat, p < 41 → 4096 ≤ dict2 p ∧ dict2 p ≤ 4294967295 := by decide
set_option maxRecDepth 100000 in
set_option maxHeartbeats 800000 in
theorem dict2_any (p : Nat) (hp : p ≤ 40) (w : World) : Calls Try.prog 45 #[.int .u8 p] w fun e w' => e = .returned (.tuple #[.int .i64 (dict2 p : Nat), .int .i64 0]) ∧ w = w' := by
  by_cases h40 : p = 40
  · subst h40
    go_enter Try.func45, Try.ntmps45
    go_wp2_with fail
    go_ret2
    exact ⟨rfl, rfl⟩
  · have hor := dict2_or p (by omega)
    have hd := dict2_le p (by omega)
    have hde : dict2 p = (2 + p % 2) * 2 ^ (p / 2 + 11) := if_neg h40
    have h1 : ¬ (40 : Int) < (p : Int) := by omega
    have h2 : ((p : Int) == 40) = false := by simp; omega
    have h3 : IntKind.u8.wrap ((p : Int) / 2 + 11) = ((p / 2 + 11 : Nat) : Int) := by rw [IntKind.wrap_u8]; omega
    have h4 : IntKind.i64.wrap (((2 + p % 2 : Nat) : Int)) = ((2 + p % 2 : Nat) : Int) := by rw [IntKind.wrap_i64]; omega
    have HDE := hid hde
    have HD := hid hd
    clear hde hd h40
    go_enter Try.func45, Try.ntmps45
    go_wp2_with fail
    go_ret2
    have e : wrap64 ((2 + (p : Int) % 2) * 2 ^ (p / 2 + 11)) = ((dict2 p : Nat) : Int) := by
      rw [show (2 + (p : Int) % 2) * 2 ^ (p / 2 + 11) = ((dict2 p : Nat) : Int) by rw [HDE.out]; push_cast; rfl]
      exact w64_nat _ (by have := HD.out.2; omega)
    rw [← e]
    exact ⟨rfl, rfl⟩
/-- the setting by which a decoder begins. -/
def set2 (p : Nat) : Lset := ⟨4, 0, 0, dict2 p⟩
theorem set2_light {p : Nat} (hp : p ≤ 40) : (set2 p).Light := by
  have h := dict2_le p (by omega)
  exact ⟨⟨by show (0 : Int) ≤ 4; decide, by show (4 : Int) ≤ 8; decide, by show (0 : Int) ≤ 0; decide, by show (0 : Int) ≤ 4; decide, by show (0 : Int) ≤ 0; decide, by show (0 : Int) ≤ 4; decide, by show (4096 : Int) ≤ (dict2 p : Nat); omega, by show ((dict2 p : Nat) : Int) ≤ 4294967295; omega⟩, by show (4 : Int) + 0 ≤ 6; decide⟩
theorem set2_nl (p : Nat) : (set2 p).nl = 12288 := rfl
/-- a decoder that has not begun. -/
def L2New (L : LL) (p g : Nat) (w : World) : Prop := w.heap[g]? = some (.cells #[.pointer (some ⟨L.gd, 0, none⟩), .int .i64 4, .int .i64 0, .int .i64 0, .int .i64 (dict2 p : Nat), .nilIface, .pointer none, .int .i64 0, .bool false, .bool false, .bool false, .bool false, .bool false] 145)
def L2NewPost (gm : Nat) (m : MS) (p N : Nat) (w : World) (e : Ending) (w' : World) : Prop :=
  ∃ (L : LL) (g : Nat), e = .returned (.tuple #[.pointer (some ⟨g, 0, none⟩), .int .i64 0]) ∧ Fr (fun k => k = gm) w w' ∧ MAt w' gm ((m.mem (set2 p).need).2.mem N).2 ∧
     LIs L (.pointer none) (.pointer none) w' (lstart (set2 p)) ∧ L.gm = gm ∧ L.n = N ∧ L.nl = 12288 ∧ (∀ k, L.foot k → w.heap.size < k ∧ k < g) ∧ L2New L p g w' ∧ g < w'.heap.size
set_option maxRecDepth 100000 in
set_option maxHeartbeats 800000 in
theorem l2new_any (gm : Nat) (m : MS) (p : Nat) (size : Int) (w : World) (N : Nat) (hN : N = wsize (min (set2 p).dict size)) (h : MAt w gm m) (hok : m.Ok) (hp : p ≤ 40) (hs : size ≤ 1048576) (hs0 : -9223372036854775808 ≤ size)
    (h1 : (m.mem (set2 p).need).1 = true) (h2 : ((m.mem (set2 p).need).2.mem N).1 = true) :
    Calls Try.prog 39 #[.int .u8 p, .int .i64 size, .pointer (some ⟨gm, 0, none⟩)] w (L2NewPost gm m p N w) := by
  subst hN
  have H1 := hid h1
  have H2 := hid h2
  clear h1 h2
  have HGM := hid (blk_lt h)
  obtain ⟨d, hd⟩ : ∃ d : Int, d = ((dict2 p : Nat) : Int) := ⟨_, rfl⟩
  have hset : (set2 p).val = .agg #[.int .i64 4, .int .i64 0, .int .i64 0, .int .i64 d] := by rw [hd]; rfl
  have CN := hid (show ∀ W, Fr Non w W → Calls Try.prog 20 #[.agg #[.int .i64 4, .int .i64 0, .int .i64 0, .int .i64 d], .int .i64 size, .pointer (some ⟨gm, 0, none⟩)] W (LNewPost gm m (set2 p) size W) from fun W hW => by
    have h := lnew_any gm m (set2 p) size W (hW.blk h id) hok (set2_light hp) hs hs0
    rw [hset] at h
    exact h)
  have CD := hid (dict2_any p hp)
  rw [← hd] at CD
  have HD := hid hd
  have HSET := hid hset
  clear h hok hs hs0 hset hd
  go_enter Try.func39, Try.ntmps39
  go_wp2_with fail
  refine (CD.out w).mono ?_
  rintro e w1 ⟨rfl, rfl⟩
  go_upto_region 5 with fail
  have k0 := blk_cell (blk_new w (.cells #[.int .i64 4, .int .i64 0, .int .i64 0, .int .i64 d] 23)) (j := 0) (v := .int .i64 4) rfl
  have k1 := blk_cell (blk_new w (.cells #[.int .i64 4, .int .i64 0, .int .i64 0, .int .i64 d] 23)) (j := 1) (v := .int .i64 0) rfl
  have k2 := blk_cell (blk_new w (.cells #[.int .i64 4, .int .i64 0, .int .i64 0, .int .i64 d] 23)) (j := 2) (v := .int .i64 0) rfl
  have k3 := blk_cell (blk_new w (.cells #[.int .i64 4, .int .i64 0, .int .i64 0, .int .i64 d] 23)) (j := 3) (v := .int .i64 d) rfl
  have HB := hid (blk_new w (.cells #[.int .i64 4, .int .i64 0, .int .i64 0, .int .i64 d] 23))
  have HF := hid ((Fr.refl Non w).alloc (.cells #[.int .i64 4, .int .i64 0, .int .i64 0, .int .i64 d] 23))
  go_wp2_with fail
  refine (CN.out _ HF.out).mono ?_
  intro e w2 hq
  rcases hq with ⟨_, _, hno, _⟩ | ⟨_, _, L, rfl, hf1, hm1, hl1, hLgm, hLn, hLnl, hLf⟩
  · exact absurd ⟨H1.out, H2.out⟩ hno
  have HLF := hid (show ∀ k, L.foot k → w.heap.size < k ∧ k < w2.heap.size from fun k hk => by
    have := hLf k hk
    simp at this
    omega)
  have F1 := hid (show Fr (fun k => k = gm) w w2 from (HF.out.any).trans hf1)
  have HB2 := hid (hf1.blk HB.out (fun e => by have := HGM.out; omega))
  have HQ := hid (And.intro hm1 (And.intro hl1 (And.intro hLgm (And.intro hLn hLnl))))
  clear hf1 hm1 hl1 hLgm hLn hLnl hLf k0 k1 k2 k3
  have k0 := blk_cell HB2.out (j := 0) (v := .int .i64 4) rfl
  have k1 := blk_cell HB2.out (j := 1) (v := .int .i64 0) rfl
  have k2 := blk_cell HB2.out (j := 2) (v := .int .i64 0) rfl
  have k3 := blk_cell HB2.out (j := 3) (v := .int .i64 d) rfl
  go_wp2_with fail
  go_ret2
  obtain ⟨hm1, hl1, hLgm, hLn, hLnl⟩ := HQ.out
  refine ⟨L, w2.heap.size, rfl, F1.out.alloc _, blk_alloc hm1, hl1.keep ((Fr.refl Non w2).alloc _) (fun _ _ e => e), hLgm, hLn, hLnl, HLF.out, ?_, by simp⟩
  unfold L2New
  rw [← HD.out]
  exact blk_new w2 _
end Go.Proofs.Ytjnegcambbeblaa

/- lzma2: Begin, Close. -/
namespace Go.Proofs.Ytjnegcambbeblaa
open Go.RowKit

def l2start {S : Type} (p : Nat) (s : S) : L2 S := ⟨lstart (set2 p), none, s, 4, 0, 0, dict2 p, 0, false, false, false, false, false⟩
def L2BPost {S : Type} (L : LL) (t : Sour S) (g p : Nat) (s : S) (w : World) (e : Ending) (w' : World) : Prop := e = .returned (.tuple #[]) ∧ Fr (fun k => k = g) w w' ∧ L2At L t g (.pointer none) (.pointer none) (.pointer none) w' (l2start p s)
set_option maxRecDepth 100000 in
set_option maxHeartbeats 800000 in
theorem l2begin_any {S : Type} (L : LL) (t : Sour S) (g p : Nat) (s : S) (w : World) (h : L2New L p g w) (hl : LIs L (.pointer none) (.pointer none) w (lstart (set2 p))) (hi : t.I w s) (ng : ¬ L.foot g) (nt : ¬ t.foot g) (ap : ∀ k, L.foot k → ¬ t.foot k) (hnl : L.nl = 12288) :
    Calls Try.prog 42 #[.pointer (some ⟨g, 0, none⟩), .iface t.ty t.val] w (L2BPost L t g p s w) := by
  have c5 := blk_cell h (j := 5) (v := .nilIface) rfl
  have c6 := blk_cell h (j := 6) (v := .pointer none) rfl
  have c7 := blk_cell h (j := 7) (v := .int .i64 0) rfl
  have c8 := blk_cell h (j := 8) (v := .bool false) rfl
  have c9 := blk_cell h (j := 9) (v := .bool false) rfl
  have c10 := blk_cell h (j := 10) (v := .bool false) rfl
  have c11 := blk_cell h (j := 11) (v := .bool false) rfl
  have c12 := blk_cell h (j := 12) (v := .bool false) rfl
  have z5 := blk_frozen h 5
  have z6 := blk_frozen h 6
  have z7 := blk_frozen h 7
  have z8 := blk_frozen h 8
  have z9 := blk_frozen h 9
  have z10 := blk_frozen h 10
  have z11 := blk_frozen h 11
  have z12 := blk_frozen h 12
  have hfin : L2BPost L t g p s w (.returned (.tuple #[])) ((((((((w.setCell ⟨g, 5, none⟩ (.iface t.ty t.val)).setCell ⟨g, 6, none⟩ (.pointer none)).setCell ⟨g, 7, none⟩ (.int .i64 0)).setCell ⟨g, 8, none⟩ (.bool false)).setCell ⟨g, 9, none⟩ (.bool false)).setCell ⟨g, 10, none⟩ (.bool false)).setCell ⟨g, 11, none⟩ (.bool false)).setCell ⟨g, 12, none⟩ (.bool false)) := by
    have hf : Fr (fun k => k = g) w ((((((((w.setCell ⟨g, 5, none⟩ (.iface t.ty t.val)).setCell ⟨g, 6, none⟩ (.pointer none)).setCell ⟨g, 7, none⟩ (.int .i64 0)).setCell ⟨g, 8, none⟩ (.bool false)).setCell ⟨g, 9, none⟩ (.bool false)).setCell ⟨g, 10, none⟩ (.bool false)).setCell ⟨g, 11, none⟩ (.bool false)).setCell ⟨g, 12, none⟩ (.bool false)) := (Fr.setCell (p := ⟨g, 12, none⟩) (Fr.setCell (p := ⟨g, 11, none⟩) (Fr.setCell (p := ⟨g, 10, none⟩) (Fr.setCell (p := ⟨g, 9, none⟩) (Fr.setCell (p := ⟨g, 8, none⟩) (Fr.setCell (p := ⟨g, 7, none⟩) (Fr.setCell (p := ⟨g, 6, none⟩) (Fr.setCell (p := ⟨g, 5, none⟩) (Fr.refl (fun k => k = g) w) (fun _ => rfl) (.iface t.ty t.val)) (fun _ => rfl) (.pointer none)) (fun _ => rfl) (.int .i64 0)) (fun _ => rfl) (.bool false)) (fun _ => rfl) (.bool false)) (fun _ => rfl) (.bool false)) (fun _ => rfl) (.bool false)) (fun _ => rfl) (.bool false))
    have e := (blk_set (i := 12) (v := (.bool false)) (blk_set (i := 11) (v := (.bool false)) (blk_set (i := 10) (v := (.bool false)) (blk_set (i := 9) (v := (.bool false)) (blk_set (i := 8) (v := (.bool false)) (blk_set (i := 7) (v := (.int .i64 0)) (blk_set (i := 6) (v := (.pointer none)) (blk_set (i := 5) (v := (.iface t.ty t.val)) h))))))))
    generalize ((((((((w.setCell ⟨g, 5, none⟩ (.iface t.ty t.val)).setCell ⟨g, 6, none⟩ (.pointer none)).setCell ⟨g, 7, none⟩ (.int .i64 0)).setCell ⟨g, 8, none⟩ (.bool false)).setCell ⟨g, 9, none⟩ (.bool false)).setCell ⟨g, 10, none⟩ (.bool false)).setCell ⟨g, 11, none⟩ (.bool false)).setCell ⟨g, 12, none⟩ (.bool false)) = W at hf e ⊢
    refine ⟨rfl, hf, ?_, hl.keep hf (fun k hk e => ng (by have e' : k = g := e; rw [← e']; exact hk)), t.keep _ _ _ _ hi hf (fun k hk e => nt (by have e' : k = g := e; rw [← e']; exact hk)), ng, nt, ap, ?_⟩
    · generalize hd : (dict2 p : Nat) = d at e
      rw [e]
      simp only [List.setIfInBounds_toArray, List.set_cons_succ, List.set_cons_zero]
      unfold L2.cells l2start
      rw [hd]
      rfl
    · exact ⟨by show 4 + 0 ≤ 4; decide, by show 0 ≤ 4; decide, hnl, by show 0 ≤ 2097152; decide⟩
  have HFIN := hid hfin
  clear h hl hi ng nt ap hnl hfin
  go_enter Try.func42, Try.ntmps42
  go_wp2_with fail
  go_end0
  exact HFIN.out
def L2ClosePost (L : LL) (g T : Nat) (m : MS) (w : World) (e : Ending) (w' : World) : Prop :=
  e = .returned (.tuple #[]) ∧ Fr (fun k => k = g ∨ k = L.gd ∨ k = L.gw ∨ k = L.gm) w w' ∧ MAt w' L.gm ((m.free T).free L.n) ∧ ((m.free T).free L.n).Ok
set_option maxRecDepth 100000 in
set_option maxHeartbeats 800000 in
theorem l2closeD_any {S : Type} (L : LL) (t : Sour S) (g : Nat) (F : Nat → Prop) (z : L2 S) (m : MS) (u : FrameMode) (w : World) (h : L2Is L t g F w z) (hm : MAt w L.gm m) (hok : m.Ok) (ht : z.c.taken ≤ 1048576) (hgm : L.gm ≠ g) :
    CallsD Try.prog 44 #[.pointer (some ⟨g, 0, none⟩)] u w fun e u' w' => u' = u ∧ L2ClosePost L g z.c.taken m w e w' := by
  have hok0 := hok
  obtain ⟨sp, rp, hc⟩ := h.core
  obtain ⟨nx, hr⟩ := hc.raw hm hok ht
  obtain ⟨pv, hat⟩ := h.cells
  have c0 := blk_cell hat (j := 0) (v := .pointer (some ⟨L.gd, 0, none⟩)) rfl
  have HAT := hid hat
  have HG := hid hgm
  have HNG : ¬ L.foot g := by
    obtain ⟨_, _, h3⟩ := h
    cases hm : z.mode with
    | none => rw [hm] at h3; obtain ⟨pv, sp, rp, h, _⟩ := h3; exact h.ng
    | some rd => rw [hm] at h3; obtain ⟨gp, ga, gr, h, _⟩ := h3; exact fun e => h.ng (.inl e)
  have HN := hid HNG
  have HR := hid hr
  clear h hm hok ht hgm hc hr hat HNG
  go_enter_d Try.func44, Try.ntmps44
  go_wp2_with fail
  refine (lclose_raw L L.lit sp rp z.c _ L.n nx _ m w HR.out).mono ?_
  rintro e w1 ⟨rfl, hf1, hr1⟩
  have hb := hf1.blk HAT.out (fun e => by
    rcases e with e | e | e
    · exact HN.out (.inl e)
    · exact HN.out (.inr (.inr (.inl e)))
    · exact HG.out e.symm)
  have c12 := blk_cell hb (j := 12) (v := .bool z.bad) rfl
  have z12 := blk_frozen hb 12
  have HF1 := hid hf1
  have HR1 := hid hr1
  clear hf1 hr1 hb c0
  go_wp2_with fail
  go_end0
  refine ⟨rfl, ?_, ?_, MS.free_ok (MS.free_ok hok0 _) _⟩
  · exact Fr.setCell (p := ⟨g, 12, none⟩) (HF1.out.mono (fun _ _ e => .inr e)) (fun _ => .inl rfl) _
  · exact blk_set_ne HR1.out.met HG.out
end Go.Proofs.Ytjnegcambbeblaa

/- lzma2: runs; Unpack's door. -/
namespace Go.Proofs.Ytjnegcambbeblaa
open Go.RowKit

/-- what holds of a decoder all the while. -/
structure L2.Inv {S : Type} (z : L2 S) (L : LL) : Prop where
  good : z.Good L
  en : z.ended = true → z.mode = none
theorem L2.take_inv {S : Type} (nx : S → Int × Bool × S) (L : LL) {z : L2 S} (h : z.Inv L) : (z.take nx L).2.Inv L := by
  unfold L2.take
  cases hm : z.mode with
  | none =>
    dsimp only
    have h0 := h.good.idle hm
    split
    · exact ⟨⟨fun _ => h0, left0_fit h0⟩, fun _ => hm⟩
    · exact ⟨⟨fun _ => h0, left0_fit h0⟩, fun _ => hm⟩
  | some rd =>
    dsimp only
    refine ⟨⟨fun e => (by cases e), lnext_fit (anx (lnx nx)) L z.c rd h.good.fit⟩, fun e => ?_⟩
    have := h.en e
    rw [hm] at this
    cases this
theorem L2.next_inv {S : Type} (nx : S → Int × Bool × S) (L : LL) {z : L2 S} (h : z.Inv L) : (z.next nx L).2.Inv L := by
  unfold L2.next
  have h1 := L2.open_good nx h.good
  have h2 := L2.open_en nx h.en
  split
  · exact L2.take_inv nx L ⟨⟨h1.idle, h1.fit⟩, h2⟩
  · exact ⟨h1, h2⟩
theorem L2.take_place {S : Type} (nx : S → Int × Bool × S) (L : LL) (z : L2 S) : (z.take nx L).2.c.place ≤ z.c.place + 1 := by
  unfold L2.take
  cases hm : z.mode with
  | none =>
    dsimp only
    split
    · exact Nat.le_succ _
    · exact Nat.le_refl _
  | some rd =>
    dsimp only
    exact lnext_place (anx (lnx nx)) L z.c rd
theorem L2.next_place {S : Type} (nx : S → Int × Bool × S) (L : LL) (z : L2 S) : (z.next nx L).2.c.place ≤ z.c.place + 1 := by
  unfold L2.next
  have h1 := L2.open_c nx z
  split
  · have h2 := L2.take_place nx L { (z.open_ nx).2 with left := (z.open_ nx).2.left - 1 }
    have h3 : ({ (z.open_ nx).2 with left := (z.open_ nx).2.left - 1 } : L2 S).c.place = (z.open_ nx).2.c.place := rfl
    omega
  · show (z.open_ nx).2.c.place ≤ _
    omega
theorem L2.next_taken {S : Type} (nx : S → Int × Bool × S) (L : LL) (z : L2 S) : (z.next nx L).2.c.taken = z.c.taken := by
  unfold L2.next
  have h1 := L2.open_taken nx z
  split
  · rw [← h1]
    unfold L2.take
    cases hm : ({ (z.open_ nx).2 with left := (z.open_ nx).2.left - 1 } : L2 S).mode with
    | none =>
      dsimp only
      split
      · rfl
      · rfl
    | some rd =>
      dsimp only
      exact (lnext_same (anx (lnx nx)) L _ rd).1
  · exact h1
theorem L2.next_of {S : Type} (nx : S → Int × Bool × S) (L : LL) (z : L2 S) : z.next nx L = z.next nx (LL.of L.n) := rfl
/-- the decoder behind so many bytes. -/
def l2run {S : Type} (nx : S → Int × Bool × S) (L : LL) (z : L2 S) : Nat → L2 S
  | 0 => z
  | k + 1 => ((l2run nx L z k).next nx L).2
def l2at {S : Type} (nx : S → Int × Bool × S) (L : LL) (z : L2 S) (k : Nat) : Int := ((l2run nx L z k).next nx L).1.1
def l2has {S : Type} (nx : S → Int × Bool × S) (L : LL) (z : L2 S) (k : Nat) : Bool := ((l2run nx L z k).next nx L).1.2
def l2bytes {S : Type} (nx : S → Int × Bool × S) (L : LL) (z : L2 S) (k : Nat) : List Int := (List.range k).map (l2at nx L z)
theorem l2bytes_snoc {S : Type} (nx : S → Int × Bool × S) (L : LL) (z : L2 S) (k : Nat) : l2bytes nx L z (k + 1) = l2bytes nx L z k ++ [l2at nx L z k] := by
  unfold l2bytes; rw [List.range_succ, List.map_append]; rfl
theorem l2bytes_len {S : Type} (nx : S → Int × Bool × S) (L : LL) (z : L2 S) (k : Nat) : (l2bytes nx L z k).length = k := by simp [l2bytes]
theorem l2run_inv {S : Type} (nx : S → Int × Bool × S) (L : LL) (z : L2 S) (h : z.Inv L) : ∀ k, (l2run nx L z k).Inv L
  | 0 => h
  | k + 1 => L2.next_inv nx L (l2run_inv nx L z h k)
theorem l2run_place {S : Type} (nx : S → Int × Bool × S) (L : LL) (z : L2 S) : ∀ k, (l2run nx L z k).c.place ≤ z.c.place + k
  | 0 => Nat.le_refl _
  | k + 1 => by
    have h1 := L2.next_place nx L (l2run nx L z k)
    have h2 := l2run_place nx L z k
    show ((l2run nx L z k).next nx L).2.c.place ≤ _
    omega
theorem l2run_taken {S : Type} (nx : S → Int × Bool × S) (L : LL) (z : L2 S) : ∀ k, (l2run nx L z k).c.taken = z.c.taken
  | 0 => rfl
  | k + 1 => (L2.next_taken nx L _).trans (l2run_taken nx L z k)
theorem l2run_of {S : Type} (nx : S → Int × Bool × S) (L : LL) (z : L2 S) : ∀ k, l2run nx L z k = l2run nx (LL.of L.n) z k
  | 0 => rfl
  | k + 1 => by
    show ((l2run nx L z k).next nx L).2 = ((l2run nx (LL.of L.n) z k).next nx (LL.of L.n)).2
    rw [l2run_of nx L z k, L2.next_of]
theorem l2at_of {S : Type} (nx : S → Int × Bool × S) (L : LL) (z : L2 S) (k : Nat) : l2at nx L z k = l2at nx (LL.of L.n) z k := by
  unfold l2at
  rw [l2run_of, L2.next_of]
theorem l2has_of {S : Type} (nx : S → Int × Bool × S) (L : LL) (z : L2 S) (k : Nat) : l2has nx L z k = l2has nx (LL.of L.n) z k := by
  unfold l2has
  rw [l2run_of, L2.next_of]
/-- what a stream is unpacked to: its bytes, or nothing. -/
def l2unpack {S : Type} (nx : S → Int × Bool × S) (s0 : S) (p N size : Nat) : Option (List Int) :=
  if (List.range size).all (l2has nx (LL.of N) (l2start p s0)) = true ∧ (l2run nx (LL.of N) (l2start p s0) size).finish nx = true then some (l2bytes nx (LL.of N) (l2start p s0) size) else none
theorem l2start_inv {S : Type} (p : Nat) (s0 : S) (L : LL) : (l2start p s0).Inv L := ⟨⟨fun _ => rfl, lstart_fit (set2 p) L⟩, fun _ => rfl⟩
theorem l2start_place {S : Type} (p : Nat) (s0 : S) : (l2start p s0).c.place = 0 := rfl
theorem l2start_taken {S : Type} (p : Nat) (s0 : S) : (l2start p s0).c.taken = (set2 p).need := rfl
theorem L2Is.keep {S : Type} {L : LL} {t : Sour S} {g : Nat} {F : Nat → Prop} {w w' : World} {z : L2 S} (h : L2Is L t g F w z) {T : Nat → Prop} (hf : Fr T w w') (ht : ∀ k, F k → ¬ T k) : L2Is L t g F w' z := by
  obtain ⟨h1, h2, h3⟩ := h
  refine ⟨fun k hk => Nat.lt_of_lt_of_le (h1 k hk) hf.size, h2, ?_⟩
  cases hm : z.mode with
  | none =>
    rw [hm] at h3
    obtain ⟨pv, sp, rp, h, hp⟩ := h3
    exact ⟨pv, sp, rp, h.keep hf (fun k hk => ht k (h2 k hk)), hp⟩
  | some rd =>
    rw [hm] at h3
    obtain ⟨gp, ga, gr, h, q1, q2, q3⟩ := h3
    refine ⟨gp, ga, gr, ⟨hf.blk h.at_ (ht g (h2 g (.inl rfl))), h.on.keep hf (fun k hk => ht k ?_), h.ng, h.ok⟩, q1, q2, q3⟩
    rcases hk with e | e | e | e
    · exact h2 k (.inr (.inl e))
    · have e' : k = gr := e; rw [e']; exact q3
    · have e' : k = ga := e; rw [e']; exact q2
    · rcases e with e | e
      · rw [e]; exact q1
      · exact h2 k (.inr (.inr e))
/-- the last of a call that defers Close. -/
theorem l2un_door {L : LL} {t : Sour Nat} {g gm : Nat} {F : Nat → Prop} {w wr : World} {z : L2 Nat} {m : MS} {T N : Nat} {R : Option (List Int)} {v : Value} {q : Int} {m' : MS} {tmps : Array Value} (B : Nat)
    (h : L2Is L t g F wr z) (hm : MAt wr gm m) (hok : m.Ok) (hT : z.c.taken = T) (ht : T ≤ 1048576) (hg : L.gm = gm) (hn : L.n = N) (hm' : (m.free T).free N = m') (hf : Fr (fun k => k = gm) w wr)
    (hlo : ∀ k, L.foot k → w.heap.size < k ∧ k < B) (hgl0 : w.heap.size < g ∧ g < B)
    (hres : ∀ W : World, (results Try.f38 tmps).run Try.prog W = .ok (.tuple #[v, .int .i64 q]) W)
    (hR : (R = none ∧ v = .slice none 0 0 ∧ q = 12) ∨ (∃ xs, R = some xs ∧ q = 0 ∧ RowO wr B v xs)) (hBw : w.heap.size ≤ B) (hgl : gm < w.heap.size) :
    Leaves Try.prog Try.f38 tmps (LUnPost gm R m' w) [{ target := Target.fn (Fn.func 44) #[], args := #[.pointer (some ⟨g, 0, none⟩)] }] .returning wr := by
  subst hg hn hm' hT
  refine leaves_cons (f := 44) (args := #[.pointer (some ⟨g, 0, none⟩)]) (by simp) (by simp [go_sem]) ?_
  refine (l2closeD_any L t g F z m _ wr h hm hok ht (by omega)).mono ?_
  rintro e u' w'' ⟨rfl, rfl, h3, h4, h5⟩
  refine ⟨.tuple #[v, .int .i64 q], hres _, hf.then h3 (fun k hk e => ?_), h4, h5, ?_⟩
  · rcases e with e | e | e | e
    · omega
    · have := hlo L.gd (.inl rfl); omega
    · have := hlo L.gw (.inr (.inr (.inl rfl))); omega
    · exact e
  · rcases hR with ⟨h1, rfl, rfl⟩ | ⟨xs, h1, rfl, ho⟩
    · exact .inl ⟨h1, rfl⟩
    · refine .inr ⟨xs, v, h1, rfl, (ho.fr h3 (fun k h8 _ e => ?_)).low hBw⟩
      rcases e with e | e | e | e
      · omega
      · have := hlo L.gd (.inl rfl); omega
      · have := hlo L.gw (.inr (.inr (.inl rfl))); omega
      · omega
end Go.Proofs.Ytjnegcambbeblaa
