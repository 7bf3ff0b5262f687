/- Texts of this proof, one behind the other. -/
import Derived.Test.YtjnegcambbeblaaMg13

/- plain: two decoders' runs, over two sources. -/
namespace Go.Proofs.Ytjnegcambbeblaa
open Go.RowKit
section
variable {A B : Type} {R : A → B → Prop} {na : A → Int × Bool × A} {nb : B → Int × Bool × B}
theorem packet_stk (hs : SimS R na nb) (L : LL) (s : LS) (d : RD A) (h : d.bad = true) : (lpacket na L s d).2.2.bad = true := by
  unfold lpacket
  dsimp only
  split
  · exact (litGo_n hs (1847 + s.row L) (backH s.H L.n (s.rep 0)).toNat 8 (decide (7 ≤ s.st)) 1).stk _ _ ((bit_n hs _).stk _ _ h)
  · split
    · exact fresh_stk hs _ _ _ ((bit_n hs _).stk _ _ ((bit_n hs _).stk _ _ h))
    · split
      · exact (bit_n hs _).stk _ _ ((bit_n hs _).stk _ _ h)
      · exact again_stk hs _ _ _ ((bit_n hs _).stk _ _ ((bit_n hs _).stk _ _ h))
theorem lpEnd_left {S : Type} (L : LL) (s : LS) (d : RD S) (h : d.bad = true) : (lpEnd L s d).left = 0 := by
  unfold lpEnd
  rw [if_pos (by rw [h]; simp)]
/-- a packet behind which the decoder is bad tells nothing. -/
theorem packet_bad (L : LL) (s : LS) (d : RD A) (hl : s.left = 0) (h : (lpacket na L s d).2.2.bad = true) : (lpacket na L s d).1.2 = false ∧ (lpacket na L s d).2.1.left = 0 ∧ (lpacket na L s d).2.1.bad = true := by
  unfold lpacket at h ⊢
  dsimp only at h ⊢
  split at h
  · rename_i h0
    rw [if_pos h0]
    exact ⟨by show (!_) = false; rw [h]; rfl, hl, h⟩
  · rename_i h0
    rw [if_neg h0]
    split at h
    · rename_i h1
      rw [if_pos h1]
      exact ⟨rfl, lpEnd_left _ _ _ h, lpEnd_bad _ _ _ h⟩
    · rename_i h1
      rw [if_neg h1]
      split at h
      · rename_i h2
        rw [if_pos h2]
        exact ⟨rfl, lpEnd_left _ _ _ h, lpEnd_bad _ _ _ h⟩
      · rename_i h2
        rw [if_neg h2]
        exact ⟨rfl, lpEnd_left _ _ _ h, lpEnd_bad _ _ _ h⟩
theorem lnext_no {S : Type} (nx : S → Int × Bool × S) (L : LL) (s : LS) (d : RD S) (h : (lnext nx L s d).1.2 = false) : (lnext nx L s d).1.1 = 0 := by
  have h2 : ∀ (s : LS) (d : RD S), (lnext2 L s d).1.2 = false → (lnext2 L s d).1.1 = 0 := by
    intro s d h
    unfold lnext2 at h ⊢
    split
    · rfl
    · rename_i h0; rw [if_neg h0] at h; cases h
  unfold lnext at h ⊢
  split
  · rfl
  · rename_i h0
    rw [if_neg h0] at h
    split
    · rename_i h1
      rw [if_pos h1] at h
      split
      · rename_i h3; rw [if_pos h3] at h; cases h
      · rename_i h3; rw [if_neg h3] at h; exact h2 _ _ h
    · rename_i h1
      rw [if_neg h1] at h
      exact h2 _ _ h
theorem lnext2_fol (L : LL) (s : LS) (d : RD A) (d' : RD B) : (lnext2 L s d').1 = (lnext2 L s d).1 ∧ (lnext2 L s d').2.1 = (lnext2 L s d).2.1 ∧ (lnext2 L s d').2.2 = d' ∧ (lnext2 L s d).2.2 = d := by
  unfold lnext2
  split <;> exact ⟨rfl, rfl, rfl, rfl⟩
theorem lnext_sim (hs : SimS R na nb) (L : LL) (s : LS) {d : RD A} {d' : RD B} (h : d.bad = false → Sim1 R d d') (ho : (lnext na L s d).1.2 = true) :
    (lnext nb L s d').1 = (lnext na L s d).1 ∧ (lnext nb L s d').2.1 = (lnext na L s d).2.1 ∧ ((lnext na L s d).2.2.bad = false → Sim1 R (lnext na L s d).2.2 (lnext nb L s d').2.2) := by
  unfold lnext at ho ⊢
  by_cases h0 : s.bad = true ∨ s.ended = true
  · rw [if_pos h0] at ho; cases ho
  · rw [if_neg h0] at ho ⊢
    rw [if_neg h0]
    by_cases hl : s.left = 0
    · rw [if_pos hl] at ho ⊢
      rw [if_pos hl]
      have hb : (lpacket na L s d).2.2.bad = false := by
        cases hq : (lpacket na L s d).2.2.bad
        · rfl
        · obtain ⟨g1, g2, _⟩ := packet_bad L s d hl hq
          rw [if_neg (by rw [g1]; decide)] at ho
          unfold lnext2 at ho
          rw [if_pos g2] at ho
          cases ho
      have hd : d.bad = false := by
        cases hq : d.bad
        · rfl
        · exact (bad_not hb (packet_stk hs L s d hq)).elim
      obtain ⟨g1, g2, g3⟩ := packet_sim hs L s (h hd) hb
      rw [g1, g2]
      by_cases hk : (lpacket na L s d).1.2 = true
      · rw [if_pos hk, if_pos hk]
        exact ⟨rfl, rfl, fun _ => g3⟩
      · rw [if_neg hk, if_neg hk]
        obtain ⟨k1, k2, k3, k4⟩ := lnext2_fol L (lpacket na L s d).2.1 (lpacket na L s d).2.2 (lpacket nb L s d').2.2
        exact ⟨k1, k2, fun _ => by rw [k3, k4]; exact g3⟩
    · rw [if_neg hl] at ho ⊢
      rw [if_neg hl]
      obtain ⟨k1, k2, k3, k4⟩ := lnext2_fol L s d d'
      exact ⟨k1, k2, fun hb => by rw [k3, k4]; rw [k4] at hb; exact h hb⟩
theorem first_sim (hs : SimS R na nb) {a : A} {b : B} (h : R a b) (hb : (RD.first na a).bad = false) : Sim1 R (RD.first na a) (RD.first nb b) := by
  have hs0 : Sim1 R (⟨a, 4294967295, 0, false⟩ : RD A) (⟨b, 4294967295, 0, false⟩ : RD B) := ⟨h, rfl, rfl, rfl⟩
  unfold RD.first at hb ⊢
  by_cases h0 : (RD.next na ⟨a, 4294967295, 0, false⟩).1 = 0
  · rw [if_pos h0] at hb ⊢
    obtain ⟨g1, g2⟩ := next_sim hs hs0 hb
    rw [if_pos (by rw [g1]; exact h0)]
    exact g2
  · rw [if_neg h0] at hb; cases hb
theorem next_stk (d : RD A) (h : d.bad = true) : (d.next na).2.bad = true := by
  unfold RD.next
  rw [if_pos h]; exact h
theorem four_bad : ∀ (k : Nat) (d : RD A), d.bad = true → (RD.four na k d).bad = true
  | 0, _, h => h
  | k + 1, d, h => by
    unfold RD.four
    exact four_bad k _ (next_stk d h)
theorem four_sim (hs : SimS R na nb) : ∀ (k : Nat) (d : RD A) (d' : RD B), Sim1 R d d' → (RD.four na k d).bad = false → Sim1 R (RD.four na k d) (RD.four nb k d')
  | 0, d, d', h, _ => h
  | k + 1, d, d', h, hb => by
    unfold RD.four at hb ⊢
    have h1 : (d.next na).2.bad = false := by
      cases hq : (d.next na).2.bad
      · rfl
      · exact (bad_not hb (four_bad k _ hq)).elim
    obtain ⟨g1, g2, g3, g4, g5⟩ := next_sim hs h h1
    obtain ⟨_, h2, h3, h4⟩ := h
    refine four_sim hs k _ _ ⟨g2, h2, ?_, g5⟩ hb
    show d'.code * 256 % 4294967296 + _ = d.code * 256 % 4294967296 + _
    rw [h3, g1]
theorem new_sim (hs : SimS R na nb) {a : A} {b : B} (h : R a b) (hb : (RD.new na a).bad = false) : Sim1 R (RD.new na a) (RD.new nb b) := by
  have h1 : (RD.four na 4 (RD.first na a)).bad = false := by
    have e : ((RD.four na 4 (RD.first na a)).bad || decide ((RD.four na 4 (RD.first na a)).rng ≤ (RD.four na 4 (RD.first na a)).code)) = false := hb
    exact (Bool.or_eq_false_iff.1 e).1
  have h2 : (RD.first na a).bad = false := by
    cases hq : (RD.first na a).bad
    · rfl
    · exact (bad_not h1 (four_bad 4 _ hq)).elim
  obtain ⟨g1, g2, g3, g4⟩ := four_sim hs 4 _ _ (first_sim hs h h2) h1
  refine ⟨g1, g2, g3, ?_⟩
  show (_ || decide _) = (_ || decide _)
  rw [g2, g3, g4]
/-- two runs: as long as the one tells, the other tells the same. -/
theorem lrun_sim (hs : SimS R na nb) (L : LL) (s : LS) {d : RD A} {d' : RD B} (h : d.bad = false → Sim1 R d d') : ∀ k, (∀ i, i < k → lok na L s d i = true) →
    (lrun nb L k s d').1 = (lrun na L k s d).1 ∧ ((lrun na L k s d).2.bad = false → Sim1 R (lrun na L k s d).2 (lrun nb L k s d').2)
  | 0, _ => ⟨rfl, h⟩
  | k + 1, ho => by
    obtain ⟨g1, g2⟩ := lrun_sim hs L s h k (fun i hi => ho i (by omega))
    have h1 := lnext_sim hs L (lrun na L k s d).1 g2 (ho k (by omega))
    obtain ⟨k1, k2, k3⟩ := h1
    show (lnext nb L (lrun nb L k s d').1 (lrun nb L k s d').2).2.1 = _ ∧ _
    rw [g1]
    exact ⟨k2, fun hb => by
      show Sim1 R _ (lnext nb L (lrun nb L k s d').1 (lrun nb L k s d').2).2.2
      rw [g1]
      exact k3 hb⟩
theorem lok_sim (hs : SimS R na nb) (L : LL) (s : LS) {d : RD A} {d' : RD B} (h : d.bad = false → Sim1 R d d') (k : Nat) (ho : ∀ i, i < k + 1 → lok na L s d i = true) : lok nb L s d' k = true ∧ lbyte nb L s d' k = lbyte na L s d k := by
  obtain ⟨g1, g2⟩ := lrun_sim hs L s h k (fun i hi => ho i (by omega))
  obtain ⟨k1, k2, k3⟩ := lnext_sim hs L (lrun na L k s d).1 g2 (ho k (by omega))
  have hk := ho k (by omega)
  unfold lok at hk
  unfold lok lbyte
  rw [g1, k1]
  exact ⟨hk, rfl⟩
end
end Go.Proofs.Ytjnegcambbeblaa

/- lzma2, plain: a run over another source that holds the same bytes further on. -/
namespace Go.Proofs.Ytjnegcambbeblaa
open Go.RowKit

/-- the one source's first B bytes lie in the other one from `off` on. -/
structure Shf (na nb : Nat → Int × Bool × Nat) (off B : Nat) : Prop where
  go : ∀ s, s < B → nb (s + off) = ((na s).1, true, s + 1 + off)
  up : ∀ s, (na s).2.1 = true → (na s).2.2 = s + 1
def RL (off B : Nat) (x y : Nat × Nat) : Prop := y = (x.1 + off, x.2) ∧ x.1 + x.2 ≤ B
def RA (off B : Nat) (x y : AhS (Nat × Nat)) : Prop := RL off B x.s y.s ∧ y.b = x.b ∧ y.full = x.full
theorem lnx_sim {na nb : Nat → Int × Bool × Nat} {off B : Nat} (h : Shf na nb off B) : SimS (RL off B) (lnx na) (lnx nb) where
  go a b hab ho := by
    obtain ⟨rfl, hb⟩ := hab
    unfold lnx at ho ⊢
    by_cases h0 : a.2 = 0
    · rw [if_pos h0] at ho; cases ho
    · rw [if_neg h0] at ho ⊢
      rw [if_neg (by exact h0), h.go a.1 (by omega)]
      dsimp only at ho ⊢
      refine ⟨rfl, rfl, ?_, ?_⟩
      · rw [h.up a.1 ho]
      · show (na a.1).2.2 + (a.2 - 1) ≤ B
        rw [h.up a.1 ho]
        omega
theorem anx_sim {S T : Type} {R : S → T → Prop} {nx : S → Int × Bool × S} {ny : T → Int × Bool × T} (h : SimS R nx ny) : SimS (fun (x : AhS S) (y : AhS T) => R x.s y.s ∧ y.b = x.b ∧ y.full = x.full) (anx nx) (anx ny) where
  go a b hab ho := by
    obtain ⟨h1, h2, h3⟩ := hab
    unfold anx ahNx at ho ⊢
    by_cases hf : a.full = true
    · rw [if_pos hf, if_pos (by rw [h3]; exact hf)]
      exact ⟨by dsimp only; rw [h2], rfl, h1, h2, rfl⟩
    · rw [if_neg hf] at ho
      rw [if_neg hf, if_neg (by rw [h3]; exact hf)]
      obtain ⟨g1, g2, g3⟩ := h.go _ _ h1 ho
      exact ⟨by dsimp only; rw [g1], g2, g3, h2, rfl⟩
theorem an_sim {na nb : Nat → Int × Bool × Nat} {off B : Nat} (h : Shf na nb off B) : SimS (RA off B) (anx (lnx na)) (anx (lnx nb)) := anx_sim (lnx_sim h)
/-- what a chunk's source and its rest add up to does not turn, as long as it has its bytes. -/
def RS (E : Nat) (x y : Nat × Nat) : Prop := y = x ∧ x.1 + x.2 = E
theorem self_sim {na : Nat → Int × Bool × Nat} (hu : ∀ s, (na s).2.1 = true → (na s).2.2 = s + 1) (E : Nat) : SimS (RS E) (lnx na) (lnx na) where
  go a b hab ho := by
    obtain ⟨rfl, hb⟩ := hab
    refine ⟨rfl, ho, rfl, ?_⟩
    unfold lnx at ho ⊢
    by_cases h0 : b.2 = 0
    · rw [if_pos h0] at ho; cases ho
    · rw [if_neg h0] at ho ⊢
      dsimp only at ho ⊢
      rw [hu _ ho]
      omega
def RSA (E : Nat) (x y : AhS (Nat × Nat)) : Prop := RS E x.s y.s ∧ y.b = x.b ∧ y.full = x.full
theorem selfA_sim {na : Nat → Int × Bool × Nat} (hu : ∀ s, (na s).2.1 = true → (na s).2.2 = s + 1) (E : Nat) : SimS (RSA E) (anx (lnx na)) (anx (lnx na)) := anx_sim (self_sim hu E)
/-- a step that tells leaves no decoder bad. -/
theorem lnext_good {A : Type} (nx : A → Int × Bool × A) (L : LL) (s : LS) (d : RD A) (hd : s.left ≠ 0 → d.bad = false) (h : (lnext nx L s d).1.2 = true) : (lnext nx L s d).2.2.bad = false := by
  have h2 : ∀ (s : LS) (d : RD A), (lnext2 L s d).2.2 = d := fun s d => by unfold lnext2; split <;> rfl
  unfold lnext at h ⊢
  split
  · rename_i h0; rw [if_pos h0] at h; cases h
  · rename_i h0
    rw [if_neg h0] at h
    split
    · rename_i h1
      rw [if_pos h1] at h
      cases hb : (lpacket nx L s d).2.2.bad
      · split
        · exact hb
        · rw [h2]; exact hb
      · obtain ⟨p1, p2, p3⟩ := packet_bad (na := nx) L s d h1 hb
        rw [if_neg (by rw [p1]; decide)] at h
        unfold lnext2 at h
        rw [if_pos p2] at h
        cases h
    · rename_i h1
      rw [h2]
      exact hd h1
theorem lnext_keep {A : Type} (nx : A → Int × Bool × A) (L : LL) (s : LS) (d : RD A) (h : (lnext nx L s d).1.2 = true) : s.bad = false ∧ s.ended = false := by
  unfold lnext at h
  split at h
  · cases h
  · rename_i h0
    constructor
    · cases e : s.bad
      · rfl
      · exact absurd (.inl e) h0
    · cases e : s.ended
      · rfl
      · exact absurd (.inr e) h0
end Go.Proofs.Ytjnegcambbeblaa

/- lzma2, plain: the step of a run over the other source. -/
namespace Go.Proofs.Ytjnegcambbeblaa
open Go.RowKit

/-- what two decoders have alike: all but what a chunk that sets them sets. -/
structure WC (z z' : L2 Nat) : Prop where
  H : z'.c.H = z.c.H
  place : z'.c.place = z.c.place
  cleft : z'.c.left = z.c.left
  cbad : z'.c.bad = z.c.bad
  cend : z'.c.ended = z.c.ended
  taken : z'.c.taken = z.c.taken
  dict : z'.c.dict = z.c.dict
  left : z'.left = z.left
  em : z'.emptied = z.emptied
  stated : z'.stated = z.stated
  setted : z'.setted = z.setted
  ended : z'.ended = z.ended
  bad : z'.bad = z.bad
/-- the core and its setting are alike. -/
def Core (z z' : L2 Nat) : Prop := z'.c = z.c ∧ z'.lc = z.lc ∧ z'.lp = z.lp ∧ z'.pb = z.pb
/-- .. with nothing packed on. -/
structure WN (off : Nat) (z z' : L2 Nat) : Prop where
  c : WC z z'
  m : z.mode = none
  m' : z'.mode = none
  s : z'.s = z.s + off
theorem byte_ok {na : Nat → Int × Bool × Nat} (hu : ∀ s, (na s).2.1 = true → (na s).2.2 = s + 1) {z : L2 Nat} (h : (z.byte na).2.bad = false) : z.bad = false ∧ z.byte na = ((na z.s).1, { z with s := z.s + 1, bad := false }) := by
  have h' : (z.bad || !(na z.s).2.1) = false := h
  obtain ⟨h1, h2⟩ := Bool.or_eq_false_iff.1 h'
  have h3 : (na z.s).2.1 = true := by simpa using h2
  refine ⟨h1, ?_⟩
  unfold L2.byte
  rw [h1, h3, hu _ h3]
  rfl
theorem byte_to {na nb : Nat → Int × Bool × Nat} {off B : Nat} (hs : Shf na nb off B) {z' : L2 Nat} {s : Nat} (h : z'.s = s + off) (hb : s < B) : z'.byte nb = ((na s).1, { z' with s := s + 1 + off, bad := z'.bad }) := by
  unfold L2.byte
  rw [h, hs.go s hb]
  simp
/-- a byte. -/
theorem WN.byte {na nb : Nat → Int × Bool × Nat} {off B : Nat} (hs : Shf na nb off B) {z z' : L2 Nat} (h : WN off z z') (hb : (z.byte na).2.bad = false) (hB : z.s < B) :
    (z'.byte nb).1 = (z.byte na).1 ∧ WN off (z.byte na).2 (z'.byte nb).2 ∧ (Core z z' → Core (z.byte na).2 (z'.byte nb).2) ∧ (z.byte na).2.s = z.s + 1 ∧ z.bad = false := by
  obtain ⟨h1, h2⟩ := byte_ok hs.up hb
  rw [h2, byte_to hs h.s hB]
  have hb' : z'.bad = false := h.c.bad.trans h1
  exact ⟨rfl, ⟨⟨h.c.H, h.c.place, h.c.cleft, h.c.cbad, h.c.cend, h.c.taken, h.c.dict, h.c.left, h.c.em, h.c.stated, h.c.setted, h.c.ended, hb'⟩, h.m, h.m', rfl⟩, fun k => k, rfl, h1⟩
theorem WN.pair {na nb : Nat → Int × Bool × Nat} {off B : Nat} (hs : Shf na nb off B) {z z' : L2 Nat} (h : WN off z z') (hb : (z.pair na).2.bad = false) (hB : z.s + 1 < B) :
    (z'.pair nb).1 = (z.pair na).1 ∧ WN off (z.pair na).2 (z'.pair nb).2 ∧ (Core z z' → Core (z.pair na).2 (z'.pair nb).2) ∧ (z.pair na).2.s = z.s + 2 ∧ z.bad = false := by
  have hb1 : ((z.byte na).2.byte na).2.bad = false := hb
  obtain ⟨k1, _⟩ := byte_ok hs.up hb1
  obtain ⟨g1, g2, g5, g3, g4⟩ := h.byte hs k1 (by omega)
  obtain ⟨f1, f2, f5, f3, f4⟩ := g2.byte hs hb1 (by omega)
  refine ⟨?_, f2, fun k => f5 (g5 k), ?_, g4⟩
  · show ((z'.byte nb).1 * 256 + ((z'.byte nb).2.byte nb).1 + 1).toNat = _
    rw [g1, f1]
    rfl
  · show ((z.byte na).2.byte na).2.s = _
    omega
/-- a pair that is good has read two bytes. -/
theorem pair_ok {na : Nat → Int × Bool × Nat} (hu : ∀ s, (na s).2.1 = true → (na s).2.2 = s + 1) {z : L2 Nat} (h : (z.pair na).2.bad = false) : z.bad = false ∧ (z.pair na).2.s = z.s + 2 := by
  have hb1 : ((z.byte na).2.byte na).2.bad = false := h
  obtain ⟨k1, k2⟩ := byte_ok hu hb1
  obtain ⟨k3, k4⟩ := byte_ok hu k1
  refine ⟨k3, ?_⟩
  show ((z.byte na).2.byte na).2.s = _
  rw [k2]
  show (z.byte na).2.s + 1 = _
  rw [k4]
theorem WN.empty {off : Nat} {z z' : L2 Nat} (h : WN off z z') : WN off z.empty z'.empty ∧ (Core z z' → Core z.empty z'.empty) := by
  refine ⟨⟨⟨rfl, rfl, h.c.cleft, h.c.cbad, h.c.cend, h.c.taken, h.c.dict, h.c.left, rfl, rfl, rfl, h.c.ended, h.c.bad⟩, h.m, h.m', h.s⟩, fun ⟨c1, c2, c3, c4⟩ => ⟨?_, c2, c3, c4⟩⟩
  show ({ z'.c with H := [], place := 0 } : LS) = { z.c with H := [], place := 0 }
  rw [c1]
/-- the setting is alike. -/
def SetC (z z' : L2 Nat) : Prop := z'.lc = z.lc ∧ z'.lp = z.lp ∧ z'.pb = z.pb
theorem WN.setting {na nb : Nat → Int × Bool × Nat} {off B : Nat} (hs : Shf na nb off B) {z z' : L2 Nat} (h : WN off z z') (hb : (z.setting na).bad = false) (hB : z.s < B) :
    WN off (z.setting na) (z'.setting nb) ∧ SetC (z.setting na) (z'.setting nb) ∧ (z.setting na).setted = true ∧ (z.setting na).s = z.s + 1 ∧ z.bad = false := by
  have hc : ¬ ((bySet (z.byte na).1).2 ≠ 0 ∨ 4 < (bySet (z.byte na).1).1.lc + (bySet (z.byte na).1).1.lp) := by
    intro hc
    unfold L2.setting at hb
    rw [if_pos hc] at hb
    cases hb
  have hb1 : (z.byte na).2.bad = false := by
    unfold L2.setting at hb
    rw [if_neg hc] at hb
    exact hb
  obtain ⟨g1, g2, _, g3, g4⟩ := h.byte hs hb1 hB
  unfold L2.setting
  rw [g1, if_neg hc, if_neg hc]
  exact ⟨⟨⟨g2.c.H, g2.c.place, g2.c.cleft, g2.c.cbad, g2.c.cend, g2.c.taken, g2.c.dict, g2.c.left, g2.c.em, g2.c.stated, rfl, g2.c.ended, g2.c.bad⟩, g2.m, g2.m', g2.s⟩, ⟨rfl, rfl, rfl⟩, rfl, g3, g4⟩
/-- a setting that is good has read a byte. -/
theorem setting_ok {na : Nat → Int × Bool × Nat} (hu : ∀ s, (na s).2.1 = true → (na s).2.2 = s + 1) {z : L2 Nat} (hb : (z.setting na).bad = false) : z.bad = false ∧ (z.setting na).s = z.s + 1 := by
  have hc : ¬ ((bySet (z.byte na).1).2 ≠ 0 ∨ 4 < (bySet (z.byte na).1).1.lc + (bySet (z.byte na).1).1.lp) := by
    intro hc
    unfold L2.setting at hb
    rw [if_pos hc] at hb
    cases hb
  unfold L2.setting at hb ⊢
  rw [if_neg hc] at hb ⊢
  obtain ⟨k1, k2⟩ := byte_ok hu hb
  refine ⟨k1, ?_⟩
  show (z.byte na).2.s = _
  rw [k2]
/-- the cores are alike behind a reset. -/
theorem WC.reset {z z' : L2 Nat} (h : WC z z') (hs : SetC z z') : z'.c.reset z'.lc z'.lp z'.pb = z.c.reset z.lc z.lp z.pb := by
  obtain ⟨s1, s2, s3⟩ := hs
  obtain ⟨a1, a2, a3, a4, a5, a6, a7, _, _, _, _, _, _⟩ := h
  unfold LS.reset
  rw [s1, s2, s3, a1, a2, a3, a4, a5, a6, a7]
end Go.Proofs.Ytjnegcambbeblaa

/- lzma2, plain: a chunk's beginning over the other source. -/
namespace Go.Proofs.Ytjnegcambbeblaa
open Go.RowKit

/-- how far a chunk goes. -/
def L2.fin (z : L2 Nat) : Nat := match z.mode with
  | none => z.s + z.left
  | some rd => rd.src.s.1 + rd.src.s.2
structure W (e : Bool) (off B : Nat) (z z' : L2 Nat) : Prop where
  c : WC z z'
  core : e = true ∨ z.setted = true → Core z z'
  m : (z.mode = none ∧ z'.mode = none ∧ z'.s = z.s + off) ∨ (Core z z' ∧ ∃ rd rd', z.mode = some rd ∧ z'.mode = some rd' ∧ rd.bad = false ∧ Sim1 (RA off B) rd rd')
theorem fin_none {z : L2 Nat} (h : z.mode = none) : z.fin = z.s + z.left := by unfold L2.fin; rw [h]
theorem fin_some {z : L2 Nat} {rd : RD (AhS (Nat × Nat))} (h : z.mode = some rd) : z.fin = rd.src.s.1 + rd.src.s.2 := by unfold L2.fin; rw [h]
theorem new_fin {na : Nat → Int × Bool × Nat} (hu : ∀ s, (na s).2.1 = true → (na s).2.2 = s + 1) (s p : Nat) (hb : (RD.new (anx (lnx na)) ⟨(s, p), 0, false⟩).bad = false) : (RD.new (anx (lnx na)) ⟨(s, p), 0, false⟩).src.s.1 + (RD.new (anx (lnx na)) ⟨(s, p), 0, false⟩).src.s.2 = s + p :=
  (new_sim (selfA_sim hu (s + p)) (a := ⟨(s, p), 0, false⟩) (b := ⟨(s, p), 0, false⟩) ⟨⟨rfl, rfl⟩, rfl, rfl⟩ hb).1.1.2
theorem L2.plain_eq {S : Type} (nx : S → Int × Bool × S) (k : Int) (z : L2 S) (u : L2 S) (hu : u = if k = 1 then z.empty else z) : z.plain nx k = { (u.pair nx).2 with left := (u.pair nx).1, bad := (u.pair nx).2.bad || !(u.pair nx).2.emptied } := by
  subst hu
  rfl
theorem WN.plain {na nb : Nat → Int × Bool × Nat} {off B : Nat} (hs : Shf na nb off B) (hby : ∀ s, 0 ≤ (na s).1) {e : Bool} {z z' : L2 Nat} (h : WN off z z') (hc : e = true ∨ z.setted = true → Core z z') (k : Int) (hb : (z.plain na k).bad = false) (hB : (z.plain na k).fin ≤ B) :
    W e off B (z.plain na k) (z'.plain nb k) ∧ z.s ≤ (z.plain na k).fin := by
  obtain ⟨u, hu⟩ : ∃ u : L2 Nat, u = if k = 1 then z.empty else z := ⟨_, rfl⟩
  obtain ⟨u', hu'⟩ : ∃ u : L2 Nat, u = if k = 1 then z'.empty else z' := ⟨_, rfl⟩
  have hU : WN off u u' ∧ (e = true ∨ u.setted = true → Core u u') ∧ u.s = z.s := by
    rw [hu, hu']
    by_cases h1 : k = 1
    · rw [if_pos h1, if_pos h1]
      refine ⟨h.empty.1, fun q => ?_, rfl⟩
      rcases q with q | q
      · exact h.empty.2 (hc (.inl q))
      · cases q
    · rw [if_neg h1, if_neg h1]
      exact ⟨h, hc, rfl⟩
  rw [L2.plain_eq na k z u hu] at hb hB ⊢
  rw [L2.plain_eq nb k z' u' hu']
  have hb1 : (u.pair na).2.bad = false := (Bool.or_eq_false_iff.1 hb).1
  obtain ⟨p1, p2⟩ := pair_ok hs.up hb1
  have hm : ({ (u.pair na).2 with left := (u.pair na).1, bad := (u.pair na).2.bad || !(u.pair na).2.emptied } : L2 Nat).mode = none := hU.1.m
  have hl : 1 ≤ (u.pair na).1 := by
    have a1 := hby u.s
    have a2 := hby (u.byte na).2.s
    show 1 ≤ ((na u.s).1 * 256 + (na (u.byte na).2.s).1 + 1).toNat
    omega
  rw [fin_none hm] at hB ⊢
  have hB' : (u.pair na).2.s + (u.pair na).1 ≤ B := hB
  obtain ⟨g1, g2, g3, g4, g5⟩ := hU.1.pair hs hb1 (by omega)
  refine ⟨⟨⟨g2.c.H, g2.c.place, g2.c.cleft, g2.c.cbad, g2.c.cend, g2.c.taken, g2.c.dict, g1, g2.c.em, g2.c.stated, g2.c.setted, g2.c.ended, ?_⟩, fun q => ?_, .inl ⟨hm, hU.1.m', g2.s⟩⟩, ?_⟩
  · show ((u'.pair nb).2.bad || !(u'.pair nb).2.emptied) = ((u.pair na).2.bad || !(u.pair na).2.emptied)
    rw [g2.c.bad, g2.c.em]
  · exact g3 (hU.2.1 (by
      rcases q with q | q
      · exact .inl q
      · exact .inr q))
  · show z.s ≤ (u.pair na).2.s + (u.pair na).1
    have := hU.2.2
    omega
theorem WN.judge {off : Nat} {z z' : L2 Nat} (h : WN off z z') : WN off z.judge z'.judge := by
  refine ⟨⟨h.c.H, h.c.place, h.c.cleft, h.c.cbad, h.c.cend, h.c.taken, h.c.dict, h.c.left, h.c.em, h.c.stated, h.c.setted, h.c.ended, ?_⟩, h.m, h.m', h.s⟩
  show (z'.bad || (!z'.emptied || (!z'.setted || !z'.stated))) = (z.bad || (!z.emptied || (!z.setted || !z.stated)))
  rw [h.c.bad, h.c.em, h.c.setted, h.c.stated]
theorem WN.st3 {off : Nat} {z z' : L2 Nat} (how : Int) (h : WN off z z') : WN off (z.st3 how) (z'.st3 how) := by
  unfold L2.st3
  split
  · exact ⟨⟨h.c.H, h.c.place, h.c.cleft, h.c.cbad, h.c.cend, h.c.taken, h.c.dict, h.c.left, h.c.em, rfl, h.c.setted, h.c.ended, h.c.bad⟩, h.m, h.m', h.s⟩
  · exact h
end Go.Proofs.Ytjnegcambbeblaa

/- lzma2, plain: a packed chunk's beginning, and open, over the other source. -/
namespace Go.Proofs.Ytjnegcambbeblaa
open Go.RowKit

theorem WN.pack {na nb : Nat → Int × Bool × Nat} {off B : Nat} (hs : Shf na nb off B) (hby : ∀ s, 0 ≤ (na s).1) {e : Bool} {z z' : L2 Nat} (h : WN off z z') (hc : e = true ∨ z.setted = true → Core z z') (k : Int) (hb : (z.pack na k).bad = false) (hr : ∀ rd, (z.pack na k).mode = some rd → rd.bad = false) (hB : (z.pack na k).fin ≤ B) :
    W e off B (z.pack na k) (z'.pack nb k) ∧ z.s ≤ (z.pack na k).fin := by
  unfold L2.pack at hb hr hB ⊢
  obtain ⟨how, hhow⟩ : ∃ how, how = k / 32 - 4 := ⟨_, rfl⟩
  rw [← hhow] at hb hr hB ⊢
  obtain ⟨u0, hu0⟩ : ∃ u, u = z.st0 how := ⟨_, rfl⟩
  obtain ⟨v0, hv0⟩ : ∃ u, u = z'.st0 how := ⟨_, rfl⟩
  rw [← hu0] at hb hr hB ⊢
  rw [← hv0]
  have h0 : WN off u0 v0 ∧ u0.s = z.s ∧ (how ≠ 3 → u0 = z ∧ v0 = z') := by
    rw [hu0, hv0]
    unfold L2.st0
    by_cases h3 : how = 3
    · rw [if_pos h3, if_pos h3]
      exact ⟨h.empty.1, rfl, fun q => absurd h3 q⟩
    · rw [if_neg h3, if_neg h3]
      exact ⟨h, rfl, fun _ => ⟨rfl, rfl⟩⟩
  obtain ⟨w0, s0, q0⟩ := h0
  obtain ⟨u5, hu5⟩ : ∃ u, u = L2.judge (L2.st3 how (L2.st2 na how ((u0.pair na).2.pair na).2)) := ⟨_, rfl⟩
  obtain ⟨v5, hv5⟩ : ∃ u, u = L2.judge (L2.st3 how (L2.st2 nb how ((v0.pair nb).2.pair nb).2)) := ⟨_, rfl⟩
  rw [← hu5] at hb hr hB ⊢
  rw [← hv5]
  obtain ⟨pk, hpk⟩ : ∃ p, p = ((u0.pair na).2.pair na).1 := ⟨_, rfl⟩
  rw [← hpk] at hb hr hB ⊢
  have hpk1 : 1 ≤ pk := by
    rw [hpk]
    have a1 := hby (u0.pair na).2.s
    have a2 := hby ((u0.pair na).2.byte na).2.s
    show 1 ≤ ((na (u0.pair na).2.s).1 * 256 + (na ((u0.pair na).2.byte na).2.s).1 + 1).toNat
    omega
  -- the decoder is good ahead of the packed part
  have h5 : u5.bad = false := by
    cases hq : u5.bad
    · rfl
    · unfold L2.packEnd at hb
      rw [if_pos hq, hq] at hb
      cases hb
  have e5 : ∀ lf, u5.packEnd na how lf pk = u5.pack1 na how lf pk := fun lf => by
    unfold L2.packEnd
    rw [if_neg (by rw [h5]; decide)]
  rw [e5] at hr hB ⊢
  have hrd : (RD.new (anx (lnx na)) ⟨(u5.s, pk), 0, false⟩).bad = false := hr _ rfl
  have hfin : ∀ lf, (u5.pack1 na how lf pk).fin = u5.s + pk := fun lf => (fin_some (z := u5.pack1 na how lf pk) rfl).trans (new_fin hs.up u5.s pk hrd)
  rw [hfin] at hB ⊢
  -- what was read
  have hj : (L2.st3 how (L2.st2 na how ((u0.pair na).2.pair na).2)).bad = false ∧ (L2.st3 how (L2.st2 na how ((u0.pair na).2.pair na).2)).emptied = true ∧ (L2.st3 how (L2.st2 na how ((u0.pair na).2.pair na).2)).setted = true := by
    rw [hu5] at h5
    have h5' : ((L2.st3 how (L2.st2 na how ((u0.pair na).2.pair na).2)).bad || (!(L2.st3 how (L2.st2 na how ((u0.pair na).2.pair na).2)).emptied || (!(L2.st3 how (L2.st2 na how ((u0.pair na).2.pair na).2)).setted || !(L2.st3 how (L2.st2 na how ((u0.pair na).2.pair na).2)).stated))) = false := h5
    simp only [Bool.or_eq_false_iff, Bool.not_eq_false'] at h5'
    exact ⟨h5'.1, h5'.2.1, h5'.2.2.1⟩
  have h3b : (L2.st2 na how ((u0.pair na).2.pair na).2).bad = false := by
    have := hj.1
    unfold L2.st3 at this
    split at this <;> exact this
  have h3s : (L2.st2 na how ((u0.pair na).2.pair na).2).setted = true := by
    have := hj.2.2
    unfold L2.st3 at this
    split at this <;> exact this
  have h5s : u5.s = (L2.st2 na how ((u0.pair na).2.pair na).2).s := by
    rw [hu5]
    show (L2.st3 how _).s = _
    unfold L2.st3
    split <;> rfl
  have key : WN off u5 v5 ∧ SetC u5 v5 ∧ (how < 1 → v5.c = u5.c) ∧ ((v0.pair nb).1 = (u0.pair na).1) ∧ (((v0.pair nb).2.pair nb).1 = pk) ∧ z.s ≤ u5.s := by
    by_cases h2 : 2 ≤ how
    · have e2 : L2.st2 na how ((u0.pair na).2.pair na).2 = ((u0.pair na).2.pair na).2.setting na := if_pos h2
      have e2' : L2.st2 nb how ((v0.pair nb).2.pair nb).2 = ((v0.pair nb).2.pair nb).2.setting nb := if_pos h2
      rw [e2] at h3b h3s h5s
      obtain ⟨t1, t2⟩ := setting_ok hs.up h3b
      obtain ⟨t3, t4⟩ := pair_ok hs.up t1
      obtain ⟨t5, t6⟩ := pair_ok hs.up t3
      obtain ⟨a1, a2, a3, a4, a5⟩ := w0.pair hs t3 (by omega)
      obtain ⟨b1, b2, b3, b4, b5⟩ := a2.pair hs t1 (by omega)
      obtain ⟨c1, c2, c3, c4, c5⟩ := b2.setting hs h3b (by omega)
      rw [← e2, ← e2'] at c1 c2
      have d1 := (c1.st3 how).judge
      rw [← hu5, ← hv5] at d1
      refine ⟨d1, ?_, fun q => by omega, a1, by rw [b1, hpk], by omega⟩
      rw [hu5, hv5]
      have e3 : ∀ (u : L2 Nat), (L2.judge (L2.st3 how u)).lc = u.lc ∧ (L2.judge (L2.st3 how u)).lp = u.lp ∧ (L2.judge (L2.st3 how u)).pb = u.pb := fun u => by
        show (L2.st3 how u).lc = _ ∧ (L2.st3 how u).lp = _ ∧ (L2.st3 how u).pb = _
        unfold L2.st3
        split <;> exact ⟨rfl, rfl, rfl⟩
      unfold SetC
      rw [(e3 _).1, (e3 _).1, (e3 _).2.1, (e3 _).2.1, (e3 _).2.2, (e3 _).2.2]
      exact c2
    · have e2 : L2.st2 na how ((u0.pair na).2.pair na).2 = ((u0.pair na).2.pair na).2 := if_neg h2
      have e2' : L2.st2 nb how ((v0.pair nb).2.pair nb).2 = ((v0.pair nb).2.pair nb).2 := if_neg h2
      rw [e2] at h3b h3s h5s
      obtain ⟨t3, t4⟩ := pair_ok hs.up h3b
      obtain ⟨t5, t6⟩ := pair_ok hs.up t3
      obtain ⟨a1, a2, a3, a4, a5⟩ := w0.pair hs t3 (by omega)
      obtain ⟨b1, b2, b3, b4, b5⟩ := a2.pair hs h3b (by omega)
      obtain ⟨r1, r2⟩ := q0 (by omega)
      have hzs : z.setted = true := by rw [← r1]; exact h3s
      have hcore : Core u0 v0 := by rw [r1, r2]; exact hc (.inr hzs)
      obtain ⟨k1, k2, k3, k4⟩ := b3 (a3 hcore)
      have d1 := (b2.st3 how).judge
      rw [← e2, ← e2', ← hu5, ← hv5] at d1
      have e3 : ∀ (u : L2 Nat), (L2.judge (L2.st3 how u)).lc = u.lc ∧ (L2.judge (L2.st3 how u)).lp = u.lp ∧ (L2.judge (L2.st3 how u)).pb = u.pb ∧ (L2.judge (L2.st3 how u)).c = u.c := fun u => by
        show (L2.st3 how u).lc = _ ∧ (L2.st3 how u).lp = _ ∧ (L2.st3 how u).pb = _ ∧ (L2.st3 how u).c = _
        unfold L2.st3
        split <;> exact ⟨rfl, rfl, rfl, rfl⟩
      refine ⟨d1, ?_, fun _ => ?_, a1, by rw [b1, hpk], by omega⟩
      · rw [hu5, hv5, e2, e2']
        unfold SetC
        rw [(e3 _).1, (e3 _).1, (e3 _).2.1, (e3 _).2.1, (e3 _).2.2.1, (e3 _).2.2.1]
        exact ⟨k2, k3, k4⟩
      · rw [hu5, hv5, e2, e2', (e3 _).2.2.2, (e3 _).2.2.2]
        exact k1
  obtain ⟨w5, sc5, cc5, n1, n2, hp5⟩ := key
  rw [n1, n2]
  have v5b : v5.bad = false := w5.c.bad.trans h5
  obtain ⟨lf, hlf⟩ : ∃ lf, lf = (k % 32 * 65536 + ((u0.pair na).1 : Int)).toNat := ⟨_, rfl⟩
  rw [← hlf]
  have e5' : v5.packEnd nb how lf pk = v5.pack1 nb how lf pk := by
    unfold L2.packEnd
    rw [if_neg (by rw [v5b]; decide)]
  rw [e5']
  have hcc : (if 1 ≤ how then v5.c.reset v5.lc v5.lp v5.pb else v5.c) = if 1 ≤ how then u5.c.reset u5.lc u5.lp u5.pb else u5.c := by
    by_cases h1 : 1 ≤ how
    · rw [if_pos h1, if_pos h1]; exact w5.c.reset sc5
    · rw [if_neg h1, if_neg h1]; exact cc5 (by omega)
  have hcore : Core (u5.pack1 na how lf pk) (v5.pack1 nb how lf pk) := ⟨hcc, sc5.1, sc5.2.1, sc5.2.2⟩
  refine ⟨⟨⟨?_, ?_, ?_, ?_, ?_, ?_, ?_, rfl, w5.c.em, w5.c.stated, w5.c.setted, w5.c.ended, w5.c.bad⟩, fun _ => hcore, .inr ⟨hcore, _, _, rfl, rfl, hrd, ?_⟩⟩, by omega⟩
  · exact congrArg LS.H hcc
  · exact congrArg LS.place hcc
  · exact congrArg LS.left hcc
  · exact congrArg LS.bad hcc
  · exact congrArg LS.ended hcc
  · exact congrArg LS.taken hcc
  · exact congrArg LS.dict hcc
  · refine new_sim (an_sim hs) (a := ⟨(u5.s, pk), 0, false⟩) (b := ⟨(v5.s, pk), 0, false⟩) ⟨⟨?_, ?_⟩, rfl, rfl⟩ hrd
    · show (v5.s, pk) = (u5.s + off, pk)
      rw [w5.s]
    · show u5.s + pk ≤ B
      exact hB
end Go.Proofs.Ytjnegcambbeblaa

/- lzma2, plain: a chunk's beginning and open over the other source. -/
namespace Go.Proofs.Ytjnegcambbeblaa
open Go.RowKit

theorem WN.chunk1 {na nb : Nat → Int × Bool × Nat} {off B : Nat} (hs : Shf na nb off B) (hby : ∀ s, 0 ≤ (na s).1) {e : Bool} {z z' : L2 Nat} (h : WN off z z') (hc : e = true ∨ z.setted = true → Core z z') (k : Int) (hb : (z.chunk1 na k).bad = false) (he : (z.chunk1 na k).ended = false) (hr : ∀ rd, (z.chunk1 na k).mode = some rd → rd.bad = false) (hB : (z.chunk1 na k).fin ≤ B) :
    W e off B (z.chunk1 na k) (z'.chunk1 nb k) ∧ z.s ≤ (z.chunk1 na k).fin := by
  unfold L2.chunk1 at hb he hr hB ⊢
  by_cases h0 : z.bad = true
  · rw [if_pos h0] at hb; rw [h0] at hb; cases hb
  · rw [if_neg h0] at hb he hr hB ⊢
    rw [if_neg (show ¬ z'.bad = true by rw [h.c.bad]; exact h0)]
    by_cases h1 : k = 0
    · rw [if_pos h1] at he; cases he
    · rw [if_neg h1] at hb he hr hB ⊢
      rw [if_neg h1]
      by_cases h2 : k ≤ 2
      · rw [if_pos h2] at hb hB ⊢
        rw [if_pos h2]
        exact h.plain hs hby hc k hb hB
      · rw [if_neg h2] at hb he hr hB ⊢
        rw [if_neg h2]
        by_cases h3 : 128 ≤ k
        · rw [if_pos h3] at hb hr hB ⊢
          rw [if_pos h3]
          exact h.pack hs hby hc k hb hr hB
        · rw [if_neg h3] at hb; cases hb
/-- the same bytes, without an end. -/
def okNx (na : Nat → Int × Bool × Nat) (s : Nat) : Int × Bool × Nat := ((na s).1, true, s + 1)
theorem shf_ok {na : Nat → Int × Bool × Nat} (hu : ∀ s, (na s).2.1 = true → (na s).2.2 = s + 1) (B : Nat) : Shf na (okNx na) 0 B := ⟨fun _ _ => rfl, hu⟩
theorem chunk1_fin {na : Nat → Int × Bool × Nat} (hu : ∀ s, (na s).2.1 = true → (na s).2.2 = s + 1) (hby : ∀ s, 0 ≤ (na s).1) {z : L2 Nat} (hm : z.mode = none) (k : Int) (hb : (z.chunk1 na k).bad = false) (he : (z.chunk1 na k).ended = false) (hr : ∀ rd, (z.chunk1 na k).mode = some rd → rd.bad = false) :
    z.s ≤ (z.chunk1 na k).fin :=
  (WN.chunk1 (e := true) (z' := z) (shf_ok hu _) hby ⟨⟨rfl, rfl, rfl, rfl, rfl, rfl, rfl, rfl, rfl, rfl, rfl, rfl, rfl⟩, hm, hm, rfl⟩ (fun _ => ⟨rfl, rfl, rfl, rfl⟩) k hb he hr (Nat.le_refl _)).2
theorem WN.chunk {na nb : Nat → Int × Bool × Nat} {off B : Nat} (hs : Shf na nb off B) (hby : ∀ s, 0 ≤ (na s).1) {e : Bool} {z z' : L2 Nat} (h : WN off z.idle z'.idle) (hc : e = true ∨ z.setted = true → Core z z') (hb : (z.chunk na).bad = false) (he : (z.chunk na).ended = false) (hr : ∀ rd, (z.chunk na).mode = some rd → rd.bad = false) (hB : (z.chunk na).fin ≤ B) :
    W e off B (z.chunk na) (z'.chunk nb) ∧ z.src + 1 ≤ (z.chunk na).fin := by
  unfold L2.chunk at hb he hr hB ⊢
  have hb1 : (z.idle.byte na).2.bad = false := by
    cases hq : (z.idle.byte na).2.bad
    · rfl
    · unfold L2.chunk1 at hb
      rw [if_pos hq] at hb
      exact absurd (hq.symm.trans hb) (by decide)
  obtain ⟨_, q⟩ := byte_ok hs.up hb1
  have hs1 : (z.idle.byte na).2.s = z.src + 1 := by rw [q]; rfl
  have hf := chunk1_fin hs.up hby (z := (z.idle.byte na).2) rfl _ hb he hr
  obtain ⟨g1, g2, g3, g4, g5⟩ := h.byte hs hb1 (by show z.src < B; omega)
  rw [g1]
  exact ⟨(g2.chunk1 hs hby (fun q => g3 (hc q)) _ hb he hr hB).1, by omega⟩
theorem src_none {z : L2 Nat} (h : z.mode = none) : z.src = z.s := by unfold L2.src; rw [h]
theorem src_some {z : L2 Nat} {rd : RD (AhS (Nat × Nat))} (h : z.mode = some rd) : z.src = rd.src.s.1 := by unfold L2.src; rw [h]
theorem W.idle {e : Bool} {off B : Nat} {z z' : L2 Nat} (h : W e off B z z') (hl : z.left = 0) (hk : z.closed = true) : WN off z.idle z'.idle ∧ z'.closed = true ∧ z.fin = z.src := by
  have hc : WC z.idle z'.idle := ⟨h.c.H, h.c.place, h.c.cleft, h.c.cbad, h.c.cend, h.c.taken, h.c.dict, h.c.left, h.c.em, h.c.stated, h.c.setted, h.c.ended, h.c.bad⟩
  rcases h.m with ⟨m1, m2, m3⟩ | ⟨hC, rd, rd', m1, m2, m3, ⟨⟨e1, e2⟩, e3, e4⟩, e5, e6, e7⟩
  · refine ⟨⟨hc, rfl, rfl, ?_⟩, ?_, ?_⟩
    · show z'.src = z.src + off
      rw [src_none m1, src_none m2, m3]
    · unfold L2.closed
      rw [m2]
    · rw [fin_none m1, src_none m1, hl]
      rfl
  · unfold L2.closed at hk ⊢
    rw [m1] at hk
    rw [m2]
    dsimp only at hk ⊢
    obtain ⟨k1, k2⟩ := Bool.and_eq_true_iff.1 hk
    have k2' : rd.src.s.2 = 0 := of_decide_eq_true k2
    refine ⟨⟨hc, rfl, rfl, ?_⟩, ?_, ?_⟩
    · show z'.src = z.src + off
      rw [src_some m1, src_some m2, e1]
    · unfold lwhole RD.done at k1 ⊢
      rw [hC.1, e6, e7, e1, k1]
      exact k2
    · rw [fin_some m1, src_some m1, k2']
      rfl
theorem W.open_ {na nb : Nat → Int × Bool × Nat} {off B : Nat} (hs : Shf na nb off B) (hby : ∀ s, 0 ≤ (na s).1) {e : Bool} {z z' : L2 Nat} (h : W e off B z z') (ho : (z.open_ na).1 = true) (hr : ∀ rd, (z.open_ na).2.mode = some rd → rd.bad = false) (hB : (z.open_ na).2.fin ≤ B) :
    (z'.open_ nb).1 = true ∧ W e off B (z.open_ na).2 (z'.open_ nb).2 ∧ z.fin ≤ (z.open_ na).2.fin := by
  unfold L2.open_ at ho hr hB ⊢
  by_cases h0 : z.bad = true ∨ z.ended = true
  · rw [if_pos h0] at ho; cases ho
  · rw [if_neg h0] at ho hr hB ⊢
    rw [if_neg (show ¬ (z'.bad = true ∨ z'.ended = true) by rw [h.c.bad, h.c.ended]; exact h0)]
    by_cases hl : z.left = 0
    · rw [if_pos hl] at ho hr hB ⊢
      rw [if_pos (h.c.left.trans hl)]
      by_cases hk : z.closed = true
      · rw [if_pos hk] at ho hr hB ⊢
        obtain ⟨hid, hk', hfin⟩ := h.idle hl hk
        rw [if_pos hk']
        have ho' : (!(z.chunk na).bad && !(z.chunk na).ended) = true := ho
        simp only [Bool.and_eq_true, Bool.not_eq_true'] at ho'
        obtain ⟨g1, g2⟩ := hid.chunk hs hby h.core ho'.1 ho'.2 hr hB
        refine ⟨?_, g1, ?_⟩
        · show (!(z'.chunk nb).bad && !(z'.chunk nb).ended) = true
          rw [g1.c.bad, g1.c.ended]
          exact ho
        · show z.fin ≤ (z.chunk na).fin
          omega
      · rw [if_neg hk] at ho; cases ho
    · rw [if_neg hl] at ho hr hB ⊢
      rw [if_neg (show ¬ z'.left = 0 by rw [h.c.left]; exact hl)]
      exact ⟨rfl, h, Nat.le_refl _⟩
end Go.Proofs.Ytjnegcambbeblaa

/- lzma2, plain: a step and a run over the other source. -/
namespace Go.Proofs.Ytjnegcambbeblaa
open Go.RowKit

theorem lnext_told {A : Type} (nx : A → Int × Bool × A) (L : LL) (s : LS) (d : RD A) (hl : s.left = 0) (h : (lnext nx L s d).1.2 = true) : d.bad = false := by
  have hs : SimS Eq nx nx := ⟨fun a b hab ho => by subst hab; exact ⟨rfl, ho, rfl⟩⟩
  have hb : (lpacket nx L s d).2.2.bad = false := by
    cases hq : (lpacket nx L s d).2.2.bad
    · rfl
    · obtain ⟨g1, g2, _⟩ := packet_bad (na := nx) L s d hl hq
      unfold lnext at h
      by_cases h0 : s.bad = true ∨ s.ended = true
      · rw [if_pos h0] at h; cases h
      · rw [if_neg h0, if_pos hl, if_neg (by rw [g1]; decide)] at h
        unfold lnext2 at h
        rw [if_pos g2] at h
        cases h
  cases hq : d.bad
  · rfl
  · exact (bad_not hb (packet_stk hs L s d hq)).elim
theorem L2.take_some {S : Type} (nx : S → Int × Bool × S) (L : LL) {y : L2 S} {rd : RD (AhS (S × Nat))} (h : y.mode = some rd) :
    y.take nx L = ((lnext (anx (lnx nx)) L y.c rd).1, { y with c := (lnext (anx (lnx nx)) L y.c rd).2.1, mode := some (lnext (anx (lnx nx)) L y.c rd).2.2, bad := !(lnext (anx (lnx nx)) L y.c rd).1.2 }) := by
  unfold L2.take
  split
  · rename_i h'; rw [h] at h'; cases h'
  · rename_i rd' h'
    rw [h] at h'
    injection h' with h'
    subst h'
    rfl
theorem take_byte {S : Type} (nx : S → Int × Bool × S) (L : LL) {y : L2 S} (hm : y.mode = none) (h : (y.take nx L).1.2 = true) : (y.byte nx).2.bad = false := by
  cases hq : (y.byte nx).2.bad
  · rfl
  · unfold L2.take at h
    split at h
    · rw [if_pos hq] at h; cases h
    · rename_i rd h'; rw [hm] at h'; cases h'
theorem take_fin {na : Nat → Int × Bool × Nat} (hu : ∀ s, (na s).2.1 = true → (na s).2.2 = s + 1) (L : LL) {y : L2 Nat} (hr : ∀ rd, y.mode = some rd → rd.bad = false) (ht : (({ y with left := y.left - 1 } : L2 Nat).take na L).1.2 = true) :
    y.fin ≤ (({ y with left := y.left - 1 } : L2 Nat).take na L).2.fin ∧ (y.mode = none → y.s + 1 ≤ (({ y with left := y.left - 1 } : L2 Nat).take na L).2.fin) := by
  obtain ⟨y1, hy1⟩ : ∃ y1, y1 = ({ y with left := y.left - 1 } : L2 Nat) := ⟨_, rfl⟩
  have q1 : y1.mode = y.mode := by rw [hy1]
  have q2 : y1.s = y.s := by rw [hy1]
  have q3 : y1.left = y.left - 1 := by rw [hy1]
  rw [← hy1] at ht ⊢
  clear hy1
  rcases hm : y.mode with _ | rd
  · rw [hm] at q1
    have hb := take_byte na L q1 ht
    obtain ⟨_, q⟩ := byte_ok hu hb
    have e : (y1.take na L).2.fin = y1.s + 1 + y1.left := by
      rw [L2.take_none na L _ q1 hb, q]
      exact fin_none q1
    rw [e, fin_none hm]
    exact ⟨by omega, fun _ => by omega⟩
  · rw [hm] at q1
    rw [L2.take_some na L q1] at ht ⊢
    have hg := lnext_good (anx (lnx na)) L y1.c rd (fun _ => hr rd hm) ht
    have E := lnext_sim (selfA_sim hu (rd.src.s.1 + rd.src.s.2)) L y1.c (d := rd) (d' := rd) (fun _ => ⟨⟨⟨rfl, rfl⟩, rfl, rfl⟩, rfl, rfl, rfl⟩) ht
    have e := (E.2.2 hg).1.1.2
    rw [fin_some hm, fin_some rfl]
    exact ⟨Nat.le_of_eq e.symm, fun e => by cases e⟩
theorem W.take {na nb : Nat → Int × Bool × Nat} {off B : Nat} (hs : Shf na nb off B) (L : LL) {e : Bool} {y y' : L2 Nat} (h : W e off B y y') (ht : (({ y with left := y.left - 1 } : L2 Nat).take na L).1.2 = true) (hB : (({ y with left := y.left - 1 } : L2 Nat).take na L).2.fin ≤ B) :
    (({ y' with left := y'.left - 1 } : L2 Nat).take nb L).1 = (({ y with left := y.left - 1 } : L2 Nat).take na L).1 ∧ W e off B (({ y with left := y.left - 1 } : L2 Nat).take na L).2 (({ y' with left := y'.left - 1 } : L2 Nat).take nb L).2 := by
  have hl : y'.left - 1 = y.left - 1 := by rw [h.c.left]
  rcases h.m with ⟨m1, m2, m3⟩ | ⟨hC, rd, rd', m1, m2, m3, m4⟩
  · obtain ⟨_, f2⟩ := take_fin hs.up L (fun rd hm => by rw [m1] at hm; cases hm) ht
    have f3 := f2 m1
    obtain ⟨y1, hy1⟩ : ∃ y1, y1 = ({ y with left := y.left - 1 } : L2 Nat) := ⟨_, rfl⟩
    obtain ⟨y2, hy2⟩ : ∃ y1, y1 = ({ y' with left := y'.left - 1 } : L2 Nat) := ⟨_, rfl⟩
    have hw : WN off y1 y2 ∧ y1.mode = none ∧ y2.mode = none ∧ y1.s = y.s ∧ (Core y y' → Core y1 y2) ∧ y1.setted = y.setted := by
      rw [hy1, hy2]
      exact ⟨⟨⟨h.c.H, h.c.place, h.c.cleft, h.c.cbad, h.c.cend, h.c.taken, h.c.dict, hl, h.c.em, h.c.stated, h.c.setted, h.c.ended, h.c.bad⟩, m1, m2, m3⟩, m1, m2, rfl, fun q => q, rfl⟩
    rw [← hy1] at ht hB f3 ⊢
    rw [← hy2]
    obtain ⟨w1, w2, w3, w4, w5, w6⟩ := hw
    have hb := take_byte na L w2 ht
    obtain ⟨g1, g2, g3, g4, g5⟩ := w1.byte hs hb (by omega)
    have hb' : (y2.byte nb).2.bad = false := g2.c.bad.trans hb
    rw [L2.take_none na L _ w2 hb, L2.take_none nb L _ w3 hb']
    refine ⟨by show ((y2.byte nb).1, true) = ((y1.byte na).1, true); rw [g1], ⟨⟨?_, ?_, w1.c.cleft, w1.c.cbad, w1.c.cend, w1.c.taken, w1.c.dict, g2.c.left, g2.c.em, g2.c.stated, g2.c.setted, g2.c.ended, g2.c.bad⟩, fun q => ?_, .inl ⟨w2, w3, g2.s⟩⟩⟩
    · show y2.c.H ++ [(y2.byte nb).1] = y1.c.H ++ [(y1.byte na).1]
      rw [g1, w1.c.H]
    · show y2.c.place + 1 = y1.c.place + 1
      rw [w1.c.place]
    · obtain ⟨c1, c2, c3, c4⟩ := w5 (h.core (by
        rcases q with q | q
        · exact .inl q
        · exact .inr (w6 ▸ q)))
      refine ⟨?_, c2, c3, c4⟩
      show lputS y2.c (y2.byte nb).1 = lputS y1.c (y1.byte na).1
      rw [g1, c1]
  · have n1 : ({ y with left := y.left - 1 } : L2 Nat).mode = some rd := m1
    have n2 : ({ y' with left := y'.left - 1 } : L2 Nat).mode = some rd' := m2
    rw [L2.take_some na L n1] at ht hB ⊢
    rw [L2.take_some nb L n2]
    have hg := lnext_good (anx (lnx na)) L y.c rd (fun _ => m3) ht
    obtain ⟨e1, e2, e3⟩ := lnext_sim (an_sim hs) L y.c (fun _ => m4) ht
    obtain ⟨c1, c2, c3, c4⟩ := hC
    have E1 : (lnext (anx (lnx nb)) L y'.c rd').1 = (lnext (anx (lnx na)) L y.c rd).1 := by rw [c1]; exact e1
    have E2 : (lnext (anx (lnx nb)) L y'.c rd').2.1 = (lnext (anx (lnx na)) L y.c rd).2.1 := by rw [c1]; exact e2
    have E3 : Sim1 (RA off B) (lnext (anx (lnx na)) L y.c rd).2.2 (lnext (anx (lnx nb)) L y'.c rd').2.2 := by rw [c1]; exact e3 hg
    refine ⟨E1, ⟨⟨congrArg LS.H E2, congrArg LS.place E2, congrArg LS.left E2, congrArg LS.bad E2, congrArg LS.ended E2, congrArg LS.taken E2, congrArg LS.dict E2, hl, h.c.em, h.c.stated, h.c.setted, h.c.ended, ?_⟩, fun _ => ⟨E2, c2, c3, c4⟩, .inr ⟨⟨E2, c2, c3, c4⟩, _, _, rfl, rfl, hg, E3⟩⟩⟩
    show (!(lnext (anx (lnx nb)) L y'.c rd').1.2) = (!(lnext (anx (lnx na)) L y.c rd).1.2)
    rw [E1]
/-- the decoder of the chunk that is on is good. -/
def L2.RdOk (z : L2 Nat) : Prop := ∀ rd, z.mode = some rd → rd.bad = false
theorem W.ok {e : Bool} {off B : Nat} {z z' : L2 Nat} (h : W e off B z z') : z.RdOk := by
  intro rd hm
  rcases h.m with ⟨m1, _⟩ | ⟨_, rd1, _, m1, _, m3, _⟩
  · rw [m1] at hm; cases hm
  · rw [m1] at hm; injection hm with hm; subst hm; exact m3
/-- what stands behind open is good, if the step tells. -/
theorem open_ok {na : Nat → Int × Bool × Nat} (L : LL) {z : L2 Nat} (hG : z.Good L) (hz : z.RdOk) (ho : (z.open_ na).1 = true) (ht : (({ (z.open_ na).2 with left := (z.open_ na).2.left - 1 } : L2 Nat).take na L).1.2 = true) : (z.open_ na).2.RdOk := by
  intro rd hm
  by_cases h0 : z.bad = true ∨ z.ended = true
  · unfold L2.open_ at ho; rw [if_pos h0] at ho; cases ho
  · by_cases hl : z.left = 0
    · by_cases hk : z.closed = true
      · have hy : (z.open_ na).2 = z.chunk na := by
          unfold L2.open_
          rw [if_neg h0, if_pos hl, if_pos hk]
        have n1 : ({ (z.open_ na).2 with left := (z.open_ na).2.left - 1 } : L2 Nat).mode = some rd := hm
        rw [L2.take_some na L n1] at ht
        refine lnext_told (anx (lnx na)) L (z.open_ na).2.c rd ?_ ht
        rw [hy]
        exact (L2.chunk_c na (z := z)).1.trans (L2.closed_left hG hk)
      · unfold L2.open_ at ho; rw [if_neg h0, if_pos hl, if_neg hk] at ho; cases ho
    · have hy : (z.open_ na).2 = z := by
        unfold L2.open_
        rw [if_neg h0, if_neg hl]
      rw [hy] at hm
      exact hz rd hm
theorem W.next {na nb : Nat → Int × Bool × Nat} {off B : Nat} (hs : Shf na nb off B) (hby : ∀ s, 0 ≤ (na s).1) (L : LL) {e : Bool} {z z' : L2 Nat} (hG : z.Good L) (h : W e off B z z') (hn : (z.next na L).1.2 = true) (hB : (z.next na L).2.fin ≤ B) :
    (z'.next nb L).1 = (z.next na L).1 ∧ W e off B (z.next na L).2 (z'.next nb L).2 ∧ z.fin ≤ (z.next na L).2.fin := by
  have ho := L2.next_open na L z hn
  have en := L2.next_of_open L (Prod.ext ho rfl : z.open_ na = (true, (z.open_ na).2))
  rw [en] at hn hB ⊢
  have hr := open_ok L hG h.ok ho hn
  obtain ⟨f1, _⟩ := take_fin hs.up L hr hn
  obtain ⟨g1, g2, g3⟩ := h.open_ hs hby ho hr (by omega)
  rw [L2.next_of_open L (Prod.ext g1 rfl : z'.open_ nb = (true, (z'.open_ nb).2))]
  obtain ⟨k1, k2⟩ := g2.take hs L hn hB
  exact ⟨k1, k2, by omega⟩
/-- a decoder is like itself, over the same bytes. -/
theorem W.self {z : L2 Nat} (hz : z.RdOk) {B : Nat} (hB : z.fin ≤ B) : W true 0 B z z := by
  refine ⟨⟨rfl, rfl, rfl, rfl, rfl, rfl, rfl, rfl, rfl, rfl, rfl, rfl, rfl⟩, fun _ => ⟨rfl, rfl, rfl, rfl⟩, ?_⟩
  have key : z.mode = none ∨ ∃ rd, z.mode = some rd := by
    cases z.mode with
    | none => exact .inl rfl
    | some rd => exact .inr ⟨rd, rfl⟩
  rcases key with hm | ⟨rd, hm⟩
  · exact .inl ⟨hm, hm, rfl⟩
  · rw [fin_some hm] at hB
    exact .inr ⟨⟨rfl, rfl, rfl, rfl⟩, rd, rd, hm, hm, hz rd hm, ⟨⟨rfl, hB⟩, rfl, rfl⟩, rfl, rfl, rfl⟩
theorem next_fin {na : Nat → Int × Bool × Nat} (hu : ∀ s, (na s).2.1 = true → (na s).2.2 = s + 1) (hby : ∀ s, 0 ≤ (na s).1) (L : LL) {z : L2 Nat} (hG : z.Good L) (hz : z.RdOk) (hn : (z.next na L).1.2 = true) : z.fin ≤ (z.next na L).2.fin ∧ (z.next na L).2.RdOk := by
  obtain ⟨_, h2, h3⟩ := (W.self hz (B := max z.fin (z.next na L).2.fin) (Nat.le_max_left _ _)).next (shf_ok hu _) hby L hG hn (Nat.le_max_right _ _)
  exact ⟨h3, h2.ok⟩
theorem tells_fin {na : Nat → Int × Bool × Nat} (hu : ∀ s, (na s).2.1 = true → (na s).2.2 = s + 1) (hby : ∀ s, 0 ≤ (na s).1) (L : LL) : ∀ (xs : List Int) {z zn : L2 Nat}, z.Inv L → z.RdOk → Tells na L z xs zn → z.fin ≤ zn.fin ∧ zn.Inv L ∧ zn.RdOk
  | [], z, zn, hI, hz, h => by
    have e : zn = z := h
    rw [e]
    exact ⟨Nat.le_refl _, hI, hz⟩
  | x :: xs, z, zn, hI, hz, h => by
    obtain ⟨h1, h2⟩ := h
    obtain ⟨g1, g2⟩ := next_fin hu hby L hI.good hz (congrArg Prod.snd h1)
    obtain ⟨k1, k2, k3⟩ := tells_fin hu hby L xs (L2.next_inv na L hI) g2 h2
    exact ⟨Nat.le_trans g1 k1, k2, k3⟩
/-- a run over the other source. -/
theorem W.tells {na nb : Nat → Int × Bool × Nat} {off B : Nat} (hs : Shf na nb off B) (hby : ∀ s, 0 ≤ (na s).1) (L : LL) {e : Bool} : ∀ (xs : List Int) {z z' zn : L2 Nat}, z.Inv L → W e off B z z' → Tells na L z xs zn → zn.fin ≤ B → ∃ zn', Tells nb L z' xs zn' ∧ W e off B zn zn'
  | [], z, z', zn, hI, h, ht, hB => by
    have e : zn = z := ht
    rw [e]
    exact ⟨z', rfl, h⟩
  | x :: xs, z, z', zn, hI, h, ht, hB => by
    obtain ⟨h1, h2⟩ := ht
    have hn := congrArg Prod.snd h1
    obtain ⟨_, q⟩ := next_fin hs.up hby L hI.good h.ok hn
    have hI' := L2.next_inv na L hI
    obtain ⟨k1, _⟩ := tells_fin hs.up hby L xs hI' q h2
    obtain ⟨g1, g2, _⟩ := h.next hs hby L hI.good hn (Nat.le_trans k1 hB)
    obtain ⟨zn', t1, t2⟩ := W.tells hs hby L xs hI' g2 h2 hB
    exact ⟨zn', ⟨g1.trans h1, t1⟩, t2⟩
end Go.Proofs.Ytjnegcambbeblaa

/- lzma2, plain: what a run that tells leaves clear; the stream's end; rings of a run. -/
namespace Go.Proofs.Ytjnegcambbeblaa
open Go.RowKit

theorem lpEnd_clear {S : Type} (L : LL) (s : LS) (d : RD S) (h : (lpEnd L s d).left ≠ 0) : (lpEnd L s d).bad = false ∧ (lpEnd L s d).ended = false := by
  unfold lpEnd at h ⊢
  by_cases h1 : ((s.bad || d.bad) || s.ended) = true
  · rw [if_pos h1] at h; exact absurd rfl h
  · rw [if_neg h1] at h ⊢
    have h1' : ((s.bad || d.bad) || s.ended) = false := by simpa using h1
    obtain ⟨e1, e2⟩ := Bool.or_eq_false_iff.1 h1'
    by_cases h2 : s.dict ≤ s.rep 0 ∨ ¬ s.rep 0 < min s.H.length L.n
    · rw [if_pos h2] at h; exact absurd rfl h
    · rw [if_neg h2]
      exact ⟨e1, e2⟩
theorem packet_clear {S : Type} (nx : S → Int × Bool × S) (L : LL) (s : LS) (d : RD S) (hl : s.left = 0) (he : s.ended = false) (h : (lpacket nx L s d).1.2 = true ∨ (lpacket nx L s d).2.1.left ≠ 0) :
    (lpacket nx L s d).2.1.bad = false ∧ (lpacket nx L s d).2.1.ended = false := by
  unfold lpacket at h ⊢
  dsimp only at h ⊢
  split
  · rename_i h0
    rw [if_pos h0] at h
    rcases h with h | h
    · refine ⟨?_, he⟩
      have h' : (!_) = true := h
      simpa using h'
    · exact absurd hl h
  · rename_i h0
    rw [if_neg h0] at h
    split
    · rename_i h1
      rw [if_pos h1] at h
      rcases h with h | h
      · cases h
      · exact lpEnd_clear _ _ _ h
    · rename_i h1
      rw [if_neg h1] at h
      split
      · rename_i h2
        rw [if_pos h2] at h
        rcases h with h | h
        · cases h
        · exact lpEnd_clear _ _ _ h
      · rename_i h2
        rw [if_neg h2] at h
        rcases h with h | h
        · cases h
        · exact lpEnd_clear _ _ _ h
theorem lnext2_clear {S : Type} (L : LL) (s : LS) (d : RD S) : (lnext2 L s d).2.1.bad = s.bad ∧ (lnext2 L s d).2.1.ended = s.ended ∧ ((lnext2 L s d).1.2 = true → s.left ≠ 0) := by
  unfold lnext2
  split
  · exact ⟨rfl, rfl, fun h => by cases h⟩
  · rename_i h; exact ⟨rfl, rfl, fun _ => h⟩
theorem lnext_clear {S : Type} (nx : S → Int × Bool × S) (L : LL) (s : LS) (d : RD S) (h : (lnext nx L s d).1.2 = true) : (lnext nx L s d).2.1.bad = false ∧ (lnext nx L s d).2.1.ended = false := by
  obtain ⟨k1, k2⟩ := lnext_keep nx L s d h
  unfold lnext at h ⊢
  split
  · rename_i h0; rw [if_pos h0] at h; cases h
  · rename_i h0
    rw [if_neg h0] at h
    split
    · rename_i h1
      rw [if_pos h1] at h
      split
      · rename_i h2
        exact packet_clear nx L s d h1 k2 (.inl h2)
      · rename_i h2
        rw [if_neg h2] at h
        obtain ⟨e1, e2, e3⟩ := lnext2_clear L (lpacket nx L s d).2.1 (lpacket nx L s d).2.2
        rw [e1, e2]
        exact packet_clear nx L s d h1 k2 (.inr (e3 h))
    · obtain ⟨e1, e2, _⟩ := lnext2_clear L s d
      rw [e1, e2]
      exact ⟨k1, k2⟩
/-- what a chunk's beginning leaves of the core. -/
structure KeepC (c c' : LS) : Prop where
  taken : c'.taken = c.taken
  dict : c'.dict = c.dict
  bad : c'.bad = c.bad
  ended : c'.ended = c.ended
theorem KeepC.refl (c : LS) : KeepC c c := ⟨rfl, rfl, rfl, rfl⟩
theorem L2.chunk1_keep {S : Type} (nx : S → Int × Bool × S) (k : Int) (y : L2 S) : KeepC y.c (y.chunk1 nx k).c := by
  unfold L2.chunk1
  split
  · exact .refl _
  · split
    · exact .refl _
    · split
      · unfold L2.plain
        dsimp only
        show KeepC y.c (if k = 1 then y.empty else y).c
        split <;> exact ⟨rfl, rfl, rfl, rfl⟩
      · split
        · have h0 : KeepC y.c (y.st0 (k / 32 - 4)).c := by unfold L2.st0; split <;> exact ⟨rfl, rfl, rfl, rfl⟩
          have e : ∀ y : L2 S, (L2.judge (L2.st3 (k / 32 - 4) (L2.st2 nx (k / 32 - 4) y))).c = y.c := fun y => by
            show (L2.st3 (k / 32 - 4) (L2.st2 nx (k / 32 - 4) y)).c = _
            rw [L2.st3_c, L2.st2_c]
          unfold L2.pack L2.packEnd
          split
          · rw [e]; exact h0
          · unfold L2.pack1
            dsimp only
            rw [e]
            split
            · exact ⟨h0.1, h0.2, h0.3, h0.4⟩
            · exact h0
        · exact .refl _
theorem L2.open_keep {S : Type} (nx : S → Int × Bool × S) (z : L2 S) : KeepC z.c (z.open_ nx).2.c := by
  unfold L2.open_
  split
  · exact .refl _
  · split
    · split
      · exact L2.chunk1_keep nx (z.idle.byte nx).1 (z.idle.byte nx).2
      · exact .refl _
    · exact .refl _
/-- nothing is bad, nothing has ended; the core's own are as New made them. -/
structure Clear (p : Nat) {S : Type} (z : L2 S) : Prop where
  ended : z.ended = false
  bad : z.bad = false
  cbad : z.c.bad = false
  cend : z.c.ended = false
  taken : z.c.taken = (set2 p).need
  dict : z.c.dict = (lstart (set2 p)).dict
theorem start_clear {S : Type} (p : Nat) (s0 : S) : Clear p (l2start p s0) := ⟨rfl, rfl, rfl, rfl, rfl, rfl⟩
theorem open_clear {S : Type} (nx : S → Int × Bool × S) (z : L2 S) (ho : (z.open_ nx).1 = true) : (z.open_ nx).2.bad = false ∧ (z.open_ nx).2.ended = false := by
  unfold L2.open_ at ho ⊢
  by_cases h0 : z.bad = true ∨ z.ended = true
  · rw [if_pos h0] at ho; cases ho
  · rw [if_neg h0] at ho ⊢
    by_cases hl : z.left = 0
    · rw [if_pos hl] at ho ⊢
      by_cases hk : z.closed = true
      · rw [if_pos hk] at ho ⊢
        have ho' : (!(z.chunk nx).bad && !(z.chunk nx).ended) = true := ho
        simp only [Bool.and_eq_true, Bool.not_eq_true'] at ho'
        exact ho'
      · rw [if_neg hk] at ho; cases ho
    · rw [if_neg hl]
      exact ⟨by simpa using fun e => h0 (.inl e), by simpa using fun e => h0 (.inr e)⟩
theorem next_clear {S : Type} {nx : S → Int × Bool × S} (L : LL) {p : Nat} {z : L2 S} (h : Clear p z) (hn : (z.next nx L).1.2 = true) : Clear p (z.next nx L).2 := by
  have ho := L2.next_open nx L z hn
  have hk := L2.open_keep nx z
  obtain ⟨o1, o2⟩ := open_clear nx z ho
  have en := L2.next_of_open L (Prod.ext ho rfl : z.open_ nx = (true, (z.open_ nx).2))
  rw [en] at hn ⊢
  obtain ⟨y, hy⟩ : ∃ y, y = ({ (z.open_ nx).2 with left := (z.open_ nx).2.left - 1 } : L2 S) := ⟨_, rfl⟩
  have hc : y.c = (z.open_ nx).2.c := by rw [hy]
  have h1 : y.bad = false := by rw [hy]; exact o1
  have h2 : y.ended = false := by rw [hy]; exact o2
  rw [← hy] at hn ⊢
  rw [← hc] at hk
  cases hm : y.mode with
  | none =>
    have hb := take_byte nx L hm hn
    rw [L2.take_none nx L y hm hb]
    exact ⟨h2, hb, hk.bad.trans h.cbad, hk.ended.trans h.cend, hk.taken.trans h.taken, hk.dict.trans h.dict⟩
  | some rd =>
    rw [L2.take_some nx L hm] at hn ⊢
    obtain ⟨g1, g2⟩ := lnext_clear (anx (lnx nx)) L y.c rd hn
    obtain ⟨g3, g4⟩ := lnext_same (anx (lnx nx)) L y.c rd
    have hn' : (lnext (anx (lnx nx)) L y.c rd).1.2 = true := hn
    exact ⟨h2, by show (!(lnext (anx (lnx nx)) L y.c rd).1.2) = false; rw [hn']; rfl, g1, g2, g3.trans (hk.taken.trans h.taken), g4.trans (hk.dict.trans h.dict)⟩
theorem tells_clear {S : Type} {nx : S → Int × Bool × S} (L : LL) {p : Nat} : ∀ (xs : List Int) {z zn : L2 S}, Clear p z → Tells nx L z xs zn → Clear p zn
  | [], z, zn, h, ht => by
    have e : zn = z := ht
    rw [e]
    exact h
  | x :: xs, z, zn, h, ht => tells_clear L xs (next_clear L h (congrArg Prod.snd ht.1)) ht.2
/-- the chunk that ends the stream. -/
theorem chunk1_end {S : Type} (nx : S → Int × Bool × S) (k : Int) (z : L2 S) (hz : z.ended = false) (hb : (z.chunk1 nx k).bad = false) (he : (z.chunk1 nx k).ended = true) : k = 0 ∧ z.chunk1 nx k = { z with ended := true } ∧ z.bad = false := by
  unfold L2.chunk1 at hb he ⊢
  by_cases h0 : z.bad = true
  · rw [if_pos h0, h0] at hb; cases hb
  · rw [if_neg h0] at hb he ⊢
    by_cases h1 : k = 0
    · rw [if_pos h1]
      exact ⟨h1, rfl, by simpa using h0⟩
    · rw [if_neg h1] at hb he ⊢
      exfalso
      by_cases h2 : k ≤ 2
      · rw [if_pos h2] at he
        have e : (z.plain nx k).ended = z.ended := by
          unfold L2.plain
          dsimp only
          show (if k = 1 then z.empty else z).ended = _
          split <;> rfl
        rw [e, hz] at he
        cases he
      · rw [if_neg h2] at hb he
        by_cases h3 : 128 ≤ k
        · rw [if_pos h3] at he
          have e : ∀ y : L2 S, (L2.judge (L2.st3 (k / 32 - 4) (L2.st2 nx (k / 32 - 4) y))).ended = y.ended := fun y => by
            show (L2.st3 (k / 32 - 4) (L2.st2 nx (k / 32 - 4) y)).ended = _
            rw [(L2.st3_en _ _).1, (L2.st2_en nx _ y).1]
          have e2 : (z.pack nx k).ended = z.ended := by
            unfold L2.pack L2.packEnd
            split
            · rw [e]
              exact (L2.st0_en _ z).1
            · show (L2.judge (L2.st3 (k / 32 - 4) (L2.st2 nx (k / 32 - 4) (((z.st0 (k / 32 - 4)).pair nx).2.pair nx).2))).ended = _
              rw [e]
              exact (L2.st0_en _ z).1
          rw [e2, hz] at he
          cases he
        · rw [if_neg h3] at hb; cases hb
theorem finish_shape {S : Type} (nx : S → Int × Bool × S) {z : L2 S} (hz : z.ended = false) (h : z.finish nx = true) : z.left = 0 ∧ z.closed = true ∧ (nx z.src).1 = 0 ∧ (nx z.src).2.1 = true ∧ (nx (nx z.src).2.2).2.1 = false := by
  unfold L2.finish at h
  by_cases hl : z.left = 0
  · rw [if_pos hl] at h
    refine ⟨hl, ?_⟩
    by_cases h0 : z.bad = true
    · unfold L2.open_ at h
      rw [if_pos (.inl h0)] at h
      dsimp only at h
      rw [h0] at h
      simp at h
    · have hn : ¬ (z.bad = true ∨ z.ended = true) := by
        rintro (e | e)
        · exact h0 e
        · rw [hz] at e; cases e
      by_cases hk : z.closed = true
      · refine ⟨hk, ?_⟩
        have ho : z.open_ nx = (!(z.chunk nx).bad && !(z.chunk nx).ended, z.chunk nx) := by
          unfold L2.open_
          rw [if_neg hn, if_pos hl, if_pos hk]
        rw [ho] at h
        simp only [Bool.and_eq_true, Bool.not_eq_true'] at h
        obtain ⟨_, h2, h3, h4⟩ := h
        obtain ⟨e1, e2, e3⟩ := chunk1_end nx _ _ (show (z.idle.byte nx).2.ended = false from hz) h3 h2
        have e4 : (z.bad || !(nx z.src).2.1) = false := e3
        have e5 : (nx z.src).2.1 = true := by
          have := (Bool.or_eq_false_iff.1 e4).2
          simpa using this
        have e6 : (z.chunk nx).src = (nx z.src).2.2 := by
          unfold L2.chunk
          rw [e2]
          rfl
        rw [e6] at h4
        exact ⟨e1, e5, h4⟩
      · have ho : z.open_ nx = (false, z.spoil) := by
          unfold L2.open_
          rw [if_neg hn, if_pos hl, if_neg hk]
        rw [ho] at h
        have : (z.spoil).bad = true := rfl
        simp [this] at h
  · rw [if_neg hl] at h; cases h
theorem finish_of {S : Type} (nx : S → Int × Bool × S) {z : L2 S} (hz : z.ended = false) (hb : z.bad = false) (hl : z.left = 0) (hk : z.closed = true) (h1 : (nx z.src).1 = 0) (h2 : (nx z.src).2.1 = true) (h3 : (nx (nx z.src).2.2).2.1 = false) : z.finish nx = true := by
  have hn : ¬ (z.bad = true ∨ z.ended = true) := by rw [hb, hz]; simp
  have ho : z.open_ nx = (!(z.chunk nx).bad && !(z.chunk nx).ended, z.chunk nx) := by
    unfold L2.open_
    rw [if_neg hn, if_pos hl, if_pos hk]
  have hbt : (z.idle.byte nx).1 = 0 := h1
  have hbb : (z.idle.byte nx).2.bad = false := by
    show (z.bad || !(nx z.src).2.1) = false
    rw [hb, h2]; rfl
  have hch : z.chunk nx = { (z.idle.byte nx).2 with ended := true } := by
    unfold L2.chunk L2.chunk1
    rw [if_neg (by rw [hbb]; decide), if_pos hbt]
  have e6 : (z.chunk nx).src = (nx z.src).2.2 := by rw [hch]; rfl
  have e7 : (z.chunk nx).ended = true := by rw [hch]
  have e8 : (z.chunk nx).bad = false := by rw [hch]; exact hbb
  unfold L2.finish
  rw [if_pos hl, ho]
  dsimp only
  rw [e6, e7, e8, h3]
  rfl
/-- a run by another ring, as long as both hold all that was told. -/
theorem tells_ring {S : Type} {nx : S → Int × Bool × S} {L K : LL} : ∀ (xs : List Int) {z zn : L2 S}, z.c.H.length + xs.length ≤ L.n → z.c.H.length + xs.length ≤ K.n → Tells nx L z xs zn → Tells nx K z xs zn
  | [], _, _, _, _, ht => ht
  | x :: xs, z, zn, h1, h2, ht => by
    rw [List.length_cons] at h1 h2
    have e := L2.next_ring nx (L := L) (K := K) z (by omega) (by omega)
    have hH := L2.next_H nx K z
    obtain ⟨t1, t2⟩ := ht
    rw [e] at t1 t2
    exact ⟨t1, tells_ring xs (by omega) (by omega) t2⟩
end Go.Proofs.Ytjnegcambbeblaa
