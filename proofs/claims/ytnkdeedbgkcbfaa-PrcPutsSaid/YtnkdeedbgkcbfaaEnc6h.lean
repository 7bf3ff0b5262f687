/- The document's coder (06): Put, all kinds; the coder beside it. -/
import Derived.Test.YtnkdeedbgkcbfaaEnc6d
import Derived.Test.YtnkdeedbgkcbfaaEnc6e
import Derived.Test.YtnkdeedbgkcbfaaEnc6f
import Derived.Test.YtnkdeedbgkcbfaaPback
namespace Go.Proofs.Ytnkdeedbgkcbfaa
open Go.RowKit

theorem eput_any (A : Nat → Prop) (g N : Nat) (c : RC) (s : Share) (w : World) (h : EncC A g w c) (hok : c.Ok N) (hby : c.bytes) (hN : N ≤ 1073741000) (hs : s.Right) :
    Calls Try.prog 13 #[.pointer (some ⟨g, 0, none⟩), .agg #[.int .i64 s.kind, .int .u32 s.start, .int .u32 s.size, .int .u32 s.total]] w (ESPost A g w (c.put s)) := by
  obtain ⟨kind, start, size, total⟩ := s
  have hs' := hs
  rcases hs' with ⟨h1, h2, h3, h4, h5, h6⟩ | ⟨h1, h2, h3, h4, h5, h6⟩
  · simp only at h1 h2 h3 h4 h5 h6
    subst h1
    exact eput_0 A g N start size total c w h hok hby hN hs h6 h2 h3 h4 h5
  · simp only at h1 h2 h3 h4 h5 h6
    subst h1
    have hsz : size < 65536 := by
      have : 2 ^ total ≤ 2 ^ 16 := Nat.pow_le_pow_right (by decide) h4
      omega
    rcases Nat.le_one_iff_eq_zero_or_eq_one.1 h2 with rfl | rfl
    · exact eput_10 A g N size total c w h hok hby hN hs h3 h4 h5 hsz
    · exact eput_11 A g N size total c w h hok hby hN hs h3 h4 h5 hsz
theorem Fr.old {T : Nat → Prop} {w w' : World} (h : Fr T w w') : Fr (fun k => T k ∧ k < w.heap.size) w w' := h.mono fun k hk e => ⟨e, hk⟩
theorem CodIs.gone {A : Nat → Prop} {g : Nat} {w w' : World} {c : RC} (h : CodIs A g w c) {T : Nat → Prop} (hf : Fr T w w') (ht : ∀ k, k < w.heap.size → T k → A k) : CodIs (Go.Proofs.Ytnkdeedbgkcbfaa.Since A w w') g w' c :=
  h.more hf.old (fun k e => ht k e.2 e.1)
theorem EncC.gone {A : Nat → Prop} {g : Nat} {w w' : World} {c : RC} (h : EncC A g w c) {T : Nat → Prop} (hf : Fr T w w') (ht : ∀ k, k < w.heap.size → T k → A k) : EncC (Go.Proofs.Ytnkdeedbgkcbfaa.Since A w w') g w' c :=
  EncIs.more h hf ht
/-- the coder at g, the document's at ge: they lie apart; blocks of B are none of theirs, and as in W. -/
structure PairA (B : Nat → Prop) (g ge : Nat) (W : World) (Ac Ae : Nat → Prop) (wr : World) (r s : RC) : Prop where
  cod : CodIs Ac g wr r
  enc : EncC Ae ge wr s
  cov : ∀ k, k < wr.heap.size → Ac k ∨ Ae k
  low : ∀ k, B k → Ac k ∧ Ae k
  fr : Fr (Out B) W wr
theorem PairA.any {B : Nat → Prop} {g ge : Nat} {W wr w' : World} {Ac Ae : Nat → Prop} {r s : RC} (h : PairA B g ge W Ac Ae wr r s) (hf : Fr Non wr w') :
    PairA B g ge W (Since Ac wr w') (Since Ae wr w') w' r s := by
  obtain ⟨h1, h2, h3, h4, h5⟩ := h
  refine ⟨h1.gone hf (fun _ _ e => e.elim), h2.gone hf (fun _ _ e => e.elim), fun k hk => ?_, fun k hk => ⟨.inl (h4 k hk).1, .inl (h4 k hk).2⟩, h5.trans hf.any⟩
  by_cases hlt : k < wr.heap.size
  · exact (h3 k hlt).imp .inl .inl
  · exact .inl (.inr ⟨by omega, hk⟩)
theorem PairA.put {B : Nat → Prop} {g ge : Nat} {W wr w' : World} {Ac Ae : Nat → Prop} {r s r' : RC} (h : PairA B g ge W Ac Ae wr r s) (hf : Fr (Out Ac) wr w') (hc : CodIs Ac g w' r') :
    PairA B g ge W Ac (Since Ae wr w') w' r' s := by
  obtain ⟨h1, h2, h3, h4, h5⟩ := h
  refine ⟨hc, h2.gone hf (fun k hk e => (h3 k hk).resolve_left e), fun k hk => ?_, fun k hk => ⟨(h4 k hk).1, .inl (h4 k hk).2⟩, h5.then hf (fun i _ e hb => e (h4 i hb).1)⟩
  by_cases hlt : k < wr.heap.size
  · exact (h3 k hlt).imp id .inl
  · exact .inr (.inr ⟨by omega, hk⟩)
theorem PairA.ask {B : Nat → Prop} {g ge : Nat} {W wr w' : World} {Ac Ae : Nat → Prop} {r s s' : RC} (h : PairA B g ge W Ac Ae wr r s) (hf : Fr (Out Ae) wr w') (hc : EncC Ae ge w' s') :
    PairA B g ge W (Since Ac wr w') Ae w' r s' := by
  obtain ⟨h1, h2, h3, h4, h5⟩ := h
  refine ⟨h1.gone hf (fun k hk e => (h3 k hk).resolve_right e), hc, fun k hk => ?_, fun k hk => ⟨.inl (h4 k hk).1, (h4 k hk).2⟩, h5.then hf (fun i _ e hb => e (h4 i hb).2)⟩
  by_cases hlt : k < wr.heap.size
  · exact (h3 k hlt).imp .inl id
  · exact .inl (.inr ⟨by omega, hk⟩)
theorem pair_start {A1 : Nat → Prop} {g ge : Nat} {W wr w4 : World} (hc : CodIs A1 g wr RC.new) (hW : Fr (Out A1) W wr) (hf4 : Fr Non wr w4) (he : EncC (fun k => k < wr.heap.size) ge w4 RC.new) :
    PairA A1 g ge W (Since A1 wr w4) (fun k => k < wr.heap.size) w4 RC.new RC.new := by
  have hold : ∀ k, A1 k → k < wr.heap.size := by
    obtain ⟨v, hv⟩ := hc
    exact hv.old
  refine ⟨hc.gone hf4 (fun _ _ e => e.elim), he, fun k hk => ?_, fun k hk => ⟨.inl hk, hold k hk⟩, hW.trans hf4.any⟩
  by_cases hlt : k < wr.heap.size
  · exact .inr hlt
  · exact .inl (.inr ⟨by omega, hk⟩)
/-- what the document's coder has told are the coder's bytes. -/
theorem same_bytes {c : RC} (hc : c.Fin) {B : List Int} (hb : bytesL B) (hl : B.length = c.len) (hv : valL B = c.val) : (c.gives 5).out = B := by
  obtain ⟨h1, h2, h3⟩ := gives_out hc
  exact valL_inj _ _ (by rw [h2, hl]) h3 hb (by rw [h1, hv])
end Go.Proofs.Ytnkdeedbgkcbfaa
