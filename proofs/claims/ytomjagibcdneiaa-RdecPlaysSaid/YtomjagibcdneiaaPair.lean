/- The coder beside the document's coder. -/
import Derived.Test.YtomjagibcdneiaaEnc5h
import Derived.Test.YtomjagibcdneiaaFresh4
import Derived.Test.YtomjagibcdneiaaBack2
namespace Go.Proofs.Ytomjagibcdneiaa
open Go.RowKit

theorem rep_getD (n j : Nat) (hj : j < n) : (List.replicate n (1024 : Int)).getD j 0 = 1024 := by simp [List.getD, hj]
theorem rowQ_of {w : World} {base : Nat} {v : Value} (h : Own w base .u16 22 v (List.replicate 600 1024)) : ∃ gq cap, v = .slice (some ⟨gq, 0, none⟩) 600 cap ∧ base ≤ gq ∧ gq < w.heap.size ∧ RowQ w gq (fun _ => 1024) := by
  have hlt := h.block
  obtain ⟨h1, h2⟩ := h
  rcases h2 with ⟨_, h0⟩ | ⟨gq, cap, cur, rfl, hb, hh, hn, hc, hs, ht⟩
  · rw [List.length_replicate] at h0; omega
  · refine ⟨gq, cap, by rw [List.length_replicate], hb, (hlt gq rfl).2, cur, hh, fun j hj => ?_⟩
    have e1 := map_getD .u16 (List.replicate 600 1024) (i := j) (by rw [List.length_replicate]; exact hj)
    rw [← ht, List.getElem?_take_of_lt (by rw [List.length_replicate]; omega)] at e1
    have e2 : (List.replicate 600 (1024 : Int)).getD j 0 = 1024 := rep_getD 600 j hj
    rw [e2] at e1
    simpa using e1
theorem RowQ.fr {w w' : World} {gq : Nat} {q : Nat → Int} (h : RowQ w gq q) {T : Nat → Prop} (hf : Fr T w w') (ht : ¬ T gq) : RowQ w' gq q := by
  obtain ⟨cs, h1, h2⟩ := h
  exact ⟨cs, hf.blk h1 ht, h2⟩
theorem RowQ.lt {w : World} {gq : Nat} {q : Nat → Int} (h : RowQ w gq q) : gq < w.heap.size := by
  obtain ⟨cs, h1, h2⟩ := h
  exact blk_lt h1
theorem Fr.old {T : Nat → Prop} {w w' : World} (h : Fr T w w') : Fr (fun k => T k ∧ k < w.heap.size) w w' := h.mono fun k hk e => ⟨e, hk⟩
theorem CodIs.gone {A : Nat → Prop} {g : Nat} {w w' : World} {c : RC} (h : CodIs A g w c) {T : Nat → Prop} (hf : Fr T w w') (ht : ∀ k, k < w.heap.size → T k → A k) : CodIs (Go.Proofs.Ytomjagibcdneiaa.Since A w w') g w' c :=
  h.more hf.old (fun k e => ht k e.2 e.1)
theorem EncC.gone {A : Nat → Prop} {g : Nat} {w w' : World} {c : RC} (h : EncC A g w c) {T : Nat → Prop} (hf : Fr T w w') (ht : ∀ k, k < w.heap.size → T k → A k) : EncC (Go.Proofs.Ytomjagibcdneiaa.Since A w w') g w' c :=
  EncIs.more h hf ht
/-- the coder at g, the document's at ge, their probabilities at gp and gq: they lie apart; blocks of B are none of theirs, and as in W. -/
structure PairA (B : Nat → Prop) (g ge gp gq : Nat) (W : World) (Ac Ae : Nat → Prop) (wr : World) (r s : RC × (Nat → Int)) : Prop where
  cod : CodIs Ac g wr r.1
  enc : EncC Ae ge wr s.1
  cov : ∀ k, k < wr.heap.size → Ac k ∨ Ae k
  low : ∀ k, B k → Ac k ∧ Ae k
  fr : Fr (Out B) W wr
  rp : wr.heap[gp]? = some (.cells (arr .u16 600 r.2) 22)
  rq : RowQ wr gq s.2
  ap : Ac gp ∧ Ae gp
  aq : Ac gq ∧ Ae gq
  ne : gp ≠ gq
  np : ¬ B gp ∧ ¬ B gq
/-- and what the coder is: its numbers in their bounds. -/
structure Good5 (r : RC × (Nat → Int)) (N : Nat) : Prop where
  ok : r.1.Ok N
  by_ : r.1.bytes
  pr : Pr r.2 600
theorem Good5.ask {r : RC × (Nat → Int)} {N : Nat} (h : Good5 r N) {a : Ask} (ha : a.Right) : Good5 ((r.1.ask r.2 a).2, (r.1.ask r.2 a).1) (N + 96) := by
  obtain ⟨k1, k2, n, k3⟩ := cask_keep ha h.ok h.by_ h.pr
  exact ⟨k1, k3.bytes h.by_, k2⟩
theorem PairA.any {B : Nat → Prop} {g ge gp gq : Nat} {W wr w' : World} {Ac Ae : Nat → Prop} {r s : RC × (Nat → Int)} (h : PairA B g ge gp gq W Ac Ae wr r s) (hf : Fr Non wr w') :
    PairA B g ge gp gq W (Since Ac wr w') (Since Ae wr w') w' r s := by
  obtain ⟨h1, h2, h3, h4, h5, h6, h7, h8, h9, h10, h11⟩ := h
  refine ⟨h1.gone hf (fun _ _ e => e.elim), h2.gone hf (fun _ _ e => e.elim), fun k hk => ?_, fun k hk => ⟨.inl (h4 k hk).1, .inl (h4 k hk).2⟩, h5.trans hf.any, hf.blk h6 id, h7.fr hf id, ⟨.inl h8.1, .inl h8.2⟩, ⟨.inl h9.1, .inl h9.2⟩, h10, h11⟩
  by_cases hlt : k < wr.heap.size
  · exact (h3 k hlt).imp .inl .inl
  · exact .inl (.inr ⟨by omega, hk⟩)
theorem PairA.put {B : Nat → Prop} {g ge gp gq : Nat} {W wr w' : World} {Ac Ae : Nat → Prop} {r s r' : RC × (Nat → Int)} (h : PairA B g ge gp gq W Ac Ae wr r s)
    (hf : Fr (fun k => ¬ Ac k ∨ k = gp) wr w') (hc : CodIs Ac g w' r'.1) (hp : w'.heap[gp]? = some (.cells (arr .u16 600 r'.2) 22)) :
    PairA B g ge gp gq W Ac (Since Ae wr w') w' r' s := by
  obtain ⟨h1, h2, h3, h4, h5, h6, h7, h8, h9, h10, h11⟩ := h
  refine ⟨hc, h2.gone hf (fun k hk e => ?_), fun k hk => ?_, fun k hk => ⟨(h4 k hk).1, .inl (h4 k hk).2⟩, h5.then hf (fun i _ e hb => ?_), hp, h7.fr hf (fun e => ?_), ⟨h8.1, .inl h8.2⟩, ⟨h9.1, .inl h9.2⟩, h10, h11⟩
  · rcases e with e | e
    · exact (h3 k hk).resolve_left e
    · rw [e]; exact h8.2
  · by_cases hlt : k < wr.heap.size
    · exact (h3 k hlt).imp id .inl
    · exact .inr (.inr ⟨by omega, hk⟩)
  · rcases e with e | e
    · exact e (h4 i hb).1
    · rw [e] at hb; exact h11.1 hb
  · rcases e with e | e
    · exact e h9.1
    · exact h10 e.symm
theorem PairA.ask {B : Nat → Prop} {g ge gp gq : Nat} {W wr w' : World} {Ac Ae : Nat → Prop} {r s s' : RC × (Nat → Int)} (h : PairA B g ge gp gq W Ac Ae wr r s)
    (hf : Fr (fun k => ¬ Ae k ∨ k = gq) wr w') (hc : EncC Ae ge w' s'.1) (hp : RowQ w' gq s'.2) :
    PairA B g ge gp gq W (Since Ac wr w') Ae w' r s' := by
  obtain ⟨h1, h2, h3, h4, h5, h6, h7, h8, h9, h10, h11⟩ := h
  refine ⟨h1.gone hf (fun k hk e => ?_), hc, fun k hk => ?_, fun k hk => ⟨.inl (h4 k hk).1, (h4 k hk).2⟩, h5.then hf (fun i _ e hb => ?_), hf.blk h6 (fun e => ?_), hp, ⟨.inl h8.1, h8.2⟩, ⟨.inl h9.1, h9.2⟩, h10, h11⟩
  · rcases e with e | e
    · exact (h3 k hk).resolve_right e
    · rw [e]; exact h9.1
  · by_cases hlt : k < wr.heap.size
    · exact (h3 k hlt).imp .inl id
    · exact .inl (.inr ⟨by omega, hk⟩)
  · rcases e with e | e
    · exact e (h4 i hb).2
    · rw [e] at hb; exact h11.2 hb
  · rcases e with e | e
    · exact e h8.2
    · exact h10 e
theorem pair_start {A1 : Nat → Prop} {g ge gp gq : Nat} {W wr w4 w5 w6 : World} {q0 : Nat → Int} (hc : CodIs A1 g wr RC.new) (hW : Fr (Out A1) W wr) (hge : wr.heap.size ≤ ge) (hf4 : Fr Non wr w4) (he : EncC (fun k => k < wr.heap.size) ge w4 RC.new)
    (hgp : w4.heap.size ≤ gp) (hf5 : Fr Non w4 w5) (hb : w5.heap[gp]? = some (.cells (arr .u16 600 q0) 22)) (hgq : w5.heap.size ≤ gq) (hf6 : Fr Non w5 w6) (hq : RowQ w6 gq q0) :
    PairA A1 g ge gp gq W (Since A1 wr w6) (Since (fun k => k < wr.heap.size) w4 w6) w6 (RC.new, q0) (RC.new, q0) := by
  have s4 := hf4.size
  have s5 := hf5.size
  have s6 := hf6.size
  have l5 := blk_lt hb
  have l6 := hq.lt
  have hold : ∀ k, A1 k → k < wr.heap.size := by
    obtain ⟨v, hv⟩ := hc
    exact hv.old
  have hf46 := hf5.trans hf6
  refine ⟨hc.gone (hf4.trans hf46) (fun _ _ e => e.elim), he.gone hf46 (fun _ _ e => e.elim), fun k hk => ?_, fun k hk => ⟨.inl hk, .inl (hold k hk)⟩, hW.trans (hf4.trans hf46).any, hf6.blk hb id, hq, ⟨.inr ⟨by omega, by omega⟩, .inr ⟨by omega, by omega⟩⟩, ⟨.inr ⟨by omega, by omega⟩, .inr ⟨by omega, by omega⟩⟩, by omega, ⟨fun e => ?_, fun e => ?_⟩⟩
  · by_cases hlt : k < wr.heap.size
    · exact .inr (.inl hlt)
    · exact .inl (.inr ⟨by omega, hk⟩)
  · have := hold _ e; omega
  · have := hold _ e; omega
/-- what the document's coder has told are the coder's bytes. -/
theorem same_bytes {c : RC} (hc : c.Fin) {B : List Int} (hb : bytesL B) (hl : B.length = c.len) (hv : valL B = c.val) : (c.gives 5).out = B := by
  obtain ⟨h1, h2, h3⟩ := gives_out hc
  exact valL_inj _ _ (by rw [h2, hl]) h3 hb (by rw [h1, hv])
end Go.Proofs.Ytomjagibcdneiaa
