/- law04: the decoder and its probabilities through a row of questions. -/
import Derived.Test.YtomjagibcdneiaaLaw04b
import Derived.Deep.CutBlock
import Derived.Deep.DeepCutAuto
namespace Go.Proofs.Ytomjagibcdneiaa
open Go.RowKit

/-- the decoder and its 600 probabilities, in a world that grew out of w. -/
structure St {lo hi : Nat} {f : Nat → Int} {n : Nat} (D : Deco lo hi f n) (gp : Nat) (w wr : World) (r : RD Nat × (Nat → Int)) : Prop where
  fr : Fr Non w wr
  dec : D.Is wr r.1
  blk : wr.heap[gp]? = some (.cells (arr .u16 600 r.2) 22)
  pr : Pr r.2 600
theorem St.any {lo hi : Nat} {f : Nat → Int} {n : Nat} {D : Deco lo hi f n} {gp : Nat} {w wr w' : World} {r : RD Nat × (Nat → Int)} (h : St D gp w wr r) (hf : Fr Non wr w') : St D gp w w' r :=
  ⟨h.fr.trans hf, Deco.keep h.dec hf (fun _ _ _ e => e), hf.blk h.blk id, h.pr⟩
/-- a question is asked. -/
theorem St.ask {lo hi : Nat} {f : Nat → Int} {n : Nat} {D : Deco lo hi f n} {gp : Nat} {w wr : World} {r : RD Nat × (Nat → Int)} (h : St D gp w wr r) (hlo : w.heap.size ≤ lo) (hgp : w.heap.size ≤ gp) (hne : ¬ decFoot D.s D.g gp) (a : Ask) (ha : a.Right) :
    Calls Try.prog 27 #[.pointer (some ⟨D.g, 0, none⟩), .slice (some ⟨gp, 0, none⟩) 600 600, .agg #[.int .i64 a.kind, .int .i64 a.at_, .int .i64 a.bits, .int .u32 a.val]] wr
      fun e w' => e = .returned (.int .u32 (RD.ask (feedNx f n) r.1 r.2 a).1) ∧ St D gp w w' ((RD.ask (feedNx f n) r.1 r.2 a).2.2, (RD.ask (feedNx f n) r.1 r.2 a).2.1) ∧ Fr (fun k => (lo ≤ k ∧ k < hi) ∨ k = gp) wr w' := by
  refine (ask_any D.s D.g gp r.1 r.2 a wr h.dec hne h.blk h.pr ha).mono ?_
  rintro e w' ⟨h1, h2, h3, h4⟩
  refine ⟨h1, ⟨?_, h3, h4, ask_pr _ _ _ _ ha h.pr⟩, h2.mono (fun k _ hk => hk.imp (D.low k) id)⟩
  refine h.fr.then h2 (fun i hi hk => ?_)
  rcases hk with hk | hk
  · have := D.low i hk; omega
  · omega
/-- n integers f from cell off of block b on. -/
def RowAt (k : IntKind) (w : World) (b off n : Nat) (f : Nat → Int) : Prop := ∀ i, i < n → w.cell? ⟨b, off + i, none⟩ = some (.int k (f i))
theorem RowAt.fr {k : IntKind} {w w' : World} {b off n : Nat} {f : Nat → Int} {S : Nat → Prop} (h : RowAt k w b off n f) (hf : Fr S w w') (hs : ¬ S b) : RowAt k w' b off n f := fun i hi => hf.cell (h i hi) hs
theorem RowAt.row {k : IntKind} {w : World} {b off n : Nat} {f : Nat → Int} (h : RowAt k w b off n f) : RowIn (b + 1) k w (some ⟨b, off, none⟩) n f := .inr ⟨b, off, rfl, by omega, h⟩

end Go.Proofs.Ytomjagibcdneiaa
