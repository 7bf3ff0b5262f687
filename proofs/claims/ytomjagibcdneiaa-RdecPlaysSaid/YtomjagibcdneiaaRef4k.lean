/- The document's decoder (04): what Tree leaves. -/
import Derived.Test.YtomjagibcdneiaaRef4b
namespace Go.Proofs.Ytomjagibcdneiaa
open Go.RowKit

def RTrPost (a : Option Addr) (n cap : Nat) (f : Nat → Int) (lo g gq P L : Nat) (cs : Array Value) (w : World) (r : Nat × (Nat → Int) × RD Nat) (e : Ending) (w' : World) : Prop :=
  e = .returned (.int .i64 r.1) ∧ Fr (fun k => k = g ∨ k = gq) w w' ∧ RefIs a n cap f lo g w' r.2.2 ∧ ∃ cs', w'.heap[gq]? = some (.cells cs' 22) ∧ Win cs cs' P L r.2.1
/-- the loop's state. -/
structure RTAt (a : Option Addr) (n cap : Nat) (f : Nat → Int) (lo g gq P L : Nat) (cs : Array Value) (w wr : World) (x1 : RD Nat) (q1 : Nat → Int) : Prop where
  fr : Fr (fun k => k = g ∨ k = gq) w wr
  ref : RefIs a n cap f lo g wr x1
  blk : ∃ cs1, wr.heap[gq]? = some (.cells cs1 22) ∧ Win cs cs1 P L q1
  pr : Pr q1 L
theorem RTAt.step {a : Option Addr} {n cap : Nat} {f : Nat → Int} {lo g gq P L m : Nat} {cs : Array Value} {w wr w1 : World} {x1 : RD Nat} {q1 : Nat → Int} (h : RTAt a n cap f lo g gq P L cs w wr x1 q1) (hgq : lo ≤ gq) (hne : gq ≠ g) (hm : m < L)
    (hf : Fr (fun k => k = g) wr w1) (he : RefIs a n cap f lo g w1 (x1.bit (feedNx f n) (q1 m)).2.2) :
    RTAt a n cap f lo g gq P L cs w (w1.setCell ⟨gq, P + m, none⟩ (.int .u16 (x1.bit (feedNx f n) (q1 m)).2.1)) (x1.bit (feedNx f n) (q1 m)).2.2 (upd q1 m (x1.bit (feedNx f n) (q1 m)).2.1) := by
  obtain ⟨h1, h2, ⟨cs1, h5, h6⟩, h7⟩ := h
  have hp := h7 m hm
  have hp2 := bit_prob (feedNx f n) x1 (q1 m) hp.1 hp.2
  have hb1 := hf.blk h5 hne
  refine ⟨?_, he.keep ((Fr.refl (fun k => k = gq) w1).setOne (P + m) _) (fun e => hne e.symm) (fun k hk e => by omega), ⟨_, blk_set (i := P + m) hb1, h6.set hm _⟩, h7.upd m hp2.1 hp2.2⟩
  exact Fr.setCell (p := ⟨gq, P + m, none⟩) (h1.then hf fun i _ e => .inl e) (fun _ => .inr rfl) _
end Go.Proofs.Ytomjagibcdneiaa
