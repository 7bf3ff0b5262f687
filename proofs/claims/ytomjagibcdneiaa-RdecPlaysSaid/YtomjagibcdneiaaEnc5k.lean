/- The document's coder (05): Ask, what it leaves. -/
import Derived.Test.YtomjagibcdneiaaEnc5c
import Derived.Test.YtomjagibcdneiaaLaw05b
namespace Go.Proofs.Ytomjagibcdneiaa
open Go.RowKit

/-- 600 probabilities lie at block gq; more may lie behind. -/
def RowQ (w : World) (gq : Nat) (q : Nat → Int) : Prop := ∃ cs, w.heap[gq]? = some (.cells cs 22) ∧ ∀ j, j < 600 → cs[j]? = some (.int .u16 (q j))
def EAPost (A : Nat → Prop) (g gq : Nat) (w : World) (r : (Nat → Int) × RC) (e : Ending) (w' : World) : Prop :=
  e = .returned (.tuple #[]) ∧ Fr (fun k => ¬ A k ∨ k = gq) w w' ∧ EncC A g w' r.2 ∧ RowQ w' gq r.1
def E0Post (A : Nat → Prop) (g gq P : Nat) (cs : Array Value) (w : World) (r : Int × RC) (e : Ending) (w' : World) : Prop :=
  e = .returned (.tuple #[]) ∧ Fr (fun k => ¬ A k ∨ k = gq) w w' ∧ EncC A g w' r.2 ∧ w'.heap[gq]? = some (.cells (cs.setIfInBounds P (.int .u16 r.1)) 22)
theorem EncC.keep {A : Nat → Prop} {g : Nat} {w w' : World} {c : RC} (h : EncC A g w c) {T : Nat → Prop} (hf : Fr T w w') (ht : ∀ k, k < w.heap.size → T k → A k) : EncC A g w' c := EncIs.keep h hf ht
theorem EncC.any {A : Nat → Prop} {g : Nat} {w w' : World} {c : RC} (h : EncC A g w c) (hf : Fr Non w w') : EncC A g w' c := EncIs.any h hf
theorem EncC.less {A A' : Nat → Prop} {g : Nat} {w : World} {c : RC} (h : EncC A g w c) (hs : ∀ k, A' k → A k) : EncC A' g w c := by
  obtain ⟨v, B, ⟨h1, h2, h3, h4, h5⟩, q⟩ := h
  exact ⟨v, B, ⟨h1, h2, fun k e => ⟨(h3 k e).1, fun q => (h3 k e).2 (hs k q)⟩, fun k q => h4 k (hs k q), fun q => h5 (hs g q)⟩, q⟩
/-- A, and what has been new since w. -/
def Since (A : Nat → Prop) (w W : World) : Nat → Prop := fun k => A k ∨ (w.heap.size ≤ k ∧ k < W.heap.size)
theorem EncC.fresh {A : Nat → Prop} {g : Nat} {w W : World} {c : RC} (h : EncC A g w c) (hf : Fr Non w W) : EncC (Since A w W) g W c := EncIs.more h hf (fun _ _ e => e.elim)
theorem EncC.drew {A : Nat → Prop} {g : Nat} {w : World} {c : RC} (h : EncC A g w c) : EncC A g w.drew c := h.any (Fr.refl Non _).drew
/-- what a bit leaves, its probability put back. -/
theorem fin0E {A : Nat → Prop} {g gq P : Nat} {cs : Array Value} {w W w1 : World} {r : Int × RC} (hA : A gq) (hf : Fr (Out (Since A w W)) W w1) (hW : Fr Non w W) (hd : EncC (Since A w W) g w1 r.2) (hb : w1.heap[gq]? = some (.cells cs 22)) :
    Fr (fun k => ¬ A k ∨ k = gq) w (w1.setCell ⟨gq, P, none⟩ (.int .u16 r.1)) ∧ EncC A g (w1.setCell ⟨gq, P, none⟩ (.int .u16 r.1)) r.2 ∧ (w1.setCell ⟨gq, P, none⟩ (.int .u16 r.1)).heap[gq]? = some (.cells (cs.setIfInBounds P (.int .u16 r.1)) 22) := by
  refine ⟨Fr.setCell (p := ⟨gq, P, none⟩) (Fr.then hW.any hf fun i hi e => .inl fun h => e (.inl h)) (fun _ => .inr rfl) _, ?_, blk_set hb⟩
  exact (hd.keep ((Fr.refl (fun k => k = gq) w1).setOne P _) (fun k _ e => .inl (by rw [e]; exact hA))).less fun k h => .inl h
def ETPost (A : Nat → Prop) (g gq off L : Nat) (cs : Array Value) (w : World) (r : (Nat → Int) × RC) (e : Ending) (w' : World) : Prop :=
  e = .returned (.tuple #[]) ∧ Fr (fun k => ¬ A k ∨ k = gq) w w' ∧ EncC A g w' r.2 ∧ ∃ cs', w'.heap[gq]? = some (.cells cs' 22) ∧ Win cs cs' off L r.1
/-- the loop's state behind some bits. -/
structure ETAt (A A' : Nat → Prop) (g gq P L N : Nat) (cs : Array Value) (w W wr : World) (c1 : RC) (q1 : Nat → Int) : Prop where
  fr : Fr (fun k => ¬ A' k ∨ k = gq) W wr
  enc : EncC A' g wr c1
  ok : c1.Ok N
  by_ : c1.bytes
  blk : ∃ cs1, wr.heap[gq]? = some (.cells cs1 22) ∧ Win cs cs1 P L q1
  pr : Pr q1 L
theorem ETAt.step {A A' : Nat → Prop} {g gq P L N m b : Nat} {cs : Array Value} {w W wr w1 : World} {c1 : RC} {q1 : Nat → Int} (h : ETAt A A' g gq P L N cs w W wr c1 q1) (hA : A' gq) (hm : m < L)
    (hf : Fr (Out A') wr w1) (he : EncC A' g w1 (c1.bit (q1 m) b).2) :
    ETAt A A' g gq P L (N + 3) cs w W (w1.setCell ⟨gq, P + m, none⟩ (.int .u16 (c1.bit (q1 m) b).1)) (c1.bit (q1 m) b).2 (upd q1 m (c1.bit (q1 m) b).1) := by
  obtain ⟨h1, h2, h3, h4, ⟨cs1, h5, h6⟩, h7⟩ := h
  have hp := h7 m hm
  have hp2 := bit_prob' c1 hp.1 hp.2 b
  obtain ⟨n, hn⟩ := h3.reach_bit h4 hp.1 hp.2 b
  have hb1 := hf.blk h5 (fun e => e hA)
  refine ⟨?_, he.keep ((Fr.refl (fun k => k = gq) w1).setOne (P + m) _) (fun k _ e => by rw [e]; exact hA), h3.bit hp.1 hp.2 b, hn.4 h4, ⟨_, blk_set (i := P + m) hb1, h6.set hm _⟩, h7.upd m hp2.1 hp2.2⟩
  exact Fr.setCell (p := ⟨gq, P + m, none⟩) (h1.then hf fun i _ e => .inl e) (fun _ => .inr rfl) _

end Go.Proofs.Ytomjagibcdneiaa
