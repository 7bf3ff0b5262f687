/- The document's coder (06): Put, what it leaves. -/
import Derived.Test.YtnkdeedbgkcbfaaEnc6b
namespace Go.Proofs.Ytnkdeedbgkcbfaa
open Go.RowKit

def ESPost (A : Nat → Prop) (g : Nat) (w : World) (c : RC) (e : Ending) (w' : World) : Prop :=
  e = .returned (.tuple #[]) ∧ Fr (Out A) w w' ∧ EncC A g w' c
theorem EncIs.lift {A : Nat → Prop} {g : Nat} {w w' : World} {V : Int} {L : Nat} {r : Int} (h : EncIs A g w V L r) (hf : Fr Non w w') : EncIs (Since A w w') g w' V L r := EncIs.more h hf (fun _ _ e => e.elim)
theorem EncIs.less {A A' : Nat → Prop} {g : Nat} {w : World} {V : Int} {L : Nat} {r : Int} (h : EncIs A g w V L r) (hs : ∀ k, A' k → A k) : EncIs A' g w V L r := by
  obtain ⟨v, B, ⟨h1, h2, h3, h4, h5⟩, q⟩ := h
  exact ⟨v, B, ⟨h1, h2, fun k e => ⟨(h3 k e).1, fun q => (h3 k e).2 (hs k q)⟩, fun k q => h4 k (hs k q), fun q => h5 (hs g q)⟩, q⟩
theorem EncIs.cast {A : Nat → Prop} {g : Nat} {w : World} {V V' : Int} {L : Nat} {r r' : Int} (h : EncIs A g w V L r) (hV : V' = V) (hr : r' = r) : EncIs A g w V' L r' := by rw [hV, hr]; exact h
end Go.Proofs.Ytnkdeedbgkcbfaa
