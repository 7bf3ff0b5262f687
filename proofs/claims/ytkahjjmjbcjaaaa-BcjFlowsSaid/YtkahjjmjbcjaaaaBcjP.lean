/- bcj.Filter in plain words: what it tells, one byte behind the other, is what the whole list's going through answers. -/
import Derived.Test.YtkahjjmjbcjaaaaBcj7
namespace Go.Proofs.Ytkahjjmjbcjaaaa
open Go.RowKit

/-- i bytes are told, up to p they are ready, s are asked for; f are those that wait. -/
structure FInv (n : Nat) (F : Nat → Int) (i p s : Nat) (b : BW) (f : Nat → Int) (o : Bool) : Prop where
  ip : i ≤ p
  ps : p ≤ s
  sn : s ≤ n
  s5 : s ≤ i + 5
  ok : b.ok
  ov : o = true → s = n
  want : ∃ (k : Nat) (E : Nat → Int), n ≤ p + k ∧ (∀ j, allB false n F j = runB n k p b E j) ∧ (∀ j, j < n → 0 ≤ E j ∧ E j < 256) ∧ (∀ j, s ≤ j → E j = F j) ∧ ∀ j, j < s - i → f j = E (i + j)
theorem FInv.start (n : Nat) (F : Nat → Int) (hF : ∀ j, j < n → 0 ≤ F j ∧ F j < 256) : FInv n F 0 0 0 ⟨0, 0, 0, false⟩ (fun _ => 0) false :=
  ⟨Nat.le_refl _, Nat.le_refl _, Nat.zero_le _, by omega, ⟨by decide, by decide, by decide, by decide⟩, (fun h => by cases h), n, F, by omega, fun _ => rfl, hF, fun _ _ => rfl, fun j h => by omega⟩
/-- more bytes wait. -/
theorem FInv.more {n i s s' : Nat} {F f f' : Nat → Int} {b : BW} {o o' : Bool} (h : FInv n F i i s b f o) (h1 : s ≤ s') (h2 : s' ≤ n) (h3 : s' ≤ i + 5) (hf : ∀ j, j < s - i → f' j = f j) (hf2 : ∀ j, s - i ≤ j → j < s' - i → f' j = F (i + j)) (ho : o' = true → s' = n) : FInv n F i i s' b f' o' := by
  obtain ⟨k, E, e1, e2, e3, e4, e5⟩ := h.want
  have := h.ps
  refine ⟨Nat.le_refl _, by omega, h2, h3, h.ok, ho, k, E, e1, e2, e3, fun j hj => e4 j (by omega), fun j hj => ?_⟩
  by_cases hj2 : j < s - i
  · rw [hf j hj2, e5 j hj2]
  · rw [hf2 j (by omega) hj, e4 (i + j) (by omega)]
/-- five bytes wait: a step of the walk. -/
theorem FInv.pass {n i s : Nat} {F f : Nat → Int} {b : BW} {o : Bool} (h : FInv n F i i s b f o) (h5 : s = i + 5) (hf : ∀ j, j < 5 → 0 ≤ f j ∧ f j < 256) : FInv n F i (i + (b.pass f).2.2) s (b.pass f).1 (b.pass f).2.1 o ∧ 1 ≤ (b.pass f).2.2 := by
  obtain ⟨k, E, e1, e2, e3, e4, e5⟩ := h.want
  have hs := h.sn
  obtain ⟨k', hk', hr⟩ := runB_step (b := b) (F := E) (show i + 4 < n by omega) e1
  obtain ⟨q1, q2, q3⟩ := pass_inv (f := f) h.ok
  obtain ⟨c1, c2, c3⟩ := pass_congr (b := b) (f := f) (g := fun j => E (i + j)) (fun j hj => e5 j (by omega))
  refine ⟨⟨by omega, by omega, hs, h.s5, q1, h.ov, k', lay E i 5 (b.pass f).2.1, by omega, fun j => ?_, lay_range e3 (fun j hj => q3 j (hf j hj)), fun j hj => ?_, fun j hj => ?_⟩, by omega⟩
  · rw [e2, hr, c1, c2]
    congr 1
    funext j
    unfold lay
    by_cases hj : i ≤ j ∧ j < i + 5
    · rw [if_pos hj, if_pos hj, c3 _ (by omega)]
    · rw [if_neg hj, if_neg hj]
  · rw [lay_out _ _ _ _ (by omega)]; exact e4 j hj
  · rw [lay_in _ _ _ _ (by omega)]
/-- fewer than five: they are told as they are. -/
theorem FInv.last {n i s : Nat} {F f : Nat → Int} {b : BW} {o : Bool} (h : FInv n F i i s b f o) (hs : s = n) (h4 : ¬ i + 4 < n) : FInv n F i n n b f o := by
  obtain ⟨k, E, e1, e2, e3, e4, e5⟩ := h.want
  have := h.ps
  have := h.s5
  subst hs
  exact ⟨by omega, Nat.le_refl _, Nat.le_refl _, by omega, h.ok, fun _ => rfl, 0, E, by omega, fun j => by rw [e2, runB_end h4]; rfl, e3, e4, e5⟩
/-- one byte is told. -/
theorem FInv.tell {n i p s : Nat} {F f f' : Nat → Int} {b : BW} {o : Bool} (h : FInv n F i p s b f o) (hlt : i < p) (hf : ∀ j, j < s - i - 1 → f' j = f (j + 1)) : FInv n F (i + 1) p s b f' o ∧ f 0 = allB false n F i := by
  obtain ⟨k, E, e1, e2, e3, e4, e5⟩ := h.want
  have h1 := h.ps
  have h2 := h.s5
  refine ⟨⟨by omega, h1, h.sn, by omega, h.ok, h.ov, k, E, e1, e2, e3, e4, fun j hj => ?_⟩, ?_⟩
  · rw [hf j (by omega), e5 (j + 1) (by omega)]
    congr 1; omega
  · rw [e2, runB_below _ _ _ _ _ _ hlt, e5 0 (by omega)]
    rfl
end Go.Proofs.Ytkahjjmjbcjaaaa
