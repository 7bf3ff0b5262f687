/- The document's coder (05): Ask, all kinds. -/
import Derived.Test.YtomjagibcdneiaaEnc5d
import Derived.Test.YtomjagibcdneiaaEnc5e
import Derived.Test.YtomjagibcdneiaaEnc5f
import Derived.Test.YtomjagibcdneiaaEnc5g
namespace Go.Proofs.Ytomjagibcdneiaa
open Go.RowKit

theorem win_row {cs cs' : Array Value} {P L : Nat} {q r : Nat → Int} (h : Win cs cs' P L r) (hc : ∀ j, j < 600 → cs[j]? = some (.int .u16 (q j))) : ∀ j, j < 600 → cs'[j]? = some (.int .u16 (spliceQ q P L r j)) := by
  intro j hj
  unfold spliceQ
  by_cases h1 : P ≤ j ∧ j < P + L
  · rw [if_pos h1]
    have := h.cell (j - P) (by omega)
    rw [show P + (j - P) = j by omega] at this
    exact this
  · rw [if_neg h1, h.rest j (by omega)]; exact hc j hj
theorem eask_any (A : Nat → Prop) (g gq N cap : Nat) (c : RC) (q : Nat → Int) (a : Ask) (w : World) (h : EncC A g w c) (hA : A gq) (hok : c.Ok N) (hby : c.bytes) (hN : N ≤ 1073741000)
    (hb : RowQ w gq q) (hp : Pr q 600) (ha : a.Right) (hv : 0 ≤ a.val ∧ a.val < 4294967296) :
    Calls Try.prog 21 #[.pointer (some ⟨g, 0, none⟩), .slice (some ⟨gq, 0, none⟩) 600 cap, .agg #[.int .i64 a.kind, .int .i64 a.at_, .int .i64 a.bits, .int .u32 a.val]] w (EAPost A g gq w (c.ask q a)) := by
  obtain ⟨k, p, b, v⟩ := a
  simp only at hv
  obtain ⟨V, rfl⟩ := Int.eq_ofNat_of_zero_le hv.1
  have hV : V < 4294967296 := by omega
  obtain ⟨cs, hb, hcs⟩ := hb
  rcases ha with ⟨hk, h1, h2⟩ | ⟨hk, h1, h2, h3, h4⟩ | ⟨hk, h1, h2⟩
  · simp only at hk h1 h2
    subst hk
    obtain ⟨P, rfl⟩ := Int.eq_ofNat_of_zero_le h1
    have e : c.ask q ⟨0, P, b, V⟩ = (upd q P (c.bit (q P) (V % 2)).1, (c.bit (q P) (V % 2)).2) := if_pos rfl
    rw [e]
    have hP : P < 600 := by omega
    refine (eask_0 A g gq N P V cap b c (q P) cs w h hA hok hby hN hb (hcs P hP) (hp P hP) hP hV).mono ?_
    rintro e w' ⟨h1, h2, h3, h4⟩
    refine ⟨h1, h2, h3, _, h4, fun j hj => ?_⟩
    have hsz := (Array.getElem?_eq_some_iff.1 (hcs P hP)).1
    rw [Array.getElem?_setIfInBounds]
    by_cases ej : P = j
    · subst ej
      rw [if_pos rfl, if_pos hsz]
      show some (Value.int IntKind.u16 _) = some (Value.int IntKind.u16 (upd q P _ P))
      rw [upd_same]
    · rw [if_neg ej]
      show cs[j]? = some (Value.int IntKind.u16 (upd q P _ j))
      rw [upd_ne _ _ (fun e => ej e.symm)]
      exact hcs j hj
  · simp only at hk h1 h2 h3 h4
    obtain ⟨P, rfl⟩ := Int.eq_ofNat_of_zero_le h1
    obtain ⟨B, rfl⟩ := Int.eq_ofNat_of_zero_le (a := b) (by omega)
    have hB2 : B ≤ 8 := by omega
    have hP8 : 2 ^ B ≤ 256 := by
      have : 2 ^ B ≤ 2 ^ 8 := Nat.pow_le_pow_right (by decide) hB2
      omega
    have hPr : Pr (fun j => q (P + j)) (2 ^ B) := fun j hj => hp (P + j) (by omega)
    have hCell : ∀ j, j < 2 ^ B → cs[P + j]? = some (.int .u16 (q (P + j))) := fun j hj => hcs _ (by omega)
    rcases hk with hk | hk
    · subst hk
      have e : c.ask q ⟨1, P, B, V⟩ = (spliceQ q P (2 ^ B) (c.tree B (fun j => q (P + j)) V).1, (c.tree B (fun j => q (P + j)) V).2) := by
        unfold RC.ask
        rw [if_neg (by show ¬ (1 : Int) = 0; decide), if_pos rfl]
        rfl
      rw [e]
      refine (eask_1 A g gq N P B V cap c (fun j => q (P + j)) _ w h hA hok hby hN hb hCell hPr hB2 (by omega)).mono ?_
      rintro e w' ⟨h1, h2, h3, cs', h4, h5⟩
      exact ⟨h1, h2, h3, cs', h4, win_row h5 hcs⟩
    · subst hk
      have e : c.ask q ⟨2, P, B, V⟩ = (spliceQ q P (2 ^ B) (c.rev B (fun j => q (P + j)) V).1, (c.rev B (fun j => q (P + j)) V).2) := by
        unfold RC.ask
        rw [if_neg (by show ¬ (2 : Int) = 0; decide), if_neg (by show ¬ (2 : Int) = 1; decide), if_pos rfl]
        rfl
      rw [e]
      refine (eask_2 A g gq N P B V cap c (fun j => q (P + j)) _ w h hA hok hby hN hb hCell hPr hB2 (by omega)).mono ?_
      rintro e w' ⟨h1, h2, h3, cs', h4, h5⟩
      exact ⟨h1, h2, h3, cs', h4, win_row h5 hcs⟩
  · simp only at hk h1 h2
    subst hk
    obtain ⟨B, rfl⟩ := Int.eq_ofNat_of_zero_le h1
    have e : c.ask q ⟨3, p, B, V⟩ = (q, RC.strGo B c V) := by
      unfold RC.ask
      rw [if_neg (by show ¬ (3 : Int) = 0; decide), if_neg (by show ¬ (3 : Int) = 1; decide), if_neg (by show ¬ (3 : Int) = 2; decide)]
      rfl
    rw [e]
    refine (eask_3 A g N B V _ p c w h hok hby hN (by omega)).mono ?_
    rintro e w' ⟨h1, h2, h3⟩
    exact ⟨h1, h2.mono fun _ _ h => .inl h, h3, cs, h2.blk hb (fun e => e hA), hcs⟩
end Go.Proofs.Ytomjagibcdneiaa
