/- bcj: the plain laws. -/
import Derived.Test.YtkahjjmjbcjaaaaBcj6
namespace Go.Proofs.Ytkahjjmjbcjaaaa
open Go.RowKit

def BW.dec (b : BW) : BW := ⟨b.place, b.gap, b.mask, false⟩
theorem edge_two {x : Int} (h : edgeB x = true) : x = 0 ∨ x = 255 := by unfold edgeB at h; simpa using h
theorem put4_back {f : Nat → Int} (hx : ∀ j, j < 5 → 0 ≤ f j ∧ f j < 256) (h4 : edgeB (f 4) = true) (g : Nat → Int) (hg : g 0 = f 0) (t : Int) (ht : t % 33554432 = wordOf f % 33554432) : ∀ j, j < 5 → put4 g t j = f j := by
  obtain ⟨p0, p1, p2, p3, p4⟩ := put4_at g t
  have b1 := hx 1 (by decide)
  have b2 := hx 2 (by decide)
  have b3 := hx 3 (by decide)
  unfold wordOf at ht
  have h4' := edge_two h4
  intro j hj
  have h5 : j = 0 ∨ j = 1 ∨ j = 2 ∨ j = 3 ∨ j = 4 := by omega
  rcases h5 with rfl | rfl | rfl | rfl | rfl
  · rw [p0, hg]
  · rw [p1]; rcases h4' with e | e <;> (rw [e] at ht; omega)
  · rw [p2]; rcases h4' with e | e <;> (rw [e] at ht; omega)
  · rw [p3]; rcases h4' with e | e <;> (rw [e] at ht; omega)
  · rw [p4]; rcases h4' with e | e <;> (rw [e] at ht; rw [e]; omega)
theorem word_put4 (f : Nat → Int) (t : Int) : wordOf (put4 f t) % 33554432 = t % 33554432 := by
  obtain ⟨p0, p1, p2, p3, p4⟩ := put4_at f t
  unfold wordOf
  rw [p1, p2, p3, p4]
  omega
theorem noTurn_put4 {b : BW} {f : Nat → Int} (hm8 : b.mask < 8) (hx : ∀ j, j < 5 → 0 ≤ f j ∧ f j < 256) (h : noTurn b.mask f = false) : noTurn b.mask (put4 f (b.turned (wordOf f))) = false := by
  obtain ⟨h1, h2⟩ := noTurn_parts h
  obtain ⟨p0, p1, p2, p3, p4⟩ := put4_at f (b.turned (wordOf f))
  have e4 : edgeB (put4 f (b.turned (wordOf f)) 4) = true := by
    rw [p4]
    have : b.turned (wordOf f) / 16777216 % 2 = 0 ∨ b.turned (wordOf f) / 16777216 % 2 = 1 := by omega
    rcases this with e | e <;> rw [e] <;> decide
  by_cases h0 : b.mask = 0
  · unfold noTurn stopB; rw [e4, h0]; rfl
  · obtain ⟨h3, h4⟩ := turned_byte hm8 hx h1 h0
    unfold noTurn stopB
    rw [e4, h4]
    rcases h3 with e | e | e <;> rw [e] <;> rfl
theorem word_congr {f g : Nat → Int} (h : ∀ j, j < 5 → f j = g j) : wordOf f = wordOf g := by
  unfold wordOf; rw [h 1 (by decide), h 2 (by decide), h 3 (by decide), h 4 (by decide)]

theorem dec_back (n : Nat) (k : Nat) : ∀ (i : Nat) (b : BW) (E D : Nat → Int), b.ok → b.code = true → (∀ j, j < n → 0 ≤ E j ∧ E j < 256) → (∀ j, i ≤ j → D j = runB n k i b E j) → ∀ j, i ≤ j → runB n k i b.dec D j = E j := by
  induction k with
  | zero => intro i b E D _ _ _ hD j hj; exact hD j hj
  | succ k ih =>
    intro i b E D hok hcode hE hD j hj
    by_cases hn : i + 4 < n
    · have hstep : ∀ (b : BW) (E : Nat → Int), runB n (k + 1) i b E = runB n k (i + (b.pass (fun j => E (i + j))).2.2) (b.pass (fun j => E (i + j))).1 (lay E i 5 (b.pass (fun j => E (i + j))).2.1) := fun b E => if_pos hn
      rw [hstep] at hD ⊢
      have hp := pass_inv (f := fun j => E (i + j)) hok
      have hup : b.dec.up = ⟨b.place, b.up.gap, b.mask, false⟩ := rfl
      have hbx : ∀ j, j < 5 → 0 ≤ E (i + j) ∧ E (i + j) < 256 := fun j hj => hE _ (by omega)
      cases hc : isCall (E (i + 0)) with
      | false =>
        rw [pass_plain (f := fun j => E (i + j)) hc] at hD hp
        dsimp only at hD hp
        rw [lay_same] at hD
        have hDi : D i = E i := by rw [hD i (Nat.le_refl _), runB_below _ _ _ _ _ _ (by omega)]
        have hc2 : isCall (D (i + 0)) = false := by rw [Nat.add_zero, hDi]; exact hc
        rw [pass_plain (f := fun j => D (i + j)) hc2]
        dsimp only
        rw [lay_same]
        by_cases hij : j = i
        · rw [hij, runB_below _ _ _ _ _ _ (by omega), hDi]
        · exact ih (i + 1) _ E D hp.1 hcode hE (fun j hj => hD j (by omega)) j (by omega)
      | true =>
        cases ht : noTurn (shiftM b.up.gap b.mask) (fun j => E (i + j)) with
        | true =>
          rw [pass_no (f := fun j => E (i + j)) hc ht] at hD hp
          dsimp only at hD hp
          rw [lay_same] at hD
          have hDi : D i = E i := by rw [hD i (Nat.le_refl _), runB_below _ _ _ _ _ _ (by omega)]
          have hc2 : isCall (D (i + 0)) = true := by rw [Nat.add_zero, hDi]; exact hc
          have hl := later n i k 1 _ E hp.1 (Nat.le_refl _) (by show min (0 + 1) 4 ≤ 1; omega) (fun _ => by
            show shiftM (min (0 + 1) 4) (shiftM b.up.gap b.mask * 2 % 8 + 1) / 2 ^ 0 % 2 = 1
            have e2 : shiftM (min (0 + 1) 4) (shiftM b.up.gap b.mask * 2 % 8 + 1) = (shiftM b.up.gap b.mask * 2 % 8 + 1) % 8 := by
              show (if 3 < min (0 + 1) 4 then 0 else _) = _
              rw [if_neg (by decide)]
              simp
            rw [e2]
            simp) hE
          have ht2 : noTurn (shiftM b.up.gap b.mask) (fun j => D (i + j)) = true := by
            rcases hl with hl | hl
            · rw [← ht]
              exact noTurn_congr fun j hj => by
                show D (i + j) = E (i + j)
                rw [hD _ (by omega)]; exact hl j hj
            · refine noTurn_edge ?_
              show edgeB (D (i + 4)) = false
              rw [hD _ (by omega)]; exact hl
          rw [pass_no (b := b.dec) (f := fun j => D (i + j)) hc2 ht2]
          dsimp only
          rw [lay_same]
          by_cases hij : j = i
          · rw [hij, runB_below _ _ _ _ _ _ (by omega), hDi]
          · exact ih (i + 1) _ E D hp.1 hcode hE (fun j hj => hD j (by omega)) j (by omega)
        | false =>
          rw [pass_turn (f := fun j => E (i + j)) hc ht] at hD hp
          dsimp only at hD hp
          generalize hT : ((⟨b.place, 0, shiftM b.up.gap b.mask, b.code⟩ : BW).turned (wordOf fun j => E (i + j))) = T at *
          have hDj : ∀ j, j < 5 → D (i + j) = put4 (fun j => E (i + j)) T j := fun j hj => by
            rw [hD _ (by omega), runB_below _ _ _ _ _ _ (by omega), lay_in _ _ _ _ hj]
          have hDi : D (i + 0) = E (i + 0) := by rw [hDj 0 (by decide)]; rfl
          have hc2 : isCall (D (i + 0)) = true := by rw [hDi]; exact hc
          have ht2 : noTurn (shiftM b.up.gap b.mask) (fun j => D (i + j)) = false := by
            rw [noTurn_congr hDj, ← hT]
            exact noTurn_put4 (b := ⟨b.place, 0, shiftM b.up.gap b.mask, b.code⟩) (f := fun j => E (i + j)) (shiftM_lt _ _) hbx ht
          rw [pass_turn (b := b.dec) (f := fun j => D (i + j)) hc2 ht2]
          dsimp only
          obtain ⟨hst, hed⟩ := noTurn_parts ht
          have hback : ∀ j, j < 5 → put4 (fun j => D (i + j)) ((⟨b.place, 0, shiftM b.up.gap b.mask, false⟩ : BW).turned (wordOf fun j => D (i + j))) j = E (i + j) := by
            refine put4_back (f := fun j => E (i + j)) hbx hed _ hDi _ ?_
            refine turn_back ⟨b.place, 0, shiftM b.up.gap b.mask, b.code⟩ ⟨b.place, 0, shiftM b.up.gap b.mask, false⟩ hcode rfl rfl rfl _ _ ?_ (stop_no (shiftM_lt _ _) hbx hst)
            rw [word_congr hDj, word_put4, hT]
          by_cases hij : j < i + 5
          · rw [runB_below _ _ _ _ _ _ hij]
            have e : j = i + (j - i) := by omega
            rw [e, lay_in _ _ _ _ (by omega)]
            exact hback _ (by omega)
          · have hih := ih (i + 5) _ _ (lay D i 5 (put4 (fun j => D (i + j)) ((⟨b.place, 0, shiftM b.up.gap b.mask, false⟩ : BW).turned (wordOf fun j => D (i + j))))) hp.1 hcode (fun j hj => lay_range hE (fun j hj => hp.2.2 j (hbx j hj)) j hj) (fun j hj => by
              rw [lay_out _ _ _ _ (by omega)]; exact hD j (by omega)) j (by omega)
            rw [lay_out _ _ _ _ (by omega)] at hih
            exact hih
    · rw [runB_end hn] at hD ⊢
      exact hD j hj
theorem all_back (n : Nat) (F : Nat → Int) (hF : ∀ j, j < n → 0 ≤ F j ∧ F j < 256) (j : Nat) : allB false n (allB true n F) j = F j :=
  dec_back n n 0 ⟨0, 0, 0, true⟩ F _ ⟨by decide, by decide, by decide, by decide⟩ rfl hF (fun _ _ => rfl) j (Nat.zero_le _)

/-- a byte that no instruction stands ahead of stays. -/
theorem runB_stays (n : Nat) (k : Nat) : ∀ (i : Nat) (b : BW) (E : Nat → Int) (j : Nat), (∀ p, i ≤ p → p < j → j ≤ p + 4 → isCall (E p) = false) → runB n k i b E j = E j := by
  induction k with
  | zero => intro i b E j _; rfl
  | succ k ih =>
    intro i b E j h
    unfold runB
    by_cases hn : i + 4 < n
    · rw [if_pos hn]
      cases hc : isCall (E (i + 0)) with
      | false =>
        rw [pass_plain (f := fun j => E (i + j)) hc]
        dsimp only
        rw [lay_same]
        exact ih _ _ _ _ fun p hp => h p (by omega)
      | true =>
        cases ht : noTurn (shiftM b.up.gap b.mask) (fun j => E (i + j)) with
        | true =>
          rw [pass_no (f := fun j => E (i + j)) hc ht]
          dsimp only
          rw [lay_same]
          exact ih _ _ _ _ fun p hp => h p (by omega)
        | false =>
          rw [pass_turn (f := fun j => E (i + j)) hc ht]
          dsimp only
          by_cases hj : j ≤ i
          · rw [runB_below _ _ _ _ _ _ (by omega)]
            by_cases hji : j = i
            · rw [hji]
              have := lay_in E (put4 (fun j => E (i + j)) ((⟨b.place, 0, shiftM b.up.gap b.mask, b.code⟩ : BW).turned (wordOf fun j => E (i + j)))) i 0 (by decide)
              rw [Nat.add_zero] at this
              rw [this]; rfl
            · rw [lay_out _ _ _ _ (by omega)]
          · by_cases hj2 : j ≤ i + 4
            · have := h i (Nat.le_refl _) (by omega) hj2
              rw [Nat.add_zero] at hc
              rw [hc] at this
              cases this
            · rw [ih _ _ _ _ (fun p hp hp2 hp3 => by rw [lay_out _ _ _ _ (by omega)]; exact h p (by omega) hp2 hp3), lay_out _ _ _ _ (by omega)]
    · rw [if_neg hn]
/-- numbers that are alike below n. -/
theorem pass_congr {b : BW} {f g : Nat → Int} (h : ∀ j, j < 5 → f j = g j) : (b.pass f).1 = (b.pass g).1 ∧ (b.pass f).2.2 = (b.pass g).2.2 ∧ ∀ j, j < 5 → (b.pass f).2.1 j = (b.pass g).2.1 j := by
  cases hc : isCall (f 0) with
  | false =>
    rw [pass_plain hc, pass_plain (f := g) (by rw [← h 0 (by decide)]; exact hc)]
    exact ⟨rfl, rfl, h⟩
  | true =>
    have hc2 : isCall (g 0) = true := by rw [← h 0 (by decide)]; exact hc
    cases ht : noTurn (shiftM b.up.gap b.mask) f with
    | true =>
      rw [pass_no hc ht, pass_no hc2 (by rw [← noTurn_congr h]; exact ht)]
      exact ⟨rfl, rfl, h⟩
    | false =>
      rw [pass_turn hc ht, pass_turn hc2 (by rw [← noTurn_congr h]; exact ht), word_congr h]
      refine ⟨rfl, rfl, fun j hj => ?_⟩
      dsimp only
      unfold put4 upd
      rw [h j hj]
theorem runB_congr (n : Nat) (k : Nat) : ∀ (i : Nat) (b : BW) (E D : Nat → Int), (∀ j, j < n → E j = D j) → ∀ j, j < n → runB n k i b E j = runB n k i b D j := by
  induction k with
  | zero => intro i b E D h j hj; exact h j hj
  | succ k ih =>
    intro i b E D h j hj
    unfold runB
    by_cases hn : i + 4 < n
    · rw [if_pos hn, if_pos hn]
      obtain ⟨h1, h2, h3⟩ := pass_congr (b := b) (f := fun j => E (i + j)) (g := fun j => D (i + j)) (fun j hj => h _ (by omega))
      rw [h1, h2]
      refine ih _ _ _ _ (fun j hj => ?_) j hj
      unfold lay
      by_cases hl : i ≤ j ∧ j < i + 5
      · rw [if_pos hl, if_pos hl]; exact h3 _ (by omega)
      · rw [if_neg hl, if_neg hl]; exact h j hj
    · rw [if_neg hn, if_neg hn]; exact h j hj
theorem allB_congr {code : Bool} {n : Nat} {E D : Nat → Int} (h : ∀ j, j < n → E j = D j) : ∀ j, j < n → allB code n E j = allB code n D j := runB_congr n n 0 _ E D h
theorem runB_range (n : Nat) (k : Nat) : ∀ (i : Nat) (b : BW) (E : Nat → Int), b.ok → (∀ j, j < n → 0 ≤ E j ∧ E j < 256) → ∀ j, j < n → 0 ≤ runB n k i b E j ∧ runB n k i b E j < 256 := by
  induction k with
  | zero => intro i b E _ h; exact h
  | succ k ih =>
    intro i b E hok h
    unfold runB
    by_cases hn : i + 4 < n
    · rw [if_pos hn]
      have hp := pass_inv (f := fun j => E (i + j)) hok
      exact ih _ _ _ hp.1 (lay_range h (fun j hj => hp.2.2 j (h _ (by omega))))
    · rw [if_neg hn]; exact h
theorem allB_range {code : Bool} {n : Nat} {E : Nat → Int} (h : ∀ j, j < n → 0 ≤ E j ∧ E j < 256) : ∀ j, j < n → 0 ≤ allB code n E j ∧ allB code n E j < 256 :=
  runB_range n n 0 ⟨0, 0, 0, code⟩ E ⟨by show (0:Nat) < 8; decide, by show (0:Nat) ≤ 4; decide, by show (0:Int) ≤ 0; decide, by show (0:Int) < 4294967296; decide⟩ h
end Go.Proofs.Ytkahjjmjbcjaaaa
