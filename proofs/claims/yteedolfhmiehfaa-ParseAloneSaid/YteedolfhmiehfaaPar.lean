/- Layer 10 in plain words: copies, the chain of places with one pair of bytes, packets. No program in sight. -/
import Derived.WalkKit
namespace Go.Proofs.Yteedolfhmiehfaa
open Go.RowKit

/-- how far a copy goes: from n on, fuel more at most. -/
def runFrom (b : Nat → Int) (i d : Nat) : Nat → Nat → Nat
  | 0, n => n
  | fuel + 1, n => if b (i + n) = b (i + n - 1 - d) then runFrom b i d fuel (n + 1) else n
theorem runFrom_ge (b : Nat → Int) (i d : Nat) : ∀ fuel n, n ≤ runFrom b i d fuel n
  | 0, n => Nat.le_refl n
  | fuel + 1, n => by
    unfold runFrom
    split
    · exact Nat.le_trans (Nat.le_succ n) (runFrom_ge b i d fuel (n + 1))
    · exact Nat.le_refl n
theorem runFrom_le (b : Nat → Int) (i d : Nat) : ∀ fuel n, runFrom b i d fuel n ≤ n + fuel
  | 0, n => Nat.le_refl n
  | fuel + 1, n => by
    unfold runFrom
    split
    · have := runFrom_le b i d fuel (n + 1); omega
    · omega
/-- what it passed is a copy. -/
theorem runFrom_eq (b : Nat → Int) (i d : Nat) : ∀ fuel n j, n ≤ j → j < runFrom b i d fuel n → b (i + j) = b (i + j - 1 - d)
  | 0, n, j, h1, h2 => by unfold runFrom at h2; omega
  | fuel + 1, n, j, h1, h2 => by
    unfold runFrom at h2
    split at h2
    · rename_i h
      by_cases e : j = n
      · subst e; exact h
      · exact runFrom_eq b i d fuel (n + 1) j (by omega) h2
    · omega
/-- where it stops short there is no copy. -/
theorem runFrom_ne (b : Nat → Int) (i d : Nat) : ∀ fuel n, runFrom b i d fuel n < n + fuel → b (i + runFrom b i d fuel n) ≠ b (i + runFrom b i d fuel n - 1 - d)
  | 0, n, h => by unfold runFrom at h; omega
  | fuel + 1, n, h => by
    unfold runFrom at h ⊢
    split
    · rename_i he
      rw [if_pos he] at h
      exact runFrom_ne b i d fuel (n + 1) (by omega)
    · rename_i he; exact he
theorem runFrom_all (b : Nat → Int) (i d : Nat) : ∀ fuel n, (∀ j, n ≤ j → j < n + fuel → b (i + j) = b (i + j - 1 - d)) → runFrom b i d fuel n = n + fuel
  | 0, n, _ => rfl
  | fuel + 1, n, h => by
    unfold runFrom
    rw [if_pos (h n (Nat.le_refl n) (by omega)), runFrom_all b i d fuel (n + 1) (fun j h1 h2 => h j (by omega) (by omega))]
    omega
/-- how many bytes the copy at a distance has at a place. -/
def lenAt (b : Nat → Int) (to dict i d : Nat) : Nat := if i ≤ d ∨ dict ≤ d then 0 else runFrom b i d (min 273 (to - i)) 0
theorem lenAt_le (b : Nat → Int) (to dict i d : Nat) : lenAt b to dict i d ≤ min 273 (to - i) := by
  unfold lenAt
  split
  · exact Nat.zero_le _
  · have := runFrom_le b i d (min 273 (to - i)) 0; omega

/-- the greatest of L 0 .. L (n - 1), and the first place where it is (0, 0: none is above 0). -/
def best (L : Nat → Nat) : Nat → Nat × Nat
  | 0 => (0, 0)
  | n + 1 => if (best L n).1 < L n then (L n, n) else best L n
theorem best_ge (L : Nat → Nat) : ∀ n j, j < n → L j ≤ (best L n).1
  | 0, j, h => by omega
  | n + 1, j, h => by
    unfold best
    split
    · by_cases e : j = n
      · subst e; exact Nat.le_refl _
      · have := best_ge L n j (by omega); omega
    · by_cases e : j = n
      · subst e; omega
      · exact best_ge L n j (by omega)
theorem best_at (L : Nat → Nat) : ∀ n, 0 < (best L n).1 → (best L n).2 < n ∧ L (best L n).2 = (best L n).1
  | 0, h => by simp [best] at h
  | n + 1, h => by
    unfold best at h ⊢
    split
    · exact ⟨Nat.lt_succ_self n, rfl⟩
    · rename_i hn
      rw [if_neg hn] at h
      have := best_at L n h
      exact ⟨by omega, this.2⟩
theorem best_zero (L : Nat → Nat) : ∀ n, (best L n).1 = 0 → best L n = (0, 0)
  | 0, _ => rfl
  | n + 1, h => by
    unfold best at h ⊢
    split
    · rename_i hn; rw [if_pos hn] at h; simp at h; omega
    · rename_i hn; rw [if_neg hn] at h; exact best_zero L n h
/-- it is none of those before. -/
theorem best_lt (L : Nat → Nat) : ∀ n j, j < (best L n).2 → L j < (best L n).1
  | 0, j, h => by simp [best] at h
  | n + 1, j, h => by
    unfold best at h ⊢
    split
    · rename_i hn
      rw [if_pos hn] at h
      have := best_ge L n j h
      omega
    · rename_i hn; rw [if_neg hn] at h; exact best_lt L n j h

/-- the greatest of those L d for which p d holds. -/
def sel (p : Nat → Bool) (L : Nat → Nat) : Nat → Nat × Nat
  | 0 => (0, 0)
  | n + 1 => if p n = true ∧ (sel p L n).1 < L n then (L n, n) else sel p L n
/-- where those that are left out are below 2, and the others are not: it is the greatest of all, if that is 2 at least. -/
theorem sel_best (p : Nat → Bool) (L : Nat → Nat) : ∀ n, (∀ d, d < n → (p d = true ↔ 2 ≤ L d)) → (sel p L n = best L n ∧ 2 ≤ (best L n).1) ∨ (sel p L n = (0, 0) ∧ (best L n).1 < 2)
  | 0, _ => .inr ⟨rfl, by simp [best]⟩
  | n + 1, h => by
    have ih := sel_best p L n (fun d hd => h d (by omega))
    have hn := h n (Nat.lt_succ_self n)
    unfold sel best
    by_cases hp : p n = true
    · have h2 := hn.1 hp
      rcases ih with ⟨e, e2⟩ | ⟨e, e2⟩
      · rw [e]
        by_cases hl : (best L n).1 < L n
        · rw [if_pos ⟨hp, hl⟩, if_pos hl]; exact .inl ⟨rfl, h2⟩
        · rw [if_neg (fun x => hl x.2), if_neg hl]; exact .inl ⟨rfl, e2⟩
      · rw [e, if_pos ⟨hp, by show 0 < L n; omega⟩, if_pos (by omega)]
        exact .inl ⟨rfl, h2⟩
    · have h2 : ¬ 2 ≤ L n := fun x => hp (hn.2 x)
      rw [if_neg (fun x => hp x.1)]
      rcases ih with ⟨e, e2⟩ | ⟨e, e2⟩
      · rw [if_neg (by omega)]; exact .inl ⟨e, e2⟩
      · refine .inr ⟨e, ?_⟩
        split
        · show L n < 2; omega
        · exact e2
theorem sel_le (p : Nat → Bool) (L : Nat → Nat) (M : Nat) (hM : ∀ d, L d ≤ M) : ∀ n, (sel p L n).1 ≤ M
  | 0 => Nat.zero_le M
  | n + 1 => by
    unfold sel
    split
    · exact hM n
    · exact sel_le p L M hM n
/-- the greatest that there may be stays. -/
theorem sel_stays (p : Nat → Bool) (L : Nat → Nat) (n : Nat) (hM : ∀ d, L d ≤ (sel p L n).1) : ∀ m, n ≤ m → sel p L m = sel p L n
  | 0, h => by obtain rfl : n = 0 := by omega
               rfl
  | m + 1, h => by
    by_cases e : n = m + 1
    · subst e; rfl
    · have ih := sel_stays p L n hM m (by omega)
      rw [sel, if_neg]
      · exact ih
      · rw [ih]; have := hM m; intro x; omega
/-- over a stretch without any nothing turns. -/
theorem sel_skip (p : Nat → Bool) (L : Nat → Nat) (n : Nat) : ∀ m, n ≤ m → (∀ d, n ≤ d → d < m → p d = false) → sel p L m = sel p L n
  | 0, h, _ => by obtain rfl : n = 0 := by omega
                  rfl
  | m + 1, h, hp => by
    by_cases e : n = m + 1
    · subst e; rfl
    · have ih := sel_skip p L n m (by omega) (fun d h1 h2 => hp d h1 (by omega))
      rw [sel, if_neg, ih]
      rw [hp m (by omega) (Nat.lt_succ_self m)]
      intro x; exact absurd x.1 (by decide)

/-- the last place below k with the pair p, and one; 0: none. -/
def prevP (pr : Nat → Nat) : Nat → Nat → Nat
  | 0, _ => 0
  | k + 1, p => if pr k = p then k + 1 else prevP pr k p
theorem prevP_le (pr : Nat → Nat) : ∀ k p, prevP pr k p ≤ k
  | 0, _ => Nat.le_refl 0
  | k + 1, p => by
    unfold prevP
    split
    · exact Nat.le_refl _
    · have := prevP_le pr k p; omega
theorem prevP_at (pr : Nat → Nat) : ∀ k p, 0 < prevP pr k p → pr (prevP pr k p - 1) = p
  | 0, _, h => by simp [prevP] at h
  | k + 1, p, h => by
    unfold prevP at h ⊢
    split
    · rename_i e; simpa using e
    · rename_i e; rw [if_neg e] at h; exact prevP_at pr k p h
theorem prevP_none (pr : Nat → Nat) : ∀ k p j, prevP pr k p ≤ j → j < k → pr j ≠ p
  | 0, _, j, _, h => by omega
  | k + 1, p, j, h1, h2 => by
    unfold prevP at h1
    split at h1
    · omega
    · rename_i e
      by_cases ej : j = k
      · subst ej; exact e
      · exact prevP_none pr k p j h1 (by omega)

/-- one packet. -/
structure Pk where
  kind : Nat
  len : Nat
  dist : Nat
  byte : Int
/-- the elder distances, number k ahead of the others. -/
def front (r : Nat → Nat) (k : Nat) (h : Nat) : Nat := if h = 0 then r k else if h ≤ k then r (h - 1) else r h
/-- the elder distances, a new one ahead. -/
def young (r : Nat → Nat) (d : Nat) (h : Nat) : Nat := if h = 0 then d else r (h - 1)
/-- the greatest copy at any distance (below 2: none). -/
def wide (b : Nat → Int) (to dict i : Nat) : Nat × Nat := best (lenAt b to dict i) (min i dict)
/-- how many bytes it has; below 2: none. -/
def wideLen (b : Nat → Int) (to dict i : Nat) : Nat := if (wide b to dict i).1 < 2 then 0 else (wide b to dict i).1
theorem wideLen_le (b : Nat → Int) (to dict i : Nat) : wideLen b to dict i ≤ (wide b to dict i).1 := by
  unfold wideLen
  split <;> omega
/-- the packet at a place, how many bytes it tells, and the elder distances behind it. -/
def packetAt (b : Nat → Int) (to dict i : Nat) (r : Nat → Nat) : Pk × Nat × (Nat → Nat) :=
  let e := best (fun h => lenAt b to dict i (r h)) 4
  let m := wideLen b to dict i
  if 2 ≤ e.1 ∧ m ≤ e.1 + 1 then (⟨2 + e.2, e.1, 0, 0⟩, e.1, front r e.2)
  else if 3 ≤ m ∨ m = 2 ∧ (wide b to dict i).2 < 128 then (⟨1, m, (wide b to dict i).2, 0⟩, m, young r (wide b to dict i).2)
  else if 0 < lenAt b to dict i (r 0) then (⟨6, 0, 0, 0⟩, 1, r)
  else (⟨0, 0, 0, b i⟩, 1, r)
theorem packetAt_pos (b : Nat → Int) (to dict i : Nat) (r : Nat → Nat) : 1 ≤ (packetAt b to dict i r).2.1 := by
  unfold packetAt
  dsimp only
  split
  · rename_i h; exact Nat.le_trans (by decide) h.1
  · split
    · rename_i h; show 1 ≤ wideLen b to dict i; omega
    · split <;> exact Nat.le_refl 1
theorem best_bound (L : Nat → Nat) (M : Nat) (h : ∀ d, L d ≤ M) (n : Nat) : (best L n).1 ≤ M := by
  by_cases h0 : 0 < (best L n).1
  · rw [← (best_at L n h0).2]; exact h _
  · omega
theorem wide_le (b : Nat → Int) (to dict i : Nat) : (wide b to dict i).1 ≤ min 273 (to - i) := best_bound _ _ (lenAt_le b to dict i) _
theorem elder_le (b : Nat → Int) (to dict i : Nat) (r : Nat → Nat) (n : Nat) : (best (fun h => lenAt b to dict i (r h)) n).1 ≤ min 273 (to - i) := best_bound _ _ (fun d => lenAt_le b to dict i (r d)) _
theorem packetAt_le (b : Nat → Int) (to dict i : Nat) (r : Nat → Nat) (h : i < to) : i + (packetAt b to dict i r).2.1 ≤ to := by
  have h1 := elder_le b to dict i r 4
  have h2 := wide_le b to dict i
  have h3 := wideLen_le b to dict i
  unfold packetAt
  dsimp only
  split
  · show i + (best (fun h => lenAt b to dict i (r h)) 4).1 ≤ to; omega
  · split
    · show i + wideLen b to dict i ≤ to; omega
    · split <;> (show i + 1 ≤ to; omega)
/-- the packets from a place on. -/
def findFrom (b : Nat → Int) (to dict : Nat) : Nat → Nat → (Nat → Nat) → List Pk × (Nat → Nat)
  | 0, _, r => ([], r)
  | fuel + 1, i, r =>
    if i < to then
      let x := packetAt b to dict i r
      let y := findFrom b to dict fuel (i + x.2.1) x.2.2
      (x.1 :: y.1, y.2)
    else ([], r)
end Go.Proofs.Yteedolfhmiehfaa
