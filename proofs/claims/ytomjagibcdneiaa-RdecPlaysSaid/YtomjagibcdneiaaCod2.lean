/- a range coder's bytes, as one great number. -/
import Derived.Test.YtomjagibcdneiaaCod
namespace Go.Proofs.Ytomjagibcdneiaa
open Go.RowKit

def valL (l : List Int) : Int := l.foldl (fun a x => a * 256 + x) 0
theorem valL_snoc (l : List Int) (x : Int) : valL (l ++ [x]) = valL l * 256 + x := by unfold valL; rw [List.foldl_append]; rfl
theorem pow_pos256 (m : Nat) : 1 ≤ (256 : Int) ^ m := by
  induction m with
  | zero => decide
  | succ m ih => rw [Int.pow_succ]; omega
theorem valL_rep (l : List Int) (m : Nat) : valL (l ++ List.replicate m 255) = valL l * 256 ^ m + (256 ^ m - 1) ∧ valL (l ++ List.replicate m 0) = valL l * 256 ^ m := by
  induction m with
  | zero => simp
  | succ m ih =>
    rw [List.replicate_succ', List.replicate_succ', ← List.append_assoc, ← List.append_assoc, valL_snoc, valL_snoc, ih.1, ih.2, Int.pow_succ, ← Int.mul_assoc]
    omega
theorem valL_append (l k : List Int) : valL (l ++ k) = valL l * 256 ^ k.length + valL k := by
  have aux : ∀ (k : List Int) (a : Int), k.foldl (fun a x => a * 256 + x) a = a * 256 ^ k.length + k.foldl (fun a x => a * 256 + x) 0 := by
    intro k
    induction k with
    | nil => intro a; simp
    | cons x k ih =>
      intro a
      simp only [List.foldl_cons, List.length_cons]
      rw [ih (a * 256 + x), ih (0 * 256 + x), Int.pow_succ, Int.add_mul, Int.add_mul, Int.mul_assoc, Int.mul_comm (256 ^ k.length)]
      omega
  unfold valL
  rw [List.foldl_append, aux]
/-- all that a coder has told so far. -/
def RC.val (c : RC) : Int := ((valL c.out * 256 + c.waits) * 256 ^ c.more + (256 ^ c.more - 1)) * 4294967296 + c.low
def RC.len (c : RC) : Nat := c.out.length + c.more + 5
def RC.bytes (c : RC) : Prop := ∀ x, x ∈ c.out → 0 ≤ x ∧ x < 256
theorem give_len (c : RC) : c.give.len = c.len + 1 := by
  have := give_size c
  unfold RC.len; omega
theorem give_bytes {c : RC} (h : c.bytes) : c.give.bytes := by
  unfold RC.give
  by_cases hm : c.moves
  · rw [if_pos hm]
    intro x hx
    simp only [List.mem_append, List.mem_cons, List.mem_replicate] at hx
    rcases hx with hx | hx | hx
    · exact h x hx
    · omega
    · omega
  · rw [if_neg hm]; exact h
theorem give_val (c : RC) (h0 : 0 ≤ c.low) (h1 : c.low < 8589934592) (hw0 : 0 ≤ c.waits) (hw1 : c.waits < 256) (hw : c.waits = 255 → c.low < 4294967296) : c.give.val = 256 * c.val := by
  obtain ⟨X, hX⟩ : ∃ X, X = valL c.out * 256 + c.waits := ⟨_, rfl⟩
  obtain ⟨P, hP⟩ : ∃ P : Int, P = 256 ^ c.more := ⟨_, rfl⟩
  have hv : c.val = (X * P + (P - 1)) * 4294967296 + c.low := by unfold RC.val; rw [hX, hP]
  rw [hv]
  clear hv
  unfold RC.give
  by_cases hm : c.moves
  · rw [if_pos hm]
    have hm' : c.low < 4278190080 ∨ 4294967296 ≤ c.low := hm
    have hcons : ∀ (a : Int) (l : List Int), c.out ++ a :: l = (c.out ++ [a]) ++ l := by simp
    unfold RC.val
    dsimp only
    rw [hcons]
    unfold RC.carry
    by_cases hc : c.low < 4294967296
    · have e0 : c.low / 4294967296 = 0 := by omega
      have e1 : (c.waits + 0) % 256 = c.waits := by omega
      rw [e0, e1, show ((255 : Int) + 0) % 256 = 255 by decide, (valL_rep _ _).1, valL_snoc, ← hX, ← hP]
      generalize X * P = Y
      simp only [Int.pow_zero, Int.mul_one]
      omega
    · have e0 : c.low / 4294967296 = 1 := by omega
      have e1 : (c.waits + 1) % 256 = c.waits + 1 := by omega
      have e2 : (X + 1) * P = X * P + P := by rw [Int.add_mul, Int.one_mul]
      rw [e0, e1, show ((255 : Int) + 1) % 256 = 0 by decide, (valL_rep _ _).2, valL_snoc, show valL c.out * 256 + (c.waits + 1) = X + 1 by omega, ← hP, e2]
      generalize X * P = Y
      simp only [Int.pow_zero, Int.mul_one]
      omega
  · rw [if_neg hm]
    have hm' : ¬ (c.low < 4278190080 ∨ 4294967296 ≤ c.low) := hm
    have e2 : X * (P * 256) = X * P * 256 := by rw [Int.mul_assoc]
    unfold RC.val
    dsimp only
    rw [Int.pow_succ, ← hX, ← hP, e2]
    generalize X * P = Y
    omega
theorem part_val (c : RC) (a r : Int) : (⟨c.low + a, r, c.waits, c.more, c.out⟩ : RC).val = c.val + a := by unfold RC.val; dsimp only; omega
theorem rng_val (c : RC) (r : Int) : (⟨c.low, r, c.waits, c.more, c.out⟩ : RC).val = c.val := rfl
/-- evening out: k bytes more, both numbers that much greater. -/
theorem lev_val (n : Nat) : ∀ (c : RC), 0 ≤ c.low → 16777216 ≤ c.rng * 256 ^ n → c.rng < 4294967296 → c.low + c.rng ≤ 8589934592 → 0 ≤ c.waits → c.waits < 256 → (c.waits = 255 → c.low + c.rng ≤ 4294967296) → 1 ≤ c.rng → c.bytes →
    ∃ k, (c.lev n).val = 256 ^ k * c.val ∧ (c.lev n).rng = 256 ^ k * c.rng ∧ (c.lev n).len = c.len + k ∧ (c.lev n).bytes := by
  induction n with
  | zero => intro c _ _ _ _ _ _ _ _ h; exact ⟨0, by simp [RC.lev], by simp [RC.lev], rfl, h⟩
  | succ n ih =>
    intro c h1 h2 h3 h4 h5 h6 h7 h8 h9
    unfold RC.lev
    by_cases hr : c.rng < 16777216
    · rw [if_pos hr]
      have hf : (⟨c.low, c.rng * 256, c.waits, c.more, c.out⟩ : RC).Fit (c.out.length + c.more) := ⟨h1, by show c.low < _; omega, h5, h6, Nat.le_refl _⟩
      obtain ⟨⟨g1, g2, g3, g4, g5⟩, g6⟩ := hf.give
      have hlow : (⟨c.low, c.rng * 256, c.waits, c.more, c.out⟩ : RC).give.low = c.low % 16777216 * 256 := by unfold RC.give; split <;> rfl
      have a1 : 16777216 ≤ (⟨c.low, c.rng * 256, c.waits, c.more, c.out⟩ : RC).give.rng * 256 ^ n := by
        rw [give_rng]
        have e : c.rng * 256 * 256 ^ n = c.rng * 256 ^ (n + 1) := by rw [Int.pow_succ, Int.mul_assoc, Int.mul_comm 256]
        show 16777216 ≤ c.rng * 256 * 256 ^ n
        rw [e]; exact h2
      have a2 : (⟨c.low, c.rng * 256, c.waits, c.more, c.out⟩ : RC).give.rng < 4294967296 := by rw [give_rng]; show c.rng * 256 < _; omega
      have a3 : (⟨c.low, c.rng * 256, c.waits, c.more, c.out⟩ : RC).give.low + (⟨c.low, c.rng * 256, c.waits, c.more, c.out⟩ : RC).give.rng ≤ 8589934592 := by rw [give_rng, hlow]; show _ + c.rng * 256 ≤ _; omega
      have a4 : (⟨c.low, c.rng * 256, c.waits, c.more, c.out⟩ : RC).give.waits = 255 → (⟨c.low, c.rng * 256, c.waits, c.more, c.out⟩ : RC).give.low + (⟨c.low, c.rng * 256, c.waits, c.more, c.out⟩ : RC).give.rng ≤ 4294967296 := by
        rw [give_rng, hlow]
        show _ → _ + c.rng * 256 ≤ _
        unfold RC.give
        by_cases hm : (⟨c.low, c.rng * 256, c.waits, c.more, c.out⟩ : RC).moves
        · rw [if_pos hm]
          have hm' : c.low < 4278190080 ∨ 4294967296 ≤ c.low := hm
          dsimp only
          omega
        · rw [if_neg hm]
          have hm' : ¬ (c.low < 4278190080 ∨ 4294967296 ≤ c.low) := hm
          dsimp only
          intro hw
          have := h7 hw
          omega
      have a5 : 1 ≤ (⟨c.low, c.rng * 256, c.waits, c.more, c.out⟩ : RC).give.rng := by rw [give_rng]; show 1 ≤ c.rng * 256; omega
      obtain ⟨k, k1, k2, k3, k4⟩ := ih (⟨c.low, c.rng * 256, c.waits, c.more, c.out⟩ : RC).give g1 a1 a2 a3 g3 g4 a4 a5 (give_bytes (c := ⟨c.low, c.rng * 256, c.waits, c.more, c.out⟩) h9)
      refine ⟨k + 1, ?_, ?_, ?_, k4⟩
      · rw [k1, give_val ⟨c.low, c.rng * 256, c.waits, c.more, c.out⟩ h1 (by show c.low < _; omega) h5 h6 (fun e => by have := h7 e; show c.low < _; omega), Int.pow_succ, Int.mul_assoc]
        rfl
      · rw [k2, give_rng, Int.pow_succ, Int.mul_assoc, Int.mul_comm 256 c.rng]
      · rw [k3, give_len]; show c.len + 1 + k = _; omega
    · rw [if_neg hr]; exact ⟨0, by simp, by simp, rfl, h9⟩
theorem RC.Ok.part_val {c : RC} {N : Nat} (h : c.Ok N) (hb : c.bytes) {a r : Int} (ha : 0 ≤ a) (hr : 1 ≤ r) (har : a + r ≤ c.rng) :
    ∃ k, (c.part a r).val = 256 ^ k * (c.val + a) ∧ (c.part a r).rng = 256 ^ k * r ∧ (c.part a r).len = c.len + k ∧ (c.part a r).bytes := by
  obtain ⟨h1, h2, h3, h4, h5, h6, h7, h8⟩ := h
  have := lev_val 3 (⟨c.low + a, r, c.waits, c.more, c.out⟩ : RC) (by show 0 ≤ c.low + a; omega) (by show 16777216 ≤ r * 16777216; omega) (by show r < _; omega) (by show c.low + a + r ≤ _; omega) h5 h6 (fun hw => by have := h7 hw; show c.low + a + r ≤ _; omega) hr hb
  rw [Go.Proofs.Ytomjagibcdneiaa.part_val] at this
  exact this
end Go.Proofs.Ytomjagibcdneiaa
