/- a number's bytes, one of which is turned; what a coder's number is below. -/
import Derived.Test.YtomjagibcdneiaaCod3
namespace Go.Proofs.Ytomjagibcdneiaa
open Go.RowKit

def bytesL (l : List Int) : Prop := ∀ x, x ∈ l → 0 ≤ x ∧ x < 256
theorem valL_cons (x : Int) (l : List Int) : valL (x :: l) = x * 256 ^ l.length + valL l := by
  have := valL_append [x] l
  rw [show valL [x] = x by show 0 * 256 + x = x; omega] at this
  exact this
theorem valL_set (l : List Int) (j : Nat) (x : Int) (hj : j < l.length) : valL (l.set j x) = valL l + (x - l.getD j 0) * 256 ^ (l.length - 1 - j) := by
  have e1 : l.set j x = l.take j ++ x :: l.drop (j + 1) := List.set_eq_take_append_cons_drop.trans (if_pos hj)
  have e2 : l = l.take j ++ l.getD j 0 :: l.drop (j + 1) := by
    have := List.take_append_drop j l
    rw [List.drop_eq_getElem_cons hj] at this
    rw [show l.getD j 0 = l[j] by simp [List.getD, hj]]
    exact this.symm
  have e3 : valL l = valL (l.take j ++ l.getD j 0 :: l.drop (j + 1)) := congrArg valL e2
  rw [e1, e3, valL_append, valL_append, valL_cons, valL_cons]
  have el : (l.drop (j + 1)).length = l.length - 1 - j := by rw [List.length_drop]; omega
  rw [List.length_cons, List.length_cons, el, Int.sub_mul]
  generalize valL (l.take j) * 256 ^ (l.length - 1 - j + 1) = a
  generalize valL (l.drop (j + 1)) = b
  generalize l.getD j 0 * 256 ^ (l.length - 1 - j) = c
  generalize x * 256 ^ (l.length - 1 - j) = d
  omega
theorem bytesL_set {l : List Int} (h : bytesL l) (j : Nat) {x : Int} (hx : 0 ≤ x ∧ x < 256) : bytesL (l.set j x) := by
  intro y hy
  rcases List.mem_or_eq_of_mem_set hy with hy | rfl
  · exact h y hy
  · exact hx
theorem bytesL_getD {l : List Int} (h : bytesL l) (j : Nat) : 0 ≤ l.getD j 0 ∧ l.getD j 0 < 256 := by
  by_cases hj : j < l.length
  · rw [show l.getD j 0 = l[j] by simp [List.getD, hj]]; exact h _ (List.getElem_mem hj)
  · rw [show l.getD j 0 = 0 by simp [List.getD, hj]]; omega
theorem bytesL_snoc {l : List Int} (h : bytesL l) : bytesL (l ++ [0]) := by
  intro y hy
  simp at hy
  rcases hy with hy | rfl
  · exact h y hy
  · omega
/-- one byte of a sum. -/
theorem add_step {l : List Int} {n : Nat} {x T : Int} (hn : n + 1 ≤ l.length) (hT : valL l + x * 256 ^ (l.length - (n + 1)) = T) :
    valL (l.set n ((x + l.getD n 0) % 256)) + (x + l.getD n 0) / 256 * 256 ^ (l.length - n) = T := by
  rw [valL_set l n _ (by omega), ← hT]
  have e : l.length - n = (l.length - 1 - n) + 1 := by omega
  have e2 : l.length - (n + 1) = l.length - 1 - n := by omega
  rw [e, e2, Int.pow_succ]
  generalize (256 : Int) ^ (l.length - 1 - n) = P
  generalize l.getD n 0 = b
  have h1 : ((x + b) % 256 - b) * P = (x + b) % 256 * P - b * P := Int.sub_mul _ _ _
  have h2 : (x + b) / 256 * (P * 256) = (x + b) / 256 * 256 * P := by rw [Int.mul_comm P, Int.mul_assoc]
  have h3 : x * P = (x + b - b) * P := by rw [show x + b - b = x by omega]
  have h4 : (x + b - b) * P = ((x + b) % 256 + (x + b) / 256 * 256) * P - b * P := by
    rw [show (x + b) % 256 + (x + b) / 256 * 256 = x + b by omega, Int.sub_mul]
  rw [h1, h2, h3, h4, Int.add_mul]
  omega
theorem add_done {l : List Int} (h : bytesL l) {x T : Int} (hx : 0 ≤ x) (hT : valL l + x * 256 ^ l.length = T) (hlt : T < 256 ^ l.length) : x = 0 := by
  have h1 := (valL_nonneg h).1
  have h2 := pow_pos256 l.length
  by_cases h0 : x = 0
  · exact h0
  · have : 1 * (256 : Int) ^ l.length ≤ x * 256 ^ l.length := Int.mul_le_mul_of_nonneg_right (by omega) (by omega)
    omega
theorem RC.Ok.below {c : RC} {N : Nat} (h : c.Ok N) (hb : c.bytes) : c.val + c.rng ≤ 256 ^ c.len ∧ 0 ≤ c.val := by
  obtain ⟨h1, h2, h3, h4, h5, h6, h7, h8⟩ := h
  obtain ⟨v0, v1⟩ := valL_nonneg hb
  have ep : (256 : Int) ^ c.len = (256 : Int) ^ c.out.length * 256 * 256 ^ c.more * 4294967296 := by
    unfold RC.len
    rw [Int.pow_add, Int.pow_add, show (256 : Int) ^ 5 = 256 * 4294967296 by decide]
    generalize (256 : Int) ^ c.out.length = a
    generalize (256 : Int) ^ c.more = b
    rw [← Int.mul_assoc, Int.mul_assoc a b 256, Int.mul_comm b 256, ← Int.mul_assoc a 256 b]
  have hp := pow_pos256 c.more
  unfold RC.val
  rw [ep]
  generalize (256 : Int) ^ c.out.length = a at *
  generalize valL c.out = v at *
  generalize (256 : Int) ^ c.more = P at *
  obtain ⟨X, hX⟩ : ∃ X, X = v * 256 + c.waits := ⟨_, rfl⟩
  rw [← hX]
  have hX0 : 0 ≤ X := by omega
  have hXP : 0 ≤ X * P := Int.mul_nonneg hX0 (by omega)
  refine ⟨?_, by omega⟩
  by_cases hw : c.waits = 255
  · have h7' := h7 hw
    have hX1 : X + 1 ≤ a * 256 := by omega
    have := Int.mul_le_mul_of_nonneg_right hX1 (show 0 ≤ P by omega)
    rw [Int.add_mul, Int.one_mul] at this
    generalize X * P = Y at *
    generalize a * 256 * P = Z at *
    omega
  · have hX1 : X + 2 ≤ a * 256 := by omega
    have := Int.mul_le_mul_of_nonneg_right hX1 (show 0 ≤ P by omega)
    rw [Int.add_mul] at this
    generalize X * P = Y at *
    generalize a * 256 * P = Z at *
    omega
/-- how many bytes more, the range tells. -/
theorem lev_once {r : Int} {j k : Nat} (h0 : 16777216 ≤ 256 ^ j * r) (h1 : 256 ^ j * r < 4294967296) (g0 : 16777216 ≤ 256 ^ k * r) (g1 : 256 ^ k * r < 4294967296) : j = k := by
  have aux : ∀ (a d : Nat), 16777216 ≤ 256 ^ a * r → 256 ^ (a + (d + 1)) * r < 4294967296 → False := by
    intro a d ha hd
    have e : (256 : Int) ^ (a + (d + 1)) * r = 256 ^ d * (256 * (256 ^ a * r)) := by
      rw [Int.pow_add, Int.pow_succ]
      generalize (256 : Int) ^ a = A
      generalize (256 : Int) ^ d = D
      rw [Int.mul_comm A, Int.mul_assoc, Int.mul_assoc]
    rw [e] at hd
    have hp := pow_pos256 d
    have : 1 * (256 * (256 ^ a * r)) ≤ 256 ^ d * (256 * (256 ^ a * r)) := Int.mul_le_mul_of_nonneg_right hp (by omega)
    omega
  rcases Nat.lt_trichotomy j k with hlt | h | hlt
  · obtain ⟨d, rfl⟩ := Nat.exists_eq_add_of_lt hlt
    exact (aux j d h0 (by rw [← Nat.add_assoc]; exact g1)).elim
  · exact h
  · obtain ⟨d, rfl⟩ := Nat.exists_eq_add_of_lt hlt
    exact (aux k d g0 (by rw [← Nat.add_assoc]; exact h1)).elim
end Go.Proofs.Ytomjagibcdneiaa
