/- a range coder's steps, and its end. -/
import Derived.Test.YtomjagibcdneiaaCod2
namespace Go.Proofs.Ytomjagibcdneiaa
open Go.RowKit

/-- c' told k bytes more, within c's range. -/
structure Reach (c c' : RC) (k : Nat) : Prop where
  low : 256 ^ k * c.val ≤ c'.val
  high : c'.val + c'.rng ≤ 256 ^ k * (c.val + c.rng)
  len : c'.len = c.len + k
  bytes : c.bytes → c'.bytes
theorem Reach.refl (c : RC) : Reach c c 0 := ⟨by simp, by simp, rfl, id⟩
theorem Reach.trans {a b c : RC} {j k : Nat} (h : Reach a b j) (g : Reach b c k) : Reach a c (j + k) := by
  have hp := pow_pos256 k
  refine ⟨?_, ?_, by rw [g.len, h.len]; omega, fun e => g.bytes (h.bytes e)⟩
  · have h1 := Int.mul_le_mul_of_nonneg_left h.low (show (0:Int) ≤ 256 ^ k by omega)
    have h2 := g.low
    rw [Nat.add_comm, Int.pow_add, Int.mul_assoc]
    omega
  · have h1 := Int.mul_le_mul_of_nonneg_left h.high (show (0:Int) ≤ 256 ^ k by omega)
    have h2 := g.high
    rw [Nat.add_comm, Int.pow_add, Int.mul_assoc]
    omega
theorem RC.Ok.reach_part {c : RC} {N : Nat} (h : c.Ok N) (hb : c.bytes) {a r : Int} (ha : 0 ≤ a) (hr : 1 ≤ r) (har : a + r ≤ c.rng) : ∃ k, Reach c (c.part a r) k := by
  obtain ⟨k, h1, h2, h3, h4⟩ := h.part_val hb ha hr har
  have hp := pow_pos256 k
  refine ⟨k, ?_, ?_, h3, fun _ => h4⟩
  · rw [h1]; exact Int.mul_le_mul_of_nonneg_left (by omega) (by omega)
  · rw [h1, h2, ← Int.mul_add]; exact Int.mul_le_mul_of_nonneg_left (by omega) (by omega)
theorem RC.Ok.reach_bit {c : RC} {N : Nat} (h : c.Ok N) (hb : c.bytes) {p : Int} (h0 : 31 ≤ p) (h1 : p ≤ 2017) (b : Nat) : ∃ k, Reach c (c.bit p b).2 k := by
  have b1 := bound_pos c.rng p h.rng0 h0
  have b2 := bound_gap c.rng p h.rng0 h1
  unfold RC.bit
  by_cases hb0 : b = 0
  · rw [if_pos hb0]; exact h.reach_part hb (by omega) (by show 1 ≤ c.rng / 2048 * p; omega) (by omega)
  · rw [if_neg hb0]; exact h.reach_part hb (by show 0 ≤ c.rng / 2048 * p; omega) (by omega) (by omega)
def RC.gives : Nat → RC → RC
  | 0, c => c
  | k + 1, c => RC.gives k c.give
theorem give_low (c : RC) : c.give.low = c.low % 16777216 * 256 := by unfold RC.give; split <;> rfl
structure RC.Fin (c : RC) : Prop where
  low0 : 0 ≤ c.low
  low1 : c.low < 8589934592
  waits0 : 0 ≤ c.waits
  waits1 : c.waits < 256
  full : c.waits = 255 → c.low < 4294967296
  bytes : c.bytes
theorem RC.Fin.give {c : RC} (h : c.Fin) : c.give.Fin ∧ c.give.val = 256 * c.val ∧ c.give.len = c.len + 1 := by
  obtain ⟨h1, h2, h3, h4, h5, h6⟩ := h
  have e := give_low c
  refine ⟨⟨by rw [e]; omega, by rw [e]; omega, ?_, ?_, fun _ => by rw [e]; omega, give_bytes h6⟩, give_val c h1 h2 h3 h4 h5, give_len c⟩
  · unfold RC.give; split <;> dsimp only <;> omega
  · unfold RC.give; split <;> dsimp only <;> omega
theorem RC.Ok.fin {c : RC} {N : Nat} (h : c.Ok N) (hb : c.bytes) : c.Fin := by
  obtain ⟨h1, h2, h3, h4, h5, h6, h7, h8⟩ := h
  exact ⟨h1, by omega, h5, h6, fun e => by have := h7 e; omega, hb⟩
/-- the bytes at the end are the number, as many as were told. -/
theorem gives_out {c : RC} (h : c.Fin) : valL (c.gives 5).out = c.val ∧ (c.gives 5).out.length = c.len ∧ (c.gives 5).bytes := by
  obtain ⟨f1, v1, l1⟩ := h.give
  obtain ⟨f2, v2, l2⟩ := f1.give
  obtain ⟨f3, v3, l3⟩ := f2.give
  obtain ⟨f4, v4, l4⟩ := f3.give
  obtain ⟨f5, v5, l5⟩ := f4.give
  have e1 := give_low c
  have e2 := give_low c.give
  have e3 := give_low c.give.give
  have e4 := give_low c.give.give.give
  have hl : c.give.give.give.give.low = 0 := by omega
  have hm : c.give.give.give.give.moves := .inl (by omega)
  have hg : c.give.give.give.give.give = ⟨c.give.give.give.give.low % 16777216 * 256, c.give.give.give.give.rng, c.give.give.give.give.low / 16777216 % 256, 0, c.give.give.give.give.out ++ (c.give.give.give.give.waits + c.give.give.give.give.carry) % 256 :: List.replicate c.give.give.give.give.more ((255 + c.give.give.give.give.carry) % 256)⟩ := if_pos hm
  have w5 : c.give.give.give.give.give.waits = 0 := by rw [hg, hl]; rfl
  have m5 : c.give.give.give.give.give.more = 0 := by rw [hg]
  have o5 : c.give.give.give.give.give.low = 0 := by rw [hg, hl]; rfl
  show valL c.give.give.give.give.give.out = c.val ∧ c.give.give.give.give.give.out.length = c.len ∧ c.give.give.give.give.give.bytes
  refine ⟨?_, ?_, f5.bytes⟩
  · have : c.give.give.give.give.give.val = ((valL c.give.give.give.give.give.out * 256 + c.give.give.give.give.give.waits) * 256 ^ c.give.give.give.give.give.more + (256 ^ c.give.give.give.give.give.more - 1)) * 4294967296 + c.give.give.give.give.give.low := rfl
    rw [w5, m5, o5] at this
    simp only [Int.pow_zero, Int.mul_one] at this
    omega
  · have : c.give.give.give.give.give.len = c.give.give.give.give.give.out.length + c.give.give.give.give.give.more + 5 := rfl
    rw [m5] at this
    omega
/-- a coder that begins. -/
def RC.new : RC := ⟨0, 4294967295, 0, 0, []⟩
theorem new_ok (N : Nat) : RC.new.Ok N := ⟨by decide, by decide, by decide, by decide, by decide, by decide, by decide, Nat.zero_le _⟩
theorem new_bytes : RC.new.bytes := fun x hx => by simp [RC.new] at hx
theorem new_val : RC.new.val = 0 := by decide
theorem reach_top {c : RC} {k : Nat} (h : Reach RC.new c k) : c.val + c.rng ≤ 256 ^ (c.len - 1) ∧ 0 ≤ c.val := by
  have h1 := h.high
  have h2 := h.low
  have h3 := h.len
  have hp := pow_pos256 k
  rw [new_val] at h1 h2
  have e : c.len - 1 = k + 4 := by have : RC.new.len = 5 := rfl; omega
  have hr : RC.new.rng = 4294967295 := rfl
  rw [hr] at h1
  rw [e, Int.pow_add]
  have : (256 : Int) ^ 4 = 4294967296 := by decide
  rw [this]
  omega
theorem valL_nonneg {l : List Int} (h : ∀ x, x ∈ l → 0 ≤ x ∧ x < 256) : 0 ≤ valL l ∧ valL l < 256 ^ l.length := by
  have aux : ∀ n (l : List Int), l.length = n → (∀ x, x ∈ l → 0 ≤ x ∧ x < 256) → 0 ≤ valL l ∧ valL l < 256 ^ l.length := by
    intro n
    induction n with
    | zero =>
      intro l hl _
      have : l = [] := List.eq_nil_of_length_eq_zero hl
      subst this
      decide
    | succ n ih =>
      intro l hl hb
      obtain ⟨k, x, rfl⟩ : ∃ k x, l = k ++ [x] := by
        have hne : l ≠ [] := by intro e; subst e; simp at hl
        exact ⟨l.dropLast, l.getLast hne, (List.dropLast_concat_getLast hne).symm⟩
      have hk : k.length = n := by simpa using hl
      obtain ⟨h1, h2⟩ := ih k hk (fun y hy => hb y (by simp [hy]))
      have hx := hb x (by simp)
      rw [valL_snoc, List.length_append, List.length_singleton, Int.pow_succ]
      omega
  exact aux _ l rfl h
theorem valL_first {x : Int} {l : List Int} (h : ∀ y, y ∈ x :: l → 0 ≤ y ∧ y < 256) (hv : valL (x :: l) < 256 ^ l.length) : x = 0 := by
  have e : valL (x :: l) = x * 256 ^ l.length + valL l := by
    have := valL_append [x] l
    simpa [valL] using this
  have h1 := (valL_nonneg (l := l) fun y hy => h y (by simp [hy])).1
  have h2 := h x (by simp)
  have hp := pow_pos256 l.length
  rw [e] at hv
  apply Decidable.byContradiction
  intro hne
  have : 1 * 256 ^ l.length ≤ x * 256 ^ l.length := Int.mul_le_mul_of_nonneg_right (by omega) (by omega)
  omega
/-- rows of bytes that are one number, and as long, are one row. -/
theorem valL_inj : ∀ (a b : List Int), a.length = b.length → (∀ x, x ∈ a → 0 ≤ x ∧ x < 256) → (∀ x, x ∈ b → 0 ≤ x ∧ x < 256) → valL a = valL b → a = b := by
  intro a
  induction a with
  | nil => intro b hl _ _ _; exact (List.eq_nil_of_length_eq_zero (by simpa using hl.symm)).symm
  | cons x a ih =>
    intro b hl ha hb hv
    cases b with
    | nil => simp at hl
    | cons y b =>
      have hl' : a.length = b.length := by simpa using hl
      have e1 : valL (x :: a) = x * 256 ^ a.length + valL a := by
        have := valL_append [x] a
        simpa [valL] using this
      have e2 : valL (y :: b) = y * 256 ^ b.length + valL b := by
        have := valL_append [y] b
        simpa [valL] using this
      have n1 := valL_nonneg (l := a) fun z hz => ha z (by simp [hz])
      have n2 := valL_nonneg (l := b) fun z hz => hb z (by simp [hz])
      rw [e1, e2, hl'] at hv
      rw [hl'] at n1
      generalize (256 : Int) ^ b.length = P at *
      have hxy : x = y := by
        apply Decidable.byContradiction
        intro hne
        rcases Int.lt_or_gt_of_ne hne with h | h
        · have : (x + 1) * P ≤ y * P := Int.mul_le_mul_of_nonneg_right (by omega) (by omega)
          rw [Int.add_mul] at this
          omega
        · have : (y + 1) * P ≤ x * P := Int.mul_le_mul_of_nonneg_right (by omega) (by omega)
          rw [Int.add_mul] at this
          omega
      subst hxy
      rw [ih b hl' (fun z hz => ha z (by simp [hz])) (fun z hz => hb z (by simp [hz])) (by omega)]
end Go.Proofs.Ytomjagibcdneiaa
