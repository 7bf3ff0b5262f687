/- a range coder, in plain numbers. -/
import Derived.Test.YtomjagibcdneiaaBase
namespace Go.Proofs.Ytomjagibcdneiaa
open Go.RowKit

/-- a coder: low, range, the byte that waits, how many bytes 255 wait behind it, the bytes given. -/
structure RC where
  low : Int
  rng : Int
  waits : Int
  more : Nat
  out : List Int
def RC.moves (c : RC) : Prop := c.low < 4278190080 ∨ 4294967296 ≤ c.low
instance (c : RC) : Decidable c.moves := by unfold RC.moves; infer_instance
def RC.carry (c : RC) : Int := c.low / 4294967296
def RC.give (c : RC) : RC :=
  if c.moves then ⟨c.low % 16777216 * 256, c.rng, c.low / 16777216 % 256, 0, c.out ++ (c.waits + c.carry) % 256 :: List.replicate c.more ((255 + c.carry) % 256)⟩
  else ⟨c.low % 16777216 * 256, c.rng, c.waits, c.more + 1, c.out⟩
/-- to even out, at most so many times. -/
def RC.lev : Nat → RC → RC
  | 0, c => c
  | n + 1, c => if c.rng < 16777216 then RC.lev n ((⟨c.low, c.rng * 256, c.waits, c.more, c.out⟩ : RC).give) else c
def RC.level (c : RC) : RC := c.lev 3
/-- a part of the range: from a on, r wide. -/
def RC.part (c : RC) (a r : Int) : RC := (⟨c.low + a, r, c.waits, c.more, c.out⟩ : RC).level
def RC.bit (c : RC) (p : Int) (b : Nat) : Int × RC :=
  if b = 0 then (p + (2048 - p) / 32, c.part 0 (c.rng / 2048 * p)) else (p - p / 32, c.part (c.rng / 2048 * p) (c.rng - c.rng / 2048 * p))
theorem give_rng (c : RC) : c.give.rng = c.rng := by unfold RC.give; split <;> rfl
/-- what a coder's numbers are, ahead of a byte given. -/
structure RC.Fit (c : RC) (N : Nat) : Prop where
  low0 : 0 ≤ c.low
  low1 : c.low < 17179869184
  waits0 : 0 ≤ c.waits
  waits1 : c.waits < 256
  size : c.out.length + c.more ≤ N
theorem RC.Fit.mono {c : RC} {N M : Nat} (h : c.Fit N) (hm : N ≤ M) : c.Fit M := ⟨h.low0, h.low1, h.waits0, h.waits1, Nat.le_trans h.size hm⟩
theorem RC.Fit.give {c : RC} {N : Nat} (h : c.Fit N) : c.give.Fit (N + 1) ∧ c.give.low < 4294967296 := by
  obtain ⟨h1, h2, h3, h4, h5⟩ := h
  unfold RC.give
  by_cases hm : c.moves
  · rw [if_pos hm]
    refine ⟨⟨?_, ?_, ?_, ?_, ?_⟩, ?_⟩ <;> dsimp only <;> (try simp only [List.length_append, List.length_cons, List.length_replicate]) <;> omega
  · rw [if_neg hm]
    refine ⟨⟨?_, ?_, ?_, ?_, ?_⟩, ?_⟩ <;> dsimp only <;> omega
theorem give_size (c : RC) : c.give.out.length + c.give.more = c.out.length + c.more + 1 := by
  unfold RC.give
  by_cases hm : c.moves
  · rw [if_pos hm]; simp; omega
  · rw [if_neg hm]; simp; omega
theorem lev_stop (n : Nat) (c : RC) (h : 16777216 ≤ c.rng) : c.lev n = c := by
  cases n with
  | zero => rfl
  | succ n => exact if_neg (by omega)
theorem RC.Fit.lev (n : Nat) : ∀ (c : RC) (N : Nat), c.Fit N → (c.lev n).Fit (N + n) := by
  induction n with
  | zero => intro c N h; exact h
  | succ n ih =>
    intro c N h
    unfold RC.lev
    by_cases hr : c.rng < 16777216
    · rw [if_pos hr]
      have h2 : (⟨c.low, c.rng * 256, c.waits, c.more, c.out⟩ : RC).Fit N := ⟨h.1, h.2, h.3, h.4, h.5⟩
      exact (ih _ _ h2.give.1).mono (by omega)
    · rw [if_neg hr]; exact h.mono (by omega)
/-- a coder whose range is even. -/
structure RC.Ok (c : RC) (N : Nat) : Prop where
  low0 : 0 ≤ c.low
  rng0 : 16777216 ≤ c.rng
  rng1 : c.rng < 4294967296
  top : c.low + c.rng ≤ 8589934592
  waits0 : 0 ≤ c.waits
  waits1 : c.waits < 256
  full : c.waits = 255 → c.low + c.rng ≤ 4294967296
  size : c.out.length + c.more ≤ N
theorem RC.Ok.fit {c : RC} {N : Nat} (h : c.Ok N) : c.Fit N := ⟨h.low0, by have := h.top; have := h.rng0; omega, h.waits0, h.waits1, h.size⟩
theorem RC.Ok.mono {c : RC} {N M : Nat} (h : c.Ok N) (hm : N ≤ M) : c.Ok M := ⟨h.1, h.2, h.3, h.4, h.5, h.6, h.7, Nat.le_trans h.8 hm⟩
theorem lev_ok (n : Nat) : ∀ (c : RC) (N : Nat), 0 ≤ c.low → 16777216 ≤ c.rng * 256 ^ n → c.rng < 4294967296 → c.low + c.rng ≤ 8589934592 → 0 ≤ c.waits → c.waits < 256 → (c.waits = 255 → c.low + c.rng ≤ 4294967296) → c.out.length + c.more ≤ N → 1 ≤ c.rng →
    (c.lev n).Ok (N + n) := by
  induction n with
  | zero => intro c N h1 h2 h3 h4 h5 h6 h7 h8 _; exact ⟨h1, by show 16777216 ≤ c.rng; simpa using h2, h3, h4, h5, h6, h7, h8⟩
  | succ n ih =>
    intro c N h1 h2 h3 h4 h5 h6 h7 h8 h9
    unfold RC.lev
    by_cases hr : c.rng < 16777216
    · rw [if_pos hr]
      have hf : (⟨c.low, c.rng * 256, c.waits, c.more, c.out⟩ : RC).Fit N := ⟨h1, by show c.low < _; omega, h5, h6, h8⟩
      obtain ⟨⟨g1, g2, g3, g4, g5⟩, g6⟩ := hf.give
      refine (ih _ (N + 1) g1 ?_ ?_ ?_ g3 g4 ?_ g5 ?_).mono (by omega)
      · rw [give_rng]
        have e : c.rng * 256 * 256 ^ n = c.rng * 256 ^ (n + 1) := by rw [Int.pow_succ, Int.mul_assoc, Int.mul_comm 256]
        show 16777216 ≤ c.rng * 256 * 256 ^ n
        rw [e]; exact h2
      · rw [give_rng]; show c.rng * 256 < _; omega
      · rw [give_rng]; show _ + c.rng * 256 ≤ _; omega
      · rw [give_rng]
        show _ → _ + c.rng * 256 ≤ _
        unfold RC.give
        by_cases hm : (⟨c.low, c.rng * 256, c.waits, c.more, c.out⟩ : RC).moves
        · rw [if_pos hm]
          have hm' : c.low < 4278190080 ∨ 4294967296 ≤ c.low := hm
          dsimp only
          omega
        · rw [if_neg hm]
          have hm' : ¬ (c.low < 4278190080 ∨ 4294967296 ≤ c.low) := hm
          dsimp only
          intro hw
          have := h7 hw
          omega
      · rw [give_rng]; show 1 ≤ c.rng * 256; omega
    · rw [if_neg hr]; exact ⟨h1, by omega, h3, h4, h5, h6, h7, by omega⟩
theorem RC.Ok.part {c : RC} {N : Nat} (h : c.Ok N) {a r : Int} (ha : 0 ≤ a) (hr : 1 ≤ r) (har : a + r ≤ c.rng) : (c.part a r).Ok (N + 3) := by
  obtain ⟨h1, h2, h3, h4, h5, h6, h7, h8⟩ := h
  refine lev_ok 3 _ N ?_ ?_ ?_ ?_ h5 h6 ?_ h8 hr
  · show 0 ≤ c.low + a; omega
  · show 16777216 ≤ r * 16777216; omega
  · show r < _; omega
  · show c.low + a + r ≤ _; omega
  · intro hw; have := h7 hw; show c.low + a + r ≤ _; omega
theorem bound_pos (r p : Int) (h0 : 16777216 ≤ r) (hp : 31 ≤ p) : 253952 ≤ r / 2048 * p := by
  have h1 : 8192 * 31 ≤ r / 2048 * p := Int.mul_le_mul (by omega) hp (by omega) (by omega)
  omega
theorem bound_gap (r p : Int) (h0 : 16777216 ≤ r) (hp : p ≤ 2017) : r / 2048 * p + 253952 ≤ r := by
  have h1 : r / 2048 * p ≤ r / 2048 * 2017 := Int.mul_le_mul_of_nonneg_left hp (by omega)
  omega
theorem RC.Ok.bit {c : RC} {N : Nat} (h : c.Ok N) {p : Int} (h0 : 31 ≤ p) (h1 : p ≤ 2017) (b : Nat) : (c.bit p b).2.Ok (N + 3) := by
  have b1 := bound_pos c.rng p h.rng0 h0
  have b2 := bound_gap c.rng p h.rng0 h1
  unfold RC.bit
  by_cases hb : b = 0
  · rw [if_pos hb]; exact h.part (by omega) (by show 1 ≤ c.rng / 2048 * p; omega) (by omega)
  · rw [if_neg hb]; exact h.part (by show 0 ≤ c.rng / 2048 * p; omega) (by omega) (by omega)
theorem bit_prob' (c : RC) {p : Int} (h0 : 31 ≤ p) (h1 : p ≤ 2017) (b : Nat) : 31 ≤ (c.bit p b).1 ∧ (c.bit p b).1 ≤ 2017 := by
  unfold RC.bit
  by_cases hb : b = 0
  · rw [if_pos hb]; dsimp only; omega
  · rw [if_neg hb]; dsimp only; omega
end Go.Proofs.Ytomjagibcdneiaa
