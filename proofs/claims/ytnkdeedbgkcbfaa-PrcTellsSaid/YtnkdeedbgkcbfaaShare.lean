/- Shares (api.Share): how a list of them reads; a coder's part for a share. -/
import Derived.Test.YtnkdeedbgkcbfaaCod3
namespace Go.Proofs.Ytnkdeedbgkcbfaa
open Go.RowKit

structure Share where
  kind : Int
  start : Nat
  size : Nat
  total : Nat
def Share.agg (s : Share) : Value := .agg #[.int .i64 s.kind, .int .u32 s.start, .int .u32 s.size, .int .u32 s.total]
def Share.Right (s : Share) : Prop := (s.kind = 0 ∧ 1 ≤ s.total ∧ s.total ≤ 1048576 ∧ 1 ≤ s.size ∧ s.size ≤ s.total ∧ s.start ≤ s.total - s.size) ∨ (s.kind = 1 ∧ s.start ≤ 1 ∧ 1 ≤ s.total ∧ s.total ≤ 16 ∧ 1 ≤ s.size ∧ s.size < 2 ^ s.total)
instance (s : Share) : Decidable s.Right := by unfold Share.Right; infer_instance
def Share.rightB (s : Share) : Bool := decide s.Right
/-- where a share's part of a range begins, and how wide it is. -/
def Share.lo (s : Share) (r : Int) : Int := if s.kind = 0 then s.start * (r / s.total) else if s.start = 0 then 0 else r / 2 ^ s.total * s.size
def Share.wide (s : Share) (r : Int) : Int := if s.kind = 0 then r / s.total * s.size else if s.start = 0 then r / 2 ^ s.total * s.size else r - r / 2 ^ s.total * s.size
def RC.put (c : RC) (s : Share) : RC := c.part (s.lo c.rng) (s.wide c.rng)
theorem share_fits {s : Share} (h : s.Right) {r : Int} (h0 : 16777216 ≤ r) : 0 ≤ s.lo r ∧ 1 ≤ s.wide r ∧ s.lo r + s.wide r ≤ r := by
  rcases h with ⟨h1, h2, h3, h4, h5, h6⟩ | ⟨h1, h2, h3, h4, h5, h6⟩
  · unfold Share.lo Share.wide
    rw [if_pos h1, if_pos h1]
    obtain ⟨q, hq⟩ : ∃ q, q = r / (s.total : Int) := ⟨_, rfl⟩
    have hq1 : 1 ≤ q := by
      rw [hq]; exact Int.le_ediv_of_mul_le (by omega) (by omega)
    have hq2 : q * s.total ≤ r := by rw [hq]; exact Int.ediv_mul_le _ (by omega)
    rw [← hq]
    have h7 : (0 : Int) ≤ s.start * q := Int.mul_nonneg (by omega) (by omega)
    have h8 : 1 * 1 ≤ q * (s.size : Int) := Int.mul_le_mul hq1 (by omega) (by omega) (by omega)
    have h9 : q * (s.start : Int) + q * (s.size : Int) ≤ q * s.total := by
      rw [← Int.mul_add]; exact Int.mul_le_mul_of_nonneg_left (by omega) (by omega)
    rw [Int.mul_comm (s.start : Int)] at h7 ⊢
    omega
  · have hk : ¬ s.kind = 0 := by omega
    unfold Share.lo Share.wide
    rw [if_neg hk, if_neg hk]
    obtain ⟨P, hP⟩ : ∃ P : Nat, P = 2 ^ s.total := ⟨_, rfl⟩
    have hPI : (2 : Int) ^ s.total = (P : Int) := by rw [hP]; simp
    have hP1 : 1 ≤ P := by rw [hP]; exact Nat.pow_pos (by decide)
    have hP2 : P ≤ 65536 := by
      have : 2 ^ s.total ≤ 2 ^ 16 := Nat.pow_le_pow_right (by decide) h4
      rw [hP]; exact this
    rw [← hP] at h6
    rw [hPI]
    obtain ⟨q, hq⟩ : ∃ q, q = r / (P : Int) := ⟨_, rfl⟩
    have hq1 : 1 ≤ q := by rw [hq]; exact Int.le_ediv_of_mul_le (by omega) (by omega)
    have hq2 : q * P ≤ r := by rw [hq]; exact Int.ediv_mul_le _ (by omega)
    rw [← hq]
    have h8 : 1 * 1 ≤ q * (s.size : Int) := Int.mul_le_mul hq1 (by omega) (by omega) (by omega)
    have h9 : q * (s.size : Int) + q * 1 ≤ q * P := by
      rw [← Int.mul_add]; exact Int.mul_le_mul_of_nonneg_left (by omega) (by omega)
    by_cases hs : s.start = 0
    · rw [if_pos hs, if_pos hs]; omega
    · rw [if_neg hs, if_neg hs]; omega
theorem RC.Ok.put {c : RC} {N : Nat} (h : c.Ok N) {s : Share} (hs : s.Right) : (c.put s).Ok (N + 3) := by
  obtain ⟨h1, h2, h3⟩ := share_fits hs h.rng0
  exact h.part h1 h2 h3
theorem RC.Ok.reach_put {c : RC} {N : Nat} (h : c.Ok N) (hb : c.bytes) {s : Share} (hs : s.Right) : ∃ k, Reach c (c.put s) k := by
  obtain ⟨h1, h2, h3⟩ := share_fits hs h.rng0
  exact h.reach_part hb h1 h2 h3
/-- n shares l, as a slice that came in holds them. -/
def SharesIn (B : Nat) (w : World) (a : Option Addr) (n : Nat) (l : Nat → Share) : Prop :=
  n = 0 ∨ ∃ b off, a = some ⟨b, off, none⟩ ∧ b < B ∧ ∀ i, i < n → w.cell? ⟨b, off + i * 4, none⟩ = some (.int .i64 (l i).kind) ∧ w.cell? ⟨b, off + i * 4 + 1, none⟩ = some (.int .u32 (l i).start) ∧
    w.cell? ⟨b, off + i * 4 + 2, none⟩ = some (.int .u32 (l i).size) ∧ w.cell? ⟨b, off + i * 4 + 3, none⟩ = some (.int .u32 (l i).total)
theorem SharesIn.fr {B : Nat} {w w' : World} {a : Option Addr} {n : Nat} {l : Nat → Share} {S : Nat → Prop} (h : SharesIn B w a n l) (hf : Fr S w w') (hs : ∀ i, i < B → ¬ S i) : SharesIn B w' a n l := by
  rcases h with h | ⟨b, off, h1, h2, h3⟩
  · exact .inl h
  · exact .inr ⟨b, off, h1, h2, fun i hi => ⟨hf.cell (h3 i hi).1 (hs b h2), hf.cell (h3 i hi).2.1 (hs b h2), hf.cell (h3 i hi).2.2.1 (hs b h2), hf.cell (h3 i hi).2.2.2 (hs b h2)⟩⟩
theorem SharesIn.at {B : Nat} {w : World} {a : Option Addr} {n : Nat} {l : Nat → Share} (h : SharesIn B w a n l) {i : Nat} (hi : i < n) :
    ∃ b off, a = some ⟨b, off, none⟩ ∧ b < B ∧ w.cell? ⟨b, off + i * 4, none⟩ = some (.int .i64 (l i).kind) ∧ w.cell? ⟨b, off + i * 4 + 1, none⟩ = some (.int .u32 (l i).start) ∧
      w.cell? ⟨b, off + i * 4 + 2, none⟩ = some (.int .u32 (l i).size) ∧ w.cell? ⟨b, off + i * 4 + 3, none⟩ = some (.int .u32 (l i).total) := by
  rcases h with h | ⟨b, off, h1, h2, h3⟩
  · omega
  · exact ⟨b, off, h1, h2, h3 i hi⟩
end Go.Proofs.Ytnkdeedbgkcbfaa
