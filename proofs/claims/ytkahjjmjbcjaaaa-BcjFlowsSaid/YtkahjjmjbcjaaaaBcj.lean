/- bcj: the small functions. -/
import Derived.Test.YtkahjjmjbcjaaaaBase
import Derived.Test.YtkahjjmjbcjaaaaRows
import Derived.WalkSpells
import Derived.WalkLawsBesides
import Derived.BigQuiet
import Derived.Deep.QuietTactic
import Derived.BigRegion
import Derived.Outline
namespace Go.Proofs.Ytkahjjmjbcjaaaa
open Go.RowKit

def edgeB (x : Int) : Bool := x == 0 || x == 255
theorem bedge_any (x : Int) (w : World) : Calls Try.prog 33 #[.int .u8 x] w fun e w' => e = .returned (.bool (edgeB x)) ∧ w = w' := by
  unfold edgeB
  cases h0 : (x == 0) with
  | true =>
    go_enter Try.func33, Try.ntmps33
    go_wp2
    go_ret
    exact ⟨rfl, rfl⟩
  | false =>
    go_enter Try.func33, Try.ntmps33
    go_wp2
    go_ret
    exact ⟨rfl, rfl⟩
def allowedB (m : Nat) : Bool := m == 0 || m == 1 || m == 2 || m == 4
def bitN (m : Nat) : Nat := if m = 0 then 0 else if m = 1 then 1 else if m = 2 then 2 else if m = 3 then 2 else 3
theorem allowed_at : ∀ m : Nat, m < 8 → ∀ w : World, (Instr.index 73 (.agg #[.bool true, .bool true, .bool true, .bool false, .bool true, .bool false, .bool false, .bool false]) (.int .i64 (m : Int))).run Try.prog w = .ok (.bool (allowedB m)) w := by
  intro m hm w
  match m, hm with
  | 0, _ => show _ = _; kernel_rfl
  | 1, _ => show _ = _; kernel_rfl
  | 2, _ => show _ = _; kernel_rfl
  | 3, _ => show _ = _; kernel_rfl
  | 4, _ => show _ = _; kernel_rfl
  | 5, _ => show _ = _; kernel_rfl
  | 6, _ => show _ = _; kernel_rfl
  | 7, _ => show _ = _; kernel_rfl
  | n + 8, h => omega
theorem bit_at : ∀ m : Nat, m < 8 → ∀ w : World, (Instr.index 74 (.agg #[.int .u64 0, .int .u64 1, .int .u64 2, .int .u64 2, .int .u64 3, .int .u64 3, .int .u64 3, .int .u64 3]) (.int .i64 (m : Int))).run Try.prog w = .ok (.int .u64 (bitN m : Int)) w := by
  intro m hm w
  match m, hm with
  | 0, _ => show _ = _; kernel_rfl
  | 1, _ => show _ = _; kernel_rfl
  | 2, _ => show _ = _; kernel_rfl
  | 3, _ => show _ = _; kernel_rfl
  | 4, _ => show _ = _; kernel_rfl
  | 5, _ => show _ = _; kernel_rfl
  | 6, _ => show _ = _; kernel_rfl
  | 7, _ => show _ = _; kernel_rfl
  | n + 8, h => omega
theorem ballowed_any (m : Nat) (hm : m < 8) (w : World) : Calls Try.prog 32 #[.int .i64 m] w fun e w' => e = .returned (.bool (allowedB m)) ∧ w = w' := by
  have hi := allowed_at m hm
  go_enter Try.func32, Try.ntmps32
  go_wp2
  go_ret
  exact ⟨rfl, rfl⟩
theorem bbit_any (m : Nat) (hm : m < 8) (w : World) : Calls Try.prog 34 #[.int .i64 m] w fun e w' => e = .returned (.int .u64 (bitN m : Int)) ∧ w = w' := by
  have hi := bit_at m hm
  go_enter Try.func34, Try.ntmps34
  go_wp2
  go_ret
  exact ⟨rfl, rfl⟩

/-- a walk through bytes: its place, gap, mask, and whether it codes. -/
structure BW where
  place : Int
  gap : Nat
  mask : Nat
  code : Bool
def BWAt (w : World) (g : Nat) (b : BW) : Prop := w.heap[g]? = some (.cells #[.int .u32 b.place, .int .i64 b.gap, .int .i64 b.mask, .bool b.code] 56)
def BW.target (b : BW) (s : Int) : Int := if b.code = true then (s + b.place + 5) % 4294967296 else (s - b.place - 5) % 4294967296
theorem btarget_any (g : Nat) (b : BW) (s : Int) (w : World) (h : BWAt w g b) :
    Calls Try.prog 36 #[.pointer (some ⟨g, 0, none⟩), .int .u32 s] w fun e w' => e = .returned (.int .u32 (b.target s)) ∧ w = w' := by
  have c0 := blk_cell h (j := 0) (v := .int .u32 b.place) rfl
  have c3 := blk_cell h (j := 3) (v := .bool b.code) rfl
  clear h
  unfold BW.target
  cases hc : b.code with
  | true =>
    rw [hc] at c3
    go_enter Try.func36, Try.ntmps36
    go_wp2
    go_ret
    exact ⟨rfl, rfl⟩
  | false =>
    rw [hc] at c3
    go_enter Try.func36, Try.ntmps36
    go_wp2
    go_ret
    exact ⟨rfl, rfl⟩
end Go.Proofs.Ytkahjjmjbcjaaaa
