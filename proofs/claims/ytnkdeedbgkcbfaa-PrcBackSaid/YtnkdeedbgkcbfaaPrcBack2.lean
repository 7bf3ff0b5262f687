/- PrcBack, of many bytes behind. -/
import Derived.Test.YtnkdeedbgkcbfaaPrcBack
namespace Go.Proofs.Ytnkdeedbgkcbfaa
open Go.RowKit

set_option maxRecDepth 100000 in
theorem prcBack_long (x : Value) (am : Option Addr) (nm cm : Nat) (w : World) (hn : 4096 < nm) :
    Calls Try.prog 7 #[x, .slice am nm cm] w fun e w' => e = .returned (.bool true) ∧ Fr Non w w' := by
  have h : (4096 : Int) < (nm : Int) := by omega
  clear hn
  go_enter Try.func7, Try.ntmps7
  go_wp2_with (go_at_call 8; refine (awake06_any _).mono ?_; rintro e w1 ⟨rfl, hf1⟩)
  go_ret
  exact ⟨rfl, hf1⟩
end Go.Proofs.Ytnkdeedbgkcbfaa
