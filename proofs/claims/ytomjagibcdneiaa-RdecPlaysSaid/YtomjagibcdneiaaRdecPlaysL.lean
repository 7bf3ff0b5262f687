/- RdecPlays: bytes that are too many. -/
import Derived.Test.YtomjagibcdneiaaRdecPlays
namespace Go.Proofs.Ytomjagibcdneiaa
open Go.RowKit

set_option maxRecDepth 100000 in
theorem rdecPlays_long (a : Option Addr) (n cap : Nat) (x : Value) (w : World) (hn : 65536 < n) :
    Calls Try.prog 10 #[.slice a n cap, x] w fun e w' => e = .returned (.bool true) ∧ Fr Non w w' := by
  have h : (65536 : Int) < (n : Int) := by omega
  clear hn
  go_enter Try.func10, Try.ntmps10
  go_wp2_with (go_at_call 24; refine (awake04_any _).mono ?_; rintro e w1 ⟨rfl, hf1⟩)
  go_ret
  exact ⟨rfl, hf1⟩
end Go.Proofs.Ytomjagibcdneiaa
