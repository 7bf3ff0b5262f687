/- BcjSides. -/
import Derived.Test.YtkahjjmjbcjaaaaBcj10
namespace Go.Proofs.Ytkahjjmjbcjaaaa
open Go.RowKit

theorem rdecode_any (a : Option Addr) (n c : Nat) (f : Nat → Int) (w : World) (hn : n ≤ 1048576) (hnc : n ≤ c) (hnil : a = none → c = 0) (h : RowIn w.heap.size .u8 w a n f) (hf : ∀ i, i < n → 0 ≤ f i ∧ f i < 256) :
    Calls Try.prog 12 #[.slice a n c] w (RowPost w n (allB false n f)) := by
  have K := through_any a n c f false w hn hnc hnil h hf
  go_enter Try.func12, Try.ntmps12
  go_wp2_with (go_at_call 24; refine K.mono ?_; rintro e w' ⟨v, rfl, hp⟩)
  go_ret
  exact AllPost.row ⟨v, rfl, hp⟩
end Go.Proofs.Ytkahjjmjbcjaaaa
