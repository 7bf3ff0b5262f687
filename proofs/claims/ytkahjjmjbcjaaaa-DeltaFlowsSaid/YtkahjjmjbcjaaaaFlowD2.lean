/- delta.New; the walk through DeltaFlows. -/
import Derived.Test.YtkahjjmjbcjaaaaFlowD
import Derived.Test.YtkahjjmjbcjaaaaDeltaW
import Derived.Test.YtkahjjmjbcjaaaaFeed
import Derived.Deep.CutBlock
import Derived.Deep.DeepCutAuto
namespace Go.Proofs.Ytkahjjmjbcjaaaa
open Go.RowKit

theorem filt_built (d : Int) (ty : TypeId) (val : Value) (r : Operand → Value) (t1 t2 : Nat) (h1 : r (.tmp t1) = .iface ty val) (h2 : r (.tmp t2) = .agg (ringCells d 0 (fun _ => 0))) :
    Try.prog.built 48 ((#[(0, Operand.tmp t1), (1, Operand.tmp t2)].map fun (i, x) => (i, r x)).toList) = some (filtCells (.iface ty val) d 0 (fun _ => 0) false) := by
  have : Try.prog.built 48 [(0, .iface ty val), (1, .agg (ringCells d 0 (fun _ => 0)))] = some (filtCells (.iface ty val) d 0 (fun _ => 0) false) := by kernel_rfl
  simpa [h1, h2] using this
theorem filt_box (w : World) (cs : Array Value) : (Instr.box 48 (.agg cs)).run Try.prog w = .ok (.pointer (some ⟨w.heap.size, 0, none⟩)) (w.alloc (.cells cs 48)) := by
  kernel_rfl
def DNewPost (sv : Value) (d : Nat) (w : World) (e : Ending) (w' : World) : Prop :=
  ∃ g, e = .returned (.tuple #[.pointer (some ⟨g, 0, none⟩), .int .i64 0]) ∧ w.heap.size ≤ g ∧ g < w'.heap.size ∧ Fr Non w w' ∧ FiltAt w' g sv d 0 (fun _ => 0) false
theorem dnewF_any (ty : TypeId) (val : Value) (d : Nat) (w : World) (hd0 : (1 : Int) ≤ (d : Int)) (hd1 : (d : Int) ≤ 256) :
    Calls Try.prog 6 #[.iface ty val, .int .i64 d] w (DNewPost (.iface ty val) d w) := by
  go_enter Try.func6, Try.ntmps6
  go_wp2_with (first
    | (go_at_call 18; refine (may_yes _ _ hd0 hd1).mono ?_; rintro e w' ⟨rfl, rfl⟩)
    | (refine opRun (some 11) rfl rfl (.agg (ringCells d 0 (fun _ => 0))) _ (by unfold execOp; simp only []; rw [run_bind_ok (run_build _ _ _ _ (ring_built d _ 10 rfl))]; rfl) ?_)
    | (refine opRun (some 12) rfl rfl (.agg (filtCells (.iface ty val) d 0 (fun _ => 0) false)) _ (by unfold execOp; simp only []; rw [run_bind_ok (run_build _ _ _ _ (filt_built d ty val _ 9 11 rfl rfl))]; rfl) ?_)
    | (refine opRun (some 13) rfl rfl (.pointer (some ⟨w.heap.size, 0, none⟩)) _ (by unfold execOp; simp only []; rw [run_bind_ok (filt_box _ _)]; rfl) ?_))
  go_ret2
  exact ⟨w.heap.size, rfl, Nat.le_refl _, by simp, (Fr.refl _ _).alloc _, blk_new _ _⟩
theorem dnewF_no (sv : Value) (d : Int) (w : World) (h : ¬ (1 ≤ d ∧ d ≤ 256)) (h0 : -9223372036854775808 ≤ d) (h1 : d ≤ 9223372036854775807) :
    Calls Try.prog 6 #[sv, .int .i64 d] w fun e w' => e = .returned (.tuple #[.pointer none, .int .i64 11]) ∧ w = w' := by
  have H := hid h
  clear h
  go_enter Try.func6, Try.ntmps6
  go_wp2_with (go_at_call 18; refine (may_no _ _ H.out h0 h1).mono ?_; rintro e w' ⟨rfl, rfl⟩)
  go_ret2
  exact ⟨rfl, rfl⟩
end Go.Proofs.Ytkahjjmjbcjaaaa
