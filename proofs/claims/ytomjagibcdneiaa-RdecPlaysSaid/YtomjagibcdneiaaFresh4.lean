/- ref04.Fresh: a row of probabilities that begin. -/
import Derived.Test.YtomjagibcdneiaaEnc5k
namespace Go.Proofs.Ytomjagibcdneiaa
open Go.RowKit

def RFreshPost (w : World) (n : Nat) (e : Ending) (w' : World) : Prop :=
  ∃ v, e = .returned v ∧ Own w' w.heap.size .u16 22 v (List.replicate n 1024) ∧ Fr Non w w'
theorem info_u16r : (Try.prog.info? 22).map (fun i => (i.zero, i.size, i.bytes)) = some (some (.int .u16 0), 1, 2) := by kernel_rfl
set_option maxRecDepth 100000 in
set_option maxHeartbeats 2000000 in
theorem rfresh_any (n : Nat) (w : World) (hn : n ≤ 65536) :
    Calls Try.prog 18 #[.int .i64 n] w (RFreshPost w n) := by
  go_enter Try.func18, Try.ntmps18
  go_wp2_with fail
  go_loopw [3, 4] (fun pv iv wr => ∃ k : Nat, k ≤ n ∧ iv = .int .i64 k ∧ Own wr w.heap.size .u16 22 pv (List.replicate k 1024) ∧ Fr Non w wr) (fun _ iv _ => n - (intOf iv).toNat)
  case atStart => exact ⟨0, Nat.zero_le _, rfl, Own.nil _ _ _ _, Fr.refl _ _⟩
  case round =>
    obtain ⟨k, hk, rfl, hown, hfr⟩ := hrel
    have HO := hid hown
    have HF := hid hfr
    clear hown hfr
    by_cases hlt : k < n
    · have hsz := HF.out.size
      go_wp2_with (refine opAppend1 (some 12) rfl rfl (.tmp 10) (.tmp 11) 26 rfl w.heap.size .u16 22 2 Try.underlying26 info_u16r _ _ rfl (by exact Own.alloc HO.out _) _ _ _ rfl (by exact cell_new1 _ _ _) (by decide) (by rw [List.length_replicate]; omega) (by simp; omega) ?_; intro v3 w3 hown3 hg3; have HO3 := hid hown3; have HF3 := hid (Fr.grown (HF.out.alloc _) hg3 (fun i hi hlt => absurd (HO.out.block i hi).1 (by omega))); clear hown3 hg3)
      go_roundw
      case rel => exact ⟨k + 1, by omega, by go_num, by rw [List.replicate_succ']; exact HO3.out, HF3.out⟩
      case measure => simp [intOf]; omega
    · have e : k = n := by omega
      subst e
      go_wp2_with fail
      go_ret
      exact ⟨u3, rfl, HO.out, HF.out⟩
end Go.Proofs.Ytomjagibcdneiaa
