/- The walks through Parse and Props, and through DeltaProps. -/
import Derived.Test.YtfedllfpgalalaaDelta3
namespace Go.Proofs.Ytfedllfpgalalaa
open Go.RowKit

theorem parse_no (a : Option Addr) (n cap : Nat) (w : World) (hn : n ≠ 1) (_hm : n ≤ 9223372036854775807) :
    Calls Try.prog 17 #[.slice a n cap] w fun e w' => e = .returned (.tuple #[.int .i64 0, .int .i64 11]) ∧ w = w' := by
  have h : ((n : Int) == 1) = false := by simp; omega
  have h' : ((n : Int) != 1) = true := by simp; omega
  go_enter Try.func17, Try.ntmps17
  go_wp2
  go_ret2
  exact ⟨rfl, rfl⟩
theorem parse_yes (B : Nat) (a : Option Addr) (cap : Nat) (f : Nat → Int) (w : World) (h : RowIn B .u8 w a 1 f) (h0 : 0 ≤ f 0) (h1 : f 0 < 256) :
    Calls Try.prog 17 #[.slice a 1 cap] w fun e w' => e = .returned (.tuple #[.int .i64 (f 0 + 1), .int .i64 0]) ∧ w = w' := by
  obtain ⟨b, off, rfl, _, hc⟩ := h.at (i := 0) (by decide)
  rw [Nat.add_zero] at hc
  go_enter Try.func17, Try.ntmps17
  go_wp2
  go_ret2
  exact ⟨rfl, rfl⟩
theorem props_no (d : Int) (w : World) (h : ¬ (1 ≤ d ∧ d ≤ 256)) (h0 : -9223372036854775808 ≤ d) (h1 : d ≤ 9223372036854775807) :
    Calls Try.prog 18 #[.int .i64 d] w fun e w' => e = .returned (.slice none 0 0) ∧ w = w' := by
  have H := hid h
  clear h
  go_enter Try.func18, Try.ntmps18
  go_wp2_with (go_at_call 19; refine (may_no _ _ H.out h0 h1).mono ?_; rintro e w' ⟨rfl, rfl⟩)
  go_ret
  exact ⟨rfl, rfl⟩
def PropsPost (w : World) (x : Int) (e : Ending) (w' : World) : Prop :=
  e = .returned (.slice (some ⟨w.heap.size, 0, none⟩) 1 1) ∧ Fr Non w w' ∧ RowIn w'.heap.size .u8 w' (some ⟨w.heap.size, 0, none⟩) 1 (lit [x])
theorem props_yes (d : Int) (w : World) (h0 : 1 ≤ d) (h1 : d ≤ 256) :
    Calls Try.prog 18 #[.int .i64 d] w (PropsPost w (d - 1)) := by
  go_enter Try.func18, Try.ntmps18
  go_wp2_with (go_at_call 19; refine (may_yes _ _ h0 h1).mono ?_; rintro e w' ⟨rfl, rfl⟩)
  go_ret
  refine ⟨rfl, (Fr.refl _ _).alloc _, ?_⟩
  exact (RowIn.ofList (k := .u8) [d - 1] (blk_new w (.cells #[.int .u8 (d - 1)] 5))).mono (by simp)

set_option maxRecDepth 100000 in
set_option maxHeartbeats 1000000 in
theorem deltaProps_no (a : Option Addr) (n cap : Nat) (w : World) (hn : n ≠ 1) (hm : n ≤ 9223372036854775807) :
    Calls Try.prog 6 #[.slice a n cap] w fun e w' => e = .returned (.bool true) ∧ Fr Non w w' := by
  have h : ((n : Int) == 1) = false := by simp; omega
  have h' : ((n : Int) != 1) = true := by simp; omega
  have H := hid hn
  clear hn
  go_enter Try.func6, Try.ntmps6
  go_wp2_with (first
    | (go_at_call 11; refine (awake_any _).mono ?_; rintro e w1 ⟨rfl, hf1⟩)
    | (go_at_call 17; refine (parse_no a n cap _ H.out hm).mono ?_; rintro e w' ⟨rfl, rfl⟩))
  go_ret
  exact ⟨rfl, hf1⟩
set_option maxRecDepth 100000 in
set_option maxHeartbeats 1000000 in
theorem deltaProps_yes (a : Option Addr) (cap : Nat) (f : Nat → Int) (w : World) (h : RowIn w.heap.size .u8 w a 1 f) (h0 : 0 ≤ f 0) (h1 : f 0 < 256) :
    Calls Try.prog 6 #[.slice a 1 cap] w fun e w' => e = .returned (.bool true) ∧ Fr Non w w' := by
  have H := hid h
  have hd0 : 1 ≤ f 0 + 1 := by omega
  have hd1 : f 0 + 1 ≤ 256 := by omega
  clear h
  go_enter Try.func6, Try.ntmps6
  go_wp2_with fail
  refine (awake_any _).mono ?_
  rintro e w1 ⟨rfl, hf1⟩
  have H1 := hid (H.out.fr hf1 (fun _ _ => id))
  have HF1 := hid hf1
  clear hf1
  go_wp2_with fail
  refine (parse_yes _ a cap f _ H1.out h0 h1).mono ?_
  rintro e w' ⟨rfl, rfl⟩
  obtain ⟨b, off, rfl, _, hc⟩ := H1.out.at (i := 0) (by decide)
  rw [Nat.add_zero] at hc
  go_wp2_with fail
  refine (props_yes _ _ hd0 hd1).mono ?_
  rintro e w2 ⟨rfl, hf2, hr2⟩
  have HF2 := hid (HF1.out.trans hf2)
  have H2 := hid ((H1.out.fr hf2 (fun _ _ => id)).mono (Nat.le_trans HF1.out.size hf2.size))
  have R2 := hid hr2
  clear hf2 hr2
  go_wp2_with fail
  refine (bytes_yes _ _ 1 _ _ _ f _ (by decide) w2.heap.size R2.out H2.out (fun i hi => ?_)).mono ?_
  · have : i = 0 := by omega
    subst this
    show f 0 + 1 - 1 = f 0
    omega
  rintro e w3 ⟨rfl, hf3⟩
  go_wp2_with fail
  go_ret
  exact ⟨rfl, HF2.out.trans hf3⟩
end Go.Proofs.Ytfedllfpgalalaa
