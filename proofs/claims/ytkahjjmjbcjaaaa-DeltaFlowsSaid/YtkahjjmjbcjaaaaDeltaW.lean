/- The walks through Parse, Props and the laws' first look, awake, of layer 13. -/
import Derived.Test.YtkahjjmjbcjaaaaDeltaR
namespace Go.Proofs.Ytkahjjmjbcjaaaa
open Go.RowKit

theorem below4 {P : Nat → Prop} (h0 : P 0) (h1 : P 1) (h2 : P 2) (h3 : P 3) : ∀ i, i < 4 → P i := by
  intro i hi
  match i, hi with
  | 0, _ => exact h0
  | 1, _ => exact h1
  | 2, _ => exact h2
  | 3, _ => exact h3
  | n + 4, hi => omega

set_option maxRecDepth 100000 in
set_option maxHeartbeats 1000000 in
theorem awake_any (w : World) : Calls Try.prog 5 #[] w fun e w' => e = .returned (.bool true) ∧ Fr Non w w' := by
  go_enter Try.func5, Try.ntmps5
  go_wp2_with fail
  have r1 := RowIn.ofList (k := .u8) [1, 2, 4, 7] (blk_new w (.cells #[.int .u8 1, .int .u8 2, .int .u8 4, .int .u8 7] 5))
  refine (code_any _ 4 4 1 (lit [1, 2, 4, 7]) _ (by decide) (by decide) (by decide) (r1.mono (by simp)) (below4 (by decide) (by decide) (by decide) (by decide))).mono ?_
  rintro e w1 ⟨g1, hg1, rfl, hf1, hb1⟩
  have F1 := ((Fr.refl Non w).alloc (.cells #[.int .u8 1, .int .u8 2, .int .u8 4, .int .u8 7] 5)).trans hf1
  have s1 := F1.size
  have Hb1 := hid hb1
  have HF1 := hid F1
  clear r1 hf1 hb1 F1
  go_wp2_with fail
  refine (decode_any _ 4 4 2 (code13 (lit [1, 2, 4, 7]) 1) _ (by decide) (by decide) (by decide) ((RowIn.ofArr0 Hb1.out).mono (by have := blk_lt Hb1.out; omega)) (below4 (by decide) (by decide) (by decide) (by decide))).mono ?_
  rintro e w2 ⟨g2, hg2, rfl, hf2, hb2⟩
  have F2 := HF1.out.trans hf2
  have s2 := F2.size
  have Hb2 := hid hb2
  have Hb1' := hid (hf2.blk Hb1.out id)
  have HF2 := hid F2
  clear hf2 hb2 F2
  go_wp2_with fail
  have r3 := RowIn.ofList (k := .u8) [1, 1, 2, 3] (blk_new w2 (.cells #[.int .u8 1, .int .u8 1, .int .u8 2, .int .u8 3] 5))
  refine (bytes_yes _ _ 4 _ _ (code13 (lit [1, 2, 4, 7]) 1) (lit [1, 1, 2, 3]) _ (by decide) (w2.heap.size + 1) ((RowIn.ofArr0 (blk_alloc Hb1'.out)).mono (by have := blk_lt Hb1'.out; omega)) r3 (below4 (by decide) (by decide) (by decide) (by decide))).mono ?_
  rintro e w3 ⟨rfl, hf3⟩
  have F3 := (HF2.out.alloc _).trans hf3
  have Hb2' := hid (hf3.blk (blk_alloc Hb2.out) id)
  have HF3 := hid F3
  clear hf3 F3 r3
  go_wp2_with fail
  have r4 := RowIn.ofList (k := .u8) [1, 1, 3, 4] (blk_new w3 (.cells #[.int .u8 1, .int .u8 1, .int .u8 3, .int .u8 4] 5))
  refine (bytes_yes _ _ 4 _ _ _ (lit [1, 1, 3, 4]) _ (by decide) (w3.heap.size + 1) ((RowIn.ofArr0 (blk_alloc Hb2'.out)).mono (by have := blk_lt Hb2'.out; omega)) r4 (below4 ?_ ?_ ?_ ?_)).mono ?_
  · rw [dec13_near _ _ _ (by decide) (by decide)]; decide
  · rw [dec13_near _ _ _ (by decide) (by decide)]; decide
  · rw [dec13_far _ _ _ (by decide) (by decide), dec13_near _ _ _ (by decide) (by decide)]; decide
  · rw [dec13_far _ _ _ (by decide) (by decide), dec13_near _ _ _ (by decide) (by decide)]; decide
  rintro e w4 ⟨rfl, hf4⟩
  have HF4 := hid ((HF3.out.alloc (.cells #[.int .u8 1, .int .u8 1, .int .u8 3, .int .u8 4] 5)).trans hf4)
  clear hf4 r4
  go_wp2_with fail
  go_ret
  exact ⟨rfl, HF4.out⟩

theorem refdecodeI (d : Int) (hd0 : 1 ≤ d) (hd1 : d ≤ 256) (a : Option Addr) (n cap : Nat) (f : Nat → Int) (w : World) (hn : n ≤ 1048576)
    (h : RowIn w.heap.size .u8 w a n f) (hf : ∀ i, i < n → 0 ≤ f i ∧ f i < 256) :
    Calls Try.prog 8 #[.slice a n cap, .int .i64 d] w (RefPost w ((List.range n).map (dec13 f d.toNat))) := by
  obtain ⟨d, rfl⟩ := Int.eq_ofNat_of_zero_le (a := d) (by omega)
  exact refdecode_any a n cap d f w hd0 hd1 hn h hf
end Go.Proofs.Ytkahjjmjbcjaaaa
