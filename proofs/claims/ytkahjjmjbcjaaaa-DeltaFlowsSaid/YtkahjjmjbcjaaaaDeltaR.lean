/- The walk through the reference's Decode of layer 13: each function's contract. -/
import Derived.Test.YtkahjjmjbcjaaaaDelta
namespace Go.Proofs.Ytkahjjmjbcjaaaa
open Go.RowKit

/-- a slice of the call's own, with the bytes xs, and a code 0. -/
def RefPost (w : World) (xs : List Int) (e : Ending) (w' : World) : Prop :=
  ∃ v, e = .returned (.tuple #[v, .int .i64 0]) ∧ Own w' w.heap.size .u8 5 v xs ∧ Fr Non w w'

theorem grown_new {w wr w1 : World} {v : Value} {o : Obj} {k : IntKind} {e : TypeId} {xs : List Int} (hfr : Fr Non w wr) (hown : Own wr w.heap.size k e v xs) (hg : (wr.alloc o).grownBy w1 v.ownBlock) : Fr Non w w1 :=
  Fr.grown (hfr.alloc _) hg fun i hi h => absurd (hown.block i hi).1 (by omega)

theorem dec13_far (f : Nat → Int) (d k : Nat) (h0 : 0 < d) (h : d ≤ k) : dec13 f d k = (f k + dec13 f d (k - d)) % 256 := by
  rw [dec13_eq _ _ _ h0]; unfold old13; rw [if_neg (by omega)]
theorem dec13_near (f : Nat → Int) (d k : Nat) (h0 : 0 < d) (h : k < d) : dec13 f d k = f k % 256 := by
  rw [dec13_eq _ _ _ h0]; unfold old13; rw [if_pos h]; simp
theorem dec13_bd (f : Nat → Int) (d k : Nat) (h0 : 0 < d) : 0 ≤ dec13 f d k ∧ dec13 f d k < 256 := by
  rw [dec13_eq _ _ _ h0]; omega

set_option maxRecDepth 100000 in
set_option maxHeartbeats 1000000 in
theorem refdecode_any (a : Option Addr) (n cap d : Nat) (f : Nat → Int) (w : World) (hd0 : (1 : Int) ≤ (d : Int)) (hd1 : (d : Int) ≤ 256) (hn : n ≤ 1048576)
    (h : RowIn w.heap.size .u8 w a n f) (hf : ∀ i, i < n → 0 ≤ f i ∧ f i < 256) :
    Calls Try.prog 8 #[.slice a n cap, .int .i64 d] w (RefPost w ((List.range n).map (dec13 f d))) := by
  have H := hid h
  have Hf := hid hf
  clear h hf
  go_enter Try.func8, Try.ntmps8
  go_wp2
  go_loopw [6, 7] (fun v i wr => ∃ k : Nat, k ≤ n ∧ i = .int .i64 k ∧ Own wr w.heap.size .u8 5 v ((List.range k).map (dec13 f d)) ∧ Fr Non w wr)
    (fun _ i _ => n - (intOf i).toNat)
  case atStart => exact ⟨0, Nat.zero_le _, rfl, Own.nil _ _ _ _, Fr.refl _ _⟩
  case round =>
    obtain ⟨k, hk, rfl, hown, hfr⟩ := hrel
    have hsz := hfr.size
    by_cases hlt : k < n
    · obtain ⟨b, off, rfl, hb, hcell⟩ := H.out.at hlt
      have hx := hfr.cell hcell id
      have hb0 := (Hf.out k hlt).1
      have hb1 := (Hf.out k hlt).2
      obtain ⟨ao, co, rfl, hlc, hcm, hrow⟩ := hown.rowN (n := k) (by simp)
      have Hown := hid hown
      have Hfr := hid hfr
      clear hcell hown hfr
      by_cases hd : d ≤ k
      · obtain ⟨b2, off2, rfl, hb2, hy⟩ := hrow.at (i := k - d) (by omega)
        have hg : ((List.range k).map (dec13 f d)).getD (k - d) 0 = dec13 f d (k - d) := by simp [List.getD, show k - d < k by omega]
        rw [hg] at hy
        have hy0 := (dec13_bd f d (k - d) (by omega)).1
        have hy1 := (dec13_bd f d (k - d) (by omega)).2
        have hdk : (0 : Int) < d := by omega
        clear hg hrow
        go_wp2_with (refine opAppend1 (some 43) rfl rfl (.tmp 38) (.tmp 42) 22 rfl w.heap.size .u8 5 1 Try.underlying22 Try.info_u8 _ _ rfl (Hown.out.alloc _) ⟨_, 0, none⟩ 1 _ rfl (cell_new1 _ _ _) (by decide) (by simp; omega) (by simp; omega) ?_; intro v' w1 hown1 hg1)
        go_roundw
        case rel =>
          refine ⟨k + 1, by omega, by go_num, ?_, grown_new Hfr.out Hown.out hg1⟩
          rw [List.range_succ, List.map_append, List.map_singleton, dec13_far _ _ _ (by omega) hd]
          exact hown1
        case measure => simp [intOf]; omega
      · have hd' : ¬ (d : Int) ≤ (k : Int) := by omega
        clear hrow
        go_wp2_with (refine opAppend1 (some 43) rfl rfl (.tmp 38) (.tmp 42) 22 rfl w.heap.size .u8 5 1 Try.underlying22 Try.info_u8 _ _ rfl (Hown.out.alloc _) ⟨_, 0, none⟩ 1 _ rfl (cell_new1 _ _ _) (by decide) (by simp; omega) (by simp; omega) ?_; intro v' w1 hown1 hg1)
        go_roundw
        case rel =>
          refine ⟨k + 1, by omega, by go_num, ?_, grown_new Hfr.out Hown.out hg1⟩
          rw [List.range_succ, List.map_append, List.map_singleton, dec13_near _ _ _ (by omega) (by omega)]
          exact hown1
        case measure => simp [intOf]; omega
    · have e : k = n := by omega
      subst e
      have Hown := hid hown
      have Hfr := hid hfr
      clear hown hfr
      go_wp2
      go_ret2
      exact ⟨_, rfl, Hown.out, Hfr.out⟩
end Go.Proofs.Ytkahjjmjbcjaaaa
