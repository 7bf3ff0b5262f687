/- bcj: Code, Decode, awake; BcjBack. -/
import Derived.Test.YtkahjjmjbcjaaaaBcj7
import Derived.Test.YtkahjjmjbcjaaaaDelta
namespace Go.Proofs.Ytkahjjmjbcjaaaa
open Go.RowKit

theorem rowOf {w : World} {base : Nat} {e : TypeId} {v : Value} {n : Nat} {F : Nat → Int} (h : Own w base .u8 e v ((List.range n).map F)) :
    ∃ a c, v = .slice a n c ∧ n ≤ c ∧ c ≤ maxLen ∧ (a = none → c = 0) ∧ RowIn w.heap.size .u8 w a n F := by
  have h' := h
  obtain ⟨h1, h2⟩ := h
  obtain ⟨a, c, hv, hnc, hcm, hr⟩ := h'.rowN (n := n) (by simp)
  refine ⟨a, c, hv, hnc, hcm, fun ha => ?_, hr.ext fun i hi => by simp [hi]⟩
  subst ha
  rcases h2 with ⟨hv2, _⟩ | ⟨g, cap, cur, hv2, _⟩
  · rw [hv] at hv2
    injection hv2
  · rw [hv] at hv2
    injection hv2 with h3
    cases h3
/-- a row of n bytes F that is the call's own. -/
def RowPost (w : World) (n : Nat) (F : Nat → Int) (e : Ending) (w' : World) : Prop :=
  ∃ a c, e = .returned (.slice a n c) ∧ n ≤ c ∧ c ≤ maxLen ∧ (a = none → c = 0) ∧ RowIn w'.heap.size .u8 w' a n F ∧ Fr Non w w' ∧ Own w' w.heap.size .u8 5 (.slice a n c) ((List.range n).map F)
theorem AllPost.row {w : World} {n : Nat} {F : Nat → Int} {e : Ending} {w' : World} (h : AllPost w n F e w') : RowPost w n F e w' := by
  obtain ⟨v, he, ho, hf⟩ := h
  obtain ⟨a, c, hv, h1, h2, h3, h4⟩ := rowOf ho
  subst hv
  exact ⟨a, c, he, h1, h2, h3, h4, hf, ho⟩
theorem bcode_any (a : Option Addr) (n c : Nat) (f : Nat → Int) (w : World) (hn : n ≤ 1048576) (hnc : n ≤ c) (hnil : a = none → c = 0) (h : RowIn w.heap.size .u8 w a n f) (hf : ∀ i, i < n → 0 ≤ f i ∧ f i < 256) :
    Calls Try.prog 22 #[.slice a n c] w (RowPost w n (allB true n f)) := by
  have K := all_any a n c f true w hn hnc hnil h hf
  go_enter Try.func22, Try.ntmps22
  go_wp2_with (go_at_call 27; refine K.mono ?_; rintro e w' ⟨v, rfl, hp⟩)
  go_ret
  exact AllPost.row ⟨v, rfl, hp⟩
theorem bdecode_any (a : Option Addr) (n c : Nat) (f : Nat → Int) (w : World) (hn : n ≤ 1048576) (hnc : n ≤ c) (hnil : a = none → c = 0) (h : RowIn w.heap.size .u8 w a n f) (hf : ∀ i, i < n → 0 ≤ f i ∧ f i < 256) :
    Calls Try.prog 23 #[.slice a n c] w (RowPost w n (allB false n f)) := by
  have K := all_any a n c f false w hn hnc hnil h hf
  go_enter Try.func23, Try.ntmps23
  go_wp2_with (go_at_call 27; refine K.mono ?_; rintro e w' ⟨v, rfl, hp⟩)
  go_ret
  exact AllPost.row ⟨v, rfl, hp⟩
theorem five_code : ∀ j : Fin 5, allB true 5 (lit [232, 0, 0, 0, 0]) j.val = lit [232, 5, 0, 0, 0] j.val := by decide +kernel
theorem five_range : ∀ j : Fin 5, 0 ≤ lit [232, 0, 0, 0, 0] j.val ∧ lit [232, 0, 0, 0, 0] j.val < 256 := by decide +kernel

set_option maxRecDepth 100000 in
set_option maxHeartbeats 1000000 in
theorem bawake_any (w : World) : Calls Try.prog 10 #[] w fun e w' => e = .returned (.bool true) ∧ Fr Non w w' := by
  have hz : ∀ j, j < 5 → 0 ≤ lit [232, 0, 0, 0, 0] j ∧ lit [232, 0, 0, 0, 0] j < 256 := fun j hj => five_range ⟨j, hj⟩
  go_enter Try.func10, Try.ntmps10
  go_wp2_with fail
  have r1 := RowIn.ofList (k := .u8) [232, 0, 0, 0, 0] (blk_new w (.cells #[.int .u8 232, .int .u8 0, .int .u8 0, .int .u8 0, .int .u8 0] 5))
  refine (bcode_any _ 5 5 (lit [232, 0, 0, 0, 0]) _ (by decide) (by decide) (fun e => by cases e) (r1.mono (by simp)) hz).mono ?_
  rintro e w1 ⟨a1, c1, rfl, hn1, hm1, hz1, hr1, hf1, _⟩
  have F1 := hid (((Fr.refl Non w).alloc (.cells #[.int .u8 232, .int .u8 0, .int .u8 0, .int .u8 0, .int .u8 0] 5)).trans hf1)
  have R1 := hid hr1
  have Z1 := hid hz1
  have HZ := hid hz
  clear r1 hf1 hr1 hz1 hz
  go_wp2_with fail
  have r2 := RowIn.ofList (k := .u8) [232, 5, 0, 0, 0] (blk_new w1 (.cells #[.int .u8 232, .int .u8 5, .int .u8 0, .int .u8 0, .int .u8 0] 5))
  refine (bytes_yes _ _ 5 _ _ (allB true 5 (lit [232, 0, 0, 0, 0])) (lit [232, 5, 0, 0, 0]) _ (by decide) (w1.heap.size + 1) ((R1.out.fr ((Fr.refl Non _).alloc _) (fun _ _ => id)).mono (by simp)) r2 (fun i hi => five_code ⟨i, hi⟩)).mono ?_
  rintro e w2 ⟨rfl, hf2⟩
  have F2 := hid ((F1.out.alloc (.cells #[.int .u8 232, .int .u8 5, .int .u8 0, .int .u8 0, .int .u8 0] 5)).trans hf2)
  have s2 := hf2.size
  have R2 := hid (((R1.out.fr ((Fr.refl Non _).alloc _) (fun _ _ => id)).fr hf2 (fun _ _ => id)).mono (B' := w2.heap.size) (by simp at s2; omega))
  clear r2 hf2
  go_wp2_with fail
  refine (bdecode_any _ 5 _ (allB true 5 (lit [232, 0, 0, 0, 0])) _ (by decide) hn1 Z1.out R2.out (allB_range HZ.out)).mono ?_
  rintro e w3 ⟨a3, c3, rfl, hn3, hm3, hz3, hr3, hf3, _⟩
  have F3 := hid (F2.out.trans hf3)
  have R3 := hid hr3
  clear hf3 hr3 hz3
  go_wp2_with fail
  have r4 := RowIn.ofList (k := .u8) [232, 0, 0, 0, 0] (blk_new w3 (.cells #[.int .u8 232, .int .u8 0, .int .u8 0, .int .u8 0, .int .u8 0] 5))
  refine (bytes_yes _ _ 5 _ _ _ (lit [232, 0, 0, 0, 0]) _ (by decide) (w3.heap.size + 1) ((R3.out.fr ((Fr.refl Non _).alloc _) (fun _ _ => id)).mono (by simp)) r4 (fun i hi => all_back 5 _ HZ.out i)).mono ?_
  rintro e w4 ⟨rfl, hf4⟩
  have F4 := hid ((F3.out.alloc (.cells #[.int .u8 232, .int .u8 0, .int .u8 0, .int .u8 0, .int .u8 0] 5)).trans hf4)
  clear r4 hf4
  go_wp2_with fail
  go_ret
  exact ⟨rfl, F4.out⟩

end Go.Proofs.Ytkahjjmjbcjaaaa
