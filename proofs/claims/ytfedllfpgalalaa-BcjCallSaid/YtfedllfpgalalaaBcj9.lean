/- BcjStays. -/
import Derived.Test.YtfedllfpgalalaaBcj8
namespace Go.Proofs.Ytfedllfpgalalaa
open Go.RowKit

set_option maxRecDepth 100000 in
theorem bcjStays_long (a : Option Addr) (n cap : Nat) (w : World) (hn : 16384 < n) (hm : n ≤ 9223372036854775807) :
    Calls Try.prog 9 #[.slice a n cap] w fun e w' => e = .returned (.bool true) ∧ Fr Non w w' := by
  have h : (16384 : Int) < (n : Int) := by omega
  clear hn
  go_enter Try.func9, Try.ntmps9
  go_wp2_with (go_at_call 20; refine (bawake_any _).mono ?_; rintro e w1 ⟨rfl, hf1⟩)
  go_ret
  exact ⟨rfl, hf1⟩
def Since (f : Nat → Int) (i s : Nat) : Prop := s ≤ 9 + i ∧ ∀ p, p < i → isCall (f p) = true → s ≤ i - p
theorem Since.far {f : Nat → Int} {i s : Nat} (h : Since f i s) (hs : 4 < s) (code : Bool) (n : Nat) : allB code n f i = f i := by
  refine runB_stays n n 0 _ f i fun p _ hp hp4 => ?_
  cases hc : isCall (f p) with
  | false => rfl
  | true => have := h.2 p hp hc; omega
theorem Since.next {f : Nat → Int} {i s : Nat} (h : Since f i s) (hc : isCall (f i) = false) : Since f (i + 1) (s + 1) := by
  refine ⟨by have := h.1; omega, fun p hp hpc => ?_⟩
  by_cases e : p = i
  · subst e; rw [hc] at hpc; cases hpc
  · have := h.2 p (by omega) hpc; omega
theorem Since.call (f : Nat → Int) (i : Nat) : Since f (i + 1) 1 := ⟨by omega, fun p hp _ => by omega⟩
theorem isCall_no {x : Int} (h1 : ¬ x = 232) (h2 : ¬ x = 233) : isCall x = false := by unfold isCall; simp [h1, h2]
theorem short_same {code : Bool} {n : Nat} {f : Nat → Int} (h : n < 5) : allB code n f = f := runB_end (by omega)

set_option maxRecDepth 100000 in
set_option maxHeartbeats 2000000 in
theorem bcjStays_walk (a : Option Addr) (n cap : Nat) (f : Nat → Int) (w : World) (hn : n ≤ 16384) (hnc : n ≤ cap) (hnil : a = none → cap = 0)
    (h : RowIn w.heap.size .u8 w a n f) (hf : ∀ i, i < n → 0 ≤ f i ∧ f i < 256) :
    Calls Try.prog 9 #[.slice a n cap] w fun e w' => e = .returned (.bool true) ∧ Fr Non w w' := by
  have hn1 : ¬ (16384 : Int) < (n : Int) := by omega
  have H := hid h
  have Hf := hid hf
  have Hnil := hid hnil
  clear h hf hnil
  go_enter Try.func9, Try.ntmps9
  go_wp2_with (go_at_call 20; refine (bawake_any _).mono ?_; rintro e w1 ⟨rfl, hf1⟩)
  have s1 := hf1.size
  have F1 := hid hf1
  have H1 := hid (H.out.fr hf1 (fun _ _ => id) |>.mono s1)
  clear hf1
  refine (bdecode_any a n cap f _ (by omega) hnc Hnil.out H1.out Hf.out).mono ?_
  rintro e w2 ⟨a2, c2, rfl, hn2, hm2, hz2, hr2, hf2, _⟩
  have s2 := hf2.size
  have F2 := hid (F1.out.trans hf2)
  have H2 := hid (H1.out.fr hf2 (fun _ _ => id) |>.mono s2)
  have R2 := hid hr2
  clear hf2 hr2 hz2
  go_wp2_with fail
  refine (bcode_any a n cap f _ (by omega) hnc Hnil.out H2.out Hf.out).mono ?_
  rintro e w3 ⟨a3, c3, rfl, hn3, hm3, hz3, hr3, hf3, _⟩
  have s3 := hf3.size
  have F3 := hid (F2.out.trans hf3)
  have H3 := hid (H2.out.fr hf3 (fun _ _ => id) |>.mono s3)
  have X3 := hid (R2.out.fr hf3 (fun _ _ => id) |>.mono s3)
  have Y3 := hid hr3
  clear hf3 hr3 hz3
  go_wp2_with fail
  go_loopw [5, 6] (fun sv iv wr => ∃ i s m : Nat, i ≤ n ∧ sv = .int .i64 s ∧ iv = .int .i64 i ∧ Since f i s ∧ wr = w3.drewN m) (fun _ iv _ => n - (intOf iv).toNat)
  case atStart => exact ⟨0, 9, 0, Nat.zero_le _, rfl, rfl, ⟨by omega, fun p hp => by omega⟩, rfl⟩
  case round =>
    obtain ⟨i, s, m, hi, rfl, rfl, hs, rfl⟩ := hrel
    by_cases hlt : i < n
    · obtain ⟨b1, o1, rfl, hB1, hc1⟩ := H3.out.at hlt
      obtain ⟨b2, o2, rfl, hB2, hc2⟩ := X3.out.at hlt
      obtain ⟨b3, o3, rfl, hB3, hc3⟩ := Y3.out.at hlt
      have hs9 := hs.1
      have HS := hid hs
      have h0 : (0 : Int) ≤ (i : Int) := by omega
      have h1 : (i : Int) < (n : Int) := by omega
      have C2 := hid hc2
      have C3 := hid hc3
      clear hc2 hc3 hs
      go_upto_region 13 with fail
      go_cut [73] (fun v wx => v = .bool false ∧ ∃ m, wx = w3.drewN m)
      case first =>
        by_cases h4 : 4 < s
        · have hc2 := C2.out
          have hc3 := C3.out
          rw [HS.out.far h4 false n] at hc2
          rw [HS.out.far h4 true n] at hc3
          have h4' : (4 : Int) < (s : Int) := by omega
          by_cases h5 : n < 5
          · have h5' : (n : Int) < 5 := by omega
            go_wp2
            go_quiet (fail)
            go_wp2
            go_meet
            exact ⟨rfl, m + nq, by simp⟩
          · have h5' : decide ((n : Int) < 5) = false := by simp; omega
            go_wp2
            go_quiet (fail)
            go_wp2
            go_meet
            exact ⟨rfl, m + nq, by simp⟩
        · have h4' : decide ((4 : Int) < (s : Int)) = false := by simp; omega
          by_cases h5 : n < 5
          · have hc2 := C2.out
            rw [short_same h5] at hc2
            have h5' : (n : Int) < 5 := by omega
            go_wp2
            go_quiet (fail)
            go_wp2
            go_meet
            exact ⟨rfl, m + nq, by simp⟩
          · have h5' : decide ((n : Int) < 5) = false := by simp; omega
            go_wp2
            go_quiet (fail)
            go_wp2
            go_meet
            exact ⟨rfl, m + nq, by simp⟩
      case rest =>
        obtain ⟨hv, m, hw⟩ := hcut
        subst hv hw
        have hs1 : (s : Int) + 1 ≤ 9223372036854775807 := by omega
        by_cases hx : f i = 232
        · have HX := hid hx
          rw [hx] at hc1
          clear hx
          go_wp2_with fail
          go_roundw
          case rel => exact ⟨i + 1, 1, _, by omega, rfl, by go_num, Since.call f i, rfl⟩
          case measure => simp [intOf]; omega
        · by_cases hy : f i = 233
          · rw [hy] at hc1
            clear hx hy
            go_wp2_with fail
            go_roundw
            case rel => exact ⟨i + 1, 1, _, by omega, rfl, by go_num, Since.call f i, rfl⟩
            case measure => simp [intOf]; omega
          · have HX := hid (isCall_no hx hy)
            have hx' : (f i == 232) = false := by simp [hx]
            have hy' : (f i == 233) = false := by simp [hy]
            clear hx hy
            go_wp2_with fail
            go_roundw
            case rel => exact ⟨i + 1, s + 1, _, by omega, by go_num, by go_num, HS.out.next HX.out, rfl⟩
            case measure => simp [intOf]; omega
    · have e : i = n := by omega
      subst e
      go_wp2_with fail
      go_ret
      exact ⟨rfl, F3.out.drewN _⟩
end Go.Proofs.Ytfedllfpgalalaa
