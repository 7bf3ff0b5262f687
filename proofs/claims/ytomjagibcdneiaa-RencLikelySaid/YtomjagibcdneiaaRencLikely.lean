/- RencLikely. -/
import Derived.Test.YtomjagibcdneiaaLaw05c
namespace Go.Proofs.Ytomjagibcdneiaa
open Go.RowKit

def lkStep (s : Nat × Nat × Nat) : Nat × Nat × Nat :=
  if s.1 / 2048 * s.2.1 < 16777216 then (s.1 / 2048 * s.2.1 * 256, s.2.1 + (2048 - s.2.1) / 32, s.2.2 + 1) else (s.1 / 2048 * s.2.1, s.2.1 + (2048 - s.2.1) / 32, s.2.2)
def lk : Nat → Nat × Nat × Nat
  | 0 => (4294967295, 1024, 0)
  | k + 1 => lkStep (lk k)
def lkOk : Nat → Nat → Nat × Nat × Nat → Bool
  | 0, _, _ => true
  | f + 1, k, s => decide (s.2.2 ≤ 7 + k / 40) && lkOk f (k + 1) (lkStep s)
theorem lkOk_all : lkOk 4000 0 (4294967295, 1024, 0) = true := by decide +kernel
theorem lkOk_at : ∀ (f k j : Nat), lkOk f k (lk k) = true → j < f → (lk (k + j)).2.2 ≤ 7 + (k + j) / 40 := by
  intro f
  induction f with
  | zero => intro k j _ h; omega
  | succ f ih =>
    intro k j h hj
    unfold lkOk at h
    rw [Bool.and_eq_true] at h
    cases j with
    | zero => exact of_decide_eq_true h.1
    | succ j =>
      have := ih (k + 1) j h.2 (by omega)
      rw [show k + (j + 1) = k + 1 + j by omega]
      exact this
theorem lk_bound (k : Nat) (h : k < 4000) : (lk k).2.2 ≤ 7 + k / 40 := by
  have := lkOk_at 4000 0 k lkOk_all h
  rw [Nat.zero_add] at this
  exact this
def lkC (s : Nat × Nat × Nat) : RC := ⟨0, s.1, 0, 0, List.replicate s.2.2 0⟩
theorem lk_bit (s : Nat × Nat × Nat) (h0 : 16777216 ≤ s.1) (hp0 : 31 ≤ s.2.1) (hp1 : s.2.1 ≤ 2017) : (lkC s).bit s.2.1 0 = (((lkStep s).2.1 : Int), lkC (lkStep s)) := by
  obtain ⟨r, p, n⟩ := s
  simp only at h0 hp0 hp1
  rw [bit_zero]
  have hb : ((r : Int) / 2048 * (p : Int)) = ((r / 2048 * p : Nat) : Int) := by simp
  have hp : (p : Int) + (2048 - (p : Int)) / 32 = ((p + (2048 - p) / 32 : Nat) : Int) := by omega
  have hpos := bound_pos (r : Int) (p : Int) (by omega) (by omega)
  show ((p : Int) + (2048 - (p : Int)) / 32, (⟨0, (r : Int) / 2048 * (p : Int), 0, 0, List.replicate n 0⟩ : RC).level) = _
  rw [hb] at hpos ⊢
  rw [hp]
  unfold lkStep
  simp only
  by_cases hlt : r / 2048 * p < 16777216
  · rw [if_pos hlt]
    have e : (⟨0, ((r / 2048 * p : Nat) : Int), 0, 0, List.replicate n 0⟩ : RC).level = ⟨0, ((r / 2048 * p : Nat) : Int) * 256, 0, 0, List.replicate n 0 ++ [0]⟩ := by
      have e1 : (⟨0, ((r / 2048 * p : Nat) : Int), 0, 0, List.replicate n 0⟩ : RC).level = RC.lev 2 (⟨0, ((r / 2048 * p : Nat) : Int) * 256, 0, 0, List.replicate n 0⟩ : RC).give := by
        show RC.lev 3 _ = _
        exact if_pos (by show ((r / 2048 * p : Nat) : Int) < 16777216; omega)
      have e2 : (⟨0, ((r / 2048 * p : Nat) : Int) * 256, 0, 0, List.replicate n 0⟩ : RC).give = ⟨0, ((r / 2048 * p : Nat) : Int) * 256, 0, 0, List.replicate n 0 ++ [0]⟩ := if_pos (.inl (by show (0 : Int) < _; decide))
      rw [e1, e2]
      exact lev_stop 2 _ (by show 16777216 ≤ ((r / 2048 * p : Nat) : Int) * 256; omega)
    rw [e]
    unfold lkC
    simp [List.replicate_succ']
  · rw [if_neg hlt]
    have e : (⟨0, ((r / 2048 * p : Nat) : Int), 0, 0, List.replicate n 0⟩ : RC).level = ⟨0, ((r / 2048 * p : Nat) : Int), 0, 0, List.replicate n 0⟩ := lev_stop 3 _ (by show 16777216 ≤ ((r / 2048 * p : Nat) : Int); omega)
    rw [e]
    rfl
theorem one_row (x y : Int) : (arr .u16 1 (fun _ => x)).setIfInBounds 0 (.int .u16 y) = arr .u16 1 (fun _ => y) := by
  rw [arr_set]
  exact arr_ext fun i hi => by
    have e : i = 0 := by omega
    subst e
    rfl

set_option maxRecDepth 100000 in
set_option maxHeartbeats 4000000 in
theorem rencLikely_walk (v : Nat) (hv : v < 65536) (w : World) :
    Calls Try.prog 3 #[.int .u16 v] w fun e w' => e = .returned (.bool true) ∧ Fr Non w w' := by
  go_enter Try.func3, Try.ntmps3
  go_wp2_with fail
  refine (awake05_any _).mono ?_
  rintro e w1 ⟨rfl, hf1⟩
  have s1 := hf1.size
  have F1 := hid hf1
  clear hf1
  go_wp2_with fail
  refine (cnew_any _).mono ?_
  rintro e w2 ⟨g, rfl, hg0, hf2, hc2⟩
  have s2 := hf2.size
  have F2 := hid hf2
  have HC2 := hid hc2
  clear hf2 hc2
  go_wp2_with fail
  refine (fresh_any 1 _ (by decide)).mono ?_
  rintro e w4 ⟨gp, hgp, rfl, hf4, hb4⟩
  obtain ⟨A, hAe⟩ : ∃ A : Nat → Prop, A = fun k => k < w1.heap.size ∨ (w2.heap.size ≤ k ∧ k < w4.heap.size) := ⟨_, rfl⟩
  have hc4 := HC2.out.fresh hf4
  rw [← hAe] at hc4
  have HA := hid (show A gp by rw [hAe]; exact .inr ⟨hgp, blk_lt hb4⟩)
  have HA0 := hid (show ∀ k, k < w.heap.size → A k from fun k hk => by rw [hAe]; exact .inl (by omega))
  have F4 := hid ((F1.out.trans F2.out).trans hf4)
  have HC4 := hid hc4
  have HB4 := hid hb4
  clear hf4 hb4 hc4 hAe
  obtain ⟨K, hK⟩ : ∃ K, K = v % 4000 := ⟨_, rfl⟩
  have hK4 : K < 4000 := by omega
  have hKI : ((v : Int) % 4000) = (K : Int) := by omega
  have HKI := hid hKI
  clear hK hKI
  go_wp2_with fail
  go_loopw [6] (fun i wr => ∃ k : Nat, k ≤ K ∧ i = .int .i64 k ∧ Fr Non w wr ∧ CodIs A g wr (lkC (lk k)) ∧ (lkC (lk k)).Ok (3 * k) ∧ wr.heap[gp]? = some (.cells (arr .u16 1 (fun _ => ((lk k).2.1 : Int))) 22) ∧ 31 ≤ (lk k).2.1 ∧ (lk k).2.1 ≤ 2017) (fun i _ => K - (intOf i).toNat)
  case atStart => exact ⟨0, Nat.zero_le _, rfl, F4.out, HC4.out, new_ok _, HB4.out, by decide, by decide⟩
  case round =>
    obtain ⟨k, hk, rfl, hfr, hcod, hok, hblk, hp0, hp1⟩ := hrel
    have Hfr := hid hfr
    have Hcod := hid hcod
    have Hok := hid hok
    have Hblk := hid hblk
    clear hfr hcod hok hblk
    by_cases hlt : k < K
    · have hlt' : (k : Int) < (v : Int) % 4000 := by have := HKI.out; omega
      have hbit := lk_bit (lk k) (by have := Hok.out.rng0; show 16777216 ≤ (lk k).1; have e : (lkC (lk k)).rng = ((lk k).1 : Int) := rfl; omega) hp0 hp1
      have HBit := hid hbit
      have hpr := bit_prob' (lkC (lk k)) (p := ((lk k).2.1 : Int)) (by omega) (by omega) 0
      rw [hbit] at hpr
      have HPR := hid hpr
      clear hbit hpr
      go_wp2_with fail
      refine (cbit_any A g gp 0 (3 * k) _ _ (lkC (lk k)) ((lk k).2.1 : Int) 0 _ Hcod.out HA.out Hok.out (by omega) Hblk.out (arr_get _ _ _ (by decide)) (by omega) (by omega) (by decide)).mono ?_
      rw [HBit.out]
      rintro e w5 ⟨rfl, hf5, hc5, hb5⟩
      rw [one_row] at hb5
      have Hf5 := hid hf5
      have Hc5 := hid hc5
      have Hb5 := hid hb5
      clear hf5 hc5 hb5
      go_wp2_with fail
      go_roundw
      case rel =>
        have hok2 := Hok.out.bit (p := ((lk k).2.1 : Int)) (by omega) (by omega) 0
        rw [HBit.out] at hok2
        refine ⟨k + 1, by omega, by go_num, Hfr.out.then Hf5.out (fun i hi e => ?_), Hc5.out, hok2.mono (by omega), Hb5.out, ?_, ?_⟩
        · rcases e with e | e
          · exact absurd (HA0.out i hi) e
          · omega
        · have := HPR.out.1; have e : ((lkStep (lk k)).2.1 : Int) = ((lk (k + 1)).2.1 : Int) := rfl; omega
        · have := HPR.out.2; have e : ((lkStep (lk k)).2.1 : Int) = ((lk (k + 1)).2.1 : Int) := rfl; omega
      case measure => simp [intOf]; omega
    · have hge : ¬ (k : Int) < (v : Int) % 4000 := by have := HKI.out; omega
      have e : k = K := by omega
      subst e
      have hlen : (lkC (lk k)).out.length + (lkC (lk k)).more = (lk k).2.2 := by simp [lkC]
      have hbd := lk_bound k hK4
      go_wp2_with fail
      refine (ccount_any A g _ _ Hcod.out (by omega)).mono ?_
      rintro e w5 ⟨rfl, hf5⟩
      have F5 := hid (Hfr.out.trans hf5)
      clear hf5
      rw [show (lkC (lk k)).out.length + (lkC (lk k)).more + 5 = (lk k).2.2 + 5 by omega]
      clear hlen
      have hfin : ((lk k).2.2 : Int) + 5 ≤ 12 + (v : Int) % 4000 / 40 := by have := HKI.out; omega
      go_wp2_with fail
      go_ret
      exact ⟨rfl, F5.out⟩
end Go.Proofs.Ytomjagibcdneiaa
