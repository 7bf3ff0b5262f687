/- The walk through DeltaFlat. -/
import Derived.Test.YtfedllfpgalalaaDelta4
import Derived.Deep.CutBlock
import Derived.Deep.DeepCutAuto
namespace Go.Proofs.Ytfedllfpgalalaa
open Go.RowKit

def rep (f : Nat → Int) (n i : Nat) : Int := f (i % n)
theorem rep_step (f : Nat → Int) (n k : Nat) : (List.range (k * n)).map (rep f n) ++ (List.range n).map f = (List.range ((k + 1) * n)).map (rep f n) := by
  rw [Nat.add_mul, Nat.one_mul, List.range_add, List.map_append, List.map_map]
  congr 1
  apply List.map_congr_left
  intro i hi
  have : i < n := by simpa using hi
  simp only [Function.comp, rep]
  rw [Nat.mul_comm, Nat.mul_add_mod, Nat.mod_eq_of_lt this]
theorem rep_near (f : Nat → Int) (n i : Nat) (h : i < n) (hb : 0 ≤ f i ∧ f i < 256) : code13 (rep f n) n i = f i := by
  unfold code13 old13 rep; rw [if_pos h, Nat.mod_eq_of_lt h]; omega
theorem rep_far (f : Nat → Int) (n i : Nat) (h : n ≤ i) : code13 (rep f n) n i = 0 := by
  unfold code13 old13 rep
  rw [if_neg (by omega), Nat.mod_eq_sub_mod h, Int.sub_self]; rfl

set_option maxRecDepth 100000 in
set_option maxHeartbeats 1000000 in
theorem deltaFlat_none (a : Option Addr) (n cap : Nat) (t : Int) (w : World) (hn : ¬ (1 ≤ n ∧ n ≤ 256)) :
    Calls Try.prog 4 #[.slice a n cap, .int .u8 t] w fun e w' => e = .returned (.bool true) ∧ Fr Non w w' := by
  by_cases h : n = 0
  · subst h
    clear hn
    go_enter Try.func4, Try.ntmps4
    go_wp2_with (go_at_call 11; refine (awake_any _).mono ?_; rintro e w1 ⟨rfl, hf1⟩)
    go_ret
    exact ⟨rfl, hf1⟩
  · have h1 : ¬ (n : Int) < 1 := by omega
    have h2 : (256 : Int) < (n : Int) := by omega
    clear hn h
    go_enter Try.func4, Try.ntmps4
    go_wp2_with (go_at_call 11; refine (awake_any _).mono ?_; rintro e w1 ⟨rfl, hf1⟩)
    go_ret
    exact ⟨rfl, hf1⟩

set_option maxRecDepth 100000 in
set_option maxHeartbeats 1000000 in
theorem deltaFlat_in (a : Option Addr) (n cap T : Nat) (f : Nat → Int) (w : World) (hn0 : 1 ≤ n) (hn1 : n ≤ 256) (hnc : n ≤ cap) (hnil : a = none → cap = 0) (hT : (T : Int) ≤ 255)
    (h : RowIn w.heap.size .u8 w a n f) (hf : ∀ i, i < n → 0 ≤ f i ∧ f i < 256) :
    Calls Try.prog 4 #[.slice a n cap, .int .u8 T] w fun e w' => e = .returned (.bool true) ∧ Fr Non w w' := by
  have hg1 : ¬ (n : Int) < 1 := by omega
  have hg2 : ¬ (256 : Int) < (n : Int) := by omega
  have H := hid h
  have Hf := hid hf
  have Hnil := hid hnil
  clear h hf hnil
  go_enter Try.func4, Try.ntmps4
  go_wp2_with fail
  refine (awake_any _).mono ?_
  rintro e w1 ⟨rfl, hf1⟩
  have s1 := hf1.size
  have F1 := hid hf1
  have H1 := hid (H.out.fr hf1 (fun _ _ => id) |>.mono s1)
  clear hf1
  obtain ⟨M, hM⟩ : ∃ M, M = (T + 1) * n := ⟨_, rfl⟩
  have HM : Hid (M = (T + 1) * n) := hM
  have hM1 : M ≤ 65536 := by rw [hM]; exact Nat.le_trans (Nat.mul_le_mul (show T + 1 ≤ 256 by omega) hn1) (by decide)
  have hnM : n ≤ M := by rw [hM]; exact Nat.le_mul_of_pos_left _ (by omega)
  clear hM
  go_upto_block 0 with fail
  go_cut [6] (fun v wx => Own wx w1.heap.size .u8 5 v ((List.range M).map (rep f n)) ∧ Fr Non w1 wx)
  case first =>
    go_wp2_with fail
    go_loopw [6, 7] (fun v i wr => ∃ k : Nat, k ≤ T + 1 ∧ i = .int .i64 k ∧ Own wr w1.heap.size .u8 5 v ((List.range (k * n)).map (rep f n)) ∧ Fr Non w1 wr)
      (fun _ i _ => T + 1 - (intOf i).toNat)
    case atStart => exact ⟨0, by omega, rfl, by rw [Nat.zero_mul]; exact Own.nil _ _ _ _, Fr.refl _ _⟩
    case round =>
      obtain ⟨k, hk, rfl, hown, hfr⟩ := hrel
      have hsz := hfr.size
      have Hown := hid hown
      have Hfr := hid hfr
      clear hown hfr
      by_cases hlt : k ≤ T
      · have hkn : k * n ≤ 65536 := Nat.le_trans (Nat.mul_le_mul (show k ≤ 256 by omega) hn1) (by decide)
        go_wp2_with (refine opAppendRow (some 29) rfl rfl (.tmp 27) (.tmp 28) 22 rfl w1.heap.size .u8 5 1 Try.underlying22 Try.info_u8 _ _ rfl Hown.out w1.heap.size a n cap f rfl Hnil.out hnc (H1.out.fr Hfr.out (fun _ _ => id)) (by decide) (by simp; omega) (by omega) ?_; intro v2 w2 hown2 hg2)
        go_roundw
        case rel =>
          refine ⟨k + 1, by omega, by go_num, ?_, ?_⟩
          · rw [← rep_step]; exact hown2
          · exact Hfr.out.grown hg2 (fun i hi hlt => absurd (Hown.out.block i hi).1 (by omega))
        case measure => simp [intOf]; omega
      · have e : k = T + 1 := by omega
        subst e
        rw [← HM.out] at Hown
        go_wp2_with fail
        go_meet
        exact ⟨Hown.out, Hfr.out⟩
  case rest =>
    obtain ⟨hown, hfr⟩ := hcut
    rename_i wr
    obtain ⟨ao, co, rfl, hlo, _, hro⟩ := hown.rowN (n := M) (by simp)
    have O2 := hid (hro.ext (f' := rep f n) fun i hi => by simp [List.getD, hi])
    have Q2 := hid (H1.out.fr hfr (fun _ _ => id) |>.mono hfr.size)
    have Hfr := hid hfr
    clear hown hro hfr
    have hp : ∀ i, i < M → 0 ≤ rep f n i ∧ rep f n i < 256 := fun i _ => Hf.out (i % n) (Nat.mod_lt _ (by omega))
    have Hp := hid hp
    clear hp
    go_wp2_with fail
    refine (code_any ao M co n (rep f n) _ (by omega) (by omega) (by omega) O2.out Hp.out).mono ?_
    rintro e w3 ⟨g3, hg3, rfl, hf3, hb3⟩
    have s3 := hf3.size
    have F3 := hid (F1.out.trans (Hfr.out.trans hf3))
    have H3 := hid (Q2.out.fr hf3 (fun _ _ => id) |>.mono s3)
    have X3 := hid (RowIn.ofArr0 hb3 |>.mono (blk_lt hb3))
    clear hf3 hb3
    go_wp2_with fail
    go_loopw [10] (fun i wr => ∃ k m : Nat, k ≤ M ∧ i = .int .i64 k ∧ wr = w3.drewN m) (fun i _ => M - (intOf i).toNat)
    case atStart => exact ⟨0, 0, by omega, rfl, rfl⟩
    case round =>
      obtain ⟨k, m, hk, rfl, rfl⟩ := hrel
      by_cases hlt : k < M
      · have hx : w3.cell? ⟨g3, k, none⟩ = some (.int .u8 (code13 (rep f n) n k)) := by
          obtain ⟨b, off, e, _, hc⟩ := X3.out.at hlt
          simp only [Option.some.injEq, Addr.mk.injEq, and_true] at e
          obtain ⟨rfl, rfl⟩ := e
          rw [Nat.zero_add] at hc
          exact hc
        have h0 : (0 : Int) ≤ (k : Int) := by omega
        have h1 : (k : Int) < (M : Int) := by omega
        have g1 : decide (M ≤ k) = false := by simp; omega
        by_cases hkn : k < n
        · obtain ⟨b, off, rfl, _, hy⟩ := H3.out.at hkn
          have h2 : (k : Int) < (n : Int) := by omega
          have g2 : decide (k < n) = true := by simp; omega
          have g4 : decide (n ≤ k) = false := by simp; omega
          rw [rep_near f n k hkn (Hf.out k hkn)] at hx
          go_wp2
          go_quiet (fail)
          go_wp2
          go_roundw
          case rel => exact ⟨k + 1, m + nq, by omega, by go_num, by simp⟩
          case measure => simp [intOf]; omega
        · have g2 : decide (k < n) = false := by simp; omega
          have g4 : decide (n ≤ k) = true := by simp; omega
          rw [rep_far f n k (by omega)] at hx
          go_wp2
          go_quiet (fail)
          go_wp2
          go_roundw
          case rel => exact ⟨k + 1, m + nq, by omega, by go_num, by simp⟩
          case measure => simp [intOf]; omega
      · have e : k = M := by omega
        subst e
        go_wp2
        go_ret
        exact ⟨rfl, F3.out.drewN _⟩
end Go.Proofs.Ytfedllfpgalalaa
