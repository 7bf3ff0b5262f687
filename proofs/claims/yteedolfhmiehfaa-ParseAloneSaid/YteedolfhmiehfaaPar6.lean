/- The document's answer for packets: how far a copy goes. -/
import Derived.Test.YteedolfhmiehfaaPar5
import Derived.Test.YteedolfhmiehfaaPkRow
namespace Go.Proofs.Yteedolfhmiehfaa
open Go.RowKit

set_option maxRecDepth 100000 in
theorem long_q (B : Nat) (a : Option Addr) (n c : Nat) (f : Nat → Int) (to_ dict i d : Nat) (w : World) (hn : n ≤ 1048576) (hto : to_ ≤ n) (hi : i ≤ to_) (hd : d ≤ 4611686018427387904) (h : RowIn B .u8 w a n f) :
    Calls Try.prog 19 #[.slice a n c, .int .i64 i, .int .i64 to_, .int .i64 d, .int .i64 dict] w fun e w' => e = .returned (.int .i64 (lenAt f to_ dict i d)) ∧ ∃ m, w' = w.drewN m := by
  have hd0 : decide ((d : Int) < 0) = false := by rw [decide_eq_false_iff_not]; omega
  by_cases h1 : i ≤ d
  · have e : lenAt f to_ dict i d = 0 := if_pos (.inl h1)
    rw [e]
    have h1' : decide ((i : Int) ≤ (d : Int)) = true := by rw [decide_eq_true_iff]; omega
    clear h e
    go_enter Try.func19, Try.ntmps19
    go_wp2_with fail
    go_ret
    exact ⟨rfl, 0, rfl⟩
  · have h1' : decide ((i : Int) ≤ (d : Int)) = false := by rw [decide_eq_false_iff_not]; omega
    by_cases h2 : dict ≤ d
    · have e : lenAt f to_ dict i d = 0 := if_pos (.inr h2)
      rw [e]
      have h2' : decide ((dict : Int) ≤ (d : Int)) = true := by rw [decide_eq_true_iff]; omega
      clear h e
      go_enter Try.func19, Try.ntmps19
      go_wp2_with fail
      go_ret
      exact ⟨rfl, 0, rfl⟩
    · have h2' : decide ((dict : Int) ≤ (d : Int)) = false := by rw [decide_eq_false_iff_not]; omega
      obtain ⟨M, hM⟩ : ∃ M, M = min 273 (to_ - i) := ⟨_, rfl⟩
      have e : lenAt f to_ dict i d = runFrom f i d M 0 := by unfold lenAt; rw [if_neg (by omega), hM]
      rw [e]
      have H := hid h
      have HM := hid hM
      have hMto : i + M ≤ n := by omega
      have hM2 : M ≤ 273 := by omega
      clear h e hM
      go_enter Try.func19, Try.ntmps19
      go_wp2_with fail
      go_loopw [11] (fun v wr => ∃ k m : Nat, k ≤ M ∧ v = .int .i64 k ∧ runFrom f i d (M - k) k = runFrom f i d M 0 ∧ wr = w.drewN m) (fun v _ => M - (intOf v).toNat)
      case atStart => exact ⟨0, 0, Nat.zero_le _, rfl, rfl, rfl⟩
      case round =>
        obtain ⟨k, m, hk, rfl, hrun, rfl⟩ := hrel
        have HR := hid hrun
        clear hrun
        have hw1 : IntKind.i64.wrap ((i : Int) + (k : Int)) = (i : Int) + (k : Int) := by rw [IntKind.wrap_i64]; omega
        by_cases hlt : k < M
        · obtain ⟨b, off, hav, _, x0⟩ := H.out.at (i := i + k) (by omega)
          obtain ⟨q, hq⟩ : ∃ q, q = i + k - 1 - d := ⟨_, rfl⟩
          obtain ⟨b', off', hav', _, x1⟩ := H.out.at (i := q) (by omega)
          rw [hav] at hav'
          simp only [Option.some.injEq, Addr.mk.injEq, and_true] at hav'
          obtain ⟨rfl, rfl⟩ := hav'
          subst hav
          have g1 : decide ((k : Int) < 273) = true := by rw [decide_eq_true_iff]; omega
          have g2 : decide ((i : Int) + (k : Int) < (to_ : Int)) = true := by rw [decide_eq_true_iff]; have := HM.out; omega
          have hw2 : IntKind.i64.wrap ((i : Int) + (k : Int) - 1) = (i : Int) + (k : Int) - 1 := by rw [IntKind.wrap_i64]; omega
          have hw3 : IntKind.i64.wrap ((i : Int) + (k : Int) - 1 - (d : Int)) = (q : Int) := by rw [IntKind.wrap_i64]; omega
          have hqL : (q : Int) < (n : Int) := by omega
          have hikL : (i : Int) + (k : Int) < (n : Int) := by omega
          have HQ := hid hq
          clear hq
          by_cases heq : f (i + k) = f q
          · have g3 : (f (i + k) == f q) = true := by rw [beq_iff_eq]; exact heq
            go_wp2_with fail
            go_quiet (fail)
            go_wp2_with fail
            go_roundw
            case rel =>
              refine ⟨k + 1, m + nq, by omega, by go_num, ?_, rfl⟩
              rw [← HR.out, show M - k = (M - (k + 1)) + 1 by omega, runFrom, if_pos (by rw [heq, HQ.out])]
            case measure => simp [intOf]; omega
          · have g3 : (f (i + k) == f q) = false := by simpa using heq
            go_wp2_with fail
            go_quiet (fail)
            go_wp2_with fail
            go_ret
            have := HR.out
            rw [show M - k = (M - (k + 1)) + 1 by omega, runFrom, if_neg (by rw [← HQ.out]; exact heq)] at this
            exact ⟨by rw [← this]; rfl, m + nq, by simp⟩
        · have e : k = M := by omega
          subst e
          have fin : ∀ q, Ending.returned (.int .i64 ((k : Nat) : Int)) = Ending.returned (.int .i64 (runFrom f i d k 0 : Nat)) ∧ ∃ m', (w.drewN m).drewN q = w.drewN m' := by
            intro q
            have := HR.out
            simp only [Nat.sub_self, runFrom] at this
            exact ⟨by rw [← this], m + q, by simp⟩
          have FIN := hid fin
          clear fin
          by_cases h273 : k = 273
          · subst h273
            go_wp2_with fail
            go_quiet (fail)
            go_wp2_with fail
            go_ret
            exact FIN.out _
          · have g1 : decide ((k : Int) < 273) = true := by rw [decide_eq_true_iff]; omega
            have g2 : decide ((i : Int) + (k : Int) < (to_ : Int)) = false := by rw [decide_eq_false_iff_not]; have := HM.out; omega
            go_wp2_with fail
            go_quiet (fail)
            go_wp2_with fail
            go_ret
            exact FIN.out _
end Go.Proofs.Yteedolfhmiehfaa
