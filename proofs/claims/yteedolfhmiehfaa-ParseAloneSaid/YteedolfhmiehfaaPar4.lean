/- parse.finder: longest: its contract. -/
import Derived.Test.YteedolfhmiehfaaPar3
namespace Go.Proofs.Yteedolfhmiehfaa
open Go.RowKit

def LongPost (F : FLay) (r : Nat → Nat) (i : Nat) (w : World) (e : Ending) (w' : World) : Prop :=
  ∃ m wh : Nat, e = .returned (.tuple #[.int .i64 m, .int .i64 wh]) ∧ LongRes F i m wh ∧ Fr F.foot w w' ∧ F.At w' r i ∧ F.Chain w' i

set_option maxRecDepth 100000 in
theorem longest_near (F : FLay) (r : Nat → Nat) (k0 i : Nat) (w : World) (ok : F.Ok) (hk0 : k0 ≤ i) (hi : i < F.tb) (hn : F.tb ≤ i + 1) (ha : F.At w r k0) (hc : F.Chain w k0) :
    Calls Try.prog 32 #[.pointer (some ⟨F.g, 0, none⟩), .int .i64 i] w (LongPost F r i w) := by
  have hto := ok.to_
  have hL := ok.len
  have HA := hid ha
  have HC := hid hc
  clear ha hc
  go_enter Try.func32, Try.ntmps32
  go_wp2_with fail
  refine (learn_any F r k0 i w ok hk0 (by omega) HA.out HC.out).mono ?_
  rintro e w1 ⟨rfl, hf1, ha1, hc1⟩
  have c1 := blk_cell ha1.blk (j := 1) (v := .int .i64 F.tb) rfl
  have HF1 := hid hf1
  have HA1 := hid ha1
  have HC1 := hid hc1
  have h1 : (F.tb : Int) ≤ (i : Int) + 1 := by omega
  have h2 : IntKind.i64.wrap ((i : Int) + 1) = (i : Int) + 1 := by rw [IntKind.wrap_i64]; omega
  clear hf1 ha1 hc1
  go_wp2_with fail
  go_ret2
  exact ⟨0, 0, rfl, long_near hn, HF1.out, HA1.out, HC1.out⟩

set_option maxRecDepth 100000 in
set_option maxHeartbeats 4000000 in
theorem longest_far (F : FLay) (r : Nat → Nat) (k0 i : Nat) (w : World) (ok : F.Ok) (hk0 : k0 ≤ i) (hn : i + 1 < F.tb) (ha : F.At w r k0) (hc : F.Chain w k0) :
    Calls Try.prog 32 #[.pointer (some ⟨F.g, 0, none⟩), .int .i64 i] w (LongPost F r i w) := by
  have hto := ok.to_
  have hL := ok.len
  have HA := hid ha
  have HC := hid hc
  clear ha hc
  go_enter Try.func32, Try.ntmps32
  go_wp2_with fail
  refine (learn_any F r k0 i w ok hk0 (by omega) HA.out HC.out).mono ?_
  rintro e w1 ⟨rfl, hf1, ha1, hc1⟩
  have hp := prN_lt F ok i (by omega)
  obtain ⟨p, hpp⟩ : ∃ p, p = prN F.b i := ⟨_, rfl⟩
  obtain ⟨A0, hA0⟩ : ∃ A0, A0 = prevP (prN F.b) i p := ⟨_, rfl⟩
  have hA0i : A0 ≤ i := by rw [hA0]; exact prevP_le _ _ _
  have c1 := blk_cell ha1.blk (j := 1) (v := .int .i64 F.tb) rfl
  have c2 := blk_cell ha1.blk (j := 2) (v := .int .i64 F.dict) rfl
  have c7 := blk_cell ha1.blk (j := 7) (v := .slice (some ⟨F.gl, 0, none⟩) 65536 65536) rfl
  have c8 := blk_cell ha1.blk (j := 8) (v := .slice (some ⟨F.ga, 0, none⟩) F.L F.L) rfl
  rw [← hpp] at hp
  have d0 := blk_cell hc1.last (arr_get .i64 65536 _ hp)
  rw [← hA0] at d0
  have HF1 := hid hf1
  have HA1 := hid ha1
  have HC1 := hid hc1
  have HP := hid hpp
  have HA0 := hid hA0
  have h1 : decide ((F.tb : Int) ≤ (i : Int) + 1) = false := by rw [decide_eq_false_iff_not]; omega
  have h2 : IntKind.i64.wrap ((i : Int) + 1) = (i : Int) + 1 := by rw [IntKind.wrap_i64]; omega
  have hp1 : (p : Int) < 65536 := by omega
  clear hf1 ha1 hc1 hpp hA0 hp
  have HPair0 : ∀ n, Calls Try.prog 44 #[.pointer (some ⟨F.g, 0, none⟩), .int .i64 i] (w1.drewN n) fun e w' => e = .returned (.int .i64 p) ∧ ∃ m, w' = (w1.drewN n).drewN m := by
    intro n
    rw [HP.out]
    exact pair_q F r i i (w1.drewN n) ok (by omega) (HA1.out.drewN n)
  have HPair := hid HPair0
  clear HPair0
  go_upto_region 5 with fail
  go_quiet ((go_at_call 44; exact Calls.quiet_of (HPair.out _)))
  clear hp1 d0 c7
  go_wp2_with fail
  have start : chainB F i (i - A0) = (0, 0) := by
    rw [chainB_next (k := i) hA0i (Nat.le_refl _) (fun q h1 h2 => by rw [HA0.out] at h1; rw [← HP.out]; exact prevP_none _ _ _ _ h1 h2), Nat.sub_self]
    rfl
  have hA0p : A0 = 0 ∨ prN F.b (A0 - 1) = p := by
    by_cases h : A0 = 0
    · exact .inl h
    · right
      rw [HA0.out] at h ⊢
      exact prevP_at _ _ _ (by omega)
  have START := hid start
  clear start
  go_loopw [6, 7, 8] (fun vb vw va wr => ∃ a m : Nat, a ≤ i ∧ va = .int .i64 a ∧ (a = 0 ∨ prN F.b (a - 1) = p) ∧ vb = .int .i64 (chainB F i (i - a)).1 ∧ vw = .int .i64 (chainB F i (i - a)).2 ∧ wr = w1.drewN m) (fun _ _ va _ => (intOf va).toNat)
  case atStart => exact ⟨A0, _, hA0i, rfl, hA0p, by rw [START.out]; rfl, by rw [START.out]; rfl, rfl⟩
  case round =>
    obtain ⟨a, m, hai, rfl, hap, rfl, rfl, rfl⟩ := hrel
    have HAP := hid hap
    clear hap
    have fin : ∀ wx n, wx = w1.drewN n → (a = 0 ∨ F.dict ≤ i - a) → LongPost F r i w (.returned (.tuple #[.int .i64 (chainB F i (i - a)).1, .int .i64 (chainB F i (i - a)).2])) wx := by
      rintro wx n rfl h
      refine ⟨_, _, rfl, ?_, HF1.out.drewN n, HA1.out.drewN n, HC1.out.drewN n⟩
      rw [chainB_min (by omega) (h.imp (fun h => by omega) id)]
      exact long_chain ok hn
    have FIN := hid fin
    clear fin
    by_cases ha0 : a = 0
    · subst ha0
      have h3 : ¬ (0 : Int) < ((0 : Nat) : Int) := by omega
      go_wp2_with fail
      go_ret2
      exact FIN.out _ m rfl (by simp)
    · obtain ⟨d, hd⟩ : ∃ d, d = i - a := ⟨_, rfl⟩
      have h3 : (0 : Int) < (a : Int) := by omega
      have h4 : IntKind.i64.wrap ((i : Int) - (a : Int)) = (d : Int) := by rw [IntKind.wrap_i64]; omega
      by_cases hdd : F.dict ≤ d
      · have h5 : decide ((d : Int) < (F.dict : Int)) = false := by rw [decide_eq_false_iff_not]; omega
        have HD := hid hd
        clear hd
        go_wp2_with fail
        go_ret2
        exact FIN.out _ m rfl (.inr (by rw [← HD.out]; exact hdd))
      · have h5 : decide ((d : Int) < (F.dict : Int)) = true := by rw [decide_eq_true_iff]; omega
        have hap : prN F.b (a - 1) = p := by rcases HAP.out with h | h; exact absurd h ha0; exact h
        have hst := chainB_step (F := F) (i := i) (a := a) (by omega) hai (by rw [hap, HP.out])
        have hlen := lenAt_le F.b F.tb F.dict i d
        rw [← hd] at hst
        obtain ⟨B, hB⟩ : ∃ B, B = chainB F i d := ⟨_, rfl⟩
        obtain ⟨B', hB'⟩ : ∃ B', B' = chainB F i (d + 1) := ⟨_, rfl⟩
        obtain ⟨l, hl⟩ : ∃ l, l = lenAt F.b F.tb F.dict i d := ⟨_, rfl⟩
        rw [← hB, ← hB', ← hl] at hst
        rw [← hl] at hlen
        rw [← hd, ← hB]
        have HST := hid hst
        have HB' := hid hB'
        have HLen0 : ∀ n, Calls Try.prog 33 #[.pointer (some ⟨F.g, 0, none⟩), .int .i64 i, .int .i64 d] (w1.drewN n) fun e w' => e = .returned (.int .i64 l) ∧ ∃ m, w' = (w1.drewN n).drewN m := by
          intro n
          rw [hl]
          exact length_q F r i i d (w1.drewN n) ok (by omega) (by omega) (HA1.out.drewN n)
        have HLen := hid HLen0
        clear HLen0
        have fin2 : ∀ wx n, wx = w1.drewN n → B'.1 = 273 → LongPost F r i w (.returned (.tuple #[.int .i64 B'.1, .int .i64 B'.2])) wx := by
          rintro wx n rfl h
          refine ⟨_, _, rfl, ?_, HF1.out.drewN n, HA1.out.drewN n, HC1.out.drewN n⟩
          rw [hB'] at h ⊢
          rw [chainB_full (by omega) h]
          exact long_chain ok hn
        have FIN2 := hid fin2
        obtain ⟨a', ha'⟩ : ∃ a', a' = prevP (prN F.b) (a - 1) p := ⟨_, rfl⟩
        have ha'i : a' ≤ a - 1 := by rw [ha']; exact prevP_le _ _ _
        have next : chainB F i (i - a') = B' := by
          rw [hB', chainB_next (k := a - 1) ha'i (by omega) (fun q h1 h2 => by rw [ha'] at h1; rw [← HP.out]; exact prevP_none _ _ _ _ h1 h2)]
          congr 1; omega
        have ha'p : a' = 0 ∨ prN F.b (a' - 1) = p := by
          by_cases h : a' = 0
          · exact .inl h
          · right
            rw [ha'] at h ⊢
            exact prevP_at _ _ _ (by omega)
        have y0 := blk_cell HC1.out.ahead (arr_get .i64 F.L _ (show a - 1 < F.L by omega))
        rw [if_pos (show a - 1 < i by omega), hap, ← ha'] at y0
        obtain ⟨q, hq⟩ : ∃ q, q = a - 1 := ⟨_, rfl⟩
        rw [← hq] at y0
        have h6 : IntKind.i64.wrap ((a : Int) - 1) = (q : Int) := by rw [IntKind.wrap_i64]; omega
        have h7 : (q : Int) < (F.L : Int) := by omega
        have NEXT := hid next
        have HA'P := hid ha'p
        have HQ := hid hq
        clear hst hB hB' hl hd fin2 next ha'p hq ha' hap
        go_wp2_with fail
        refine (HLen.out _).mono ?_
        rintro e w3 ⟨rfl, m3, rfl⟩
        by_cases hlt : B.1 < l
        · have hs := HST.out
          rw [if_pos hlt] at hs
          have e1 : B'.1 = l := by rw [hs]
          have e2 : B'.2 = d := by rw [hs]
          have hlt' : (B.1 : Int) < (l : Int) := by omega
          rw [e1, e2] at FIN2
          rw [hs] at NEXT
          clear HST hs e1 e2
          by_cases hfull : l = 273
          · have hfull' : (l : Int) = 273 := by omega
            go_wp2_with fail
            go_ret2
            have fz := FIN2.out _ (m + m3) rfl hfull
            rw [hfull] at fz
            exact fz
          · have hfull' : ((l : Int) == 273) = false := by simp; omega
            go_wp2_with fail
            go_roundw
            case rel => exact ⟨a', _, by omega, rfl, HA'P.out, by rw [NEXT.out], by rw [NEXT.out], rfl⟩
            case measure => simp [intOf]; omega
        · have hs := HST.out
          rw [if_neg hlt] at hs
          have hlt' : decide ((B.1 : Int) < (l : Int)) = false := by rw [decide_eq_false_iff_not]; omega
          rw [hs] at FIN2 NEXT
          clear HST hs
          by_cases hfull : B.1 = 273
          · have hfull' : (B.1 : Int) = 273 := by omega
            go_wp2_with fail
            go_ret2
            have fz := FIN2.out _ (m + m3) rfl hfull
            rw [hfull] at fz
            exact fz
          · have hfull' : ((B.1 : Int) == 273) = false := by simp; omega
            go_wp2_with fail
            go_roundw
            case rel => exact ⟨a', _, by omega, rfl, HA'P.out, by rw [NEXT.out], by rw [NEXT.out], rfl⟩
            case measure => simp [intOf]; omega
theorem longest_any (F : FLay) (r : Nat → Nat) (k0 i : Nat) (w : World) (ok : F.Ok) (hk0 : k0 ≤ i) (hi : i < F.tb) (ha : F.At w r k0) (hc : F.Chain w k0) :
    Calls Try.prog 32 #[.pointer (some ⟨F.g, 0, none⟩), .int .i64 i] w (LongPost F r i w) := by
  by_cases h : F.tb ≤ i + 1
  · exact longest_near F r k0 i w ok hk0 hi h ha hc
  · exact longest_far F r k0 i w ok hk0 (by omega) ha hc
end Go.Proofs.Yteedolfhmiehfaa
