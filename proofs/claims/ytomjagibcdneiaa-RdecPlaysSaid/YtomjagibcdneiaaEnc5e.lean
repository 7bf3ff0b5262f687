/- The document's coder (05): Ask, a tree. -/
import Derived.Test.YtomjagibcdneiaaEnc5k
namespace Go.Proofs.Ytomjagibcdneiaa
open Go.RowKit

set_option maxRecDepth 100000 in
set_option maxHeartbeats 8000000 in
theorem eask_1 (A : Nat → Prop) (g gq N P B V cap : Nat) (c : RC) (q : Nat → Int) (cs : Array Value) (w : World) (h : EncC A g w c) (hA : A gq) (hok : c.Ok N) (hby : c.bytes) (hN : N ≤ 1073741000)
    (hb : w.heap[gq]? = some (.cells cs 22)) (hc : ∀ j, j < 2 ^ B → cs[P + j]? = some (.int .u16 (q j))) (hp : Pr q (2 ^ B)) (hB : B ≤ 8) (hP : P < 340) :
    Calls Try.prog 21 #[.pointer (some ⟨g, 0, none⟩), .slice (some ⟨gq, 0, none⟩) 600 cap, .agg #[.int .i64 1, .int .i64 P, .int .i64 B, .int .u32 V]] w (ETPost A g gq P (2 ^ B) cs w (c.tree B q V)) := by
  have hnot := h.not
  obtain ⟨W, hW⟩ : ∃ W, W = w.alloc (.cells #[.int .i64 1, .int .i64 P, .int .i64 B, .int .u32 V] 39) := ⟨_, rfl⟩
  have hfw : Fr Non w W := by rw [hW]; exact (Fr.refl Non w).alloc _
  have ha : W.heap[w.heap.size]? = some (.cells #[.int .i64 1, .int .i64 P, .int .i64 B, .int .u32 V] 39) := by rw [hW]; exact blk_new w _
  have hlt := blk_lt ha
  obtain ⟨A', hA'⟩ : ∃ A', A' = Since A w W := ⟨_, rfl⟩
  have S0 := hid (show ETAt A A' g gq P (2 ^ B) N cs w W W c q from ⟨Fr.refl _ _, by rw [hA']; exact h.fresh hfw, hok, hby, ⟨cs, hfw.blk hb id, Win.self hc⟩, hp⟩)
  have hAq : A' gq := by rw [hA']; exact .inl hA
  have hAa : A' w.heap.size := by rw [hA']; exact .inr ⟨Nat.le_refl _, hlt⟩
  have HAQ := hid hAq
  have HAA := hid hAa
  have HLA := hid (show ∀ k, A k → A' k from fun k hk => by rw [hA']; exact .inl hk)
  have HFW := hid hfw
  have HA := hid ha
  have HW := hid hW
  have HGL := hid (blk_lt hb)
  have hne : ¬ w.heap.size = gq := fun e => by have := blk_lt hb; omega
  obtain ⟨L, hL⟩ : ∃ L, L = 2 ^ B := ⟨_, rfl⟩
  rw [← hL] at S0
  have HL := hid hL
  have hL8 : L ≤ 256 := by rw [hL]; exact Nat.pow_le_pow_right (by decide) hB
  clear h hok hby hb hc hp hA' hfw ha hlt hAq hAa hW hL
  go_enter Try.func21, Try.ntmps21
  go_wp2_with fail
  rw [← HW.out]
  go_loopw [6, 7] (fun mv iv wr => ∃ (k m : Nat) (c1 : RC) (q1 : Nat → Int), k ≤ B ∧ iv = .int .i64 ((k : Int) - 1) ∧ mv = .int .i64 m ∧ 2 ^ (B - k) ≤ m ∧ m < 2 ^ (B - k + 1) ∧
      RC.treeGo k c1 q1 m V = RC.tree B c q V ∧ ETAt A A' g gq P L (N + 3 * (B - k)) cs w W wr c1 q1)
    (fun _ iv _ => (intOf iv + 1).toNat)
  case atStart =>
    refine ⟨B, 1, c, q, Nat.le_refl _, rfl, rfl, ?_, ?_, rfl, ?_⟩
    · rw [Nat.sub_self]; decide
    · rw [Nat.sub_self]; decide
    · rw [Nat.sub_self]; exact S0.out
  case round =>
    obtain ⟨k, m, c1, q1, hk, rfl, rfl, hm0, hm1, hgo, hst⟩ := hrel
    have ha := hst.fr.blk HA.out (fun e => e.elim (fun e => e HAA.out) (fun e => hne e))
    have a1 := blk_cell ha (j := 1) (v := .int .i64 P) rfl
    have a3 := blk_cell ha (j := 3) (v := .int .u32 V) rfl
    have Hgo := hid hgo
    have ST := hid hst
    have HAr := hid ha
    clear hgo hst ha
    by_cases hk0 : k = 0
    · subst hk0
      have hgo : (q1, c1) = RC.tree B c q V := Hgo.out
      have HG := hid hgo
      clear hgo
      go_wp2_with fail
      go_end0
      rw [← HG.out, ← HL.out]
      obtain ⟨cs1, h5, h6⟩ := ST.out.blk
      exact ⟨rfl, HFW.out.any.then ST.out.fr (fun i _ e => e.imp (fun e h => e (HLA.out i h)) id), ST.out.enc.less HLA.out, cs1, h5, h6⟩
    · obtain ⟨i, rfl⟩ := Nat.exists_eq_succ_of_ne_zero hk0
      rw [show ((i.succ : Nat) : Int) - 1 = (i : Int) by omega]
      have hmL : m < L := by
        have e : 2 ^ (B - i.succ + 1) ≤ 2 ^ B := Nat.pow_le_pow_right (by decide) (by omega)
        rw [HL.out]; omega
      have hm2 : m < 1048576 := by omega
      have hbit := ST.out.pr m hmL
      have Hm0 := hid hm0
      have Hm1 := hid hm1
      clear hm0 hm1
      obtain ⟨b, hb⟩ : ∃ b, b = V / 2 ^ i % 2 := ⟨_, rfl⟩
      have hb1 : b ≤ 1 := by omega
      have HBB := hid hb
      clear hb
      have hbv : wrap64 (((V : Int) / 2 ^ i).tmod 2) = (b : Int) := by
        have e : ((V : Int) / 2 ^ i) = ((V / 2 ^ i : Nat) : Int) := by simp
        rw [e, Int.tmod_eq_emod_of_nonneg (Int.natCast_nonneg _), HBB.out]
        generalize V / 2 ^ i = x
        unfold wrap64; omega
      have HBV := hid hbv
      clear hbv
      have hPm : P + m < 600 := by omega
      obtain ⟨pm, hpm⟩ : ∃ pm, pm = P + m := ⟨_, rfl⟩
      have hPw : IntKind.i64.wrap ((P : Int) + (m : Int)) = (pm : Int) := by rw [IntKind.wrap_i64]; omega
      have hpm6 : pm < 600 := by omega
      obtain ⟨cs1, h5, h6⟩ := ST.out.blk
      have cP := blk_cell h5 (h6.cell m hmL)
      have fP := blk_frozen h5 (P + m)
      have H5 := hid h5
      have H6 := hid (h6.cell m hmL)
      rw [← hpm] at cP fP H6
      have HPM := hid hpm
      clear hpm hPm
      clear h5 h6
      go_upto_region 17 with fail
      rw [HBV.out]
      go_cut [] (fun wx => ETAt A A' g gq P L (N + 3 * (B - i.succ) + 3) cs w W wx (c1.bit (q1 m) b).2 (upd q1 m (c1.bit (q1 m) b).1))
      case first =>
        go_region_with (go_at_call 42; refine (ebit_any A' g (N + 3 * (B - i.succ)) c1 (q1 m) b _ (by first | exact ST.out.enc.drew | exact ST.out.enc) ST.out.ok ST.out.by_ (by omega) hbit.1 hbit.2 hb1).mono ?_; rintro e w1 ⟨rfl, hf1, hd1⟩; have hb2 := Fr.blk hf1 (g := gq) (o := .cells cs1 22) (by exact H5.out) (fun e => Out.no e HAQ.out); have k1 := blk_cell hb2 H6.out; have g1 := blk_frozen hb2 pm; have ka := Fr.cell hf1 (p := ⟨w.heap.size, 1, none⟩) (v := .int .i64 P) (by exact a1) (fun e => Out.no e HAA.out); have HF1 := hid (show Fr (Out A') wr w1 from (by first | exact hf1 | exact ((Fr.refl _ _).drew).trans hf1)); have HD1 := hid hd1; clear hb2 hf1 hd1)
        all_goals
          have HS := hid (ST.out.step HAQ.out hmL HF1.out HD1.out)
          rw [← HPM.out] at HS
          clear HF1 HD1 k1 g1 ka
          go_wp2_with fail
          go_meet
          exact HS.out
      case rest =>
        have HS := hid hcut
        clear hcut cP fP H5 H6
        go_wp2_with fail
        go_roundw
        case rel =>
          have eB : B - i = B - i.succ + 1 := by omega
          refine ⟨i, 2 * m + b, (c1.bit (q1 m) b).2, upd q1 m (c1.bit (q1 m) b).1, by omega, by go_num, by go_num, ?_, ?_, ?_, ?_⟩
          · have := Hm0.out; rw [eB, Nat.pow_succ]; omega
          · have := Hm1.out; rw [eB, Nat.pow_succ]; omega
          · rw [HBB.out]; exact Hgo.out
          · have := HS.out
            rw [show N + 3 * (B - i.succ) + 3 = N + 3 * (B - i) by omega] at this
            exact this
        case measure => simp [intOf]
end Go.Proofs.Ytomjagibcdneiaa
