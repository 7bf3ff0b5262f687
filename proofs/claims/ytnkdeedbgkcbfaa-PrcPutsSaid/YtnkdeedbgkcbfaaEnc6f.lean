/- The document's coder (06): Put, a bit 1. -/
import Derived.Test.YtnkdeedbgkcbfaaEnc6k
namespace Go.Proofs.Ytnkdeedbgkcbfaa
open Go.RowKit

set_option maxRecDepth 100000 in
set_option maxHeartbeats 8000000 in
theorem eput_11 (A : Nat → Prop) (g N size total : Nat) (c : RC) (w : World) (h : EncC A g w c) (hok : c.Ok N) (hby : c.bytes) (hN : N ≤ 1073741000) (hs : (⟨1, 1, size, total⟩ : Share).Right) (h2 : 1 ≤ total) (h3 : total ≤ 16) (h4 : 1 ≤ size) (h5 : size < 65536) :
    Calls Try.prog 13 #[.pointer (some ⟨g, 0, none⟩), .agg #[.int .i64 1, .int .u32 1, .int .u32 size, .int .u32 total]] w (ESPost A g w (c.put ⟨1, 1, size, total⟩)) := by
  have hfit := share_fits hs hok.rng0
  obtain ⟨W, hW⟩ : ∃ W, W = w.alloc (.cells #[.int .i64 1, .int .u32 1, .int .u32 size, .int .u32 total] 32) := ⟨_, rfl⟩
  have hfw : Fr Non w W := by rw [hW]; exact (Fr.refl Non w).alloc _
  have ha : W.heap[w.heap.size]? = some (.cells #[.int .i64 1, .int .u32 1, .int .u32 size, .int .u32 total] 32) := by rw [hW]; exact blk_new w _
  have hlt := blk_lt ha
  obtain ⟨A', hA'⟩ : ∃ A', A' = Since A w W := ⟨_, rfl⟩
  have HE := hid (show EncC A' g W c by rw [hA']; exact h.fresh hfw)
  have hAa : A' w.heap.size := by rw [hA']; exact .inr ⟨Nat.le_refl _, hlt⟩
  have HAA := hid hAa
  have HLA := hid (show ∀ k, A k → A' k from fun k hk => by rw [hA']; exact .inl hk)
  have HFW := hid hfw
  have HA := hid ha
  have hne : ¬ w.heap.size = g := fun e => HE.out.not (by rw [← e]; exact hAa)
  have hne' : ¬ g = w.heap.size := fun e => hne e.symm
  have ka0 := blk_cell ha (j := 0) (v := .int .i64 1) rfl
  have ka1 := blk_cell ha (j := 1) (v := .int .u32 1) rfl
  have ka2 := blk_cell ha (j := 2) (v := .int .u32 size) rfl
  have ka3 := blk_cell ha (j := 3) (v := .int .u32 total) rfl
  obtain ⟨v, B, hv, hB, hlen, hval⟩ := HE.out
  have c1 := blk_cell hv.at_ (j := 1) (v := .int .u64 c.rng) rfl
  have f1 := blk_frozen hv.at_ 1
  have o2 := hok.rng0
  have o3 := hok.rng1
  have hL : c.len ≤ 1073741800 := by have := hok.size; unfold RC.len; omega
  have hL0 : 0 < c.len := by unfold RC.len; omega
  have HOK := hid hok
  have HBY := hid hby
  have HBE := hid (hok.below hby)
  clear h hok hby hA' hfw ha hlt hAa hv hB hlen hval
  go_enter Try.func13, Try.ntmps13
  have KA1 := hid ka1
  have KA2 := hid ka2
  have KA3 := hid ka3
  obtain ⟨hf1, hf2, hf3⟩ := hfit
  have HK := hid (show ¬ (1 : Int) = 0 by decide)

  have e1 : Share.lo ⟨1, 1, size, total⟩ c.rng = c.rng / 2 ^ total * size := by unfold Share.lo; rw [if_neg HK.out]; exact if_neg (show ¬ (1 : Nat) = 0 by decide)
  have e2 : Share.wide ⟨1, 1, size, total⟩ c.rng = c.rng - c.rng / 2 ^ total * size := by unfold Share.wide; rw [if_neg HK.out]; exact if_neg (show ¬ (1 : Nat) = 0 by decide)

  unfold RC.put
  rw [e1] at hf1 hf3
  rw [e2] at hf2 hf3
  rw [e1, e2]
  clear e1 e2
  obtain ⟨q, hq⟩ : ∃ q, q = c.rng / 2 ^ total := ⟨_, rfl⟩
  rw [← hq] at hf2 hf3 ⊢
  try rw [← hq] at hf1
  have HQ := hid hq
  obtain ⟨y, hy⟩ : ∃ y, y = q * (size : Int) := ⟨_, rfl⟩
  rw [← hy] at hf2 hf3 ⊢
  try rw [← hy] at hf1
  have hy3 : q * (size : Int) = y := hy.symm
  have hyw : IntKind.u64.wrap y = y := by rw [IntKind.wrap_u64]; omega
  have hzw : IntKind.u64.wrap (size : Int) = (size : Int) := by rw [IntKind.wrap_u64]; omega
  have htw : IntKind.i64.wrap (total : Int) = (total : Int) := by rw [IntKind.wrap_i64]; omega
  have HNOT := hid HE.out.not
  clear hy hq
  go_upto_region 1 with fail
  rw [← hW]
  have HW := hid hW
  clear hW

  go_upto_block 0 with fail
  go_cut [4] (fun bv wx => bv = .int .u64 q ∧ wx = W)
  case first =>
    go_wp2_with fail
    go_loopw [4, 5] (fun bv iv wr => ∃ j : Nat, j ≤ total ∧ iv = .int .i64 j ∧ bv = .int .u64 (c.rng / 2 ^ j) ∧ wr = W) (fun _ iv _ => total - (intOf iv).toNat)
    case atStart => exact ⟨0, Nat.zero_le _, rfl, by simp, rfl⟩
    case round =>
      obtain ⟨j, hj, rfl, rfl, rfl⟩ := hrel
      obtain ⟨b, hb⟩ : ∃ b, b = c.rng / 2 ^ j := ⟨_, rfl⟩
      have hb0 : 0 ≤ b := by rw [hb]; exact Int.ediv_nonneg (by omega) (Int.le_of_lt (Int.pow_pos (by decide)))
      have hb1 : b ≤ c.rng := by rw [hb]; exact Int.ediv_le_self _ (by omega)
      rw [← hb]
      have HB := hid hb
      clear hb
      by_cases hjt : j < total
      · go_wp2_with fail
        go_roundw
        case rel => exact ⟨j + 1, by omega, by go_num, by rw [HB.out, Int.pow_succ, Int.ediv_ediv_of_nonneg (Int.le_of_lt (Int.pow_pos (by decide)))], by first | rfl | trivial⟩
        case measure => simp [intOf]; omega
      · have e : j = total := by omega
        subst e
        go_wp2_with fail
        go_meet
        exact ⟨by rw [HB.out, HQ.out], rfl⟩
  case rest =>
    obtain ⟨hbv, hwx⟩ := hcut
    have hwx' := hwx.symm
    subst hbv hwx'

    go_wp2_with fail
    refine (eadd_any A' g c.val c.len c.rng y _ HE.out hL0 (by omega) (by omega) (by omega) (by have := HBE.out.1; omega)).mono ?_
    rintro e w1 ⟨rfl, hf5, he5⟩
    obtain ⟨v1, B1, hv1, _⟩ := id he5
    have c1 := blk_cell hv1.at_ (j := 1) (v := .int .u64 c.rng) rfl
    have f1 := blk_frozen hv1.at_ 1
    have HE1 := hid (enc_rng he5 (c.rng - y))
    have HF1 := hid (hf5.trans (Fr.setCell (p := ⟨g, 1, none⟩) (Fr.refl (Out A') w1) (fun _ => HNOT.out) (.int .u64 (c.rng - y))))
    clear hv1 he5 hf5
    go_wp2_with fail
    have hP1 := hid hf1
    have hP2 := hid hf2
    have hP3 := hid hf3
    obtain ⟨X, hX⟩ : ∃ X, X = c.val + y := ⟨_, rfl⟩
    obtain ⟨R, hR⟩ : ∃ R, R = c.rng - y := ⟨_, rfl⟩
    have hR1 : 1 ≤ R := by rw [hR]; exact hf2
    have hR2 : R < 4294967296 := by rw [hR]; omega
    have HXe := hid hX
    have HRe := hid hR
    have HE1 := hid (HE1.out.cast hX hR)
    clear hX hR hf1 hf2 hf3
    go_loopw [] (fun wr => ∃ k : Nat, k ≤ 3 ∧ Fr (Out A') W wr ∧ EncIs A' g wr (256 ^ k * X) (c.len + k) (256 ^ k * R) ∧ 256 ^ k * R < 4294967296) (fun wr => rng64 g wr)
    case atStart => exact ⟨0, by omega, HF1.out, by simpa using HE1.out, by simp; omega⟩
    case round =>
      obtain ⟨k, hk, hfr, ⟨v, B, hv, hby, hlen, hval⟩, hlt⟩ := hrel
      obtain ⟨z, hz⟩ : ∃ z, z = 256 ^ k * R := ⟨_, rfl⟩
      rw [← hz] at hlt hv
      have k0 := blk_cell hv.at_ (j := 0) (v := v) rfl
      have k1 := blk_cell hv.at_ (j := 1) (v := .int .u64 z) rfl
      have g1 := blk_frozen hv.at_ 1
      have HV := hid hv
      have HFR := hid hfr
      have HBY2 := hid hby
      have HVAL := hid hval
      have HZ := hid hz
      have hz0 : 1 * 1 ≤ z := by rw [hz]; exact Int.mul_le_mul (pow_pos256 k) hR1 (by omega) (by have := pow_pos256 k; omega)
      clear hv hfr hby hval hz
      by_cases hlt2 : z < 16777216
      · have hk2 : k < 3 := pow_few hR1 (by rw [← HZ.out]; exact hlt2)
        have HV2 := hid (HV.out.setRng (z * 256))
        have cn := cell_new1 (wr.setCell ⟨g, 1, none⟩ (.int .u64 (z * 256))) (.int .u8 0) 5
        rw [show (wr.setCell ⟨g, 1, none⟩ (.int .u64 (z * 256))).heap.size = wr.heap.size by simp] at cn
        have HCN := hid cn
        clear cn
        go_upto_region 17 with fail
        go_wp2_with (refine opGrow1 (some 97) rfl rfl (.tmp 95) (.tmp 96) 35 rfl .u8 5 1 Try.underlying35 Try.info_u8 v B rfl (by exact Own.alloc HV2.out.own _) _ _ _ rfl (by exact HCN.out) (by decide) (by omega) ?_; intro v3 w3 hown3 hg3 hb3; obtain ⟨a3, cap3, hv3, _, _, _⟩ := hown3.rowN (n := c.len + k + 1) (by simp [hlen]); subst hv3; obtain ⟨hc3, hf3⟩ := enc_app HV2.out ((Fr.refl Non _).alloc _) hg3 hown3 hb3; have g4 : w3.frozen? ⟨g, 0, none⟩ = false := blk_frozen ((Fr.grew hg3).blk (by exact blk_alloc HV2.out.at_) (fun e => (HV2.out.sep g e).1 rfl)) 0; have k5 : w3.cell? ⟨g, 0, none⟩ = some v := blk_cell ((Fr.grew hg3).blk (by exact blk_alloc HV2.out.at_) (fun e => (HV2.out.sep g e).1 rfl)) rfl; have HC3 := hid hc3; have HF3 := hid hf3; clear hown3 hg3 hb3 hc3 hf3)
        obtain ⟨v4, hv4⟩ : ∃ v4, v4 = Value.slice a3 (c.len + k + 1) cap3 := ⟨_, rfl⟩
        rw [← hv4] at HC3 HF3 ⊢
        go_roundw
        case rel =>
          have e4 : (256 : Int) ^ (k + 1) * R = z * 256 := by rw [HZ.out, Int.pow_succ, Int.mul_assoc, Int.mul_comm 256 R, Int.mul_assoc]
          refine ⟨k + 1, by omega, HFR.out.trans ((Fr.setCell (p := ⟨g, 1, none⟩) (Fr.refl _ _) (fun _ => HV.out.not) _).trans HF3.out), ⟨v4, B ++ [0], ?_, bytesL_snoc HBY2.out, by rw [List.length_append, hlen]; rfl, ?_⟩, by rw [e4]; omega⟩
          · rw [e4]; exact HC3.out
          · rw [valL_snoc, HVAL.out, Int.pow_succ]
            generalize (256 : Int) ^ k = P
            have e : P * 256 * X = P * X * 256 := by rw [Int.mul_assoc, Int.mul_comm 256 X, ← Int.mul_assoc]
            omega
        case measure =>
          rw [rng64_eq HC3.out, rng64_eq HV.out]
          omega
      · have HE9 := hid (show EncIs A' g wr (256 ^ k * X) (c.len + k) z from ⟨v, B, HV.out, HBY2.out, hlen, HVAL.out⟩)
        go_wp2_with fail
        go_end0
        refine ⟨rfl, HFW.out.any.then HFR.out (fun i _ e h => e (HLA.out i h)), ?_⟩
        have hz2 := HZ.out
        have := HE9.out
        rw [hz2, HXe.out, HRe.out] at this
        exact EncIs.less (enc_part HOK.out HBY.out hP1.out hP2.out hP3.out this (by rw [← HRe.out, ← hz2]; omega) (by rw [← HRe.out, ← hz2]; exact hlt)) HLA.out
end Go.Proofs.Ytnkdeedbgkcbfaa
