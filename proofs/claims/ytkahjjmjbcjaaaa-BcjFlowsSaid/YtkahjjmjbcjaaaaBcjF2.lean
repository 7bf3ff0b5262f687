/- bcj: meet, for a walk and five bytes in bcj.Filter's own block. (Written by wip/gen_bcjf.py out of XBcj3.) -/
import Derived.Test.YtkahjjmjbcjaaaaBcjF
namespace Go.Proofs.Ytkahjjmjbcjaaaa
open Go.RowKit

set_option maxRecDepth 100000 in
theorem fturn_any (g : Nat) (X : FX) (b : BW) (f : Nat → Int) (w : World) (hm : b.mask = 0 ∨ ((b.mask = 1 ∨ b.mask = 2 ∨ b.mask = 4) ∧ edgeB (topB b.mask (wordOf f)) = false)) (hb : FBAt w g X b f) (hx : ∀ i, i < 5 → 0 ≤ f i ∧ f i < 256) :
    Calls Try.prog 35 #[.pointer (some ⟨g, 1, none⟩), .pointer (some ⟨g, 5, none⟩)] w fun e w' => e = .returned (.tuple #[]) ∧ Fr (fun k => k = g) w w' ∧ FBAt w' g X b (put4 f (b.turned (wordOf f))) := by
  rcases hm with hm | ⟨hm | hm | hm, hs⟩
  · exact fturn_0 g X b f w hm hb hx
  · exact fturn_1 g X b f w hm (by rw [hm] at hs; exact hs) hb hx
  · exact fturn_2 g X b f w hm (by rw [hm] at hs; exact hs) hb hx
  · exact fturn_4 g X b f w hm (by rw [hm] at hs; exact hs) hb hx

theorem fmeet_fin_no (g : Nat) (X : FX) (b : BW) (f : Nat → Int) (w wc : World) (n m : Nat) (hm8 : m < 8) (hm : m = shiftM b.gap b.mask) (hfr : Fr (fun k => k = g) w wc)
    (hb : FBAt wc g X ⟨b.place, b.gap, m, b.code⟩ f) (hs : noTurn m f = true) :
    Ending.returned (Value.bool false) = Ending.returned (Value.bool (b.meet f).2.2) ∧
    Fr (fun k => k = g) w (((wc.drewN n).setCell ⟨g, 2, none⟩ (Value.int .i64 0)).setCell ⟨g, 3, none⟩ (Value.int .i64 (bits .or .i64 (bits .and .i64 (m * 2) 7) 1))) ∧
    FBAt (((wc.drewN n).setCell ⟨g, 2, none⟩ (Value.int .i64 0)).setCell ⟨g, 3, none⟩ (Value.int .i64 (bits .or .i64 (bits .and .i64 (m * 2) 7) 1))) g X (b.meet f).1 (b.meet f).2.1 := by
  rw [and7or1 m hm8, meet_no hm hs]
  exact ⟨rfl, ((hfr.drewN n).setOne 2 _).setOne 3 _, blk_set (blk_set (blk_drewN hb))⟩

set_option maxRecDepth 100000 in
set_option maxHeartbeats 20000000 in
theorem fmeet_first (g : Nat) (X : FX) (b : BW) (f : Nat → Int) (w : World) (hm : b.mask < 8) (hg0 : 1 ≤ b.gap) (hg1 : b.gap ≤ 4) (hb : FBAt w g X b f) (hx : ∀ i, i < 5 → 0 ≤ f i ∧ f i < 256) :
    Calls Try.prog 31 #[.pointer (some ⟨g, 1, none⟩), .pointer (some ⟨g, 5, none⟩)] w fun e w' => e = .returned (.bool (b.meet f).2.2) ∧ Fr (fun k => k = g) w w' ∧ FBAt w' g X (b.meet f).1 (b.meet f).2.1 := by
  have c1 := blk_cell hb (j := 2) (v := .int .i64 b.gap) rfl
  have c2 := blk_cell hb (j := 3) (v := .int .i64 b.mask) rfl
  have f1 := blk_frozen hb 2
  have f2 := blk_frozen hb 3
  have HB := hid hb
  have HX := hid hx
  clear hb hx
  obtain ⟨a0, a1, a2⟩ := and7 _ hm
  go_enter Try.func31, Try.ntmps31
  go_upto_if 10 with fail
  go_cut [] (fun wx => Fr (fun k => k = g) w wx ∧ FBAt wx g X ⟨b.place, b.gap, shiftM b.gap b.mask, b.code⟩ f)
  case first =>
    by_cases h3 : 3 < b.gap
    · have e : shiftM b.gap b.mask = 0 := if_pos h3
      go_wp2
      go_meet
      refine ⟨Fr.setOne (Fr.refl _ _) _ _, ?_⟩
      rw [e]
      exact blk_set HB.out
    · have hg : b.gap = 1 ∨ b.gap = 2 ∨ b.gap = 3 := by omega
      have e : shiftM b.gap b.mask = b.mask * 2 ^ (b.gap - 1) % 8 := if_neg h3
      rcases hg with hg | hg | hg
      · rw [hg] at c1
        go_wp2
        go_region
        all_goals go_wp2
        go_meet
        refine ⟨by repeat (first | exact Fr.refl _ _ | refine Fr.drewN ?_ _ | refine Fr.drew ?_ | refine Fr.setOne ?_ _ _), ?_⟩
        rw [e]
        have e2 : (b.mask : Int) % 8 = ((b.mask * 2 ^ (b.gap - 1) % 8 : Nat) : Int) := by rw [hg]; simp
        rw [e2]
        exact blk_drew (blk_set HB.out)
      · rw [hg] at c1
        go_wp2
        go_region
        all_goals go_wp2
        go_meet
        refine ⟨by repeat (first | exact Fr.refl _ _ | refine Fr.drewN ?_ _ | refine Fr.drew ?_ | refine Fr.setOne ?_ _ _), ?_⟩
        rw [e]
        have e2 : (b.mask : Int) * 2 % 8 = ((b.mask * 2 ^ (b.gap - 1) % 8 : Nat) : Int) := by rw [hg]; simp
        rw [e2]
        exact blk_drew (blk_set HB.out)
      · rw [hg] at c1
        go_wp2
        go_region
        all_goals go_wp2
        go_meet
        refine ⟨by repeat (first | exact Fr.refl _ _ | refine Fr.drewN ?_ _ | refine Fr.drew ?_ | refine Fr.setOne ?_ _ _), ?_⟩
        rw [e]
        have e2 : (b.mask : Int) * 4 % 8 = ((b.mask * 2 ^ (b.gap - 1) % 8 : Nat) : Int) := by rw [hg]; simp
        rw [e2]
        exact blk_drew (blk_set HB.out)
  case rest =>
    obtain ⟨hfr, hbw⟩ := hcut
    obtain ⟨m, hmm⟩ : ∃ m, m = shiftM b.gap b.mask := ⟨_, rfl⟩
    have hm8 : m < 8 := by rw [hmm]; exact shiftM_lt _ _
    rw [← hmm] at hbw
    have HM := hid hmm
    have HB1 := hid hbw
    have HFR := hid hfr
    have k1 := blk_cell hbw (j := 2) (v := .int .i64 b.gap) rfl
    have k2 := blk_cell hbw (j := 3) (v := .int .i64 m) rfl
    have d1 := blk_cell hbw (j := 6) (v := .int .u8 (f 1)) rfl
    have d2 := blk_cell hbw (j := 7) (v := .int .u8 (f 2)) rfl
    have d3 := blk_cell hbw (j := 8) (v := .int .u8 (f 3)) rfl
    have d4 := blk_cell hbw (j := 9) (v := .int .u8 (f 4)) rfl
    have g1 := blk_frozen hbw 2
    have g2 := blk_frozen hbw 3
    clear hfr hbw hmm c1 c2 f1 f2 a0 a1 a2
    go_upto_region 4 with fail
    go_cut [5] (fun sv wx => sv = .bool (stopB m f) ∧ ∃ n, wx = wc.drewN n)
    case first =>
      have h8 : m = 0 ∨ m = 1 ∨ m = 2 ∨ m = 3 ∨ m = 4 ∨ m = 5 ∨ m = 6 ∨ m = 7 := by omega
      rcases h8 with rfl | rfl | rfl | rfl | rfl | rfl | rfl | rfl
      · replace k2 : wc.cell? ⟨g, 3, none⟩ = some (.int .i64 0) := k2
        go_quiet (fail)
        go_wp2
        go_meet
        exact ⟨rfl, _, rfl⟩
      · replace k2 : wc.cell? ⟨g, 3, none⟩ = some (.int .i64 1) := k2
        go_quiet (first | (go_at_call 32; exact Calls.quiet_of_same (mirror (allowed_1 _))) | (go_at_call 34; exact Calls.quiet_of_same (mirror (bit_1 _))) | (go_at_call 33; exact Calls.quiet_of_same (mirror (bedge_any _ _))))
        go_wp2
        go_meet
        exact ⟨rfl, _, rfl⟩
      · replace k2 : wc.cell? ⟨g, 3, none⟩ = some (.int .i64 2) := k2
        go_quiet (first | (go_at_call 32; exact Calls.quiet_of_same (mirror (allowed_2 _))) | (go_at_call 34; exact Calls.quiet_of_same (mirror (bit_2 _))) | (go_at_call 33; exact Calls.quiet_of_same (mirror (bedge_any _ _))))
        go_wp2
        go_meet
        exact ⟨rfl, _, rfl⟩
      · replace k2 : wc.cell? ⟨g, 3, none⟩ = some (.int .i64 3) := k2
        go_quiet (first | (go_at_call 32; exact Calls.quiet_of_same (mirror (allowed_3 _))))
        go_wp2
        go_meet
        exact ⟨rfl, _, rfl⟩
      · replace k2 : wc.cell? ⟨g, 3, none⟩ = some (.int .i64 4) := k2
        go_quiet (first | (go_at_call 32; exact Calls.quiet_of_same (mirror (allowed_4 _))) | (go_at_call 34; exact Calls.quiet_of_same (mirror (bit_4 _))) | (go_at_call 33; exact Calls.quiet_of_same (mirror (bedge_any _ _))))
        go_wp2
        go_meet
        exact ⟨rfl, _, rfl⟩
      · replace k2 : wc.cell? ⟨g, 3, none⟩ = some (.int .i64 5) := k2
        go_quiet (first | (go_at_call 32; exact Calls.quiet_of_same (mirror (allowed_5 _))))
        go_wp2
        go_meet
        exact ⟨rfl, _, rfl⟩
      · replace k2 : wc.cell? ⟨g, 3, none⟩ = some (.int .i64 6) := k2
        go_quiet (first | (go_at_call 32; exact Calls.quiet_of_same (mirror (allowed_6 _))))
        go_wp2
        go_meet
        exact ⟨rfl, _, rfl⟩
      · replace k2 : wc.cell? ⟨g, 3, none⟩ = some (.int .i64 7) := k2
        go_quiet (first | (go_at_call 32; exact Calls.quiet_of_same (mirror (allowed_7 _))))
        go_wp2
        go_meet
        exact ⟨rfl, _, rfl⟩
    case rest =>
      obtain ⟨hsv, n, hwn⟩ := hcut
      subst hsv hwn
      cases hs : stopB m f with
      | true =>
        have HS := hid (show noTurn m f = true by unfold noTurn; rw [hs]; rfl)
        go_wp2_with fail
        go_ret
        exact fmeet_fin_no g X b f w wc n m hm8 HM.out HFR.out HB1.out HS.out
      | false =>
        cases he : edgeB (f 4) with
        | false =>
          have HS := hid (show noTurn m f = true by unfold noTurn; rw [hs, he]; rfl)
          have E4 : ∀ w : World, Calls Try.prog 33 #[.int .u8 (f 4)] w fun e w' => e = .returned (.bool false) ∧ w = w' := fun w => by
            have := bedge_any (f 4) w
            rw [he] at this
            exact this
          go_wp2_with fail
          refine (E4 _).mono ?_
          rintro e w' ⟨rfl, rfl⟩
          go_wp2_with fail
          go_ret
          exact fmeet_fin_no g X b f w wc n m hm8 HM.out HFR.out HB1.out HS.out
        | true =>
          have HS := hid (show noTurn m f = false by unfold noTurn; rw [hs, he]; rfl)
          have E4 : ∀ w : World, Calls Try.prog 33 #[.int .u8 (f 4)] w fun e w' => e = .returned (.bool true) ∧ w = w' := fun w => by
            have := bedge_any (f 4) w
            rw [he] at this
            exact this
          go_wp2_with fail
          refine (E4 _).mono ?_
          rintro e w' ⟨rfl, rfl⟩
          go_wp2_with fail
          have hmw := stop_no hm8 HX.out hs
          refine (fturn_any g X ⟨b.place, 0, m, b.code⟩ f ((wc.drewN n).setCell ⟨g, 2, none⟩ (.int .i64 0)) hmw (blk_set (blk_drewN HB1.out)) HX.out).mono ?_
          rintro e w' ⟨rfl, hfw, hhw⟩
          go_wp2_with fail
          go_ret
          rw [meet_yes HM.out HS.out]
          exact ⟨rfl, Fr.then (S := fun k => k = g) ((HFR.out.drewN n).setOne 2 _) hfw (fun i hi hk => hk), hhw⟩
end Go.Proofs.Ytkahjjmjbcjaaaa
