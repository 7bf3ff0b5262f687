/- bcj: meet. -/
import Derived.Test.YtkahjjmjbcjaaaaBcj2
import Derived.Deep.RegionWith
namespace Go.Proofs.Ytkahjjmjbcjaaaa
open Go.RowKit

set_option maxRecDepth 100000 in
theorem turn_any (g h : Nat) (b : BW) (f : Nat → Int) (ty : TypeId) (w : World) (hgh : g ≠ h) (hm : b.mask = 0 ∨ ((b.mask = 1 ∨ b.mask = 2 ∨ b.mask = 4) ∧ edgeB (topB b.mask (wordOf f)) = false)) (hb : BWAt w g b) (hf : w.heap[h]? = some (.cells (arr .u8 5 f) ty)) (hx : ∀ i, i < 5 → 0 ≤ f i ∧ f i < 256) :
    Calls Try.prog 35 #[.pointer (some ⟨g, 0, none⟩), .pointer (some ⟨h, 0, none⟩)] w fun e w' => e = .returned (.tuple #[]) ∧ Fr (fun k => k = h) w w' ∧ w'.heap[h]? = some (.cells (arr .u8 5 (put4 f (b.turned (wordOf f)))) ty) := by
  rcases hm with hm | ⟨hm | hm | hm, hs⟩
  · exact turn_0 g h b f ty w hgh hm hb hf hx
  · exact turn_1 g h b f ty w hgh hm (by rw [hm] at hs; exact hs) hb hf hx
  · exact turn_2 g h b f ty w hgh hm (by rw [hm] at hs; exact hs) hb hf hx
  · exact turn_4 g h b f ty w hgh hm (by rw [hm] at hs; exact hs) hb hf hx

def shiftM (gap mask : Nat) : Nat := if 3 < gap then 0 else mask * 2 ^ (gap - 1) % 8
def stopB (m : Nat) (f : Nat → Int) : Bool := (decide (m ≠ 0) && (!allowedB m || edgeB (f (4 - bitN m))))
def noTurn (m : Nat) (f : Nat → Int) : Bool := stopB m f || !edgeB (f 4)
def BW.meet (b : BW) (f : Nat → Int) : BW × (Nat → Int) × Bool :=
  if noTurn (shiftM b.gap b.mask) f = true then (⟨b.place, 0, shiftM b.gap b.mask * 2 % 8 + 1, b.code⟩, f, false)
  else (⟨b.place, 0, shiftM b.gap b.mask, b.code⟩, put4 f ((⟨b.place, 0, shiftM b.gap b.mask, b.code⟩ : BW).turned (wordOf f)), true)
theorem shiftM_lt (gap mask : Nat) : shiftM gap mask < 8 := by
  unfold shiftM
  by_cases h : 3 < gap
  · rw [if_pos h]; decide
  · rw [if_neg h]; exact Nat.mod_lt _ (by decide)
theorem and7 : ∀ m : Nat, m < 8 → bits .and .i64 (m : Int) 7 = ((m * 2 ^ 0 % 8 : Nat) : Int) ∧ bits .and .i64 ((m : Int) * 2) 7 = ((m * 2 ^ 1 % 8 : Nat) : Int) ∧ bits .and .i64 ((m : Int) * 4) 7 = ((m * 2 ^ 2 % 8 : Nat) : Int) := by
  intro m hm
  match m, hm with
  | 0, _ => decide
  | 1, _ => decide
  | 2, _ => decide
  | 3, _ => decide
  | 4, _ => decide
  | 5, _ => decide
  | 6, _ => decide
  | 7, _ => decide
  | n + 8, h => omega
theorem and7or1 : ∀ m : Nat, m < 8 → bits .or .i64 (bits .and .i64 ((m : Int) * 2) 7) 1 = ((m * 2 % 8 + 1 : Nat) : Int) := by
  intro m hm
  match m, hm with
  | 0, _ => decide
  | 1, _ => decide
  | 2, _ => decide
  | 3, _ => decide
  | 4, _ => decide
  | 5, _ => decide
  | 6, _ => decide
  | 7, _ => decide
  | n + 8, h => omega
theorem allowed_1 (w : World) : Calls Try.prog 32 #[.int .i64 1] w fun e w' => e = .returned (.bool true) ∧ w = w' := ballowed_any 1 (by decide) w
theorem allowed_2 (w : World) : Calls Try.prog 32 #[.int .i64 2] w fun e w' => e = .returned (.bool true) ∧ w = w' := ballowed_any 2 (by decide) w
theorem allowed_3 (w : World) : Calls Try.prog 32 #[.int .i64 3] w fun e w' => e = .returned (.bool false) ∧ w = w' := ballowed_any 3 (by decide) w
theorem allowed_4 (w : World) : Calls Try.prog 32 #[.int .i64 4] w fun e w' => e = .returned (.bool true) ∧ w = w' := ballowed_any 4 (by decide) w
theorem allowed_5 (w : World) : Calls Try.prog 32 #[.int .i64 5] w fun e w' => e = .returned (.bool false) ∧ w = w' := ballowed_any 5 (by decide) w
theorem allowed_6 (w : World) : Calls Try.prog 32 #[.int .i64 6] w fun e w' => e = .returned (.bool false) ∧ w = w' := ballowed_any 6 (by decide) w
theorem allowed_7 (w : World) : Calls Try.prog 32 #[.int .i64 7] w fun e w' => e = .returned (.bool false) ∧ w = w' := ballowed_any 7 (by decide) w

theorem mirror {P : Program} {f : FuncId} {args : Array Value} {w : World} {v : Value} (h : Calls P f args w fun e w' => e = .returned v ∧ w = w') : Calls P f args w fun e w' => e = .returned v ∧ w' = w := h.mono fun _ _ h => ⟨h.1, h.2.symm⟩
theorem meet_no {b : BW} {f : Nat → Int} {m : Nat} (hm : m = shiftM b.gap b.mask) (h : noTurn m f = true) : b.meet f = (⟨b.place, 0, m * 2 % 8 + 1, b.code⟩, f, false) := by
  subst hm; unfold BW.meet; rw [if_pos h]
theorem meet_yes {b : BW} {f : Nat → Int} {m : Nat} (hm : m = shiftM b.gap b.mask) (h : noTurn m f = false) : b.meet f = (⟨b.place, 0, m, b.code⟩, put4 f ((⟨b.place, 0, m, b.code⟩ : BW).turned (wordOf f)), true) := by
  subst hm; unfold BW.meet; rw [if_neg (by rw [h]; decide)]
theorem meet_fin_no (g h : Nat) (b : BW) (f : Nat → Int) (ty : TypeId) (w wc : World) (n m : Nat) (hgh : g ≠ h) (hm8 : m < 8) (hm : m = shiftM b.gap b.mask) (hfr : Fr (fun k => k = g) w wc)
    (hb : BWAt wc g ⟨b.place, b.gap, m, b.code⟩) (hf : wc.heap[h]? = some (.cells (arr .u8 5 f) ty)) (hs : noTurn m f = true) :
    Ending.returned (Value.bool false) = Ending.returned (Value.bool (b.meet f).2.2) ∧
    Fr (fun k => k = g ∨ k = h) w (((wc.drewN n).setCell ⟨g, 1, none⟩ (Value.int .i64 0)).setCell ⟨g, 2, none⟩ (Value.int .i64 (bits .or .i64 (bits .and .i64 (m * 2) 7) 1))) ∧
    BWAt (((wc.drewN n).setCell ⟨g, 1, none⟩ (Value.int .i64 0)).setCell ⟨g, 2, none⟩ (Value.int .i64 (bits .or .i64 (bits .and .i64 (m * 2) 7) 1))) g (b.meet f).1 ∧
    (((wc.drewN n).setCell ⟨g, 1, none⟩ (Value.int .i64 0)).setCell ⟨g, 2, none⟩ (Value.int .i64 (bits .or .i64 (bits .and .i64 (m * 2) 7) 1))).heap[h]? = some (.cells (arr .u8 5 (b.meet f).2.1) ty) := by
  rw [and7or1 m hm8, meet_no hm hs]
  have hne : h ≠ g := fun e => hgh e.symm
  refine ⟨rfl, ?_, ?_, ?_⟩
  · exact (((hfr.drewN n).setOne 1 _).setOne 2 _).mono fun k _ e => .inl e
  · exact blk_set (blk_set (blk_drewN hb))
  · exact blk_set_ne (blk_set_ne (blk_drewN hf) hne) hne
theorem byte_of_word (f : Nat → Int) (hx : ∀ i, i < 5 → 0 ≤ f i ∧ f i < 256) : topB 1 (wordOf f) = f 3 ∧ topB 2 (wordOf f) = f 2 ∧ topB 4 (wordOf f) = f 1 := by
  obtain ⟨h1, h2, h3⟩ := topB_mod (wordOf f)
  have b1 := hx 1 (by decide)
  have b2 := hx 2 (by decide)
  have b3 := hx 3 (by decide)
  have b4 := hx 4 (by decide)
  refine ⟨?_, ?_, ?_⟩
  · rw [h1]; unfold wordOf; omega
  · rw [h2]; unfold wordOf; omega
  · rw [h3]; unfold wordOf; omega
theorem stop_no {m : Nat} {f : Nat → Int} (hm8 : m < 8) (hx : ∀ i, i < 5 → 0 ≤ f i ∧ f i < 256) (h : stopB m f = false) : m = 0 ∨ ((m = 1 ∨ m = 2 ∨ m = 4) ∧ edgeB (topB m (wordOf f)) = false) := by
  obtain ⟨h1, h2, h3⟩ := byte_of_word f hx
  have h8 : m = 0 ∨ m = 1 ∨ m = 2 ∨ m = 3 ∨ m = 4 ∨ m = 5 ∨ m = 6 ∨ m = 7 := by omega
  unfold stopB at h
  rcases h8 with rfl | rfl | rfl | rfl | rfl | rfl | rfl | rfl
  · exact .inl rfl
  · refine .inr ⟨.inl rfl, ?_⟩; rw [h1]; exact h
  · refine .inr ⟨.inr (.inl rfl), ?_⟩; rw [h2]; exact h
  · cases h
  · refine .inr ⟨.inr (.inr rfl), ?_⟩; rw [h3]; exact h
  · cases h
  · cases h
  · cases h

set_option maxRecDepth 100000 in
set_option maxHeartbeats 20000000 in
theorem meet_first (g h : Nat) (b : BW) (f : Nat → Int) (ty : TypeId) (w : World) (hgh : g ≠ h) (hm : b.mask < 8) (hg0 : 1 ≤ b.gap) (hg1 : b.gap ≤ 4) (hb : BWAt w g b) (hf : w.heap[h]? = some (.cells (arr .u8 5 f) ty)) (hx : ∀ i, i < 5 → 0 ≤ f i ∧ f i < 256) :
    Calls Try.prog 31 #[.pointer (some ⟨g, 0, none⟩), .pointer (some ⟨h, 0, none⟩)] w fun e w' => e = .returned (.bool (b.meet f).2.2) ∧ Fr (fun k => k = g ∨ k = h) w w' ∧ BWAt w' g (b.meet f).1 ∧ w'.heap[h]? = some (.cells (arr .u8 5 (b.meet f).2.1) ty) := by
  have c1 := blk_cell hb (j := 1) (v := .int .i64 b.gap) rfl
  have c2 := blk_cell hb (j := 2) (v := .int .i64 b.mask) rfl
  have f1 := blk_frozen hb 1
  have f2 := blk_frozen hb 2
  have hne : h ≠ g := fun e => hgh e.symm
  have HB := hid hb
  have HF := hid hf
  have HX := hid hx
  clear hb hf hx
  obtain ⟨a0, a1, a2⟩ := and7 _ hm
  go_enter Try.func31, Try.ntmps31
  go_upto_if 10 with fail
  go_cut [] (fun wx => Fr (fun k => k = g) w wx ∧ BWAt wx g ⟨b.place, b.gap, shiftM b.gap b.mask, b.code⟩)
  case first =>
    by_cases h3 : 3 < b.gap
    · have e : shiftM b.gap b.mask = 0 := if_pos h3
      go_wp2
      go_meet
      refine ⟨Fr.setOne (Fr.refl _ _) _ _, ?_⟩
      rw [e]
      exact blk_set HB.out
    · have hg : b.gap = 1 ∨ b.gap = 2 ∨ b.gap = 3 := by omega
      have e : shiftM b.gap b.mask = b.mask * 2 ^ (b.gap - 1) % 8 := if_neg h3
      rcases hg with hg | hg | hg
      · rw [hg] at c1
        go_wp2
        go_region
        all_goals go_wp2
        go_meet
        refine ⟨by repeat (first | exact Fr.refl _ _ | refine Fr.drewN ?_ _ | refine Fr.drew ?_ | refine Fr.setOne ?_ _ _), ?_⟩
        rw [e]
        have e2 : (b.mask : Int) % 8 = ((b.mask * 2 ^ (b.gap - 1) % 8 : Nat) : Int) := by rw [hg]; simp
        rw [e2]
        exact blk_drew (blk_set HB.out)
      · rw [hg] at c1
        go_wp2
        go_region
        all_goals go_wp2
        go_meet
        refine ⟨by repeat (first | exact Fr.refl _ _ | refine Fr.drewN ?_ _ | refine Fr.drew ?_ | refine Fr.setOne ?_ _ _), ?_⟩
        rw [e]
        have e2 : (b.mask : Int) * 2 % 8 = ((b.mask * 2 ^ (b.gap - 1) % 8 : Nat) : Int) := by rw [hg]; simp
        rw [e2]
        exact blk_drew (blk_set HB.out)
      · rw [hg] at c1
        go_wp2
        go_region
        all_goals go_wp2
        go_meet
        refine ⟨by repeat (first | exact Fr.refl _ _ | refine Fr.drewN ?_ _ | refine Fr.drew ?_ | refine Fr.setOne ?_ _ _), ?_⟩
        rw [e]
        have e2 : (b.mask : Int) * 4 % 8 = ((b.mask * 2 ^ (b.gap - 1) % 8 : Nat) : Int) := by rw [hg]; simp
        rw [e2]
        exact blk_drew (blk_set HB.out)
  case rest =>
    obtain ⟨hfr, hbw⟩ := hcut
    obtain ⟨m, hmm⟩ : ∃ m, m = shiftM b.gap b.mask := ⟨_, rfl⟩
    have hm8 : m < 8 := by rw [hmm]; exact shiftM_lt _ _
    rw [← hmm] at hbw
    have HM := hid hmm
    have hf1 := hfr.blk HF.out hne
    have HF1 := hid hf1
    have HB1 := hid hbw
    have HFR := hid hfr
    have k1 := blk_cell hbw (j := 1) (v := .int .i64 b.gap) rfl
    have k2 := blk_cell hbw (j := 2) (v := .int .i64 m) rfl
    have d1 := blk_cell hf1 (arr_get .u8 5 f (i := 1) (by decide))
    have d2 := blk_cell hf1 (arr_get .u8 5 f (i := 2) (by decide))
    have d3 := blk_cell hf1 (arr_get .u8 5 f (i := 3) (by decide))
    have d4 := blk_cell hf1 (arr_get .u8 5 f (i := 4) (by decide))
    have g1 := blk_frozen hbw 1
    have g2 := blk_frozen hbw 2
    clear hfr hbw hmm hf1 c1 c2 f1 f2 a0 a1 a2
    go_upto_region 4 with fail
    go_cut [5] (fun sv wx => sv = .bool (stopB m f) ∧ ∃ n, wx = wc.drewN n)
    case first =>
      have h8 : m = 0 ∨ m = 1 ∨ m = 2 ∨ m = 3 ∨ m = 4 ∨ m = 5 ∨ m = 6 ∨ m = 7 := by omega
      rcases h8 with rfl | rfl | rfl | rfl | rfl | rfl | rfl | rfl
      · replace k2 : wc.cell? ⟨g, 2, none⟩ = some (.int .i64 0) := k2
        go_quiet (fail)
        go_wp2
        go_meet
        exact ⟨rfl, _, rfl⟩
      · replace k2 : wc.cell? ⟨g, 2, none⟩ = some (.int .i64 1) := k2
        go_quiet (first | (go_at_call 32; exact Calls.quiet_of_same (mirror (allowed_1 _))) | (go_at_call 34; exact Calls.quiet_of_same (mirror (bit_1 _))) | (go_at_call 33; exact Calls.quiet_of_same (mirror (bedge_any _ _))))
        go_wp2
        go_meet
        exact ⟨rfl, _, rfl⟩
      · replace k2 : wc.cell? ⟨g, 2, none⟩ = some (.int .i64 2) := k2
        go_quiet (first | (go_at_call 32; exact Calls.quiet_of_same (mirror (allowed_2 _))) | (go_at_call 34; exact Calls.quiet_of_same (mirror (bit_2 _))) | (go_at_call 33; exact Calls.quiet_of_same (mirror (bedge_any _ _))))
        go_wp2
        go_meet
        exact ⟨rfl, _, rfl⟩
      · replace k2 : wc.cell? ⟨g, 2, none⟩ = some (.int .i64 3) := k2
        go_quiet (first | (go_at_call 32; exact Calls.quiet_of_same (mirror (allowed_3 _))))
        go_wp2
        go_meet
        exact ⟨rfl, _, rfl⟩
      · replace k2 : wc.cell? ⟨g, 2, none⟩ = some (.int .i64 4) := k2
        go_quiet (first | (go_at_call 32; exact Calls.quiet_of_same (mirror (allowed_4 _))) | (go_at_call 34; exact Calls.quiet_of_same (mirror (bit_4 _))) | (go_at_call 33; exact Calls.quiet_of_same (mirror (bedge_any _ _))))
        go_wp2
        go_meet
        exact ⟨rfl, _, rfl⟩
      · replace k2 : wc.cell? ⟨g, 2, none⟩ = some (.int .i64 5) := k2
        go_quiet (first | (go_at_call 32; exact Calls.quiet_of_same (mirror (allowed_5 _))))
        go_wp2
        go_meet
        exact ⟨rfl, _, rfl⟩
      · replace k2 : wc.cell? ⟨g, 2, none⟩ = some (.int .i64 6) := k2
        go_quiet (first | (go_at_call 32; exact Calls.quiet_of_same (mirror (allowed_6 _))))
        go_wp2
        go_meet
        exact ⟨rfl, _, rfl⟩
      · replace k2 : wc.cell? ⟨g, 2, none⟩ = some (.int .i64 7) := k2
        go_quiet (first | (go_at_call 32; exact Calls.quiet_of_same (mirror (allowed_7 _))))
        go_wp2
        go_meet
        exact ⟨rfl, _, rfl⟩
    case rest =>
      obtain ⟨hsv, n, hwn⟩ := hcut
      subst hsv hwn
      cases hs : stopB m f with
      | true =>
        have HS := hid (show noTurn m f = true by unfold noTurn; rw [hs]; rfl)
        go_wp2_with fail
        go_ret
        exact meet_fin_no g h b f ty w wc n m hgh hm8 HM.out HFR.out HB1.out HF1.out HS.out
      | false =>
        cases he : edgeB (f 4) with
        | false =>
          have HS := hid (show noTurn m f = true by unfold noTurn; rw [hs, he]; rfl)
          have E4 : ∀ w : World, Calls Try.prog 33 #[.int .u8 (f 4)] w fun e w' => e = .returned (.bool false) ∧ w = w' := fun w => by
            have := bedge_any (f 4) w
            rw [he] at this
            exact this
          go_wp2_with fail
          refine (E4 _).mono ?_
          rintro e w' ⟨rfl, rfl⟩
          go_wp2_with fail
          go_ret
          exact meet_fin_no g h b f ty w wc n m hgh hm8 HM.out HFR.out HB1.out HF1.out HS.out
        | true =>
          have HS := hid (show noTurn m f = false by unfold noTurn; rw [hs, he]; rfl)
          have E4 : ∀ w : World, Calls Try.prog 33 #[.int .u8 (f 4)] w fun e w' => e = .returned (.bool true) ∧ w = w' := fun w => by
            have := bedge_any (f 4) w
            rw [he] at this
            exact this
          go_wp2_with fail
          refine (E4 _).mono ?_
          rintro e w' ⟨rfl, rfl⟩
          go_wp2_with fail
          have hmw := stop_no hm8 HX.out hs
          refine (turn_any g h ⟨b.place, 0, m, b.code⟩ f ty ((wc.drewN n).setCell ⟨g, 1, none⟩ (.int .i64 0)) hgh hmw (blk_set (blk_drewN HB1.out)) (blk_set_ne (blk_drewN HF1.out) hne) HX.out).mono ?_
          rintro e w' ⟨rfl, hfw, hhw⟩
          go_wp2_with fail
          go_ret
          rw [meet_yes HM.out HS.out]
          refine ⟨rfl, ?_, ?_, hhw⟩
          · exact Fr.then (S := fun k => k = g ∨ k = h) (((HFR.out.drewN n).setOne 1 _).mono fun k _ e => .inl e) hfw (fun i hi hk => .inr hk)
          · exact hfw.blk (blk_set (blk_drewN HB1.out)) hgh
end Go.Proofs.Ytkahjjmjbcjaaaa
