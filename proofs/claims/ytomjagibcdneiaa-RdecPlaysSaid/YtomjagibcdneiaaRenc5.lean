/- The range coder: Straight, Finish, Count, New. -/
import Derived.Test.YtomjagibcdneiaaRenc4
import Derived.Test.YtomjagibcdneiaaCod3
namespace Go.Proofs.Ytomjagibcdneiaa
open Go.RowKit

theorem RC.Ok.str1 {c : RC} {N : Nat} (h : c.Ok N) (b : Nat) : (c.str1 b).Ok (N + 3) := by
  have h2 := h.rng0
  refine h.part ?_ (by omega) ?_
  · by_cases hb : b = 1
    · rw [if_pos hb]; omega
    · rw [if_neg hb]; omega
  · by_cases hb : b = 1
    · rw [if_pos hb]; omega
    · rw [if_neg hb]; omega

set_option maxRecDepth 100000 in
set_option maxHeartbeats 2000000 in
theorem cstr_any (A : Nat → Prop) (g B N : Nat) (c : RC) (v : Nat) (w : World) (h : CodIs A g w c) (hok : c.Ok N) (hN : N ≤ 1073741700) (hB : B ≤ 32) (hv : v < 4294967296) :
    Calls Try.prog 41 #[.pointer (some ⟨g, 0, none⟩), .int .i64 B, .int .u32 v] w (CPost A g w (RC.strGo B c v)) := by
  have H := hid h
  have Hok := hid hok
  clear h hok
  go_enter Try.func41, Try.ntmps41
  go_wp2
  go_loopw [8] (fun i wr => ∃ (k : Nat) (c1 : RC), k ≤ B ∧ i = .int .i64 k ∧ RC.strGo (B - k) c1 v = RC.strGo B c v ∧ Fr (Out A) w wr ∧ CodIs A g wr c1 ∧ c1.Ok (N + 3 * k))
    (fun i _ => B - (intOf i).toNat)
  case atStart =>
    exact ⟨0, c, Nat.zero_le _, rfl, rfl, Fr.refl _ _, H.out, Hok.out⟩
  case round =>
    obtain ⟨k, c1, hk, rfl, hgo, hfr, hcod, hok⟩ := hrel
    obtain ⟨vv, hvv⟩ := hcod
    have c0 := blk_cell hvv.at_ (j := 0) (v := .int .u64 c1.low) rfl
    have c1' := blk_cell hvv.at_ (j := 1) (v := .int .u32 c1.rng) rfl
    have f0 := blk_frozen hvv.at_ 0
    have f1 := blk_frozen hvv.at_ 1
    have Hgo := hid hgo
    have Hfr := hid hfr
    have Hcod := hid (show CodIs A g wr c1 from ⟨vv, hvv⟩)
    have Hok1 := hid hok
    obtain ⟨o1, o2, o3, o4, o5, o6, o7, o8⟩ := hok
    clear hgo hfr hvv o7
    by_cases hlt : k < B
    · have hbv := bit_of v (B - 1 - k) hv
      obtain ⟨b, hb⟩ : ∃ b, b = v / 2 ^ (B - 1 - k) % 2 := ⟨_, rfl⟩
      rw [← hb] at hbv
      have hb1 : b ≤ 1 := by omega
      have e2 : RC.strGo (B - k) c1 v = RC.strGo (B - (k + 1)) (c1.str1 b) v := by
        have e : B - k = (B - 1 - k) + 1 := by omega
        rw [e, show B - (k + 1) = B - 1 - k by omega, hb]
        rfl
      have HE := hid e2
      clear hb e2
      rcases Nat.le_one_iff_eq_zero_or_eq_one.1 hb1 with rfl | rfl
      · go_wp2_with fail
        refine (level_any A g ⟨c1.low, c1.rng / 2, c1.waits, c1.more, c1.out⟩ _ (by exact cod_rng Hcod.out _) ⟨by show 0 ≤ c1.low; omega, by show c1.low < _; omega, o5, o6, by show c1.out.length + c1.more ≤ _; omega⟩ (by show 1 ≤ c1.rng / 2; omega) (by show c1.rng / 2 < _; omega)).mono ?_
        rintro e w1 ⟨rfl, hf1, hd1⟩
        have Hf1 := hid hf1
        have Hd1 := hid hd1
        clear hf1 hd1
        have es : c1.str1 0 = (⟨c1.low, c1.rng / 2, c1.waits, c1.more, c1.out⟩ : RC).level := by
          unfold RC.str1 RC.part
          rw [if_neg (by decide), Int.add_zero]
        rw [← es] at Hd1
        go_wp2_with fail
        go_roundw
        case rel =>
          exact ⟨k + 1, _, by omega, by go_num, HE.out.symm.trans Hgo.out, Hfr.out.trans (Fr.trans (Fr.setCell (p := ⟨g, 1, none⟩) (Fr.refl _ _) (fun _ => Hcod.out.not) _) Hf1.out), Hd1.out, (Hok1.out.str1 0).mono (by omega)⟩
        case measure => simp [intOf]; omega
      · go_wp2_with fail
        go_region
        all_goals go_wp2_with fail
        refine (level_any A g ⟨c1.low + c1.rng / 2, c1.rng / 2, c1.waits, c1.more, c1.out⟩ _ (by exact (cod_low (cod_rng Hcod.out _) _).drew) ⟨by show 0 ≤ c1.low + c1.rng / 2; omega, by show c1.low + c1.rng / 2 < _; omega, o5, o6, by show c1.out.length + c1.more ≤ _; omega⟩ (by show 1 ≤ c1.rng / 2; omega) (by show c1.rng / 2 < _; omega)).mono ?_
        rintro e w1 ⟨rfl, hf1, hd1⟩
        have Hf1 := hid hf1
        have Hd1 := hid hd1
        clear hf1 hd1
        have es : c1.str1 1 = (⟨c1.low + c1.rng / 2, c1.rng / 2, c1.waits, c1.more, c1.out⟩ : RC).level := by
          unfold RC.str1 RC.part
          rw [if_pos rfl]
        rw [← es] at Hd1
        go_wp2_with fail
        go_roundw
        case rel =>
          exact ⟨k + 1, _, by omega, by go_num, HE.out.symm.trans Hgo.out, Hfr.out.trans (Fr.trans (Fr.setCell (p := ⟨g, 0, none⟩) (Fr.setCell (p := ⟨g, 1, none⟩) (Fr.refl _ _) (fun _ => Hcod.out.not) _) (fun _ => Hcod.out.not) _).drew Hf1.out), Hd1.out, (Hok1.out.str1 1).mono (by omega)⟩
        case measure => simp [intOf]; omega
    · have e : k = B := by omega
      subst e
      have hgo := Hgo.out
      rw [Nat.sub_self] at hgo
      go_wp2_with fail
      go_end0
      rw [← hgo]
      exact ⟨rfl, Hfr.out, Hcod.out⟩

theorem ccount_any (A : Nat → Prop) (g : Nat) (c : RC) (w : World) (h : CodIs A g w c) (hN : c.out.length + c.more ≤ 1073741820) :
    Calls Try.prog 16 #[.pointer (some ⟨g, 0, none⟩)] w fun e w' => e = .returned (.int .i64 (c.out.length + c.more + 5 : Nat)) ∧ Fr Non w w' := by
  obtain ⟨v, hv⟩ := h
  obtain ⟨a2, cap2, hv2, _, _, _⟩ := hv.own.rowN (n := c.out.length) rfl
  have c3 := blk_cell hv.at_ (j := 3) (v := .int .i64 c.more) rfl
  have c4 := blk_cell hv.at_ (j := 4) (v := v) rfl
  subst hv2
  go_enter Try.func16, Try.ntmps16
  go_wp2
  go_quiet (fail)
  go_wp2
  go_ret
  exact ⟨rfl, (Fr.refl _ _).drewN _⟩

def CNewPost (w : World) (e : Ending) (w' : World) : Prop :=
  ∃ g, e = .returned (.pointer (some ⟨g, 0, none⟩)) ∧ w.heap.size ≤ g ∧ Fr Non w w' ∧ CodIs (fun k => k < w.heap.size) g w' RC.new
def newCells : Array Value := #[.int .u64 0, .int .u32 4294967295, .int .u8 0, .int .i64 0, .slice none 0 0]
theorem cnew_raw (w : World) : Calls Try.prog 13 #[] w fun e w' => e = .returned (.pointer (some ⟨w.heap.size, 0, none⟩)) ∧ w' = w.alloc (.cells #[.int .u64 0, .int .u32 4294967295, .int .u8 0, .int .i64 0, .slice none 0 0] 70) := by
  go_enter Try.func13, Try.ntmps13
  go_wp2
  go_ret
  exact ⟨rfl, rfl⟩
theorem cnew_any (w : World) : Calls Try.prog 13 #[] w (CNewPost w) := by
  refine (cnew_raw w).mono ?_
  rintro e w' ⟨rfl, rfl⟩
  refine ⟨w.heap.size, rfl, Nat.le_refl _, (Fr.refl _ _).alloc _, .slice none 0 0, blk_new _ _, Own.nil _ _ _ _, fun k hk => by simp [Value.ownBlock] at hk, fun k hk => ?_, fun hk => ?_⟩
  · have hk' : k < w.heap.size := hk
    simp; omega
  · have hk' : w.heap.size < w.heap.size := hk
    omega
def FPost (A : Nat → Prop) (g : Nat) (w : World) (c : RC) (e : Ending) (w' : World) : Prop :=
  ∃ v, e = .returned v ∧ Own w' 0 .u8 5 v (c.gives 5).out ∧ (∀ k, v.ownBlock = some k → k ≠ g ∧ ¬ A k) ∧ Fr (Out A) w w' ∧ CodIs A g w' RC.new

set_option maxRecDepth 100000 in
set_option maxHeartbeats 2000000 in
theorem cfinish_any (A : Nat → Prop) (g : Nat) (c : RC) (w : World) (h : CodIs A g w c) (hf : c.Fit 1073741810) :
    Calls Try.prog 23 #[.pointer (some ⟨g, 0, none⟩)] w (FPost A g w c) := by
  have H := hid h
  have Hf := hid hf
  clear h hf
  go_enter Try.func23, Try.ntmps23
  go_wp2

  go_loopw [4] (fun i wr => ∃ (k : Nat) (c1 : RC), k ≤ 5 ∧ i = .int .i64 k ∧ RC.gives (5 - k) c1 = c.gives 5 ∧ Fr (Out A) w wr ∧ CodIs A g wr c1 ∧ c1.Fit (1073741810 + k))
    (fun i _ => 5 - (intOf i).toNat)
  case atStart => exact ⟨0, c, by omega, rfl, rfl, Fr.refl _ _, H.out, Hf.out⟩
  case round =>
    obtain ⟨k, c1, hk, rfl, hgo, hfr, hcod, hfit⟩ := hrel
    have Hgo := hid hgo
    have Hfr := hid hfr
    have Hcod := hid hcod
    have Hfit := hid hfit
    clear hgo hfr hcod hfit
    by_cases hlt : k < 5
    · go_wp2_with fail
      refine (give_any A g c1 _ Hcod.out Hfit.out.1 Hfit.out.2 ⟨Hfit.out.3, Hfit.out.4⟩ (by have := Hfit.out.5; omega)).mono ?_
      rintro e w1 ⟨rfl, hf1, hd1⟩
      have Hf1 := hid hf1
      have Hd1 := hid hd1
      clear hf1 hd1
      go_wp2_with fail
      go_roundw
      case rel =>
        refine ⟨k + 1, _, by omega, by go_num, ?_, Hfr.out.trans Hf1.out, Hd1.out, Hfit.out.give.1⟩
        have := Hgo.out
        rw [show 5 - k = (5 - (k + 1)) + 1 by omega] at this
        exact this
      case measure => simp [intOf]; omega
    · have e : k = 5 := by omega
      subst e
      have hgo := Hgo.out
      rw [Nat.sub_self] at hgo
      have hgo' : c1 = c.gives 5 := hgo
      obtain ⟨v, hv⟩ := Hcod.out
      have HV := hid hv
      clear hv
      have k0 := blk_cell HV.out.at_ (j := 0) (v := .int .u64 c1.low) rfl
      have g0 := blk_frozen HV.out.at_ 0
      have q0 := fun o => blk_cell (blk_alloc (o' := o) HV.out.at_) (j := 0) (v := .int .u64 c1.low) rfl
      have r0 := fun o => blk_frozen (blk_alloc (o' := o) HV.out.at_) 0
      have k1 := blk_cell HV.out.at_ (j := 1) (v := .int .u32 c1.rng) rfl
      have g1 := blk_frozen HV.out.at_ 1
      have q1 := fun o => blk_cell (blk_alloc (o' := o) HV.out.at_) (j := 1) (v := .int .u32 c1.rng) rfl
      have r1 := fun o => blk_frozen (blk_alloc (o' := o) HV.out.at_) 1
      have k2 := blk_cell HV.out.at_ (j := 2) (v := .int .u8 c1.waits) rfl
      have g2 := blk_frozen HV.out.at_ 2
      have q2 := fun o => blk_cell (blk_alloc (o' := o) HV.out.at_) (j := 2) (v := .int .u8 c1.waits) rfl
      have r2 := fun o => blk_frozen (blk_alloc (o' := o) HV.out.at_) 2
      have k3 := blk_cell HV.out.at_ (j := 3) (v := .int .i64 c1.more) rfl
      have g3 := blk_frozen HV.out.at_ 3
      have q3 := fun o => blk_cell (blk_alloc (o' := o) HV.out.at_) (j := 3) (v := .int .i64 c1.more) rfl
      have r3 := fun o => blk_frozen (blk_alloc (o' := o) HV.out.at_) 3
      have k4 := blk_cell HV.out.at_ (j := 4) (v := v) rfl
      have g4 := blk_frozen HV.out.at_ 4
      have q4 := fun o => blk_cell (blk_alloc (o' := o) HV.out.at_) (j := 4) (v := v) rfl
      have r4 := fun o => blk_frozen (blk_alloc (o' := o) HV.out.at_) 4
      go_wp2_with fail
      refine (cnew_raw _).mono ?_
      rintro e w2 ⟨rfl, rfl⟩
      go_wp2_with fail
      go_ret
      have hfr : Fr (fun k => k = g) wr ((((((wr.alloc (.cells #[.int .u64 0, .int .u32 4294967295, .int .u8 0, .int .i64 0, .slice none 0 0] 70)).setCell ⟨g, 0, none⟩ (.int .u64 0)).setCell ⟨g, 1, none⟩ (.int .u32 4294967295)).setCell ⟨g, 2, none⟩ (.int .u8 0)).setCell ⟨g, 3, none⟩ (.int .i64 0)).setCell ⟨g, 4, none⟩ (.slice none 0 0)) :=
        ((((((Fr.refl _ _).alloc _).setOne _ _).setOne _ _).setOne _ _).setOne _ _).setOne _ _
      refine ⟨v, rfl, ?_, HV.out.sep, Hfr.out.trans (hfr.mono fun k _ e => by rw [e]; exact HV.out.not), .slice none 0 0, ?_, Own.nil _ _ _ _, fun k hk => by simp [Value.ownBlock] at hk, fun k hk => Nat.lt_of_lt_of_le (HV.out.old k hk) hfr.size, HV.out.not⟩
      · rw [← hgo']
        exact HV.out.own.fr hfr (fun k hk e => (HV.out.sep k hk).1 e)
      · exact blk_set (i := 4) (blk_set (i := 3) (blk_set (i := 2) (blk_set (i := 1) (blk_set (i := 0) (blk_alloc HV.out.at_)))))
end Go.Proofs.Ytomjagibcdneiaa
