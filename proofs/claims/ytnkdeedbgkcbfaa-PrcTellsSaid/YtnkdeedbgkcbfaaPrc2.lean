/- PPMd's range coder: Put. -/
import Derived.Test.YtnkdeedbgkcbfaaPrc
import Derived.Test.YtnkdeedbgkcbfaaShare
namespace Go.Proofs.Ytnkdeedbgkcbfaa
open Go.RowKit

def rngIn (g : Nat) (w : World) : Nat := match w.cell? ⟨g, 1, none⟩ with | some (.int _ r) => 16777216 - r.toNat | _ => 0
theorem rngIn_eq {A : Nat → Prop} {g : Nat} {w : World} {c : RC} (h : CodIs A g w c) : rngIn g w = 16777216 - c.rng.toNat := by
  obtain ⟨v, hv⟩ := h
  unfold rngIn
  rw [blk_cell hv.at_ (j := 1) (v := .int .u32 c.rng) rfl]
theorem cod_rng {A : Nat → Prop} {g : Nat} {w : World} {c : RC} (h : CodIs A g w c) (r : Int) : CodIs A g (w.setCell ⟨g, 1, none⟩ (.int .u32 r)) ⟨c.low, r, c.waits, c.more, c.out⟩ := by
  obtain ⟨v, hv⟩ := h
  exact ⟨v, blk_set (i := 1) hv.at_, hv.own.fr (S := fun k => k = g) ((Fr.refl _ _).setOne _ _) (fun k hk e => (hv.sep k hk).1 e), hv.sep, fun k hk => by have := hv.old k hk; simpa using this, hv.not⟩
theorem cod_low {A : Nat → Prop} {g : Nat} {w : World} {c : RC} (h : CodIs A g w c) (l : Int) : CodIs A g (w.setCell ⟨g, 0, none⟩ (.int .u64 l)) ⟨l, c.rng, c.waits, c.more, c.out⟩ := by
  obtain ⟨v, hv⟩ := h
  exact ⟨v, blk_set (i := 0) hv.at_, hv.own.fr (S := fun k => k = g) ((Fr.refl _ _).setOne _ _) (fun k hk e => (hv.sep k hk).1 e), hv.sep, fun k hk => by have := hv.old k hk; simpa using this, hv.not⟩
theorem CodIs.not {A : Nat → Prop} {g : Nat} {w : World} {c : RC} (h : CodIs A g w c) : ¬ A g := by
  obtain ⟨v, hv⟩ := h
  exact hv.not
theorem CodIs.any {A : Nat → Prop} {g : Nat} {w w' : World} {c : RC} (h : CodIs A g w c) (hf : Fr Non w w') : CodIs A g w' c := h.keep hf (fun _ e => False.elim e)

set_option maxRecDepth 100000 in
set_option maxHeartbeats 4000000 in
theorem put_any (A : Nat → Prop) (g N : Nat) (c : RC) (s : Share) (w : World) (h : CodIs A g w c) (hok : c.Ok N) (hN : N ≤ 1073741800) (hs : s.Right) :
    Calls Try.prog 12 #[.pointer (some ⟨g, 0, none⟩), .agg #[.int .i64 s.kind, .int .u32 s.start, .int .u32 s.size, .int .u32 s.total]] w (CPost A g w (c.put s)) := by
  obtain ⟨kind, start, size, total⟩ := s
  have hfit := share_fits hs hok.rng0
  obtain ⟨v, hv⟩ := h
  have c0 := blk_cell hv.at_ (j := 0) (v := .int .u64 c.low) rfl
  have c1 := blk_cell hv.at_ (j := 1) (v := .int .u32 c.rng) rfl
  have f0 := blk_frozen hv.at_ 0
  have f1 := blk_frozen hv.at_ 1
  have q0 := fun o => blk_cell (blk_alloc (o' := o) hv.at_) (j := 0) (v := .int .u64 c.low) rfl
  have q1 := fun o => blk_cell (blk_alloc (o' := o) hv.at_) (j := 1) (v := .int .u32 c.rng) rfl
  have p0 := fun o => blk_frozen (blk_alloc (o' := o) hv.at_) 0
  have p1 := fun o => blk_frozen (blk_alloc (o' := o) hv.at_) 1
  have hglt := blk_lt hv.at_
  have hne : w.heap.size ≠ g := by omega
  have hne' : g ≠ w.heap.size := by omega
  have HV := hid (show CodIs A g w c from ⟨v, hv⟩)
  have HOK := hid hok
  obtain ⟨o1, o2, o3, o4, o5, o6, o7, o8⟩ := hok
  have HO7 := hid o7
  clear hv o7
  go_enter Try.func12, Try.ntmps12
  go_upto_block 0 with fail
  go_cut [] (fun wx => CodIs A g wx ⟨c.low + (⟨kind, start, size, total⟩ : Share).lo c.rng, (⟨kind, start, size, total⟩ : Share).wide c.rng, c.waits, c.more, c.out⟩ ∧ Fr (Out A) w wx)
  case first =>
    rcases hs with ⟨h1, h2, h3, h4, h5, h6⟩ | ⟨h1, h2, h3, h4, h5, h6⟩
    · simp only at h1 h2 h3 h4 h5 h6
      subst h1
      obtain ⟨hf1, hf2, hf3⟩ := hfit
      have e1 : Share.lo ⟨0, start, size, total⟩ c.rng = start * (c.rng / total) := if_pos rfl
      have e2 : Share.wide ⟨0, start, size, total⟩ c.rng = c.rng / total * size := if_pos rfl
      rw [e1] at hf1 hf3
      rw [e2] at hf2 hf3
      have HE1 := hid e1
      have HE2 := hid e2
      clear e1 e2
      have kk := blk_cell (blk_new w (.cells #[.int .i64 0, .int .u32 start, .int .u32 size, .int .u32 total] 32)) (j := 0) (v := .int .i64 0) rfl
      have k0 := blk_cell (blk_new w (.cells #[.int .i64 0, .int .u32 start, .int .u32 size, .int .u32 total] 32)) (j := 3) (v := .int .u32 total) rfl
      have k1 := blk_cell (blk_new w (.cells #[.int .i64 0, .int .u32 start, .int .u32 size, .int .u32 total] 32)) (j := 1) (v := .int .u32 start) rfl
      have k2 := blk_cell (blk_new w (.cells #[.int .i64 0, .int .u32 start, .int .u32 size, .int .u32 total] 32)) (j := 2) (v := .int .u32 size) rfl
      have hq0 : (0:Int) < total := by omega
      have hq1 : 0 ≤ c.rng / (total:Int) := Int.ediv_nonneg (by omega) (by omega)
      have hq2 : c.rng / (total:Int) ≤ c.rng := Int.ediv_le_self _ (by omega)
      go_wp2_with fail
      go_region
      all_goals go_wp2_with fail
      go_region
      all_goals go_wp2_with fail
      go_region
      all_goals go_wp2_with fail
      go_meet
      rw [HE1.out, HE2.out]
      refine ⟨(cod_rng (cod_low (cod_rng HV.out _) _) _).any ((((Fr.refl Non _).alloc _).drew.drew).drew), ?_⟩
      repeat (first | exact Fr.refl _ _ | refine Fr.drew ?_ | refine Fr.alloc ?_ _ | refine Fr.setCell ?_ (fun _ => HV.out.not) _)
    · simp only at h1 h2 h3 h4 h5 h6
      subst h1
      obtain ⟨hf1, hf2, hf3⟩ := hfit
      have hk : ¬ (1 : Int) = 0 := by decide
      have hq1 : 0 ≤ c.rng / 2 ^ total := Int.ediv_nonneg (by omega) (Int.le_of_lt (Int.pow_pos (by decide)))
      have hq2 : c.rng / 2 ^ total ≤ c.rng := Int.ediv_le_self _ (by omega)
      have HK := hid hk
      clear hk
      by_cases hs : start = 0
      · subst hs
        have e1 : Share.lo ⟨1, 0, size, total⟩ c.rng = 0 := by unfold Share.lo; rw [if_neg HK.out]; exact if_pos rfl
        have e2 : Share.wide ⟨1, 0, size, total⟩ c.rng = c.rng / 2 ^ total * size := by unfold Share.wide; rw [if_neg HK.out]; exact if_pos rfl
        rw [e1] at hf1 hf3
        rw [e2] at hf2 hf3
        have HE1 := hid e1
        have HE2 := hid e2
        clear e1 e2
        have kk := blk_cell (blk_new w (.cells #[.int .i64 1, .int .u32 ((0 : Nat) : Int), .int .u32 size, .int .u32 total] 32)) (j := 0) (v := .int .i64 1) rfl
        have k0 := blk_cell (blk_new w (.cells #[.int .i64 1, .int .u32 ((0 : Nat) : Int), .int .u32 size, .int .u32 total] 32)) (j := 3) (v := .int .u32 total) rfl
        have k1 := blk_cell (blk_new w (.cells #[.int .i64 1, .int .u32 ((0 : Nat) : Int), .int .u32 size, .int .u32 total] 32)) (j := 1) (v := .int .u32 ((0 : Nat) : Int)) rfl
        have k2 := blk_cell (blk_new w (.cells #[.int .i64 1, .int .u32 ((0 : Nat) : Int), .int .u32 size, .int .u32 total] 32)) (j := 2) (v := .int .u32 size) rfl
        go_wp2_with fail
        go_region
        all_goals go_wp2_with fail
        go_meet
        rw [HE1.out, HE2.out, Int.add_zero]
        refine ⟨(cod_rng HV.out _).any (((Fr.refl Non _).alloc _).drew), ?_⟩
        repeat (first | exact Fr.refl _ _ | refine Fr.drew ?_ | refine Fr.alloc ?_ _ | refine Fr.setCell ?_ (fun _ => HV.out.not) _)
      · have hs1 : start = 1 := by omega
        subst hs1
        have e1 : Share.lo ⟨1, 1, size, total⟩ c.rng = c.rng / 2 ^ total * size := by unfold Share.lo; rw [if_neg HK.out]; exact if_neg (show ¬ (1 : Nat) = 0 by decide)
        have e2 : Share.wide ⟨1, 1, size, total⟩ c.rng = c.rng - c.rng / 2 ^ total * size := by unfold Share.wide; rw [if_neg HK.out]; exact if_neg (show ¬ (1 : Nat) = 0 by decide)
        rw [e1] at hf1 hf3
        rw [e2] at hf2 hf3
        have HE1 := hid e1
        have HE2 := hid e2
        clear e1 e2 hs
        have kk := blk_cell (blk_new w (.cells #[.int .i64 1, .int .u32 ((1 : Nat) : Int), .int .u32 size, .int .u32 total] 32)) (j := 0) (v := .int .i64 1) rfl
        have k0 := blk_cell (blk_new w (.cells #[.int .i64 1, .int .u32 ((1 : Nat) : Int), .int .u32 size, .int .u32 total] 32)) (j := 3) (v := .int .u32 total) rfl
        have k1 := blk_cell (blk_new w (.cells #[.int .i64 1, .int .u32 ((1 : Nat) : Int), .int .u32 size, .int .u32 total] 32)) (j := 1) (v := .int .u32 ((1 : Nat) : Int)) rfl
        have k2 := blk_cell (blk_new w (.cells #[.int .i64 1, .int .u32 ((1 : Nat) : Int), .int .u32 size, .int .u32 total] 32)) (j := 2) (v := .int .u32 size) rfl
        go_wp2_with fail
        go_quiet (fail)
        go_wp2_with fail
        go_meet
        rw [HE1.out, HE2.out]
        refine ⟨cod_rng (cod_low (HV.out.any (((Fr.refl Non _).alloc _).drewN _)) _) _, ?_⟩
        repeat (first | exact Fr.refl _ _ | refine Fr.drew ?_ | refine Fr.drewN ?_ _ | refine Fr.alloc ?_ _ | refine Fr.setCell ?_ (fun _ => HV.out.not) _)
  case rest =>
    obtain ⟨hc, hfr⟩ := hcut
    obtain ⟨hf1, hf2, hf3⟩ := hfit
    have HC := hid hc
    have HFR := hid hfr
    obtain ⟨a, ha⟩ : ∃ a, a = (⟨kind, start, size, total⟩ : Share).lo c.rng := ⟨_, rfl⟩
    obtain ⟨r, hr⟩ : ∃ r, r = (⟨kind, start, size, total⟩ : Share).wide c.rng := ⟨_, rfl⟩
    have hput : c.put ⟨kind, start, size, total⟩ = (⟨c.low + a, r, c.waits, c.more, c.out⟩ : RC).lev 3 := by rw [ha, hr]; rfl
    rw [← ha, ← hr] at HC
    rw [← ha] at hf1 hf3
    rw [← hr] at hf2 hf3
    have HPUT := hid hput
    clear hc hfr hput ha hr
    go_wp2_with fail
    go_loopw [] (fun wr => ∃ (n : Nat) (c1 : RC), n ≤ 3 ∧ c1.lev n = (⟨c.low + a, r, c.waits, c.more, c.out⟩ : RC).lev 3 ∧ 16777216 ≤ c1.rng * 256 ^ n ∧ 1 ≤ c1.rng ∧ c1.rng < 4294967296 ∧ c1.Fit (1073741823 - n) ∧ Fr (Out A) w wr ∧ CodIs A g wr c1) (fun wr => rngIn g wr)
    case atStart =>
      exact ⟨3, _, by omega, rfl, by show 16777216 ≤ r * 16777216; omega, hf2, by show r < _; omega, ⟨by show 0 ≤ c.low + a; omega, by show c.low + a < _; omega, o5, o6, by show c.out.length + c.more ≤ _; omega⟩, HFR.out, HC.out⟩
    case round =>
      obtain ⟨n, c1, hn, hlev, hr, hr1, hr2, hfit, hfr, hc⟩ := hrel
      obtain ⟨v, hv⟩ := hc
      have k1 := blk_cell hv.at_ (j := 1) (v := .int .u32 c1.rng) rfl
      have g1 := blk_frozen hv.at_ 1
      have HV2 := hid (show CodIs A g wr c1 from ⟨v, hv⟩)
      have HFR2 := hid hfr
      have HL := hid hlev
      have HR := hid hr
      have HFIT := hid hfit
      clear hv hfr hlev hr hfit
      by_cases hlt : c1.rng < 16777216
      · have hn0 : n ≠ 0 := by
          intro e
          have := HR.out
          rw [e] at this
          simp at this
          omega
        obtain ⟨k, rfl⟩ := Nat.exists_eq_succ_of_ne_zero hn0
        go_wp2_with fail
        refine (give_any A g ⟨c1.low, c1.rng * 256, c1.waits, c1.more, c1.out⟩ _ (cod_rng HV2.out _) HFIT.out.1 HFIT.out.2 ⟨HFIT.out.3, HFIT.out.4⟩ (by have := HFIT.out.5; show c1.out.length + c1.more ≤ _; omega)).mono ?_
        rintro e w1 ⟨rfl, hf1, hc1⟩
        have HF1 := hid hf1
        have HC1 := hid hc1
        clear hf1 hc1
        go_wp2_with fail
        go_roundw
        case rel =>
          refine ⟨k, _, by omega, ?_, ?_, ?_, ?_, ?_, HFR2.out.trans (Fr.trans (Fr.setCell (p := ⟨g, 1, none⟩) (Fr.refl _ _) (fun _ => HV2.out.not) _) HF1.out), HC1.out⟩
          · rw [← HL.out]
            exact (if_pos hlt).symm
          · rw [give_rng]
            have e : c1.rng * 256 * 256 ^ k = c1.rng * 256 ^ (k + 1) := by rw [Int.pow_succ, Int.mul_assoc, Int.mul_comm 256]
            show 16777216 ≤ c1.rng * 256 * 256 ^ k
            rw [e]; exact HR.out
          · rw [give_rng]; show 1 ≤ c1.rng * 256; omega
          · rw [give_rng]; show c1.rng * 256 < _; omega
          · have hh := HFIT.out
            have h3 : (⟨c1.low, c1.rng * 256, c1.waits, c1.more, c1.out⟩ : RC).Fit (1073741823 - (k + 1)) := ⟨hh.1, hh.2, hh.3, hh.4, hh.5⟩
            exact h3.give.1.mono (by omega)
        case measure =>
          rw [rngIn_eq HC1.out, rngIn_eq HV2.out, give_rng]
          show _ - (c1.rng * 256).toNat < _
          omega
      · go_wp2_with fail
        go_end0
        have e := HL.out
        rw [lev_stop _ _ (by omega)] at e
        rw [HPUT.out, ← e]
        exact ⟨rfl, HFR2.out, HV2.out⟩
end Go.Proofs.Ytnkdeedbgkcbfaa
