/- bcj: pass, for a walk and five bytes in bcj.Filter's own block. (Written by wip/gen_bcjf.py out of XBcj4.) -/
import Derived.Test.YtkahjjmjbcjaaaaBcjF2
import Derived.Test.YtkahjjmjbcjaaaaBcj4
namespace Go.Proofs.Ytkahjjmjbcjaaaa
open Go.RowKit

set_option maxRecDepth 100000 in
theorem fpass_any (g : Nat) (X : FX) (b : BW) (f : Nat → Int) (w : World) (hm : b.mask < 8) (hg1 : b.gap ≤ 4) (hp : 0 ≤ b.place ∧ b.place < 4294967296) (hb : FBAt w g X b f) (hx : ∀ i, i < 5 → 0 ≤ f i ∧ f i < 256) :
    Calls Try.prog 26 #[.pointer (some ⟨g, 1, none⟩), .pointer (some ⟨g, 5, none⟩)] w fun e w' => e = .returned (.int .i64 ((b.pass f).2.2 : Int)) ∧ Fr (fun k => k = g) w w' ∧ FBAt w' g X (b.pass f).1 (b.pass f).2.1 := by
  have c0 := blk_cell hb (j := 1) (v := .int .u32 b.place) rfl
  have c1 := blk_cell hb (j := 2) (v := .int .i64 b.gap) rfl
  have c2 := blk_cell hb (j := 3) (v := .int .i64 b.mask) rfl
  have d0 := blk_cell hb (j := 5) (v := .int .u8 (f 0)) rfl
  have f0 := blk_frozen hb 1
  have f1 := blk_frozen hb 2
  have HB := hid hb
  have HX := hid hx
  clear hb hx
  go_enter Try.func26, Try.ntmps26
  go_upto_region 2 with fail
  go_cut [5] (fun sv wx => sv = .int .i64 1 ∧ Fr (fun k => k = g) w wx ∧ FBAt wx g X b.up f)
  case first =>
    by_cases h4 : b.gap = 4
    · have e : b.up = ⟨b.place, 4, b.mask, b.code⟩ := by
        unfold BW.up
        have : min (b.gap + 1) 4 = 4 := by omega
        rw [this]
      rw [h4] at c1
      go_wp2
      go_meet
      refine ⟨rfl, Fr.setOne (Fr.refl _ _) _ _, ?_⟩
      rw [e]
      exact blk_set HB.out
    · have hlt : b.gap < 4 := by omega
      have e : b.up = ⟨b.place, b.gap + 1, b.mask, b.code⟩ := by
        unfold BW.up
        have : min (b.gap + 1) 4 = b.gap + 1 := by omega
        rw [this]
      go_wp2
      go_meet
      refine ⟨rfl, Fr.setOne (Fr.refl _ _) _ _, ?_⟩
      rw [e]
      exact blk_set HB.out
  case rest =>
    obtain ⟨hsv, hfr, hbw⟩ := hcut
    subst hsv
    have HB1 := hid hbw
    have HFR := hid hfr
    clear hfr hbw c0 c1 c2 f0 f1 d0
    have d0 := blk_cell HB1.out (j := 5) (v := .int .u8 (f 0)) rfl
    have k0 := blk_cell HB1.out (j := 1) (v := .int .u32 b.place) rfl
    have g0 := blk_frozen HB1.out 1
    cases hc : isCall (f 0) with
    | false =>
      have hn := call_and' _ (HX.out 0 (by decide)) hc
      have HC := hid hc
      clear hc
      go_wp2_with fail
      go_ret
      have e : b.pass f = (⟨(b.place + 1) % 4294967296, b.up.gap, b.mask, b.code⟩, f, 1) := by
        unfold BW.pass; rw [HC.out]; rfl
      rw [e]
      exact ⟨rfl, HFR.out.setOne 1 _, blk_set HB1.out⟩
    | true =>
      have hn : bits .and .u8 (f 0) 254 = 232 := by
        have : f 0 = 232 ∨ f 0 = 233 := by
          unfold isCall at hc
          simpa using hc
        rcases this with e | e
        · rw [e]; decide
        · rw [e]; decide
      have HC := hid hc
      clear hc
      go_wp2_with fail
      refine (fmeet_first g X b.up f _ hm (by show 1 ≤ min _ 4; omega) (by show min _ 4 ≤ 4; omega) HB1.out HX.out).mono ?_
      rintro e w' ⟨rfl, hfw, hbw⟩
      cases hr : (b.up.meet f).2.2 with
      | false =>
        have q0 := blk_cell hbw (j := 1) (v := .int .u32 (b.up.meet f).1.place) rfl
        have q1 := blk_cell hbw (j := 2) (v := .int .i64 (b.up.meet f).1.gap) rfl
        have r0 := blk_frozen hbw 1
        have r1 := blk_frozen hbw 2
        have HBW := hid hbw
        have HFW := hid hfw
        have HR := hid hr
        clear hbw hfw hr
        go_wp2_with fail
        go_ret
        obtain ⟨m1, m2, m3, m4⟩ := meet_place b.up f
        have e : b.pass f = (⟨(b.place + 1) % 4294967296, (b.up.meet f).1.gap, (b.up.meet f).1.mask, b.code⟩, (b.up.meet f).2.1, 1) := by
          unfold BW.pass; rw [if_pos HC.out, HR.out]; rfl
        rw [e]
        refine ⟨rfl, ?_, ?_⟩
        · exact Fr.setCell (Fr.then (S := fun k => k = g) HFR.out HFW.out (fun i hi hk => hk)) (fun _ => rfl) _
        · have hx := blk_set (i := 1) (v := .int .u32 (((b.up.meet f).1.place + 1) % 4294967296)) HBW.out
          have mc : (b.up.meet f).1.code = b.code := m2
          have mp : (b.up.meet f).1.place = b.place := m1
          unfold filtC at hx
          rw [mc, mp] at hx
          rw [mp]
          exact hx
      | true =>
        have q0 := blk_cell hbw (j := 1) (v := .int .u32 (b.up.meet f).1.place) rfl
        have q1 := blk_cell hbw (j := 2) (v := .int .i64 (b.up.meet f).1.gap) rfl
        have r0 := blk_frozen hbw 1
        have r1 := blk_frozen hbw 2
        have HBW := hid hbw
        have HFW := hid hfw
        have HR := hid hr
        clear hbw hfw hr
        go_wp2_with fail
        go_ret
        obtain ⟨m1, m2, m3, m4⟩ := meet_place b.up f
        have e : b.pass f = (⟨(b.place + 5) % 4294967296, 4, (b.up.meet f).1.mask, b.code⟩, (b.up.meet f).2.1, 5) := by
          unfold BW.pass; rw [if_pos HC.out, if_pos HR.out]
        rw [e]
        refine ⟨rfl, ?_, ?_⟩
        · exact Fr.setCell (Fr.setCell (Fr.then (S := fun k => k = g) HFR.out HFW.out (fun i hi hk => hk)) (fun _ => rfl) _) (fun _ => rfl) _
        · have hx := blk_set (i := 2) (v := .int .i64 4) (blk_set (i := 1) (v := .int .u32 (((b.up.meet f).1.place + 5) % 4294967296)) HBW.out)
          have mc : (b.up.meet f).1.code = b.code := m2
          have mp : (b.up.meet f).1.place = b.place := m1
          unfold filtC at hx
          rw [mc, mp] at hx
          rw [mp]
          exact hx
end Go.Proofs.Ytkahjjmjbcjaaaa
