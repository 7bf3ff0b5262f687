/- The document's decoder (04): Straight. -/
import Derived.Test.YtomjagibcdneiaaRef4b
namespace Go.Proofs.Ytomjagibcdneiaa
open Go.RowKit

def RStrPost (a : Option Addr) (n cap : Nat) (f : Nat → Int) (lo g : Nat) (w : World) (r : Nat × RD Nat) (e : Ending) (w' : World) : Prop :=
  e = .returned (.int .u32 r.1) ∧ Fr (fun k => k = g) w w' ∧ RefIs a n cap f lo g w' r.2
set_option maxRecDepth 100000 in
set_option maxHeartbeats 8000000 in
theorem rstr_any (a : Option Addr) (n cap : Nat) (f : Nat → Int) (hf : ∀ i, i < n → 0 ≤ f i ∧ f i < 256) (lo g B : Nat) (x : RD Nat) (w : World) (hn : n ≤ 1048576) (h : RefIs a n cap f lo g w x) (hB : B ≤ 32) :
    Calls Try.prog 51 #[.pointer (some ⟨g, 0, none⟩), .int .i64 B] w (RStrPost a n cap f lo g w (x.str (feedNx f n) B)) := by
  have H := hid h
  have Hf := hid hf
  clear h hf
  go_enter Try.func51, Try.ntmps51
  go_upto_block 0 with fail
  go_cut [5] (fun ov wx => ∃ (out : Nat) (x1 : RD Nat), ov = .int .u32 out ∧ RD.strGo (feedNx f n) B x 0 = (out, x1) ∧ Fr (fun k => k = g) w wx ∧ RefIs a n cap f lo g wx x1)
  case first =>
    go_wp2_with fail
    go_loopw [5, 6] (fun ov iv wr => ∃ (k out : Nat) (x1 : RD Nat), k ≤ B ∧ iv = .int .i64 k ∧ ov = .int .u32 out ∧ out < 2 ^ k ∧ RD.strGo (feedNx f n) (B - k) x1 out = RD.strGo (feedNx f n) B x 0 ∧ Fr (fun k => k = g) w wr ∧ RefIs a n cap f lo g wr x1)
      (fun _ iv _ => B - (intOf iv).toNat)
    case atStart => exact ⟨0, 0, x, Nat.zero_le _, rfl, rfl, by decide, rfl, Fr.refl _ _, H.out⟩
    case round =>
      obtain ⟨k, out, ⟨src, rng, code, bad⟩, hk, rfl, rfl, ho, hgo, hfr, href⟩ := hrel
      have c2 := blk_cell href.at_ (j := 2) (v := .int .u64 rng) rfl
      have c3 := blk_cell href.at_ (j := 3) (v := .int .u64 code) rfl
      have c4 := blk_cell href.at_ (j := 4) (v := .bool bad) rfl
      have f2 := blk_frozen href.at_ 2
      have f3 := blk_frozen href.at_ 3
      have f4 := blk_frozen href.at_ 4
      obtain ⟨o1, o2, o3, o4⟩ := href.ok
      simp only at o1 o2 o3 o4
      have Hgo := hid hgo
      have HFR := hid hfr
      have HR := hid href
      have Ho := hid ho
      clear hgo hfr href ho
      by_cases hlt : k < B
      · have ho2 : out < 2147483648 := by
          have : 2 ^ k ≤ 2 ^ 31 := Nat.pow_le_pow_right (by decide) (by omega)
          have := Ho.out
          omega
        have Ho2 := hid (show 2 * out + 1 < 2 ^ (k + 1) by have := Ho.out; rw [Nat.pow_succ]; omega)
        cases bad with
        | true =>
          have hgo2 : (out, (⟨src, rng, code, true⟩ : RD Nat)) = RD.strGo (feedNx f n) B x 0 := by rw [← Hgo.out, strGo_bad _ _ _ _ rfl]
          have HG := hid hgo2
          clear hgo2
          go_wp2_with fail
          go_meet
          exact ⟨out, _, rfl, HG.out.symm, HFR.out, HR.out⟩
        | false =>
          have hgo2 : RD.strGo (feedNx f n) (B - (k + 1)) ((⟨src, rng, code, false⟩ : RD Nat).str1 (feedNx f n)).2 (2 * out + ((⟨src, rng, code, false⟩ : RD Nat).str1 (feedNx f n)).1) = RD.strGo (feedNx f n) B x 0 := by
            rw [← Hgo.out, show B - k = (B - (k + 1)) + 1 by omega, strGo_good _ _ _ _ rfl]
          obtain ⟨t, ht⟩ : ∃ t, t = rng / 2 := ⟨_, rfl⟩
          have ht2 : rng / 2 = t := ht.symm
          have ht0 : 0 ≤ t := by omega
          have ht1 : t < 4294967296 := by omega
          by_cases h1 : t ≤ code
          · have e1 : (⟨src, rng, code, false⟩ : RD Nat).str1 (feedNx f n) = (1, RD.level (feedNx f n) ⟨src, t, code - t, decide (t ≤ code - t)⟩) := by
              unfold RD.str1
              rw [if_pos (by show rng / 2 ≤ code; omega), ht]
            rw [e1] at hgo2
            have HG := hid hgo2
            have HT := hid ht
            clear hgo2 e1 ht
            go_wp2_with fail
            go_quiet (fail)
            go_upto_region 8 with fail
            go_cut [] (fun wx => Fr (fun k => k = g) w wx ∧ RefIs a n cap f lo g wx ⟨src, t, code - t, false⟩)
            case first =>
              go_region
              all_goals go_wp2_with fail
              all_goals go_meet
              all_goals exact ⟨HFR.out.trans (Fr.setOne (Fr.drew (Fr.drewN (Fr.setOne (Fr.refl _ _) _ _) _)) _ _), ((HR.out.set2 (r := t) ht0 ht1).drewN _).drew.set3 (c := code - t) (by omega) (by omega)⟩
            case rest =>
              obtain ⟨hfx, hrx⟩ := hcut
              have c2 := blk_cell hrx.at_ (j := 2) (v := .int .u64 t) rfl
              have c3 := blk_cell hrx.at_ (j := 3) (v := .int .u64 (code - t)) rfl
              have c4 := blk_cell hrx.at_ (j := 4) (v := .bool false) rfl
              have f4 := blk_frozen hrx.at_ 4
              have HFX := hid hfx
              have HRX := hid hrx
              clear hfx hrx
              by_cases h2 : t ≤ code - t
              · have e2 : decide (t ≤ code - t) = true := decide_eq_true h2
                rw [e2] at HG
                clear e2
                go_wp2_with fail
                go_quiet (fail)
                go_wp2_with fail
                refine (rlevel_any a n cap f Hf.out lo g ⟨src, t, code - t, true⟩ _ hn (by exact (HRX.out.drewN _).set4 true)).mono ?_
                rintro e w9 ⟨rfl, hf9, h9⟩
                have H9 := hid h9
                have HF9 := hid hf9
                clear hf9 h9
                go_wp2_with fail
                go_roundw
                case rel => exact ⟨k + 1, 2 * out + 1, _, by omega, by go_num, by go_num, by have := Ho2.out; omega, HG.out, HFX.out.trans (Fr.trans (by repeat (first | exact Fr.refl _ _ | refine Fr.drewN ?_ _ | refine Fr.setOne ?_ _ _)) HF9.out), H9.out⟩
                case measure => simp [intOf]; omega
              · have e2 : decide (t ≤ code - t) = false := decide_eq_false h2
                rw [e2] at HG
                clear e2
                go_wp2_with fail
                go_quiet (fail)
                go_wp2_with fail
                refine (rlevel_any a n cap f Hf.out lo g ⟨src, t, code - t, false⟩ _ hn (by exact HRX.out.drewN _)).mono ?_
                rintro e w9 ⟨rfl, hf9, h9⟩
                have H9 := hid h9
                have HF9 := hid hf9
                clear hf9 h9
                go_wp2_with fail
                go_roundw
                case rel => exact ⟨k + 1, 2 * out + 1, _, by omega, by go_num, by go_num, by have := Ho2.out; omega, HG.out, HFX.out.trans (Fr.trans (by repeat (first | exact Fr.refl _ _ | refine Fr.drewN ?_ _ | refine Fr.setOne ?_ _ _)) HF9.out), H9.out⟩
                case measure => simp [intOf]; omega
          · have e1 : (⟨src, rng, code, false⟩ : RD Nat).str1 (feedNx f n) = (0, RD.level (feedNx f n) ⟨src, t, code, false⟩) := by
              unfold RD.str1
              rw [if_neg (by show ¬ rng / 2 ≤ code; omega), ht]
            rw [e1] at hgo2
            have HG := hid hgo2
            have HT := hid ht
            have HFX := HFR
            clear hgo2 e1 ht
            go_wp2_with fail
            go_quiet (fail)
            go_wp2_with fail
            go_quiet (fail)
            go_wp2_with fail
            refine (rlevel_any a n cap f Hf.out lo g ⟨src, t, code, false⟩ _ hn (by exact (HR.out.set2 (r := t) ht0 ht1).drewN _)).mono ?_
            rintro e w9 ⟨rfl, hf9, h9⟩
            have H9 := hid h9
            have HF9 := hid hf9
            clear hf9 h9
            go_wp2_with fail
            go_roundw
            case rel => exact ⟨k + 1, 2 * out + 0, _, by omega, by go_num, by go_num, by have := Ho2.out; omega, HG.out, HFX.out.trans (Fr.trans (by repeat (first | exact Fr.refl _ _ | refine Fr.drewN ?_ _ | refine Fr.setOne ?_ _ _)) HF9.out), H9.out⟩
            case measure => simp [intOf]; omega
      · have e : k = B := by omega
        subst e
        have hgo := Hgo.out
        rw [Nat.sub_self] at hgo
        have HG := hid (show RD.strGo (feedNx f n) k x 0 = (out, ⟨src, rng, code, bad⟩) from hgo.symm)
        clear hgo
        go_wp2_with fail
        go_meet
        exact ⟨out, _, rfl, HG.out, HFR.out, HR.out⟩
  case rest =>
    obtain ⟨out, x1, rfl, hgo, hfr, href⟩ := hcut
    have c4 := blk_cell href.at_ (j := 4) (v := .bool x1.bad) rfl
    have HFR := hid hfr
    have HR := hid href
    have e : x.str (feedNx f n) B = (if x1.bad = true then 0 else out, x1) := by
      unfold RD.str
      rw [hgo]
    have HE := hid e
    clear hgo hfr href e
    cases hbad : x1.bad with
    | true =>
      rw [hbad] at c4 HE
      go_wp2_with fail
      go_ret
      rw [HE.out]
      exact ⟨rfl, HFR.out, HR.out⟩
    | false =>
      rw [hbad] at c4 HE
      go_wp2_with fail
      go_ret
      rw [HE.out]
      exact ⟨rfl, HFR.out, HR.out⟩
end Go.Proofs.Ytomjagibcdneiaa
