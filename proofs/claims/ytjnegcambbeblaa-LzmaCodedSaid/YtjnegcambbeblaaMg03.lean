/- Texts of this proof, one behind the other. -/
import Derived.Test.YtjnegcambbeblaaMg02
import Derived.Test.YtjnegcambbeblaaMg01
import Derived.Deep.RegionLaw
import Derived.Deep.CutBlock
import Derived.Laws.BitsAllLaws
import Derived.Deep.DeepCutAuto

/- The document's decoder (04): Straight. -/
namespace Go.Proofs.Ytjnegcambbeblaa
open Go.RowKit

def RStrPost (a : Option Addr) (n cap : Nat) (f : Nat → Int) (lo g : Nat) (w : World) (r : Nat × RD Nat) (e : Ending) (w' : World) : Prop :=
  e = .returned (.int .u32 r.1) ∧ Fr (fun k => k = g) w w' ∧ RefIs a n cap f lo g w' r.2
set_option maxRecDepth 100000 in
set_option maxHeartbeats 8000000 in
theorem rstr_any (a : Option Addr) (n cap : Nat) (f : Nat → Int) (hf : ∀ i, i < n → 0 ≤ f i ∧ f i < 256) (lo g B : Nat) (x : RD Nat) (w : World) (hn : n ≤ 1048576) (h : RefIs a n cap f lo g w x) (hB : B ≤ 32) :
    Calls Try.prog 126 #[.pointer (some ⟨g, 0, none⟩), .int .i64 B] w (RStrPost a n cap f lo g w (x.str (feedNx f n) B)) := by
  have H := hid h
  have Hf := hid hf
  clear h hf
  go_enter Try.func126, Try.ntmps126
  go_upto_block 0 with fail
  go_cut [5] (fun ov wx => ∃ (out : Nat) (x1 : RD Nat), ov = .int .u32 out ∧ RD.strGo (feedNx f n) B x 0 = (out, x1) ∧ Fr (fun k => k = g) w wx ∧ RefIs a n cap f lo g wx x1)
  case first =>
    go_wp2_with fail
    go_loopw [5, 6] (fun ov iv wr => ∃ (k out : Nat) (x1 : RD Nat), k ≤ B ∧ iv = .int .i64 k ∧ ov = .int .u32 out ∧ out < 2 ^ k ∧ RD.strGo (feedNx f n) (B - k) x1 out = RD.strGo (feedNx f n) B x 0 ∧ Fr (fun k => k = g) w wr ∧ RefIs a n cap f lo g wr x1)
      (fun _ iv _ => B - (intOf iv).toNat)
    case atStart => exact ⟨0, 0, x, Nat.zero_le _, rfl, rfl, by decide, rfl, Fr.refl _ _, H.out⟩
    case round =>
      obtain ⟨k, out, ⟨src, rng, code, bad⟩, hk, rfl, rfl, ho, hgo, hfr, href⟩ := hrel
      have c2 := blk_cell href.at_ (j := 2) (v := .int .u64 rng) rfl
      have c3 := blk_cell href.at_ (j := 3) (v := .int .u64 code) rfl
      have c4 := blk_cell href.at_ (j := 4) (v := .bool bad) rfl
      have f2 := blk_frozen href.at_ 2
      have f3 := blk_frozen href.at_ 3
      have f4 := blk_frozen href.at_ 4
      obtain ⟨o1, o2, o3, o4⟩ := href.ok
      simp only at o1 o2 o3 o4
      have Hgo := hid hgo
      have HFR := hid hfr
      have HR := hid href
      have Ho := hid ho
      clear hgo hfr href ho
      by_cases hlt : k < B
      · have ho2 : out < 2147483648 := by
          have : 2 ^ k ≤ 2 ^ 31 := Nat.pow_le_pow_right (by decide) (by omega)
          have := Ho.out
          omega
        have Ho2 := hid (show 2 * out + 1 < 2 ^ (k + 1) by have := Ho.out; rw [Nat.pow_succ]; omega)
        cases bad with
        | true =>
          have hgo2 : (out, (⟨src, rng, code, true⟩ : RD Nat)) = RD.strGo (feedNx f n) B x 0 := by rw [← Hgo.out, strGo_bad _ _ _ _ rfl]
          have HG := hid hgo2
          clear hgo2
          go_wp2_with fail
          go_meet
          exact ⟨out, _, rfl, HG.out.symm, HFR.out, HR.out⟩
        | false =>
          have hgo2 : RD.strGo (feedNx f n) (B - (k + 1)) ((⟨src, rng, code, false⟩ : RD Nat).str1 (feedNx f n)).2 (2 * out + ((⟨src, rng, code, false⟩ : RD Nat).str1 (feedNx f n)).1) = RD.strGo (feedNx f n) B x 0 := by
            rw [← Hgo.out, show B - k = (B - (k + 1)) + 1 by omega, strGo_good _ _ _ _ rfl]
          obtain ⟨t, ht⟩ : ∃ t, t = rng / 2 := ⟨_, rfl⟩
          have ht2 : rng / 2 = t := ht.symm
          have ht0 : 0 ≤ t := by omega
          have ht1 : t < 4294967296 := by omega
          by_cases h1 : t ≤ code
          · have e1 : (⟨src, rng, code, false⟩ : RD Nat).str1 (feedNx f n) = (1, RD.level (feedNx f n) ⟨src, t, code - t, decide (t ≤ code - t)⟩) := by
              unfold RD.str1
              rw [if_pos (by show rng / 2 ≤ code; omega), ht]
            rw [e1] at hgo2
            have HG := hid hgo2
            have HT := hid ht
            clear hgo2 e1 ht
            go_wp2_with fail
            go_quiet (fail)
            go_upto_region 8 with fail
            go_cut [] (fun wx => Fr (fun k => k = g) w wx ∧ RefIs a n cap f lo g wx ⟨src, t, code - t, false⟩)
            case first =>
              go_region
              all_goals go_wp2_with fail
              all_goals go_meet
              all_goals exact ⟨HFR.out.trans (Fr.setOne (Fr.drew (Fr.drewN (Fr.setOne (Fr.refl _ _) _ _) _)) _ _), ((HR.out.set2 (r := t) ht0 ht1).drewN _).drew.set3 (c := code - t) (by omega) (by omega)⟩
            case rest =>
              obtain ⟨hfx, hrx⟩ := hcut
              have c2 := blk_cell hrx.at_ (j := 2) (v := .int .u64 t) rfl
              have c3 := blk_cell hrx.at_ (j := 3) (v := .int .u64 (code - t)) rfl
              have c4 := blk_cell hrx.at_ (j := 4) (v := .bool false) rfl
              have f4 := blk_frozen hrx.at_ 4
              have HFX := hid hfx
              have HRX := hid hrx
              clear hfx hrx
              by_cases h2 : t ≤ code - t
              · have e2 : decide (t ≤ code - t) = true := decide_eq_true h2
                rw [e2] at HG
                clear e2
                go_wp2_with fail
                go_quiet (fail)
                go_wp2_with fail
                refine (rlevel_any a n cap f Hf.out lo g ⟨src, t, code - t, true⟩ _ hn (by exact (HRX.out.drewN _).set4 true)).mono ?_
                rintro e w9 ⟨rfl, hf9, h9⟩
                have H9 := hid h9
                have HF9 := hid hf9
                clear hf9 h9
                go_wp2_with fail
                go_roundw
                case rel => exact ⟨k + 1, 2 * out + 1, _, by omega, by go_num, by go_num, by have := Ho2.out; omega, HG.out, HFX.out.trans (Fr.trans (by repeat (first | exact Fr.refl _ _ | refine Fr.drewN ?_ _ | refine Fr.setOne ?_ _ _)) HF9.out), H9.out⟩
                case measure => simp [intOf]; omega
              · have e2 : decide (t ≤ code - t) = false := decide_eq_false h2
                rw [e2] at HG
                clear e2
                go_wp2_with fail
                go_quiet (fail)
                go_wp2_with fail
                refine (rlevel_any a n cap f Hf.out lo g ⟨src, t, code - t, false⟩ _ hn (by exact HRX.out.drewN _)).mono ?_
                rintro e w9 ⟨rfl, hf9, h9⟩
                have H9 := hid h9
                have HF9 := hid hf9
                clear hf9 h9
                go_wp2_with fail
                go_roundw
                case rel => exact ⟨k + 1, 2 * out + 1, _, by omega, by go_num, by go_num, by have := Ho2.out; omega, HG.out, HFX.out.trans (Fr.trans (by repeat (first | exact Fr.refl _ _ | refine Fr.drewN ?_ _ | refine Fr.setOne ?_ _ _)) HF9.out), H9.out⟩
                case measure => simp [intOf]; omega
          · have e1 : (⟨src, rng, code, false⟩ : RD Nat).str1 (feedNx f n) = (0, RD.level (feedNx f n) ⟨src, t, code, false⟩) := by
              unfold RD.str1
              rw [if_neg (by show ¬ rng / 2 ≤ code; omega), ht]
            rw [e1] at hgo2
            have HG := hid hgo2
            have HT := hid ht
            have HFX := HFR
            clear hgo2 e1 ht
            go_wp2_with fail
            go_quiet (fail)
            go_wp2_with fail
            go_quiet (fail)
            go_wp2_with fail
            refine (rlevel_any a n cap f Hf.out lo g ⟨src, t, code, false⟩ _ hn (by exact (HR.out.set2 (r := t) ht0 ht1).drewN _)).mono ?_
            rintro e w9 ⟨rfl, hf9, h9⟩
            have H9 := hid h9
            have HF9 := hid hf9
            clear hf9 h9
            go_wp2_with fail
            go_roundw
            case rel => exact ⟨k + 1, 2 * out + 0, _, by omega, by go_num, by go_num, by have := Ho2.out; omega, HG.out, HFX.out.trans (Fr.trans (by repeat (first | exact Fr.refl _ _ | refine Fr.drewN ?_ _ | refine Fr.setOne ?_ _ _)) HF9.out), H9.out⟩
            case measure => simp [intOf]; omega
      · have e : k = B := by omega
        subst e
        have hgo := Hgo.out
        rw [Nat.sub_self] at hgo
        have HG := hid (show RD.strGo (feedNx f n) k x 0 = (out, ⟨src, rng, code, bad⟩) from hgo.symm)
        clear hgo
        go_wp2_with fail
        go_meet
        exact ⟨out, _, rfl, HG.out, HFR.out, HR.out⟩
  case rest =>
    obtain ⟨out, x1, rfl, hgo, hfr, href⟩ := hcut
    have c4 := blk_cell href.at_ (j := 4) (v := .bool x1.bad) rfl
    have HFR := hid hfr
    have HR := hid href
    have e : x.str (feedNx f n) B = (if x1.bad = true then 0 else out, x1) := by
      unfold RD.str
      rw [hgo]
    have HE := hid e
    clear hgo hfr href e
    cases hbad : x1.bad with
    | true =>
      rw [hbad] at c4 HE
      go_wp2_with fail
      go_ret
      rw [HE.out]
      exact ⟨rfl, HFR.out, HR.out⟩
    | false =>
      rw [hbad] at c4 HE
      go_wp2_with fail
      go_ret
      rw [HE.out]
      exact ⟨rfl, HFR.out, HR.out⟩
end Go.Proofs.Ytjnegcambbeblaa

/- The document's decoder (04): New. -/
namespace Go.Proofs.Ytjnegcambbeblaa
open Go.RowKit

def RNewPost (a : Option Addr) (n cap : Nat) (f : Nat → Int) (lo : Nat) (w : World) (x : RD Nat) (e : Ending) (w' : World) : Prop :=
  ∃ g, w.heap.size ≤ g ∧ g < w'.heap.size ∧ e = .returned (.pointer (some ⟨g, 0, none⟩)) ∧ Fr Non w w' ∧ RefIs a n cap f lo g w' x
set_option maxRecDepth 100000 in
set_option maxHeartbeats 4000000 in
theorem rnew_any (a : Option Addr) (n cap : Nat) (f : Nat → Int) (hf : ∀ i, i < n → 0 ≤ f i ∧ f i < 256) (lo : Nat) (w : World) (hn : n ≤ 1048576) (hr : RowIn lo .u8 w a n f) (hlo : lo ≤ w.heap.size) :
    Calls Try.prog 63 #[.slice a n cap] w (RNewPost a n cap f lo w (RD.new (feedNx f n) 0)) := by
  obtain ⟨g, hg⟩ : ∃ g, g = w.heap.size := ⟨_, rfl⟩
  obtain ⟨W, hW⟩ : ∃ W, W = w.alloc (.cells #[.slice a n cap, .int .i64 0, .int .u64 4294967295, .int .u64 0, .bool false] 128) := ⟨_, rfl⟩
  have hfw : Fr Non w W := by rw [hW]; exact (Fr.refl Non w).alloc _
  have R0 := hid (show RefIs a n cap f lo g W (⟨0, 4294967295, 0, false⟩ : RD Nat) from ⟨by rw [hW, hg]; exact blk_new w _, hr.fr hfw (fun _ _ => id), by omega, Nat.zero_le _, ⟨by show (0 : Int) ≤ 4294967295; decide, by show (4294967295 : Int) < 4294967296; decide, by show (0 : Int) ≤ 0; decide, by show (0 : Int) < 4294967296; decide⟩⟩)
  have Hf := hid hf
  have HFW := hid hfw
  have HG := hid hg
  clear hf hr hfw
  go_enter Try.func63, Try.ntmps63
  go_wp2_with fail
  rw [← hW, ← hg]
  have HW := hid hW
  clear hW hg
  obtain ⟨x, hx⟩ : ∃ x, x = (RD.next (feedNx f n) (⟨0, 4294967295, 0, false⟩ : RD Nat)).1 := ⟨_, rfl⟩
  have hcall := rnext_any a n cap f Hf.out lo g (⟨0, 4294967295, 0, false⟩ : RD Nat) W hn R0.out
  have hs := dnext_same (feedNx f n) (⟨0, 4294967295, 0, false⟩ : RD Nat)
  rw [hs, ← hx] at hcall
  have HX := hid hx
  have HSm := hid hs
  clear hx hs
  refine hcall.mono ?_
  clear hcall
  rintro e w1 ⟨rfl, hf1, hd1⟩
  have HF1 := hid hf1
  have HD1 := hid hd1
  have c4 := blk_cell hd1.at_ (j := 4) (v := .bool (RD.next (feedNx f n) (⟨0, 4294967295, 0, false⟩ : RD Nat)).2.bad) rfl
  have f4 := blk_frozen hd1.at_ 4
  clear hf1 hd1
  go_upto_if 12 with fail
  go_cut [] (fun wx => Fr (fun k => k = g) W wx ∧ RefIs a n cap f lo g wx (RD.first (feedNx f n) 0) ∧ (RD.first (feedNx f n) 0).code = 0)
  case first =>
    by_cases h0 : x = 0
    · have H0 := hid h0
      have h1 : (x != 0) = false := by rw [h0]; rfl
      have h2 : (x == 0) = true := by rw [h0]; rfl
      clear h0
      go_wp2_with fail
      go_meet
      have e : RD.first (feedNx f n) 0 = ⟨(RD.next (feedNx f n) (⟨0, 4294967295, 0, false⟩ : RD Nat)).2.src, 4294967295, 0, (RD.next (feedNx f n) (⟨0, 4294967295, 0, false⟩ : RD Nat)).2.bad⟩ := by
        unfold RD.first
        rw [← HX.out, if_pos H0.out]
        exact HSm.out
      rw [e]
      exact ⟨HF1.out, HD1.out, rfl⟩
    · have H0 := hid h0
      have h1 : (x != 0) = true := by simpa using h0
      have h2 : (x == 0) = false := by simpa using h0
      clear h0
      go_wp2_with fail
      go_meet
      have e : RD.first (feedNx f n) 0 = ⟨(RD.next (feedNx f n) (⟨0, 4294967295, 0, false⟩ : RD Nat)).2.src, 4294967295, 0, true⟩ := by
        unfold RD.first
        rw [← HX.out, if_neg H0.out]
      rw [e]
      exact ⟨HF1.out.setOne _ _, HD1.out.set4 true, rfl⟩
  case rest =>
    obtain ⟨hf0, hd0, hc0⟩ := hcut
    have HF := hid hf0
    have HD := hid hd0
    have HC0 := hid hc0
    clear hf0 hd0 hc0 c4 f4
    go_upto_block 0 with fail
    go_cut [] (fun wx => Fr (fun k => k = g) W wx ∧ RefIs a n cap f lo g wx (RD.four (feedNx f n) 4 (RD.first (feedNx f n) 0)))
    case first =>
      go_wp2_with fail
      go_loopw [5] (fun i wr => ∃ (k : Nat) (d1 : RD Nat), k ≤ 4 ∧ i = .int .i64 k ∧ d1.code < 256 ^ k ∧ RD.four (feedNx f n) (4 - k) d1 = RD.four (feedNx f n) 4 (RD.first (feedNx f n) 0) ∧ Fr (fun k => k = g) W wr ∧ RefIs a n cap f lo g wr d1)
        (fun i _ => 4 - (intOf i).toNat)
      case atStart => exact ⟨0, RD.first (feedNx f n) 0, by decide, rfl, by rw [HC0.out]; decide, rfl, HF.out, HD.out⟩
      case round =>
        obtain ⟨k, d1, hk, rfl, hck, hgo, hfr, hdec⟩ := hrel
        have c3 := blk_cell hdec.at_ (j := 3) (v := .int .u64 d1.code) rfl
        have f3 := blk_frozen hdec.at_ 3
        have o3 := hdec.ok.2.2.1
        have Hgo := hid hgo
        have Hfr := hid hfr
        have Hdec := hid hdec
        have Hck := hid hck
        clear hgo hfr hdec hck
        by_cases hlt : k < 4
        · have hc24 : d1.code < 16777216 := by
            have := Hck.out
            rcases (by omega : k = 0 ∨ k = 1 ∨ k = 2 ∨ k = 3) with rfl | rfl | rfl | rfl <;> omega
          obtain ⟨y, hy⟩ : ∃ y, y = (d1.next (feedNx f n)).1 := ⟨_, rfl⟩
          have hyb : 0 ≤ y ∧ y < 256 := by rw [hy]; exact feed_byte d1
          have hcall : ∀ w0, RefIs a n cap f lo g w0 d1 → Calls Try.prog 96 #[.pointer (some ⟨g, 0, none⟩)] w0 (RPost a n cap f lo g w0 (.int .u64 y) ⟨(d1.next (feedNx f n)).2.src, d1.rng, d1.code, (d1.next (feedNx f n)).2.bad⟩) := fun w0 h0 => by
            have h := rnext_any a n cap f Hf.out lo g d1 w0 hn h0
            rw [dnext_same (feedNx f n) d1, ← hy] at h
            exact h
          have HC := hid hcall
          have HY := hid hy
          obtain ⟨hb0, hb1⟩ := hyb
          clear hcall hy
          go_wp2_with fail
          go_region_with (go_at_call 96; refine (HC.out _ (by first | exact Hdec.out.drew | exact Hdec.out)).mono ?_; rintro e w2 ⟨rfl, hf2, hd2⟩; have k3 := blk_cell hd2.at_ (j := 3) (v := .int .u64 d1.code) rfl; have g3 := blk_frozen hd2.at_ 3; have HF2 := hid (((Fr.refl (fun k => k = g) _).drew).trans hf2); have HD2 := hid hd2; clear hf2 hd2)
          all_goals
            have e1 : IntKind.u64.wrap (d1.code * 256) = d1.code * 256 := by rw [IntKind.wrap_u64]; omega
            have e2 : IntKind.u64.wrap (d1.code * 256 + y) = d1.code * 256 + y := by rw [IntKind.wrap_u64]; omega
            go_wp2_with fail
            go_roundw
            case rel =>
              refine ⟨k + 1, ⟨(d1.next (feedNx f n)).2.src, d1.rng, d1.code * 256 % 4294967296 + (d1.next (feedNx f n)).1, (d1.next (feedNx f n)).2.bad⟩, by omega, by go_num, ?_, ?_, Hfr.out.trans (Fr.setOne HF2.out _ _), ?_⟩
              · have := Hck.out
                rw [← HY.out]
                show d1.code * 256 % 4294967296 + y < 256 ^ (k + 1)
                rw [Int.pow_succ]
                omega
              · have e : 4 - k = (4 - (k + 1)) + 1 := by omega
                have := Hgo.out
                rw [e] at this
                exact this
              · rw [← HY.out, show d1.code * 256 % 4294967296 + y = d1.code * 256 + y by omega]
                have := HD2.out.set3 (c := d1.code * 256 + y) (by omega) (by omega)
                simpa [e1, e2] using this
            case measure => simp [intOf]; omega
        · have e : k = 4 := by omega
          subst e
          have hgo := Hgo.out
          rw [Nat.sub_self] at hgo
          have HG := hid (show d1 = RD.four (feedNx f n) 4 (RD.first (feedNx f n) 0) from hgo)
          clear hgo
          go_wp2_with fail
          go_meet
          rw [← HG.out]
          exact ⟨Hfr.out, Hdec.out⟩
    case rest =>
      obtain ⟨hf0, hd0⟩ := hcut
      obtain ⟨d4, hd4⟩ : ∃ d4, d4 = RD.four (feedNx f n) 4 (RD.first (feedNx f n) 0) := ⟨_, rfl⟩
      have e : RD.new (feedNx f n) 0 = ⟨d4.src, d4.rng, d4.code, d4.bad || decide (d4.rng ≤ d4.code)⟩ := by rw [hd4]; rfl
      rw [← hd4] at hd0
      have c2 := blk_cell hd0.at_ (j := 2) (v := .int .u64 d4.rng) rfl
      have c3 := blk_cell hd0.at_ (j := 3) (v := .int .u64 d4.code) rfl
      have c4 := blk_cell hd0.at_ (j := 4) (v := .bool d4.bad) rfl
      have f4 := blk_frozen hd0.at_ 4
      have hgl := blk_lt hd0.at_
      have HE := hid e
      have HF := hid hf0
      have HD := hid hd0
      clear hf0 hd0 hd4 e
      by_cases hle : d4.rng ≤ d4.code
      · have hde : decide (d4.rng ≤ d4.code) = true := decide_eq_true hle
        have HDE := hid hde
        clear hde
        go_wp2_with fail
        go_quiet (fail)
        go_wp2_with fail
        go_ret
        rw [HE.out, HDE.out, Bool.or_true]
        refine ⟨g, by rw [HG.out]; exact Nat.le_refl _, by simpa using hgl, rfl, ?_, (HD.out.drewN _).set4 true⟩
        exact HFW.out.then (Fr.setOne (HF.out.drewN _) _ _) (fun i hi e => by have := HG.out; omega)
      · have hde : decide (d4.rng ≤ d4.code) = false := decide_eq_false hle
        have HDE := hid hde
        clear hde
        go_wp2_with fail
        go_quiet (fail)
        go_wp2_with fail
        go_ret
        rw [HE.out, HDE.out, Bool.or_false]
        refine ⟨g, by rw [HG.out]; exact Nat.le_refl _, by simpa using hgl, rfl, ?_, HD.out.drewN _⟩
        exact HFW.out.then (HF.out.drewN _) (fun i hi e => by have := HG.out; omega)
end Go.Proofs.Ytjnegcambbeblaa

/- append of one integer to a row of the call's own: where the row lies then. -/
namespace Go.Proofs.Ytjnegcambbeblaa
open Go.RowKit

theorem run_grow1 {P : Program} {w : World} (t ty : TypeId) (k : IntKind) (e : TypeId) (bytes : Nat) (ht : P.underlying t = some (.slice e)) (hinfo : (P.info? e).map (fun i => (i.zero, i.size, i.bytes)) = some (some (.int k 0), 1, bytes))
    (v : Value) (xs : List Int) (hown : Own w 0 k e v xs) (ad : Addr) (c : Nat) (y : Int) (hcell : w.cell? ad = some (.int k y))
    (hb1 : 1 ≤ bytes) (hbytes : (xs.length + 1) * bytes ≤ 140737488355328) :
    ∃ v' w', (Builtin.append_ #[t, t] ty #[v, .slice (some ad) 1 c]).run P w = .ok v' w' ∧ Own w' 0 k e v' (xs ++ [y]) ∧ w.grownBy w' v.ownBlock ∧ (v'.ownBlock = v.ownBlock ∨ v'.ownBlock = some w.heap.size) := by
  obtain ⟨i, hi, hz0, hz1, hz2⟩ := info_parts hinfo
  have hm : xs.length + 1 ≤ (xs.length + 1) * bytes := Nat.le_mul_of_pos_right _ hb1
  have hnews : ∀ j u, [Value.int k y][j]? = some u → w.cell? (ad.add j) = some u := by
    intro j u hj
    match j, hj with
    | 0, hj => simp at hj; subst hj; simpa [Addr.add] using hcell
  have h1 : ∀ u ∈ [Value.int k y], u.oneCell' = true := by
    intro u hu
    simp at hu
    subst hu
    rfl
  obtain ⟨v', w', hr, h2, h3, _⟩ := run_append_own (P := P) w 0 t ty e i (.int k 0) 1 bytes ht hi hz0 hz1 hz2 rfl (by decide) v xs.length _ hown ad 1 c [.int k y] rfl hnews h1 (by unfold maxLen; omega) hbytes (Nat.zero_le _)
  refine ⟨v', w', hr, ?_, h3, ?_⟩
  · unfold Own
    simpa using h2
  · rcases hown.2 with ⟨rfl, hn⟩ | ⟨g, cap, cur, rfl, hbg, hg, hnc, hcm, hcs, htake⟩
    · have hr' := run_append_nil (P := P) w t ty e i (.int k 0) ht hi hz0 ad 1 c [.int k y] (by rw [hz1]; rfl) hnews (by decide) (by decide) (by rw [hz2]; have := Nat.le_mul_of_pos_left bytes (show 0 < xs.length + 1 by omega); omega)
      rw [hr] at hr'
      injection hr' with e1 e2
      right; rw [e1]; rfl
    · by_cases hroom : xs.length + 1 ≤ cap
      · have hr' := run_append_room (P := P) w t ty e i ht hi g xs.length cap cur hg ad 1 c [.int k y] (by rw [hz1]; rfl) hnews h1 hroom (by rw [hz1, hcs]; simp; omega)
        rw [hr] at hr'
        injection hr' with e1 e2
        left; rw [e1]; rfl
      · have hr' := run_append_grow (P := P) w t ty e i (.int k 0) ht hi hz0 ⟨g, 0, none⟩ xs.length cap (xs.map (Value.int k)) (by rw [hz1]; simp) (hown.cells (g := g) rfl) ad 1 c [.int k y] (by rw [hz1]; rfl) hnews (by omega) (by omega) (growslice_fits (by omega) (by rw [hz2]; exact hbytes))
        rw [hr] at hr'
        injection hr' with e1 e2
        right; rw [e1]; rfl

theorem opGrow1 {P : Program} {w : World} {ops : Array Oper} {rest : List Oper} {o : Oper} {a : Act} {Q : Exit → Act → World → Prop} (d : Option Tmp) (hgd : o.guard = none) (hd : o.dst = d) (s x : Operand) (t : TypeId)
    (ho : o.op = .call { callee := .builtin .append, args := #[s, x], argTypes := #[t, t] })
    (k : IntKind) (e : TypeId) (bytes : Nat) (ht : P.underlying t = some (.slice e)) (hinfo : (P.info? e).map (fun i => (i.zero, i.size, i.bytes)) = some (some (.int k 0), 1, bytes))
    (v : Value) (xs : List Int) (hs : a.eval s = v) (hown : Own w 0 k e v xs)
    (ad : Addr) (c : Nat) (y : Int) (hx : a.eval x = .slice (some ad) 1 c) (hcell : w.cell? ad = some (.int k y))
    (hb1 : 1 ≤ bytes) (hbytes : (xs.length + 1) * bytes ≤ 140737488355328)
    (h : ∀ v' w', Own w' 0 k e v' (xs ++ [y]) → w.grownBy w' v.ownBlock → (v'.ownBlock = v.ownBlock ∨ v'.ownBlock = some w.heap.size) → wpList P ops Q rest (a.put d v') w') : wpList P ops Q (o :: rest) a w := by
  obtain ⟨v', w', hr, h2, h3, h4⟩ := run_grow1 (P := P) (w := w) t o.type k e bytes ht hinfo v xs hown ad c y hcell hb1 hbytes
  refine wpList_plain hgd fun K hK => ?_
  unfold Oper.wp execOp
  simp only [ho, resolve, invoke, builtin, Sem.run_bind, Sem.run_pure, Result.andThen_ok, List.map_toArray, List.map_cons, List.map_nil, hs, hx, hr]
  refine hK _ _ ?_
  rw [hd]
  exact h v' w' h2 h3 h4

theorem step_grow1 {P : Program} {ops : Array Oper} {o : Oper} {a : Act} {w : World} {K : Act → World → Prop} {Q : Exit → Act → World → Prop} {E : Prop} (hgd : o.guard = none) (s x : Operand) (t : TypeId)
    (ho : o.op = .call { callee := .builtin .append, args := #[s, x], argTypes := #[t, t] })
    (k : IntKind) (e : TypeId) (bytes : Nat) (ht : P.underlying t = some (.slice e)) (hinfo : (P.info? e).map (fun i => (i.zero, i.size, i.bytes)) = some (some (.int k 0), 1, bytes))
    (v : Value) (xs : List Int) (hs : a.eval s = v) (ad : Addr) (c : Nat) (y : Int) (hx : a.eval x = .slice (some ad) 1 c) (hown : Own w 0 k e v xs) (hcell : w.cell? ad = some (.int k y))
    (hb1 : 1 ≤ bytes) (hbytes : (xs.length + 1) * bytes ≤ 140737488355328)
    (h : ∀ v' w', Own w' 0 k e v' (xs ++ [y]) → w.grownBy w' v.ownBlock → (v'.ownBlock = v.ownBlock ∨ v'.ownBlock = some w.heap.size) → K (a.put o.dst v') w') :
    if Region.wanted o (yielded ops a.tmps) = true then Oper.wp P o a w K Q else E := by
  have hw : Region.wanted o (yielded ops a.tmps) = true := by simp [Region.wanted, hgd]
  rw [if_pos hw]
  obtain ⟨v', w', hr, h2, h3, h4⟩ := run_grow1 (P := P) (w := w) t o.type k e bytes ht hinfo v xs hown ad c y hcell hb1 hbytes
  unfold Oper.wp execOp
  simp only [ho, resolve, invoke, builtin, Sem.run_bind, Sem.run_pure, Result.andThen_ok, List.map_toArray, List.map_cons, List.map_nil, hs, hx, hr]
  exact h v' w' h2 h3 h4
/-- what grew has its row where it was, or anew. -/
theorem Fr.grew {w w' : World} {v : Value} (h : w.grownBy w' v.ownBlock) : Fr (fun k => v.ownBlock = some k) w w' := (Fr.refl _ w).grown h (fun _ e _ => e)
end Go.Proofs.Ytjnegcambbeblaa

/- a range coder, in plain numbers. -/
namespace Go.Proofs.Ytjnegcambbeblaa
open Go.RowKit

/-- a coder: low, range, the byte that waits, how many bytes 255 wait behind it, the bytes given. -/
structure RC where
  low : Int
  rng : Int
  waits : Int
  more : Nat
  out : List Int
def RC.moves (c : RC) : Prop := c.low < 4278190080 ∨ 4294967296 ≤ c.low
instance (c : RC) : Decidable c.moves := by unfold RC.moves; infer_instance
def RC.carry (c : RC) : Int := c.low / 4294967296
def RC.give (c : RC) : RC :=
  if c.moves then ⟨c.low % 16777216 * 256, c.rng, c.low / 16777216 % 256, 0, c.out ++ (c.waits + c.carry) % 256 :: List.replicate c.more ((255 + c.carry) % 256)⟩
  else ⟨c.low % 16777216 * 256, c.rng, c.waits, c.more + 1, c.out⟩
/-- to even out, at most so many times. -/
def RC.lev : Nat → RC → RC
  | 0, c => c
  | n + 1, c => if c.rng < 16777216 then RC.lev n ((⟨c.low, c.rng * 256, c.waits, c.more, c.out⟩ : RC).give) else c
def RC.level (c : RC) : RC := c.lev 3
/-- a part of the range: from a on, r wide. -/
def RC.part (c : RC) (a r : Int) : RC := (⟨c.low + a, r, c.waits, c.more, c.out⟩ : RC).level
def RC.bit (c : RC) (p : Int) (b : Nat) : Int × RC :=
  if b = 0 then (p + (2048 - p) / 32, c.part 0 (c.rng / 2048 * p)) else (p - p / 32, c.part (c.rng / 2048 * p) (c.rng - c.rng / 2048 * p))
theorem give_rng (c : RC) : c.give.rng = c.rng := by unfold RC.give; split <;> rfl
/-- what a coder's numbers are, ahead of a byte given. -/
structure RC.Fit (c : RC) (N : Nat) : Prop where
  low0 : 0 ≤ c.low
  low1 : c.low < 17179869184
  waits0 : 0 ≤ c.waits
  waits1 : c.waits < 256
  size : c.out.length + c.more ≤ N
theorem RC.Fit.mono {c : RC} {N M : Nat} (h : c.Fit N) (hm : N ≤ M) : c.Fit M := ⟨h.low0, h.low1, h.waits0, h.waits1, Nat.le_trans h.size hm⟩
theorem RC.Fit.give {c : RC} {N : Nat} (h : c.Fit N) : c.give.Fit (N + 1) ∧ c.give.low < 4294967296 := by
  obtain ⟨h1, h2, h3, h4, h5⟩ := h
  unfold RC.give
  by_cases hm : c.moves
  · rw [if_pos hm]
    refine ⟨⟨?_, ?_, ?_, ?_, ?_⟩, ?_⟩ <;> dsimp only <;> (try simp only [List.length_append, List.length_cons, List.length_replicate]) <;> omega
  · rw [if_neg hm]
    refine ⟨⟨?_, ?_, ?_, ?_, ?_⟩, ?_⟩ <;> dsimp only <;> omega
theorem give_size (c : RC) : c.give.out.length + c.give.more = c.out.length + c.more + 1 := by
  unfold RC.give
  by_cases hm : c.moves
  · rw [if_pos hm]; simp; omega
  · rw [if_neg hm]; simp; omega
theorem lev_stop (n : Nat) (c : RC) (h : 16777216 ≤ c.rng) : c.lev n = c := by
  cases n with
  | zero => rfl
  | succ n => exact if_neg (by omega)
theorem RC.Fit.lev (n : Nat) : ∀ (c : RC) (N : Nat), c.Fit N → (c.lev n).Fit (N + n) := by
  induction n with
  | zero => intro c N h; exact h
  | succ n ih =>
    intro c N h
    unfold RC.lev
    by_cases hr : c.rng < 16777216
    · rw [if_pos hr]
      have h2 : (⟨c.low, c.rng * 256, c.waits, c.more, c.out⟩ : RC).Fit N := ⟨h.1, h.2, h.3, h.4, h.5⟩
      exact (ih _ _ h2.give.1).mono (by omega)
    · rw [if_neg hr]; exact h.mono (by omega)
/-- a coder whose range is even. -/
structure RC.Ok (c : RC) (N : Nat) : Prop where
  low0 : 0 ≤ c.low
  rng0 : 16777216 ≤ c.rng
  rng1 : c.rng < 4294967296
  top : c.low + c.rng ≤ 8589934592
  waits0 : 0 ≤ c.waits
  waits1 : c.waits < 256
  full : c.waits = 255 → c.low + c.rng ≤ 4294967296
  size : c.out.length + c.more ≤ N
theorem RC.Ok.fit {c : RC} {N : Nat} (h : c.Ok N) : c.Fit N := ⟨h.low0, by have := h.top; have := h.rng0; omega, h.waits0, h.waits1, h.size⟩
theorem RC.Ok.mono {c : RC} {N M : Nat} (h : c.Ok N) (hm : N ≤ M) : c.Ok M := ⟨h.1, h.2, h.3, h.4, h.5, h.6, h.7, Nat.le_trans h.8 hm⟩
theorem lev_ok (n : Nat) : ∀ (c : RC) (N : Nat), 0 ≤ c.low → 16777216 ≤ c.rng * 256 ^ n → c.rng < 4294967296 → c.low + c.rng ≤ 8589934592 → 0 ≤ c.waits → c.waits < 256 → (c.waits = 255 → c.low + c.rng ≤ 4294967296) → c.out.length + c.more ≤ N → 1 ≤ c.rng →
    (c.lev n).Ok (N + n) := by
  induction n with
  | zero => intro c N h1 h2 h3 h4 h5 h6 h7 h8 _; exact ⟨h1, by show 16777216 ≤ c.rng; simpa using h2, h3, h4, h5, h6, h7, h8⟩
  | succ n ih =>
    intro c N h1 h2 h3 h4 h5 h6 h7 h8 h9
    unfold RC.lev
    by_cases hr : c.rng < 16777216
    · rw [if_pos hr]
      have hf : (⟨c.low, c.rng * 256, c.waits, c.more, c.out⟩ : RC).Fit N := ⟨h1, by show c.low < _; omega, h5, h6, h8⟩
      obtain ⟨⟨g1, g2, g3, g4, g5⟩, g6⟩ := hf.give
      refine (ih _ (N + 1) g1 ?_ ?_ ?_ g3 g4 ?_ g5 ?_).mono (by omega)
      · rw [give_rng]
        have e : c.rng * 256 * 256 ^ n = c.rng * 256 ^ (n + 1) := by rw [Int.pow_succ, Int.mul_assoc, Int.mul_comm 256]
        show 16777216 ≤ c.rng * 256 * 256 ^ n
        rw [e]; exact h2
      · rw [give_rng]; show c.rng * 256 < _; omega
      · rw [give_rng]; show _ + c.rng * 256 ≤ _; omega
      · rw [give_rng]
        show _ → _ + c.rng * 256 ≤ _
        unfold RC.give
        by_cases hm : (⟨c.low, c.rng * 256, c.waits, c.more, c.out⟩ : RC).moves
        · rw [if_pos hm]
          have hm' : c.low < 4278190080 ∨ 4294967296 ≤ c.low := hm
          dsimp only
          omega
        · rw [if_neg hm]
          have hm' : ¬ (c.low < 4278190080 ∨ 4294967296 ≤ c.low) := hm
          dsimp only
          intro hw
          have := h7 hw
          omega
      · rw [give_rng]; show 1 ≤ c.rng * 256; omega
    · rw [if_neg hr]; exact ⟨h1, by omega, h3, h4, h5, h6, h7, by omega⟩
theorem RC.Ok.part {c : RC} {N : Nat} (h : c.Ok N) {a r : Int} (ha : 0 ≤ a) (hr : 1 ≤ r) (har : a + r ≤ c.rng) : (c.part a r).Ok (N + 3) := by
  obtain ⟨h1, h2, h3, h4, h5, h6, h7, h8⟩ := h
  refine lev_ok 3 _ N ?_ ?_ ?_ ?_ h5 h6 ?_ h8 hr
  · show 0 ≤ c.low + a; omega
  · show 16777216 ≤ r * 16777216; omega
  · show r < _; omega
  · show c.low + a + r ≤ _; omega
  · intro hw; have := h7 hw; show c.low + a + r ≤ _; omega
theorem bound_pos (r p : Int) (h0 : 16777216 ≤ r) (hp : 31 ≤ p) : 253952 ≤ r / 2048 * p := by
  have h1 : 8192 * 31 ≤ r / 2048 * p := Int.mul_le_mul (by omega) hp (by omega) (by omega)
  omega
theorem bound_gap (r p : Int) (h0 : 16777216 ≤ r) (hp : p ≤ 2017) : r / 2048 * p + 253952 ≤ r := by
  have h1 : r / 2048 * p ≤ r / 2048 * 2017 := Int.mul_le_mul_of_nonneg_left hp (by omega)
  omega
theorem RC.Ok.bit {c : RC} {N : Nat} (h : c.Ok N) {p : Int} (h0 : 31 ≤ p) (h1 : p ≤ 2017) (b : Nat) : (c.bit p b).2.Ok (N + 3) := by
  have b1 := bound_pos c.rng p h.rng0 h0
  have b2 := bound_gap c.rng p h.rng0 h1
  unfold RC.bit
  by_cases hb : b = 0
  · rw [if_pos hb]; exact h.part (by omega) (by show 1 ≤ c.rng / 2048 * p; omega) (by omega)
  · rw [if_neg hb]; exact h.part (by show 0 ≤ c.rng / 2048 * p; omega) (by omega) (by omega)
theorem bit_prob' (c : RC) {p : Int} (h0 : 31 ≤ p) (h1 : p ≤ 2017) (b : Nat) : 31 ≤ (c.bit p b).1 ∧ (c.bit p b).1 ≤ 2017 := by
  unfold RC.bit
  by_cases hb : b = 0
  · rw [if_pos hb]; dsimp only; omega
  · rw [if_neg hb]; dsimp only; omega
end Go.Proofs.Ytjnegcambbeblaa

/- The range coder: its state, give. -/
namespace Go.Proofs.Ytjnegcambbeblaa
open Go.RowKit

def Out (A : Nat → Prop) : Nat → Prop := fun k => ¬ A k
theorem low_and (x : Int) (h0 : 0 ≤ x) (h1 : x < 17179869184) : IntKind.u64.wrap (bits BinOp.and IntKind.u64 x 16777215 * 256) = x % 16777216 * 256 := by
  rw [u64_and x _ h0 (by omega) (by decide) (by decide)]
  obtain ⟨a, rfl⟩ := Int.eq_ofNat_of_zero_le h0
  show IntKind.u64.wrap (((a &&& 16777215 : Nat) : Int) * 256) = _
  rw [show (16777215 : Nat) = 2 ^ 24 - 1 by decide, Nat.and_two_pow_sub_one_eq_mod, IntKind.wrap_u64]
  omega
end Go.Proofs.Ytjnegcambbeblaa

/- The range coder: level, Bit. -/
namespace Go.Proofs.Ytjnegcambbeblaa
open Go.RowKit

def rngIn (g : Nat) (w : World) : Nat := match w.cell? ⟨g, 1, none⟩ with | some (.int _ r) => 16777216 - r.toNat | _ => 0
end Go.Proofs.Ytjnegcambbeblaa

/- The range coder: Bit. -/
namespace Go.Proofs.Ytjnegcambbeblaa
open Go.RowKit

theorem bit_zero (c : RC) (p : Int) : c.bit p 0 = (p + (2048 - p) / 32, (⟨c.low, c.rng / 2048 * p, c.waits, c.more, c.out⟩ : RC).level) := by
  unfold RC.bit RC.part
  rw [if_pos rfl, Int.add_zero]
theorem bit_one (c : RC) (p : Int) : c.bit p 1 = (p - p / 32, (⟨c.low + c.rng / 2048 * p, c.rng - c.rng / 2048 * p, c.waits, c.more, c.out⟩ : RC).level) := rfl

end Go.Proofs.Ytjnegcambbeblaa

/- The range coder: Tree. -/
namespace Go.Proofs.Ytjnegcambbeblaa
open Go.RowKit

/-- k bits more of a tree, m so far. -/
def RC.treeGo : Nat → RC → (Nat → Int) → Nat → Nat → (Nat → Int) × RC
  | 0, c, q, _, _ => (q, c)
  | k + 1, c, q, m, v => RC.treeGo k (c.bit (q m) (v / 2 ^ k % 2)).2 (upd q m (c.bit (q m) (v / 2 ^ k % 2)).1) (2 * m + v / 2 ^ k % 2) v
def RC.tree (B : Nat) (c : RC) (q : Nat → Int) (v : Nat) : (Nat → Int) × RC := RC.treeGo B c q 1 v
/-- k bits more of a reverse tree, the next one the i-th. -/
def RC.revGo : Nat → Nat → RC → (Nat → Int) → Nat → Nat → (Nat → Int) × RC
  | 0, _, c, q, _, _ => (q, c)
  | k + 1, i, c, q, m, v => RC.revGo k (i + 1) (c.bit (q m) (v / 2 ^ i % 2)).2 (upd q m (c.bit (q m) (v / 2 ^ i % 2)).1) (2 * m + v / 2 ^ i % 2) v
def RC.rev (B : Nat) (c : RC) (q : Nat → Int) (v : Nat) : (Nat → Int) × RC := RC.revGo B 0 c q 1 v
def RC.str1 (c : RC) (b : Nat) : RC := c.part (if b = 1 then c.rng / 2 else 0) (c.rng / 2)
def RC.strGo : Nat → RC → Nat → RC
  | 0, c, _ => c
  | k + 1, c, v => RC.strGo k (c.str1 (v / 2 ^ k % 2)) v
theorem nat_and_one (x : Nat) (h : x < 4294967296) : bits .and .u32 (x : Int) 1 = ((x % 2 : Nat) : Int) := by
  rw [u32_and _ _ (by omega) (by omega) (by decide) (by decide)]
  show ((x &&& 1 : Nat) : Int) = _
  rw [Nat.and_one_is_mod]
theorem bit_of (v k : Nat) (h : v < 4294967296) : bits .and .u32 ((v : Int) / 2 ^ k) 1 = ((v / 2 ^ k % 2 : Nat) : Int) := by
  have e : ((v : Int) / 2 ^ k) = ((v / 2 ^ k : Nat) : Int) := by simp
  have := Nat.div_le_self v (2 ^ k)
  rw [e, nat_and_one _ (by omega)]
theorem or_bit32 (m b : Nat) (hb : b ≤ 1) (hm : m < 1073741824) : bits .or .u32 ((m : Int) * 2) (b : Int) = ((2 * m + b : Nat) : Int) := by
  rw [u32_or _ _ (by omega) (by omega) (by omega) (by omega)]
  have e : ((m : Int) * 2).toNat = m * 2 ^ 1 := by omega
  rw [e]
  simp only [Int.toNat_natCast]
  rw [nat_or_low _ _ 1 (by omega)]
  omega

end Go.Proofs.Ytjnegcambbeblaa

/- a range coder's bytes, as one great number. -/
namespace Go.Proofs.Ytjnegcambbeblaa
open Go.RowKit

def valL (l : List Int) : Int := l.foldl (fun a x => a * 256 + x) 0
theorem valL_snoc (l : List Int) (x : Int) : valL (l ++ [x]) = valL l * 256 + x := by unfold valL; rw [List.foldl_append]; rfl
theorem pow_pos256 (m : Nat) : 1 ≤ (256 : Int) ^ m := by
  induction m with
  | zero => decide
  | succ m ih => rw [Int.pow_succ]; omega
theorem valL_rep (l : List Int) (m : Nat) : valL (l ++ List.replicate m 255) = valL l * 256 ^ m + (256 ^ m - 1) ∧ valL (l ++ List.replicate m 0) = valL l * 256 ^ m := by
  induction m with
  | zero => simp
  | succ m ih =>
    rw [List.replicate_succ', List.replicate_succ', ← List.append_assoc, ← List.append_assoc, valL_snoc, valL_snoc, ih.1, ih.2, Int.pow_succ, ← Int.mul_assoc]
    omega
theorem valL_append (l k : List Int) : valL (l ++ k) = valL l * 256 ^ k.length + valL k := by
  have aux : ∀ (k : List Int) (a : Int), k.foldl (fun a x => a * 256 + x) a = a * 256 ^ k.length + k.foldl (fun a x => a * 256 + x) 0 := by
    intro k
    induction k with
    | nil => intro a; simp
    | cons x k ih =>
      intro a
      simp only [List.foldl_cons, List.length_cons]
      rw [ih (a * 256 + x), ih (0 * 256 + x), Int.pow_succ, Int.add_mul, Int.add_mul, Int.mul_assoc, Int.mul_comm (256 ^ k.length)]
      omega
  unfold valL
  rw [List.foldl_append, aux]
/-- all that a coder has told so far. -/
def RC.val (c : RC) : Int := ((valL c.out * 256 + c.waits) * 256 ^ c.more + (256 ^ c.more - 1)) * 4294967296 + c.low
def RC.len (c : RC) : Nat := c.out.length + c.more + 5
def RC.bytes (c : RC) : Prop := ∀ x, x ∈ c.out → 0 ≤ x ∧ x < 256
theorem give_len (c : RC) : c.give.len = c.len + 1 := by
  have := give_size c
  unfold RC.len; omega
theorem give_bytes {c : RC} (h : c.bytes) : c.give.bytes := by
  unfold RC.give
  by_cases hm : c.moves
  · rw [if_pos hm]
    intro x hx
    simp only [List.mem_append, List.mem_cons, List.mem_replicate] at hx
    rcases hx with hx | hx | hx
    · exact h x hx
    · omega
    · omega
  · rw [if_neg hm]; exact h
theorem give_val (c : RC) (h0 : 0 ≤ c.low) (h1 : c.low < 8589934592) (hw0 : 0 ≤ c.waits) (hw1 : c.waits < 256) (hw : c.waits = 255 → c.low < 4294967296) : c.give.val = 256 * c.val := by
  obtain ⟨X, hX⟩ : ∃ X, X = valL c.out * 256 + c.waits := ⟨_, rfl⟩
  obtain ⟨P, hP⟩ : ∃ P : Int, P = 256 ^ c.more := ⟨_, rfl⟩
  have hv : c.val = (X * P + (P - 1)) * 4294967296 + c.low := by unfold RC.val; rw [hX, hP]
  rw [hv]
  clear hv
  unfold RC.give
  by_cases hm : c.moves
  · rw [if_pos hm]
    have hm' : c.low < 4278190080 ∨ 4294967296 ≤ c.low := hm
    have hcons : ∀ (a : Int) (l : List Int), c.out ++ a :: l = (c.out ++ [a]) ++ l := by simp
    unfold RC.val
    dsimp only
    rw [hcons]
    unfold RC.carry
    by_cases hc : c.low < 4294967296
    · have e0 : c.low / 4294967296 = 0 := by omega
      have e1 : (c.waits + 0) % 256 = c.waits := by omega
      rw [e0, e1, show ((255 : Int) + 0) % 256 = 255 by decide, (valL_rep _ _).1, valL_snoc, ← hX, ← hP]
      generalize X * P = Y
      simp only [Int.pow_zero, Int.mul_one]
      omega
    · have e0 : c.low / 4294967296 = 1 := by omega
      have e1 : (c.waits + 1) % 256 = c.waits + 1 := by omega
      have e2 : (X + 1) * P = X * P + P := by rw [Int.add_mul, Int.one_mul]
      rw [e0, e1, show ((255 : Int) + 1) % 256 = 0 by decide, (valL_rep _ _).2, valL_snoc, show valL c.out * 256 + (c.waits + 1) = X + 1 by omega, ← hP, e2]
      generalize X * P = Y
      simp only [Int.pow_zero, Int.mul_one]
      omega
  · rw [if_neg hm]
    have hm' : ¬ (c.low < 4278190080 ∨ 4294967296 ≤ c.low) := hm
    have e2 : X * (P * 256) = X * P * 256 := by rw [Int.mul_assoc]
    unfold RC.val
    dsimp only
    rw [Int.pow_succ, ← hX, ← hP, e2]
    generalize X * P = Y
    omega
theorem part_val (c : RC) (a r : Int) : (⟨c.low + a, r, c.waits, c.more, c.out⟩ : RC).val = c.val + a := by unfold RC.val; dsimp only; omega
theorem rng_val (c : RC) (r : Int) : (⟨c.low, r, c.waits, c.more, c.out⟩ : RC).val = c.val := rfl
/-- evening out: k bytes more, both numbers that much greater. -/
theorem lev_val (n : Nat) : ∀ (c : RC), 0 ≤ c.low → 16777216 ≤ c.rng * 256 ^ n → c.rng < 4294967296 → c.low + c.rng ≤ 8589934592 → 0 ≤ c.waits → c.waits < 256 → (c.waits = 255 → c.low + c.rng ≤ 4294967296) → 1 ≤ c.rng → c.bytes →
    ∃ k, (c.lev n).val = 256 ^ k * c.val ∧ (c.lev n).rng = 256 ^ k * c.rng ∧ (c.lev n).len = c.len + k ∧ (c.lev n).bytes := by
  induction n with
  | zero => intro c _ _ _ _ _ _ _ _ h; exact ⟨0, by simp [RC.lev], by simp [RC.lev], rfl, h⟩
  | succ n ih =>
    intro c h1 h2 h3 h4 h5 h6 h7 h8 h9
    unfold RC.lev
    by_cases hr : c.rng < 16777216
    · rw [if_pos hr]
      have hf : (⟨c.low, c.rng * 256, c.waits, c.more, c.out⟩ : RC).Fit (c.out.length + c.more) := ⟨h1, by show c.low < _; omega, h5, h6, Nat.le_refl _⟩
      obtain ⟨⟨g1, g2, g3, g4, g5⟩, g6⟩ := hf.give
      have hlow : (⟨c.low, c.rng * 256, c.waits, c.more, c.out⟩ : RC).give.low = c.low % 16777216 * 256 := by unfold RC.give; split <;> rfl
      have a1 : 16777216 ≤ (⟨c.low, c.rng * 256, c.waits, c.more, c.out⟩ : RC).give.rng * 256 ^ n := by
        rw [give_rng]
        have e : c.rng * 256 * 256 ^ n = c.rng * 256 ^ (n + 1) := by rw [Int.pow_succ, Int.mul_assoc, Int.mul_comm 256]
        show 16777216 ≤ c.rng * 256 * 256 ^ n
        rw [e]; exact h2
      have a2 : (⟨c.low, c.rng * 256, c.waits, c.more, c.out⟩ : RC).give.rng < 4294967296 := by rw [give_rng]; show c.rng * 256 < _; omega
      have a3 : (⟨c.low, c.rng * 256, c.waits, c.more, c.out⟩ : RC).give.low + (⟨c.low, c.rng * 256, c.waits, c.more, c.out⟩ : RC).give.rng ≤ 8589934592 := by rw [give_rng, hlow]; show _ + c.rng * 256 ≤ _; omega
      have a4 : (⟨c.low, c.rng * 256, c.waits, c.more, c.out⟩ : RC).give.waits = 255 → (⟨c.low, c.rng * 256, c.waits, c.more, c.out⟩ : RC).give.low + (⟨c.low, c.rng * 256, c.waits, c.more, c.out⟩ : RC).give.rng ≤ 4294967296 := by
        rw [give_rng, hlow]
        show _ → _ + c.rng * 256 ≤ _
        unfold RC.give
        by_cases hm : (⟨c.low, c.rng * 256, c.waits, c.more, c.out⟩ : RC).moves
        · rw [if_pos hm]
          have hm' : c.low < 4278190080 ∨ 4294967296 ≤ c.low := hm
          dsimp only
          omega
        · rw [if_neg hm]
          have hm' : ¬ (c.low < 4278190080 ∨ 4294967296 ≤ c.low) := hm
          dsimp only
          intro hw
          have := h7 hw
          omega
      have a5 : 1 ≤ (⟨c.low, c.rng * 256, c.waits, c.more, c.out⟩ : RC).give.rng := by rw [give_rng]; show 1 ≤ c.rng * 256; omega
      obtain ⟨k, k1, k2, k3, k4⟩ := ih (⟨c.low, c.rng * 256, c.waits, c.more, c.out⟩ : RC).give g1 a1 a2 a3 g3 g4 a4 a5 (give_bytes (c := ⟨c.low, c.rng * 256, c.waits, c.more, c.out⟩) h9)
      refine ⟨k + 1, ?_, ?_, ?_, k4⟩
      · rw [k1, give_val ⟨c.low, c.rng * 256, c.waits, c.more, c.out⟩ h1 (by show c.low < _; omega) h5 h6 (fun e => by have := h7 e; show c.low < _; omega), Int.pow_succ, Int.mul_assoc]
        rfl
      · rw [k2, give_rng, Int.pow_succ, Int.mul_assoc, Int.mul_comm 256 c.rng]
      · rw [k3, give_len]; show c.len + 1 + k = _; omega
    · rw [if_neg hr]; exact ⟨0, by simp, by simp, rfl, h9⟩
theorem RC.Ok.part_val {c : RC} {N : Nat} (h : c.Ok N) (hb : c.bytes) {a r : Int} (ha : 0 ≤ a) (hr : 1 ≤ r) (har : a + r ≤ c.rng) :
    ∃ k, (c.part a r).val = 256 ^ k * (c.val + a) ∧ (c.part a r).rng = 256 ^ k * r ∧ (c.part a r).len = c.len + k ∧ (c.part a r).bytes := by
  obtain ⟨h1, h2, h3, h4, h5, h6, h7, h8⟩ := h
  have := lev_val 3 (⟨c.low + a, r, c.waits, c.more, c.out⟩ : RC) (by show 0 ≤ c.low + a; omega) (by show 16777216 ≤ r * 16777216; omega) (by show r < _; omega) (by show c.low + a + r ≤ _; omega) h5 h6 (fun hw => by have := h7 hw; show c.low + a + r ≤ _; omega) hr hb
  rw [Go.Proofs.Ytjnegcambbeblaa.part_val] at this
  exact this
end Go.Proofs.Ytjnegcambbeblaa

/- a range coder's steps, and its end. -/
namespace Go.Proofs.Ytjnegcambbeblaa
open Go.RowKit

/-- c' told k bytes more, within c's range. -/
structure Reach (c c' : RC) (k : Nat) : Prop where
  low : 256 ^ k * c.val ≤ c'.val
  high : c'.val + c'.rng ≤ 256 ^ k * (c.val + c.rng)
  len : c'.len = c.len + k
  bytes : c.bytes → c'.bytes
theorem Reach.refl (c : RC) : Reach c c 0 := ⟨by simp, by simp, rfl, id⟩
theorem Reach.trans {a b c : RC} {j k : Nat} (h : Reach a b j) (g : Reach b c k) : Reach a c (j + k) := by
  have hp := pow_pos256 k
  refine ⟨?_, ?_, by rw [g.len, h.len]; omega, fun e => g.bytes (h.bytes e)⟩
  · have h1 := Int.mul_le_mul_of_nonneg_left h.low (show (0:Int) ≤ 256 ^ k by omega)
    have h2 := g.low
    rw [Nat.add_comm, Int.pow_add, Int.mul_assoc]
    omega
  · have h1 := Int.mul_le_mul_of_nonneg_left h.high (show (0:Int) ≤ 256 ^ k by omega)
    have h2 := g.high
    rw [Nat.add_comm, Int.pow_add, Int.mul_assoc]
    omega
theorem RC.Ok.reach_part {c : RC} {N : Nat} (h : c.Ok N) (hb : c.bytes) {a r : Int} (ha : 0 ≤ a) (hr : 1 ≤ r) (har : a + r ≤ c.rng) : ∃ k, Reach c (c.part a r) k := by
  obtain ⟨k, h1, h2, h3, h4⟩ := h.part_val hb ha hr har
  have hp := pow_pos256 k
  refine ⟨k, ?_, ?_, h3, fun _ => h4⟩
  · rw [h1]; exact Int.mul_le_mul_of_nonneg_left (by omega) (by omega)
  · rw [h1, h2, ← Int.mul_add]; exact Int.mul_le_mul_of_nonneg_left (by omega) (by omega)
theorem RC.Ok.reach_bit {c : RC} {N : Nat} (h : c.Ok N) (hb : c.bytes) {p : Int} (h0 : 31 ≤ p) (h1 : p ≤ 2017) (b : Nat) : ∃ k, Reach c (c.bit p b).2 k := by
  have b1 := bound_pos c.rng p h.rng0 h0
  have b2 := bound_gap c.rng p h.rng0 h1
  unfold RC.bit
  by_cases hb0 : b = 0
  · rw [if_pos hb0]; exact h.reach_part hb (by omega) (by show 1 ≤ c.rng / 2048 * p; omega) (by omega)
  · rw [if_neg hb0]; exact h.reach_part hb (by show 0 ≤ c.rng / 2048 * p; omega) (by omega) (by omega)
def RC.gives : Nat → RC → RC
  | 0, c => c
  | k + 1, c => RC.gives k c.give
theorem give_low (c : RC) : c.give.low = c.low % 16777216 * 256 := by unfold RC.give; split <;> rfl
structure RC.Fin (c : RC) : Prop where
  low0 : 0 ≤ c.low
  low1 : c.low < 8589934592
  waits0 : 0 ≤ c.waits
  waits1 : c.waits < 256
  full : c.waits = 255 → c.low < 4294967296
  bytes : c.bytes
theorem RC.Fin.give {c : RC} (h : c.Fin) : c.give.Fin ∧ c.give.val = 256 * c.val ∧ c.give.len = c.len + 1 := by
  obtain ⟨h1, h2, h3, h4, h5, h6⟩ := h
  have e := give_low c
  refine ⟨⟨by rw [e]; omega, by rw [e]; omega, ?_, ?_, fun _ => by rw [e]; omega, give_bytes h6⟩, give_val c h1 h2 h3 h4 h5, give_len c⟩
  · unfold RC.give; split <;> dsimp only <;> omega
  · unfold RC.give; split <;> dsimp only <;> omega
theorem RC.Ok.fin {c : RC} {N : Nat} (h : c.Ok N) (hb : c.bytes) : c.Fin := by
  obtain ⟨h1, h2, h3, h4, h5, h6, h7, h8⟩ := h
  exact ⟨h1, by omega, h5, h6, fun e => by have := h7 e; omega, hb⟩
/-- the bytes at the end are the number, as many as were told. -/
theorem gives_out {c : RC} (h : c.Fin) : valL (c.gives 5).out = c.val ∧ (c.gives 5).out.length = c.len ∧ (c.gives 5).bytes := by
  obtain ⟨f1, v1, l1⟩ := h.give
  obtain ⟨f2, v2, l2⟩ := f1.give
  obtain ⟨f3, v3, l3⟩ := f2.give
  obtain ⟨f4, v4, l4⟩ := f3.give
  obtain ⟨f5, v5, l5⟩ := f4.give
  have e1 := give_low c
  have e2 := give_low c.give
  have e3 := give_low c.give.give
  have e4 := give_low c.give.give.give
  have hl : c.give.give.give.give.low = 0 := by omega
  have hm : c.give.give.give.give.moves := .inl (by omega)
  have hg : c.give.give.give.give.give = ⟨c.give.give.give.give.low % 16777216 * 256, c.give.give.give.give.rng, c.give.give.give.give.low / 16777216 % 256, 0, c.give.give.give.give.out ++ (c.give.give.give.give.waits + c.give.give.give.give.carry) % 256 :: List.replicate c.give.give.give.give.more ((255 + c.give.give.give.give.carry) % 256)⟩ := if_pos hm
  have w5 : c.give.give.give.give.give.waits = 0 := by rw [hg, hl]; rfl
  have m5 : c.give.give.give.give.give.more = 0 := by rw [hg]
  have o5 : c.give.give.give.give.give.low = 0 := by rw [hg, hl]; rfl
  show valL c.give.give.give.give.give.out = c.val ∧ c.give.give.give.give.give.out.length = c.len ∧ c.give.give.give.give.give.bytes
  refine ⟨?_, ?_, f5.bytes⟩
  · have : c.give.give.give.give.give.val = ((valL c.give.give.give.give.give.out * 256 + c.give.give.give.give.give.waits) * 256 ^ c.give.give.give.give.give.more + (256 ^ c.give.give.give.give.give.more - 1)) * 4294967296 + c.give.give.give.give.give.low := rfl
    rw [w5, m5, o5] at this
    simp only [Int.pow_zero, Int.mul_one] at this
    omega
  · have : c.give.give.give.give.give.len = c.give.give.give.give.give.out.length + c.give.give.give.give.give.more + 5 := rfl
    rw [m5] at this
    omega
/-- a coder that begins. -/
def RC.new : RC := ⟨0, 4294967295, 0, 0, []⟩
theorem new_ok (N : Nat) : RC.new.Ok N := ⟨by decide, by decide, by decide, by decide, by decide, by decide, by decide, Nat.zero_le _⟩
theorem new_bytes : RC.new.bytes := fun x hx => by simp [RC.new] at hx
theorem new_val : RC.new.val = 0 := by decide
theorem reach_top {c : RC} {k : Nat} (h : Reach RC.new c k) : c.val + c.rng ≤ 256 ^ (c.len - 1) ∧ 0 ≤ c.val := by
  have h1 := h.high
  have h2 := h.low
  have h3 := h.len
  have hp := pow_pos256 k
  rw [new_val] at h1 h2
  have e : c.len - 1 = k + 4 := by have : RC.new.len = 5 := rfl; omega
  have hr : RC.new.rng = 4294967295 := rfl
  rw [hr] at h1
  rw [e, Int.pow_add]
  have : (256 : Int) ^ 4 = 4294967296 := by decide
  rw [this]
  omega
theorem valL_nonneg {l : List Int} (h : ∀ x, x ∈ l → 0 ≤ x ∧ x < 256) : 0 ≤ valL l ∧ valL l < 256 ^ l.length := by
  have aux : ∀ n (l : List Int), l.length = n → (∀ x, x ∈ l → 0 ≤ x ∧ x < 256) → 0 ≤ valL l ∧ valL l < 256 ^ l.length := by
    intro n
    induction n with
    | zero =>
      intro l hl _
      have : l = [] := List.eq_nil_of_length_eq_zero hl
      subst this
      decide
    | succ n ih =>
      intro l hl hb
      obtain ⟨k, x, rfl⟩ : ∃ k x, l = k ++ [x] := by
        have hne : l ≠ [] := by intro e; subst e; simp at hl
        exact ⟨l.dropLast, l.getLast hne, (List.dropLast_concat_getLast hne).symm⟩
      have hk : k.length = n := by simpa using hl
      obtain ⟨h1, h2⟩ := ih k hk (fun y hy => hb y (by simp [hy]))
      have hx := hb x (by simp)
      rw [valL_snoc, List.length_append, List.length_singleton, Int.pow_succ]
      omega
  exact aux _ l rfl h
theorem valL_first {x : Int} {l : List Int} (h : ∀ y, y ∈ x :: l → 0 ≤ y ∧ y < 256) (hv : valL (x :: l) < 256 ^ l.length) : x = 0 := by
  have e : valL (x :: l) = x * 256 ^ l.length + valL l := by
    have := valL_append [x] l
    simpa [valL] using this
  have h1 := (valL_nonneg (l := l) fun y hy => h y (by simp [hy])).1
  have h2 := h x (by simp)
  have hp := pow_pos256 l.length
  rw [e] at hv
  apply Decidable.byContradiction
  intro hne
  have : 1 * 256 ^ l.length ≤ x * 256 ^ l.length := Int.mul_le_mul_of_nonneg_right (by omega) (by omega)
  omega
/-- rows of bytes that are one number, and as long, are one row. -/
theorem valL_inj : ∀ (a b : List Int), a.length = b.length → (∀ x, x ∈ a → 0 ≤ x ∧ x < 256) → (∀ x, x ∈ b → 0 ≤ x ∧ x < 256) → valL a = valL b → a = b := by
  intro a
  induction a with
  | nil => intro b hl _ _ _; exact (List.eq_nil_of_length_eq_zero (by simpa using hl.symm)).symm
  | cons x a ih =>
    intro b hl ha hb hv
    cases b with
    | nil => simp at hl
    | cons y b =>
      have hl' : a.length = b.length := by simpa using hl
      have e1 : valL (x :: a) = x * 256 ^ a.length + valL a := by
        have := valL_append [x] a
        simpa [valL] using this
      have e2 : valL (y :: b) = y * 256 ^ b.length + valL b := by
        have := valL_append [y] b
        simpa [valL] using this
      have n1 := valL_nonneg (l := a) fun z hz => ha z (by simp [hz])
      have n2 := valL_nonneg (l := b) fun z hz => hb z (by simp [hz])
      rw [e1, e2, hl'] at hv
      rw [hl'] at n1
      generalize (256 : Int) ^ b.length = P at *
      have hxy : x = y := by
        apply Decidable.byContradiction
        intro hne
        rcases Int.lt_or_gt_of_ne hne with h | h
        · have : (x + 1) * P ≤ y * P := Int.mul_le_mul_of_nonneg_right (by omega) (by omega)
          rw [Int.add_mul] at this
          omega
        · have : (y + 1) * P ≤ x * P := Int.mul_le_mul_of_nonneg_right (by omega) (by omega)
          rw [Int.add_mul] at this
          omega
      subst hxy
      rw [ih b hl' (fun z hz => ha z (by simp [hz])) (fun z hz => hb z (by simp [hz])) (by omega)]
end Go.Proofs.Ytjnegcambbeblaa

/- The range coder: Straight, Finish, Count, New. -/
namespace Go.Proofs.Ytjnegcambbeblaa
open Go.RowKit

theorem RC.Ok.str1 {c : RC} {N : Nat} (h : c.Ok N) (b : Nat) : (c.str1 b).Ok (N + 3) := by
  have h2 := h.rng0
  refine h.part ?_ (by omega) ?_
  · by_cases hb : b = 1
    · rw [if_pos hb]; omega
    · rw [if_neg hb]; omega
  · by_cases hb : b = 1
    · rw [if_pos hb]; omega
    · rw [if_neg hb]; omega

def newCells : Array Value := #[.int .u64 0, .int .u32 4294967295, .int .u8 0, .int .i64 0, .slice none 0 0]
end Go.Proofs.Ytjnegcambbeblaa

/- a number's bytes, one of which is turned; what a coder's number is below. -/
namespace Go.Proofs.Ytjnegcambbeblaa
open Go.RowKit

def bytesL (l : List Int) : Prop := ∀ x, x ∈ l → 0 ≤ x ∧ x < 256
theorem valL_cons (x : Int) (l : List Int) : valL (x :: l) = x * 256 ^ l.length + valL l := by
  have := valL_append [x] l
  rw [show valL [x] = x by show 0 * 256 + x = x; omega] at this
  exact this
theorem valL_set (l : List Int) (j : Nat) (x : Int) (hj : j < l.length) : valL (l.set j x) = valL l + (x - l.getD j 0) * 256 ^ (l.length - 1 - j) := by
  have e1 : l.set j x = l.take j ++ x :: l.drop (j + 1) := List.set_eq_take_append_cons_drop.trans (if_pos hj)
  have e2 : l = l.take j ++ l.getD j 0 :: l.drop (j + 1) := by
    have := List.take_append_drop j l
    rw [List.drop_eq_getElem_cons hj] at this
    rw [show l.getD j 0 = l[j] by simp [List.getD, hj]]
    exact this.symm
  have e3 : valL l = valL (l.take j ++ l.getD j 0 :: l.drop (j + 1)) := congrArg valL e2
  rw [e1, e3, valL_append, valL_append, valL_cons, valL_cons]
  have el : (l.drop (j + 1)).length = l.length - 1 - j := by rw [List.length_drop]; omega
  rw [List.length_cons, List.length_cons, el, Int.sub_mul]
  generalize valL (l.take j) * 256 ^ (l.length - 1 - j + 1) = a
  generalize valL (l.drop (j + 1)) = b
  generalize l.getD j 0 * 256 ^ (l.length - 1 - j) = c
  generalize x * 256 ^ (l.length - 1 - j) = d
  omega
theorem bytesL_set {l : List Int} (h : bytesL l) (j : Nat) {x : Int} (hx : 0 ≤ x ∧ x < 256) : bytesL (l.set j x) := by
  intro y hy
  rcases List.mem_or_eq_of_mem_set hy with hy | rfl
  · exact h y hy
  · exact hx
theorem bytesL_getD {l : List Int} (h : bytesL l) (j : Nat) : 0 ≤ l.getD j 0 ∧ l.getD j 0 < 256 := by
  by_cases hj : j < l.length
  · rw [show l.getD j 0 = l[j] by simp [List.getD, hj]]; exact h _ (List.getElem_mem hj)
  · rw [show l.getD j 0 = 0 by simp [List.getD, hj]]; omega
theorem bytesL_snoc {l : List Int} (h : bytesL l) : bytesL (l ++ [0]) := by
  intro y hy
  simp at hy
  rcases hy with hy | rfl
  · exact h y hy
  · omega
/-- one byte of a sum. -/
theorem add_step {l : List Int} {n : Nat} {x T : Int} (hn : n + 1 ≤ l.length) (hT : valL l + x * 256 ^ (l.length - (n + 1)) = T) :
    valL (l.set n ((x + l.getD n 0) % 256)) + (x + l.getD n 0) / 256 * 256 ^ (l.length - n) = T := by
  rw [valL_set l n _ (by omega), ← hT]
  have e : l.length - n = (l.length - 1 - n) + 1 := by omega
  have e2 : l.length - (n + 1) = l.length - 1 - n := by omega
  rw [e, e2, Int.pow_succ]
  generalize (256 : Int) ^ (l.length - 1 - n) = P
  generalize l.getD n 0 = b
  have h1 : ((x + b) % 256 - b) * P = (x + b) % 256 * P - b * P := Int.sub_mul _ _ _
  have h2 : (x + b) / 256 * (P * 256) = (x + b) / 256 * 256 * P := by rw [Int.mul_comm P, Int.mul_assoc]
  have h3 : x * P = (x + b - b) * P := by rw [show x + b - b = x by omega]
  have h4 : (x + b - b) * P = ((x + b) % 256 + (x + b) / 256 * 256) * P - b * P := by
    rw [show (x + b) % 256 + (x + b) / 256 * 256 = x + b by omega, Int.sub_mul]
  rw [h1, h2, h3, h4, Int.add_mul]
  omega
theorem add_done {l : List Int} (h : bytesL l) {x T : Int} (hx : 0 ≤ x) (hT : valL l + x * 256 ^ l.length = T) (hlt : T < 256 ^ l.length) : x = 0 := by
  have h1 := (valL_nonneg h).1
  have h2 := pow_pos256 l.length
  by_cases h0 : x = 0
  · exact h0
  · have : 1 * (256 : Int) ^ l.length ≤ x * 256 ^ l.length := Int.mul_le_mul_of_nonneg_right (by omega) (by omega)
    omega
theorem RC.Ok.below {c : RC} {N : Nat} (h : c.Ok N) (hb : c.bytes) : c.val + c.rng ≤ 256 ^ c.len ∧ 0 ≤ c.val := by
  obtain ⟨h1, h2, h3, h4, h5, h6, h7, h8⟩ := h
  obtain ⟨v0, v1⟩ := valL_nonneg hb
  have ep : (256 : Int) ^ c.len = (256 : Int) ^ c.out.length * 256 * 256 ^ c.more * 4294967296 := by
    unfold RC.len
    rw [Int.pow_add, Int.pow_add, show (256 : Int) ^ 5 = 256 * 4294967296 by decide]
    generalize (256 : Int) ^ c.out.length = a
    generalize (256 : Int) ^ c.more = b
    rw [← Int.mul_assoc, Int.mul_assoc a b 256, Int.mul_comm b 256, ← Int.mul_assoc a 256 b]
  have hp := pow_pos256 c.more
  unfold RC.val
  rw [ep]
  generalize (256 : Int) ^ c.out.length = a at *
  generalize valL c.out = v at *
  generalize (256 : Int) ^ c.more = P at *
  obtain ⟨X, hX⟩ : ∃ X, X = v * 256 + c.waits := ⟨_, rfl⟩
  rw [← hX]
  have hX0 : 0 ≤ X := by omega
  have hXP : 0 ≤ X * P := Int.mul_nonneg hX0 (by omega)
  refine ⟨?_, by omega⟩
  by_cases hw : c.waits = 255
  · have h7' := h7 hw
    have hX1 : X + 1 ≤ a * 256 := by omega
    have := Int.mul_le_mul_of_nonneg_right hX1 (show 0 ≤ P by omega)
    rw [Int.add_mul, Int.one_mul] at this
    generalize X * P = Y at *
    generalize a * 256 * P = Z at *
    omega
  · have hX1 : X + 2 ≤ a * 256 := by omega
    have := Int.mul_le_mul_of_nonneg_right hX1 (show 0 ≤ P by omega)
    rw [Int.add_mul] at this
    generalize X * P = Y at *
    generalize a * 256 * P = Z at *
    omega
/-- how many bytes more, the range tells. -/
theorem lev_once {r : Int} {j k : Nat} (h0 : 16777216 ≤ 256 ^ j * r) (h1 : 256 ^ j * r < 4294967296) (g0 : 16777216 ≤ 256 ^ k * r) (g1 : 256 ^ k * r < 4294967296) : j = k := by
  have aux : ∀ (a d : Nat), 16777216 ≤ 256 ^ a * r → 256 ^ (a + (d + 1)) * r < 4294967296 → False := by
    intro a d ha hd
    have e : (256 : Int) ^ (a + (d + 1)) * r = 256 ^ d * (256 * (256 ^ a * r)) := by
      rw [Int.pow_add, Int.pow_succ]
      generalize (256 : Int) ^ a = A
      generalize (256 : Int) ^ d = D
      rw [Int.mul_comm A, Int.mul_assoc, Int.mul_assoc]
    rw [e] at hd
    have hp := pow_pos256 d
    have : 1 * (256 * (256 ^ a * r)) ≤ 256 ^ d * (256 * (256 ^ a * r)) := Int.mul_le_mul_of_nonneg_right hp (by omega)
    omega
  rcases Nat.lt_trichotomy j k with hlt | h | hlt
  · obtain ⟨d, rfl⟩ := Nat.exists_eq_add_of_lt hlt
    exact (aux j d h0 (by rw [← Nat.add_assoc]; exact g1)).elim
  · exact h
  · obtain ⟨d, rfl⟩ := Nat.exists_eq_add_of_lt hlt
    exact (aux k d g0 (by rw [← Nat.add_assoc]; exact h1)).elim
end Go.Proofs.Ytjnegcambbeblaa
