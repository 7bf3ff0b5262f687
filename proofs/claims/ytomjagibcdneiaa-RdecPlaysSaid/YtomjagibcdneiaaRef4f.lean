/- The document's decoder (04): New. -/
import Derived.Test.YtomjagibcdneiaaRef4b
namespace Go.Proofs.Ytomjagibcdneiaa
open Go.RowKit

def RNewPost (a : Option Addr) (n cap : Nat) (f : Nat → Int) (lo : Nat) (w : World) (x : RD Nat) (e : Ending) (w' : World) : Prop :=
  ∃ g, w.heap.size ≤ g ∧ g < w'.heap.size ∧ e = .returned (.pointer (some ⟨g, 0, none⟩)) ∧ Fr Non w w' ∧ RefIs a n cap f lo g w' x
set_option maxRecDepth 100000 in
set_option maxHeartbeats 4000000 in
theorem rnew_any (a : Option Addr) (n cap : Nat) (f : Nat → Int) (hf : ∀ i, i < n → 0 ≤ f i ∧ f i < 256) (lo : Nat) (w : World) (hn : n ≤ 1048576) (hr : RowIn lo .u8 w a n f) (hlo : lo ≤ w.heap.size) :
    Calls Try.prog 31 #[.slice a n cap] w (RNewPost a n cap f lo w (RD.new (feedNx f n) 0)) := by
  obtain ⟨g, hg⟩ : ∃ g, g = w.heap.size := ⟨_, rfl⟩
  obtain ⟨W, hW⟩ : ∃ W, W = w.alloc (.cells #[.slice a n cap, .int .i64 0, .int .u64 4294967295, .int .u64 0, .bool false] 64) := ⟨_, rfl⟩
  have hfw : Fr Non w W := by rw [hW]; exact (Fr.refl Non w).alloc _
  have R0 := hid (show RefIs a n cap f lo g W (⟨0, 4294967295, 0, false⟩ : RD Nat) from ⟨by rw [hW, hg]; exact blk_new w _, hr.fr hfw (fun _ _ => id), by omega, Nat.zero_le _, ⟨by show (0 : Int) ≤ 4294967295; decide, by show (4294967295 : Int) < 4294967296; decide, by show (0 : Int) ≤ 0; decide, by show (0 : Int) < 4294967296; decide⟩⟩)
  have Hf := hid hf
  have HFW := hid hfw
  have HG := hid hg
  clear hf hr hfw
  go_enter Try.func31, Try.ntmps31
  go_wp2_with fail
  rw [← hW, ← hg]
  have HW := hid hW
  clear hW hg
  obtain ⟨x, hx⟩ : ∃ x, x = (RD.next (feedNx f n) (⟨0, 4294967295, 0, false⟩ : RD Nat)).1 := ⟨_, rfl⟩
  have hcall := rnext_any a n cap f Hf.out lo g (⟨0, 4294967295, 0, false⟩ : RD Nat) W hn R0.out
  have hs := dnext_same (feedNx f n) (⟨0, 4294967295, 0, false⟩ : RD Nat)
  rw [hs, ← hx] at hcall
  have HX := hid hx
  have HSm := hid hs
  clear hx hs
  refine hcall.mono ?_
  clear hcall
  rintro e w1 ⟨rfl, hf1, hd1⟩
  have HF1 := hid hf1
  have HD1 := hid hd1
  have c4 := blk_cell hd1.at_ (j := 4) (v := .bool (RD.next (feedNx f n) (⟨0, 4294967295, 0, false⟩ : RD Nat)).2.bad) rfl
  have f4 := blk_frozen hd1.at_ 4
  clear hf1 hd1
  go_upto_if 12 with fail
  go_cut [] (fun wx => Fr (fun k => k = g) W wx ∧ RefIs a n cap f lo g wx (RD.first (feedNx f n) 0) ∧ (RD.first (feedNx f n) 0).code = 0)
  case first =>
    by_cases h0 : x = 0
    · have H0 := hid h0
      have h1 : (x != 0) = false := by rw [h0]; rfl
      have h2 : (x == 0) = true := by rw [h0]; rfl
      clear h0
      go_wp2_with fail
      go_meet
      have e : RD.first (feedNx f n) 0 = ⟨(RD.next (feedNx f n) (⟨0, 4294967295, 0, false⟩ : RD Nat)).2.src, 4294967295, 0, (RD.next (feedNx f n) (⟨0, 4294967295, 0, false⟩ : RD Nat)).2.bad⟩ := by
        unfold RD.first
        rw [← HX.out, if_pos H0.out]
        exact HSm.out
      rw [e]
      exact ⟨HF1.out, HD1.out, rfl⟩
    · have H0 := hid h0
      have h1 : (x != 0) = true := by simpa using h0
      have h2 : (x == 0) = false := by simpa using h0
      clear h0
      go_wp2_with fail
      go_meet
      have e : RD.first (feedNx f n) 0 = ⟨(RD.next (feedNx f n) (⟨0, 4294967295, 0, false⟩ : RD Nat)).2.src, 4294967295, 0, true⟩ := by
        unfold RD.first
        rw [← HX.out, if_neg H0.out]
      rw [e]
      exact ⟨HF1.out.setOne _ _, HD1.out.set4 true, rfl⟩
  case rest =>
    obtain ⟨hf0, hd0, hc0⟩ := hcut
    have HF := hid hf0
    have HD := hid hd0
    have HC0 := hid hc0
    clear hf0 hd0 hc0 c4 f4
    go_upto_block 0 with fail
    go_cut [] (fun wx => Fr (fun k => k = g) W wx ∧ RefIs a n cap f lo g wx (RD.four (feedNx f n) 4 (RD.first (feedNx f n) 0)))
    case first =>
      go_wp2_with fail
      go_loopw [5] (fun i wr => ∃ (k : Nat) (d1 : RD Nat), k ≤ 4 ∧ i = .int .i64 k ∧ d1.code < 256 ^ k ∧ RD.four (feedNx f n) (4 - k) d1 = RD.four (feedNx f n) 4 (RD.first (feedNx f n) 0) ∧ Fr (fun k => k = g) W wr ∧ RefIs a n cap f lo g wr d1)
        (fun i _ => 4 - (intOf i).toNat)
      case atStart => exact ⟨0, RD.first (feedNx f n) 0, by decide, rfl, by rw [HC0.out]; decide, rfl, HF.out, HD.out⟩
      case round =>
        obtain ⟨k, d1, hk, rfl, hck, hgo, hfr, hdec⟩ := hrel
        have c3 := blk_cell hdec.at_ (j := 3) (v := .int .u64 d1.code) rfl
        have f3 := blk_frozen hdec.at_ 3
        have o3 := hdec.ok.2.2.1
        have Hgo := hid hgo
        have Hfr := hid hfr
        have Hdec := hid hdec
        have Hck := hid hck
        clear hgo hfr hdec hck
        by_cases hlt : k < 4
        · have hc24 : d1.code < 16777216 := by
            have := Hck.out
            rcases (by omega : k = 0 ∨ k = 1 ∨ k = 2 ∨ k = 3) with rfl | rfl | rfl | rfl <;> omega
          obtain ⟨y, hy⟩ : ∃ y, y = (d1.next (feedNx f n)).1 := ⟨_, rfl⟩
          have hyb : 0 ≤ y ∧ y < 256 := by rw [hy]; exact feed_byte d1
          have hcall : ∀ w0, RefIs a n cap f lo g w0 d1 → Calls Try.prog 48 #[.pointer (some ⟨g, 0, none⟩)] w0 (RPost a n cap f lo g w0 (.int .u64 y) ⟨(d1.next (feedNx f n)).2.src, d1.rng, d1.code, (d1.next (feedNx f n)).2.bad⟩) := fun w0 h0 => by
            have h := rnext_any a n cap f Hf.out lo g d1 w0 hn h0
            rw [dnext_same (feedNx f n) d1, ← hy] at h
            exact h
          have HC := hid hcall
          have HY := hid hy
          obtain ⟨hb0, hb1⟩ := hyb
          clear hcall hy
          go_wp2_with fail
          go_region_with (go_at_call 48; refine (HC.out _ (by first | exact Hdec.out.drew | exact Hdec.out)).mono ?_; rintro e w2 ⟨rfl, hf2, hd2⟩; have k3 := blk_cell hd2.at_ (j := 3) (v := .int .u64 d1.code) rfl; have g3 := blk_frozen hd2.at_ 3; have HF2 := hid (((Fr.refl (fun k => k = g) _).drew).trans hf2); have HD2 := hid hd2; clear hf2 hd2)
          all_goals
            have e1 : IntKind.u64.wrap (d1.code * 256) = d1.code * 256 := by rw [IntKind.wrap_u64]; omega
            have e2 : IntKind.u64.wrap (d1.code * 256 + y) = d1.code * 256 + y := by rw [IntKind.wrap_u64]; omega
            go_wp2_with fail
            go_roundw
            case rel =>
              refine ⟨k + 1, ⟨(d1.next (feedNx f n)).2.src, d1.rng, d1.code * 256 % 4294967296 + (d1.next (feedNx f n)).1, (d1.next (feedNx f n)).2.bad⟩, by omega, by go_num, ?_, ?_, Hfr.out.trans (Fr.setOne HF2.out _ _), ?_⟩
              · have := Hck.out
                rw [← HY.out]
                show d1.code * 256 % 4294967296 + y < 256 ^ (k + 1)
                rw [Int.pow_succ]
                omega
              · have e : 4 - k = (4 - (k + 1)) + 1 := by omega
                have := Hgo.out
                rw [e] at this
                exact this
              · rw [← HY.out, show d1.code * 256 % 4294967296 + y = d1.code * 256 + y by omega]
                have := HD2.out.set3 (c := d1.code * 256 + y) (by omega) (by omega)
                simpa [e1, e2] using this
            case measure => simp [intOf]; omega
        · have e : k = 4 := by omega
          subst e
          have hgo := Hgo.out
          rw [Nat.sub_self] at hgo
          have HG := hid (show d1 = RD.four (feedNx f n) 4 (RD.first (feedNx f n) 0) from hgo)
          clear hgo
          go_wp2_with fail
          go_meet
          rw [← HG.out]
          exact ⟨Hfr.out, Hdec.out⟩
    case rest =>
      obtain ⟨hf0, hd0⟩ := hcut
      obtain ⟨d4, hd4⟩ : ∃ d4, d4 = RD.four (feedNx f n) 4 (RD.first (feedNx f n) 0) := ⟨_, rfl⟩
      have e : RD.new (feedNx f n) 0 = ⟨d4.src, d4.rng, d4.code, d4.bad || decide (d4.rng ≤ d4.code)⟩ := by rw [hd4]; rfl
      rw [← hd4] at hd0
      have c2 := blk_cell hd0.at_ (j := 2) (v := .int .u64 d4.rng) rfl
      have c3 := blk_cell hd0.at_ (j := 3) (v := .int .u64 d4.code) rfl
      have c4 := blk_cell hd0.at_ (j := 4) (v := .bool d4.bad) rfl
      have f4 := blk_frozen hd0.at_ 4
      have hgl := blk_lt hd0.at_
      have HE := hid e
      have HF := hid hf0
      have HD := hid hd0
      clear hf0 hd0 hd4 e
      by_cases hle : d4.rng ≤ d4.code
      · have hde : decide (d4.rng ≤ d4.code) = true := decide_eq_true hle
        have HDE := hid hde
        clear hde
        go_wp2_with fail
        go_quiet (fail)
        go_wp2_with fail
        go_ret
        rw [HE.out, HDE.out, Bool.or_true]
        refine ⟨g, by rw [HG.out]; exact Nat.le_refl _, by simpa using hgl, rfl, ?_, (HD.out.drewN _).set4 true⟩
        exact HFW.out.then (Fr.setOne (HF.out.drewN _) _ _) (fun i hi e => by have := HG.out; omega)
      · have hde : decide (d4.rng ≤ d4.code) = false := decide_eq_false hle
        have HDE := hid hde
        clear hde
        go_wp2_with fail
        go_quiet (fail)
        go_wp2_with fail
        go_ret
        rw [HE.out, HDE.out, Bool.or_false]
        refine ⟨g, by rw [HG.out]; exact Nat.le_refl _, by simpa using hgl, rfl, ?_, HD.out.drewN _⟩
        exact HFW.out.then (HF.out.drewN _) (fun i hi e => by have := HG.out; omega)
end Go.Proofs.Ytomjagibcdneiaa
