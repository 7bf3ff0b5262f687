/- The document's decoder (06): Bit. -/
import Derived.Test.YtnkdeedbgkcbfaaRef6b
namespace Go.Proofs.Ytnkdeedbgkcbfaa
open Go.RowKit

def RPBitPost (a : Option Addr) (n cap : Nat) (f : Nat → Int) (lo g : Nat) (w : World) (r : Nat × RD Nat) (e : Ending) (w' : World) : Prop :=
  e = .returned (.int .i64 r.1) ∧ Fr (fun k => k = g) w w' ∧ RefIs a n cap f lo g w' r.2
theorem two_pow_pos (t : Nat) : (1 : Int) ≤ 2 ^ t := by
  induction t with
  | zero => decide
  | succ t ih => rw [Int.pow_succ]; omega
set_option maxRecDepth 100000 in
set_option maxHeartbeats 4000000 in
theorem rpbit_any (a : Option Addr) (n cap : Nat) (f : Nat → Int) (hf : ∀ i, i < n → 0 ≤ f i ∧ f i < 256) (lo g z t : Nat) (x : RD Nat) (w : World) (hn : n ≤ 1048576) (h : RefIs a n cap f lo g w x) (ht : t ≤ 16) (hz0 : 1 ≤ z) (hz1 : z < 2 ^ t) (hr : x.bad = false → 16777216 ≤ x.rng) :
    Calls Try.prog 24 #[.pointer (some ⟨g, 0, none⟩), .int .u32 z, .int .i64 t] w (RPBitPost a n cap f lo g w (x.pbit (feedNx f n) z t)) := by
  have H := hid h
  obtain ⟨src, rng, code, bad⟩ := x
  have c2 := blk_cell h.at_ (j := 2) (v := .int .u64 rng) rfl
  have c3 := blk_cell h.at_ (j := 3) (v := .int .u64 code) rfl
  have c4 := blk_cell h.at_ (j := 4) (v := .bool bad) rfl
  have f2 := blk_frozen h.at_ 2
  have f3 := blk_frozen h.at_ 3
  obtain ⟨o1, o2, o3, o4⟩ := h.ok
  simp only at o1 o2 o3 o4 hr
  have Hf := hid hf
  clear h hf
  cases bad with
  | true =>
    have e : RD.pbit (feedNx f n) (⟨src, rng, code, true⟩ : RD Nat) z t = (0, ⟨src, rng, code, true⟩) := if_pos rfl
    rw [e]
    clear e hr
    go_enter Try.func24, Try.ntmps24
    go_wp2_with fail
    go_ret
    exact ⟨rfl, Fr.refl _ _, H.out⟩
  | false =>
    have hr' := hr rfl
    clear hr
    have hp16 : (2 : Int) ^ t ≤ 65536 := by
      have h := Nat.pow_le_pow_right (show 0 < 2 by decide) ht
      have h2 : ((2 ^ t : Nat) : Int) ≤ ((2 ^ 16 : Nat) : Int) := Int.ofNat_le.2 h
      simpa using h2
    have hp1 := two_pow_pos t
    have hz2 : (z : Int) < 2 ^ t := by
      have h2 : ((z : Nat) : Int) < ((2 ^ t : Nat) : Int) := Int.ofNat_lt.2 hz1
      simpa using h2
    obtain ⟨P, hP⟩ : ∃ P, P = (2 : Int) ^ t := ⟨_, rfl⟩
    rw [← hP] at hp16 hp1 hz2
    obtain ⟨q, hq⟩ : ∃ q, q = rng / P := ⟨_, rfl⟩
    have hq1 : 1 ≤ q := by rw [hq]; exact Int.le_ediv_of_mul_le (by omega) (by omega)
    have hqP : q * P ≤ rng := by rw [hq]; exact Int.ediv_mul_le _ (by omega)
    have hq3 : rng / P = q := hq.symm
    obtain ⟨y, hy⟩ : ∃ y, y = q * (z : Int) := ⟨_, rfl⟩
    have hy1 : 1 * 1 ≤ y := by rw [hy]; exact Int.mul_le_mul hq1 (by omega) (by omega) (by omega)
    have hy2 : y + 1 ≤ rng := by
      have h1 : q * (z : Int) + q * 1 ≤ q * P := by rw [← Int.mul_add]; exact Int.mul_le_mul_of_nonneg_left (by omega) (by omega)
      rw [← hy] at h1
      omega
    have hy3 : q * (z : Int) = y := hy.symm
    have hzw : IntKind.u64.wrap (z : Int) = (z : Int) := by rw [IntKind.wrap_u64]; omega
    have hyw : IntKind.u64.wrap y = y := by rw [IntKind.wrap_u64]; omega
    have hP0 : ¬ (P = 0) := by omega
    have hbound : rng / 2 ^ t * (z : Int) = y := by rw [← hP, hq3, hy3]
    have HBo := hid hbound
    have HPo := hid hP
    clear hP hq hy hbound hqP
    by_cases hlt : code < y
    · have e : RD.pbit (feedNx f n) (⟨src, rng, code, false⟩ : RD Nat) z t = (0, RD.plevel (feedNx f n) ⟨src, y, code, false⟩) := by
        unfold RD.pbit
        rw [if_neg Bool.false_ne_true, if_pos (by show code < rng / 2 ^ t * (z : Int); rw [HBo.out]; exact hlt)]
        show (0, RD.plevel (feedNx f n) ⟨src, rng / 2 ^ t * (z : Int), code, false⟩) = _
        rw [HBo.out]
      rw [e]
      clear e
      have HS := hid (H.out.set2 (r := y) (by omega) (by omega))
      go_enter Try.func24, Try.ntmps24
      go_upto_block 0 with fail
      go_cut [7] (fun pv wx => pv = .int .u64 P ∧ wx = w)
      case first =>
        go_wp2_with fail
        go_loopw [7, 8] (fun pv iv wr => ∃ j : Nat, j ≤ t ∧ iv = .int .i64 j ∧ pv = .int .u64 (2 ^ j) ∧ wr = w) (fun _ iv _ => t - (intOf iv).toNat)
        case atStart => exact ⟨0, Nat.zero_le _, rfl, rfl, rfl⟩
        case round =>
          obtain ⟨j, hj, rfl, rfl, rfl⟩ := hrel
          obtain ⟨b, hb⟩ : ∃ b, b = (2 : Int) ^ j := ⟨_, rfl⟩
          have hb1 : 1 ≤ b := by rw [hb]; exact two_pow_pos j
          have hb2 : b ≤ 65536 := by
            have h1 := Nat.pow_le_pow_right (show 0 < 2 by decide) (show j ≤ 16 by omega)
            have h2 : ((2 ^ j : Nat) : Int) ≤ ((2 ^ 16 : Nat) : Int) := Int.ofNat_le.2 h1
            rw [hb]; simpa using h2
          rw [← hb]
          have HB := hid hb
          clear hb
          by_cases hjt : j < t
          · go_wp2_with fail
            go_roundw
            case rel => exact ⟨j + 1, by omega, by go_num, by rw [HB.out, Int.pow_succ], by first | rfl | trivial⟩
            case measure => simp [intOf]; omega
          · have e : j = t := by omega
            subst e
            go_wp2_with fail
            go_meet
            exact ⟨by rw [HB.out, HPo.out], rfl⟩
      case rest =>
        obtain ⟨hpv, hwx⟩ := hcut
        have hwx' := hwx.symm
        subst hpv hwx'
        go_wp2_with fail
        refine (rplevel_any a n cap f Hf.out lo g ⟨src, y, code, false⟩ _ hn (by first | exact HS.out.drewN _ | exact HS.out) (fun _ => by show 1 ≤ y; omega)).mono ?_
        rintro e w1 ⟨rfl, hf1, h1⟩
        obtain ⟨x1, hx1⟩ : ∃ x1, x1 = RD.plevel (feedNx f n) (⟨src, y, code, false⟩ : RD Nat) := ⟨_, rfl⟩
        rw [← hx1] at h1
        have k4 := blk_cell h1.at_ (j := 4) (v := .bool x1.bad) rfl
        have HX1 := hid hx1
        have H1 := hid h1
        have HF1 := hid (Fr.trans ((Fr.refl (fun k => k = g) w).setOne _ _) hf1)
        clear hf1 h1 hx1
        cases hbad : x1.bad with
        | true =>
          rw [hbad] at k4
          go_wp2_with fail
          go_ret
          rw [← HX1.out]
          exact ⟨rfl, HF1.out, H1.out⟩
        | false =>
          rw [hbad] at k4
          go_wp2_with fail
          go_ret
          rw [← HX1.out]
          exact ⟨rfl, HF1.out, H1.out⟩
    · have e : RD.pbit (feedNx f n) (⟨src, rng, code, false⟩ : RD Nat) z t = (if (RD.plevel (feedNx f n) ⟨src, rng - y, code - y, false⟩).bad = true then 0 else 1, RD.plevel (feedNx f n) ⟨src, rng - y, code - y, false⟩) := by
        unfold RD.pbit
        rw [if_neg Bool.false_ne_true, if_neg (by show ¬ code < rng / 2 ^ t * (z : Int); rw [HBo.out]; exact hlt)]
        show (if (RD.plevel (feedNx f n) ⟨src, rng - rng / 2 ^ t * (z : Int), code - rng / 2 ^ t * (z : Int), false⟩).bad = true then 0 else 1, RD.plevel (feedNx f n) ⟨src, rng - rng / 2 ^ t * (z : Int), code - rng / 2 ^ t * (z : Int), false⟩) = _
        rw [HBo.out]
      rw [e]
      clear e
      have HS := hid ((H.out.set3 (c := code - y) (by omega) (by omega)).set2 (r := rng - y) (by omega) (by omega))
      obtain ⟨x1, hx1⟩ : ∃ x1, x1 = RD.plevel (feedNx f n) (⟨src, rng - y, code - y, false⟩ : RD Nat) := ⟨_, rfl⟩
      rw [← hx1]
      have HX1 := hid hx1
      clear hx1
      cases hbad : x1.bad with
      | true =>
        rw [if_pos rfl]
        go_enter Try.func24, Try.ntmps24
        go_upto_block 0 with fail
        go_cut [7] (fun pv wx => pv = .int .u64 P ∧ wx = w)
        case first =>
          go_wp2_with fail
          go_loopw [7, 8] (fun pv iv wr => ∃ j : Nat, j ≤ t ∧ iv = .int .i64 j ∧ pv = .int .u64 (2 ^ j) ∧ wr = w) (fun _ iv _ => t - (intOf iv).toNat)
          case atStart => exact ⟨0, Nat.zero_le _, rfl, rfl, rfl⟩
          case round =>
            obtain ⟨j, hj, rfl, rfl, rfl⟩ := hrel
            obtain ⟨b, hb⟩ : ∃ b, b = (2 : Int) ^ j := ⟨_, rfl⟩
            have hb1 : 1 ≤ b := by rw [hb]; exact two_pow_pos j
            have hb2 : b ≤ 65536 := by
              have h1 := Nat.pow_le_pow_right (show 0 < 2 by decide) (show j ≤ 16 by omega)
              have h2 : ((2 ^ j : Nat) : Int) ≤ ((2 ^ 16 : Nat) : Int) := Int.ofNat_le.2 h1
              rw [hb]; simpa using h2
            rw [← hb]
            have HB := hid hb
            clear hb
            by_cases hjt : j < t
            · go_wp2_with fail
              go_roundw
              case rel => exact ⟨j + 1, by omega, by go_num, by rw [HB.out, Int.pow_succ], by first | rfl | trivial⟩
              case measure => simp [intOf]; omega
            · have e : j = t := by omega
              subst e
              go_wp2_with fail
              go_meet
              exact ⟨by rw [HB.out, HPo.out], rfl⟩
        case rest =>
          obtain ⟨hpv, hwx⟩ := hcut
          have hwx' := hwx.symm
          subst hpv hwx'
          go_wp2_with fail
          refine (rplevel_any a n cap f Hf.out lo g ⟨src, rng - y, code - y, false⟩ _ hn (by first | exact HS.out.drewN _ | exact HS.out) (fun _ => by show 1 ≤ rng - y; omega)).mono ?_
          rintro e w1 ⟨rfl, hf1, h1⟩
          rw [← HX1.out] at h1
          have k4 := blk_cell h1.at_ (j := 4) (v := .bool x1.bad) rfl
          rw [hbad] at k4
          have H1 := hid h1
          have HF1 := hid (Fr.trans (((Fr.refl (fun k => k = g) w).setOne _ _).setOne _ _) hf1)
          clear hf1 h1
          go_wp2_with fail
          go_ret
          exact ⟨rfl, HF1.out, H1.out⟩
      | false =>
        rw [if_neg Bool.false_ne_true]
        go_enter Try.func24, Try.ntmps24
        go_upto_block 0 with fail
        go_cut [7] (fun pv wx => pv = .int .u64 P ∧ wx = w)
        case first =>
          go_wp2_with fail
          go_loopw [7, 8] (fun pv iv wr => ∃ j : Nat, j ≤ t ∧ iv = .int .i64 j ∧ pv = .int .u64 (2 ^ j) ∧ wr = w) (fun _ iv _ => t - (intOf iv).toNat)
          case atStart => exact ⟨0, Nat.zero_le _, rfl, rfl, rfl⟩
          case round =>
            obtain ⟨j, hj, rfl, rfl, rfl⟩ := hrel
            obtain ⟨b, hb⟩ : ∃ b, b = (2 : Int) ^ j := ⟨_, rfl⟩
            have hb1 : 1 ≤ b := by rw [hb]; exact two_pow_pos j
            have hb2 : b ≤ 65536 := by
              have h1 := Nat.pow_le_pow_right (show 0 < 2 by decide) (show j ≤ 16 by omega)
              have h2 : ((2 ^ j : Nat) : Int) ≤ ((2 ^ 16 : Nat) : Int) := Int.ofNat_le.2 h1
              rw [hb]; simpa using h2
            rw [← hb]
            have HB := hid hb
            clear hb
            by_cases hjt : j < t
            · go_wp2_with fail
              go_roundw
              case rel => exact ⟨j + 1, by omega, by go_num, by rw [HB.out, Int.pow_succ], by first | rfl | trivial⟩
              case measure => simp [intOf]; omega
            · have e : j = t := by omega
              subst e
              go_wp2_with fail
              go_meet
              exact ⟨by rw [HB.out, HPo.out], rfl⟩
        case rest =>
          obtain ⟨hpv, hwx⟩ := hcut
          have hwx' := hwx.symm
          subst hpv hwx'
          go_wp2_with fail
          refine (rplevel_any a n cap f Hf.out lo g ⟨src, rng - y, code - y, false⟩ _ hn (by first | exact HS.out.drewN _ | exact HS.out) (fun _ => by show 1 ≤ rng - y; omega)).mono ?_
          rintro e w1 ⟨rfl, hf1, h1⟩
          rw [← HX1.out] at h1
          have k4 := blk_cell h1.at_ (j := 4) (v := .bool x1.bad) rfl
          rw [hbad] at k4
          have H1 := hid h1
          have HF1 := hid (Fr.trans (((Fr.refl (fun k => k = g) w).setOne _ _).setOne _ _) hf1)
          clear hf1 h1
          go_wp2_with fail
          go_ret
          exact ⟨rfl, HF1.out, H1.out⟩
end Go.Proofs.Ytnkdeedbgkcbfaa
