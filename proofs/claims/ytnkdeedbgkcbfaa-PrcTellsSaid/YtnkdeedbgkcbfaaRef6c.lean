/- The document's decoder (06): Place, Take. -/
import Derived.Test.YtnkdeedbgkcbfaaRef6b
namespace Go.Proofs.Ytnkdeedbgkcbfaa
open Go.RowKit

set_option maxRecDepth 100000 in
set_option maxHeartbeats 4000000 in
theorem rplace_any (a : Option Addr) (n cap : Nat) (f : Nat → Int) (lo g t : Nat) (x : RD Nat) (w : World) (h : RefIs a n cap f lo g w x) (h0 : 1 ≤ t) (h1 : t ≤ 1048576) (hr : x.bad = false → 16777216 ≤ x.rng) :
    Calls Try.prog 25 #[.pointer (some ⟨g, 0, none⟩), .int .u32 t] w (RPost a n cap f lo g w (.int .u32 (x.place t).1) (x.place t).2) := by
  have H := hid h
  obtain ⟨src, rng, code, bad⟩ := x
  have c2 := blk_cell h.at_ (j := 2) (v := .int .u64 rng) rfl
  have c3 := blk_cell h.at_ (j := 3) (v := .int .u64 code) rfl
  have c4 := blk_cell h.at_ (j := 4) (v := .bool bad) rfl
  have f2 := blk_frozen h.at_ 2
  have f4 := blk_frozen h.at_ 4
  obtain ⟨o1, o2, o3, o4⟩ := h.ok
  simp only at o1 o2 o3 o4 hr
  clear h
  cases bad with
  | true =>
    have e : RD.place (⟨src, rng, code, true⟩ : RD Nat) t = (0, ⟨src, rng, code, true⟩) := if_pos rfl
    rw [e]
    clear e hr
    go_enter Try.func25, Try.ntmps25
    go_wp2_with fail
    go_ret
    exact ⟨rfl, Fr.refl _ _, H.out⟩
  | false =>
    have hr' := hr rfl
    clear hr
    obtain ⟨q, hq⟩ : ∃ q, q = rng / (t : Int) := ⟨_, rfl⟩
    have hq1 : 1 ≤ q := by rw [hq]; exact Int.le_ediv_of_mul_le (by omega) (by omega)
    have hq2 : q ≤ rng := by rw [hq]; exact Int.ediv_le_self _ (by omega)
    have hq3 : rng / (t : Int) = q := hq.symm
    have ht0 : ¬ ((t : Int) = 0) := by omega
    have hq0 : ¬ (q = 0) := by omega
    have htw : IntKind.u64.wrap (t : Int) = (t : Int) := by rw [IntKind.wrap_u64]; omega
    obtain ⟨v, hv⟩ : ∃ v, v = code / q := ⟨_, rfl⟩
    have hv0 : 0 ≤ v := by rw [hv]; exact Int.ediv_nonneg o3 (by omega)
    have hv1 : v ≤ code := by rw [hv]; exact Int.ediv_le_self _ o3
    have hv3 : code / q = v := hv.symm
    have HQ := hid hq
    have HV := hid hv
    clear hq hv
    have HS := hid (H.out.set2 (r := q) (by omega) (by omega))
    by_cases hle : (t : Int) ≤ v
    · have e : RD.place (⟨src, rng, code, false⟩ : RD Nat) t = (0, ⟨src, q, code, true⟩) := by
        unfold RD.place
        rw [if_neg Bool.false_ne_true]
        show (if (t : Int) ≤ code / (rng / t) then _ else _) = _
        rw [hq3, hv3, if_pos hle]
      rw [e]
      clear e
      go_enter Try.func25, Try.ntmps25
      go_upto_region 4 with fail
      go_quiet (fail)
      go_wp2_with fail
      go_ret
      refine ⟨rfl, Fr.setOne (Fr.drewN (Fr.setOne (Fr.refl _ _) _ _) _) _ _, (HS.out.drewN _).set4 true⟩
    · have e : RD.place (⟨src, rng, code, false⟩ : RD Nat) t = (v, ⟨src, q, code, false⟩) := by
        unfold RD.place
        rw [if_neg Bool.false_ne_true]
        show (if (t : Int) ≤ code / (rng / t) then _ else _) = _
        rw [hq3, hv3, if_neg hle]
      rw [e]
      clear e
      have hvw : IntKind.u32.wrap v = v := by rw [IntKind.wrap_u32']; omega
      go_enter Try.func25, Try.ntmps25
      go_upto_region 4 with fail
      go_quiet (fail)
      go_wp2_with fail
      go_ret
      exact ⟨by first | rfl | (congr 2), Fr.drewN (Fr.setOne (Fr.refl _ _) _ _) _, HS.out.drewN _⟩
set_option maxRecDepth 100000 in
set_option maxHeartbeats 4000000 in
theorem rtake_any (a : Option Addr) (n cap : Nat) (f : Nat → Int) (hf : ∀ i, i < n → 0 ≤ f i ∧ f i < 256) (lo g s z : Nat) (x : RD Nat) (w : World) (hn : n ≤ 1048576) (h : RefIs a n cap f lo g w x) (hs : (s : Int) < 4294967296) (hz : (z : Int) < 4294967296)
    (h1 : x.bad = false → (s : Int) * x.rng ≤ x.code ∧ 1 ≤ x.rng * z ∧ x.rng * z < 4294967296) :
    Calls Try.prog 26 #[.pointer (some ⟨g, 0, none⟩), .int .u32 s, .int .u32 z] w (RPost a n cap f lo g w (.tuple #[]) (x.take (feedNx f n) s z)) := by
  have H := hid h
  obtain ⟨src, rng, code, bad⟩ := x
  have c2 := blk_cell h.at_ (j := 2) (v := .int .u64 rng) rfl
  have c3 := blk_cell h.at_ (j := 3) (v := .int .u64 code) rfl
  have c4 := blk_cell h.at_ (j := 4) (v := .bool bad) rfl
  have f2 := blk_frozen h.at_ 2
  have f3 := blk_frozen h.at_ 3
  obtain ⟨o1, o2, o3, o4⟩ := h.ok
  simp only at o1 o2 o3 o4 h1
  have Hf := hid hf
  clear h hf
  cases bad with
  | true =>
    have e : RD.take (feedNx f n) (⟨src, rng, code, true⟩ : RD Nat) s z = ⟨src, rng, code, true⟩ := if_pos rfl
    rw [e]
    clear e h1
    go_enter Try.func26, Try.ntmps26
    go_wp2_with fail
    go_end0
    exact ⟨rfl, Fr.refl _ _, H.out⟩
  | false =>
    obtain ⟨t1, t2, t3⟩ := h1 rfl
    clear h1
    have hsr0 : 0 ≤ (s : Int) * rng := Int.mul_nonneg (by omega) o1
    have e : RD.take (feedNx f n) (⟨src, rng, code, false⟩ : RD Nat) s z = RD.plevel (feedNx f n) ⟨src, rng * z, code - s * rng, false⟩ := if_neg Bool.false_ne_true
    rw [e]
    clear e
    obtain ⟨u, hu⟩ : ∃ u, u = (s : Int) * rng := ⟨_, rfl⟩
    obtain ⟨y, hy⟩ : ∃ y, y = rng * (z : Int) := ⟨_, rfl⟩
    rw [← hu] at t1 hsr0 ⊢
    rw [← hy] at t2 t3 ⊢
    have hsw : IntKind.u64.wrap (s : Int) = (s : Int) := by rw [IntKind.wrap_u64]; omega
    have hzw : IntKind.u64.wrap (z : Int) = (z : Int) := by rw [IntKind.wrap_u64]; omega
    have hu3 : (s : Int) * rng = u := hu.symm
    have hy3 : rng * (z : Int) = y := hy.symm
    have huw : IntKind.u64.wrap u = u := by rw [IntKind.wrap_u64]; omega
    have hyw : IntKind.u64.wrap y = y := by rw [IntKind.wrap_u64]; omega
    have hcw : IntKind.u64.wrap (code + 4611686018427387904) = code + 4611686018427387904 := by rw [IntKind.wrap_u64]; omega
    have hcw2 : IntKind.u64.wrap (code + 4611686018427387904 - u) = code + 4611686018427387904 - u := by rw [IntKind.wrap_u64]; omega
    have hct : (code + 4611686018427387904 - u).tmod 4294967296 = code - u := by rw [Int.tmod_eq_emod_of_nonneg (by omega)]; omega
    have hyt : y.tmod 4294967296 = y := by rw [Int.tmod_eq_emod_of_nonneg (by omega)]; omega
    have HS := hid ((H.out.set3 (c := code - u) (by omega) (by omega)).set2 (r := y) (by omega) t3)
    clear hu hy
    go_enter Try.func26, Try.ntmps26
    go_wp2_with fail
    go_region
    all_goals
      go_wp2_with fail
      refine (rplevel_any a n cap f Hf.out lo g ⟨src, y, code - u, false⟩ _ hn (by exact HS.out.drew) (fun _ => t2)).mono ?_
      rintro e w1 ⟨rfl, hf1, h1⟩
      have H1 := hid h1
      have HF1 := hid (Fr.trans (Fr.drew (Fr.setOne (Fr.setOne (Fr.refl (fun k => k = g) w) _ _) _ _)) hf1)
      clear hf1 h1
      go_wp2_with fail
      go_end0
      exact ⟨rfl, HF1.out, H1.out⟩
end Go.Proofs.Ytnkdeedbgkcbfaa
