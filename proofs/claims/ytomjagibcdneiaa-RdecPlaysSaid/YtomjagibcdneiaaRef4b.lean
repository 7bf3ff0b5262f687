/- The document's decoder (04): level, Bit. -/
import Derived.Test.YtomjagibcdneiaaRef4
namespace Go.Proofs.Ytomjagibcdneiaa
open Go.RowKit

theorem feed_byte {f : Nat → Int} {n : Nat} (x : RD Nat) : 0 ≤ (x.next (feedNx f n)).1 ∧ (x.next (feedNx f n)).1 < 256 := by
  unfold RD.next
  by_cases h : x.bad = true
  · rw [if_pos h]; exact ⟨Int.le_refl 0, by show (0 : Int) < 256; decide⟩
  · rw [if_neg h]
    show 0 ≤ (feedNx f n x.src).1 ∧ (feedNx f n x.src).1 < 256
    unfold feedNx
    by_cases h2 : x.src < n
    · rw [if_pos h2]; show 0 ≤ f x.src % 256 ∧ f x.src % 256 < 256; omega
    · rw [if_neg h2]; exact ⟨Int.le_refl 0, by show (0 : Int) < 256; decide⟩
set_option maxRecDepth 100000 in
set_option maxHeartbeats 2000000 in
theorem rlevel_any (a : Option Addr) (n cap : Nat) (f : Nat → Int) (hf : ∀ i, i < n → 0 ≤ f i ∧ f i < 256) (lo g : Nat) (x : RD Nat) (w : World) (hn : n ≤ 1048576) (h : RefIs a n cap f lo g w x) :
    Calls Try.prog 53 #[.pointer (some ⟨g, 0, none⟩)] w (RPost a n cap f lo g w (.tuple #[]) (x.level (feedNx f n))) := by
  have H := hid h
  have c2 := blk_cell h.at_ (j := 2) (v := .int .u64 x.rng) rfl
  have f2 := blk_frozen h.at_ 2
  obtain ⟨o1, o2, o3, o4⟩ := h.ok
  clear h
  by_cases hlt : x.rng < 16777216
  · rw [RD.level_lt _ _ hlt]
    have HS := hid (H.out.set2 (r := x.rng * 256) (by omega) (by omega))
    have c3 := blk_cell HS.out.at_ (j := 3) (v := .int .u64 x.code) rfl
    have HN := hid (RD.next_rng (feedNx f n) x (x.rng * 256))
    obtain ⟨hb0, hb1⟩ := feed_byte (f := f) (n := n) x
    obtain ⟨b, hb⟩ : ∃ b, b = (x.next (feedNx f n)).1 := ⟨_, rfl⟩
    rw [← hb] at hb0 hb1 HN ⊢
    have HB := hid hb
    clear hb
    go_enter Try.func53, Try.ntmps53
    go_wp2_with fail
    go_region_with (go_at_call 48; refine (rnext_any a n cap f hf lo g ⟨x.src, x.rng * 256, x.code, x.bad⟩ _ hn (by first | exact HS.out.drew | exact HS.out)).mono ?_; rw [HN.out]; rintro e w1 ⟨rfl, hf1, h1⟩; have k3 := blk_cell h1.at_ (j := 3) (v := .int .u64 x.code) rfl; have g3 := blk_frozen h1.at_ 3; have H1 := hid h1; have HF1 := hid (((Fr.refl (fun k => k = g) _).drew).trans hf1); clear h1 hf1)
    all_goals
      go_wp2_with fail
      go_end0
      refine ⟨rfl, Fr.trans ((Fr.refl (fun k => k = g) w).setOne _ _) (Fr.setOne HF1.out _ _), ?_⟩
      have e1 : IntKind.u64.wrap (x.code * 256) = x.code * 256 := by rw [IntKind.wrap_u64]; omega
      have e2 : IntKind.u64.wrap (x.code * 256 + b) = x.code * 256 + b := by rw [IntKind.wrap_u64]; omega
      have e : (IntKind.u64.wrap (IntKind.u64.wrap (x.code * 256) + b)).tmod 4294967296 = x.code * 256 % 4294967296 + b := by
        rw [e1, e2, Int.tmod_eq_emod_of_nonneg (by omega)]; omega
      rw [e]
      exact H1.out.set3 (by omega) (by omega)
  · rw [RD.level_ge _ _ hlt]
    clear hf
    go_enter Try.func53, Try.ntmps53
    go_wp2_with fail
    go_end0
    exact ⟨rfl, Fr.refl _ _, H.out⟩
def RBPost (a : Option Addr) (n cap : Nat) (f : Nat → Int) (lo g : Nat) (w : World) (r : Nat × Int × RD Nat) (e : Ending) (w' : World) : Prop :=
  e = .returned (.tuple #[.int .i64 r.1, .int .u16 r.2.1]) ∧ Fr (fun k => k = g) w w' ∧ RefIs a n cap f lo g w' r.2.2
set_option maxRecDepth 100000 in
set_option maxHeartbeats 4000000 in
theorem rbit_any (a : Option Addr) (n cap : Nat) (f : Nat → Int) (hf : ∀ i, i < n → 0 ≤ f i ∧ f i < 256) (lo g : Nat) (x : RD Nat) (p : Int) (w : World) (hn : n ≤ 1048576) (h : RefIs a n cap f lo g w x) (hp0 : 0 ≤ p) (hp1 : p ≤ 2048) :
    Calls Try.prog 49 #[.pointer (some ⟨g, 0, none⟩), .int .u16 p] w (RBPost a n cap f lo g w (x.bit (feedNx f n) p)) := by
  have H := hid h
  obtain ⟨src, rng, code, bad⟩ := x
  have c2 := blk_cell h.at_ (j := 2) (v := .int .u64 rng) rfl
  have c3 := blk_cell h.at_ (j := 3) (v := .int .u64 code) rfl
  have c4 := blk_cell h.at_ (j := 4) (v := .bool bad) rfl
  have f2 := blk_frozen h.at_ 2
  have f3 := blk_frozen h.at_ 3
  obtain ⟨o1, o2, o3, o4⟩ := h.ok
  simp only at o1 o2 o3 o4
  clear h
  have Hf := hid hf
  clear hf
  cases bad with
  | true =>
    have e : RD.bit (feedNx f n) (⟨src, rng, code, true⟩ : RD Nat) p = (0, p, ⟨src, rng, code, true⟩) := if_pos rfl
    rw [e]
    clear e
    go_enter Try.func49, Try.ntmps49
    go_wp2_with fail
    go_ret2
    exact ⟨rfl, Fr.refl _ _, H.out⟩
  | false =>
    obtain ⟨t, ht⟩ : ∃ t, t = rng / 2048 * p := ⟨_, rfl⟩
    have ht0 : 0 ≤ t := by rw [ht]; exact Int.mul_nonneg (by omega) hp0
    have ht1 : t ≤ rng := by
      have : rng / 2048 * p ≤ rng / 2048 * 2048 := Int.mul_le_mul_of_nonneg_left hp1 (by omega)
      omega
    have ht2 : rng / 2048 * p = t := ht.symm
    have htw : IntKind.u64.wrap t = t := by rw [IntKind.wrap_u64]; omega
    have hpw : IntKind.u64.wrap p = p := by rw [IntKind.wrap_u64]; omega
    have HT := hid ht
    clear ht
    by_cases hlt : code < t
    · have e : RD.bit (feedNx f n) (⟨src, rng, code, false⟩ : RD Nat) p = (0, p + (2048 - p) / 32, RD.level (feedNx f n) ⟨src, t, code, false⟩) := by
        unfold RD.bit
        rw [if_neg Bool.false_ne_true, if_pos (by show code < rng / 2048 * p; rw [ht2]; exact hlt), ← HT.out]
      rw [e]
      clear e
      have HS := hid (H.out.set2 (r := t) ht0 (by omega))
      go_enter Try.func49, Try.ntmps49
      go_wp2_with fail
      refine (rlevel_any a n cap f Hf.out lo g ⟨src, t, code, false⟩ _ hn HS.out).mono ?_
      rintro e w1 ⟨rfl, hf1, h1⟩
      have H1 := hid h1
      have HF1 := hid (Fr.trans ((Fr.refl (fun k => k = g) w).setOne _ _) hf1)
      clear hf1 h1
      have ev : IntKind.u16.wrap (p + IntKind.u16.wrap ((2048 - p).tdiv 32)) = p + (2048 - p) / 32 := by
        rw [Int.tdiv_eq_ediv_of_nonneg (by omega), IntKind.wrap_u16, IntKind.wrap_u16]; omega
      go_wp2_with fail
      go_ret2
      exact ⟨by rw [← ev]; rfl, HF1.out, H1.out⟩
    · have e : RD.bit (feedNx f n) (⟨src, rng, code, false⟩ : RD Nat) p = (if (RD.level (feedNx f n) ⟨src, rng - t, code - t, false⟩).bad = true then 0 else 1, p - p / 32, RD.level (feedNx f n) ⟨src, rng - t, code - t, false⟩) := by
        unfold RD.bit
        rw [if_neg Bool.false_ne_true, if_neg (by show ¬ code < rng / 2048 * p; rw [ht2]; exact hlt), ← HT.out]
      rw [e]
      clear e
      have HS := hid ((H.out.set3 (c := code - t) (by omega) (by omega)).set2 (r := rng - t) (by omega) (by omega))
      obtain ⟨x1, hx1⟩ : ∃ x1, x1 = RD.level (feedNx f n) (⟨src, rng - t, code - t, false⟩ : RD Nat) := ⟨_, rfl⟩
      rw [← hx1]
      have HX1 := hid hx1
      have ev : IntKind.u16.wrap (p - IntKind.u16.wrap (p.tdiv 32)) = p - p / 32 := by
        rw [Int.tdiv_eq_ediv_of_nonneg (by omega), IntKind.wrap_u16, IntKind.wrap_u16]; omega
      clear hx1
      cases hbad : x1.bad with
      | true =>
        rw [if_pos rfl]
        go_enter Try.func49, Try.ntmps49
        go_wp2_with fail
        refine (rlevel_any a n cap f Hf.out lo g ⟨src, rng - t, code - t, false⟩ _ hn HS.out).mono ?_
        rintro e w1 ⟨rfl, hf1, h1⟩
        rw [← HX1.out] at h1
        have k4 := blk_cell h1.at_ (j := 4) (v := .bool x1.bad) rfl
        rw [hbad] at k4
        have H1 := hid h1
        have HF1 := hid (Fr.trans (((Fr.refl (fun k => k = g) w).setOne _ _).setOne _ _) hf1)
        clear hf1 h1
        go_wp2_with fail
        go_ret2
        exact ⟨by rw [← ev]; rfl, HF1.out, H1.out⟩
      | false =>
        rw [if_neg Bool.false_ne_true]
        go_enter Try.func49, Try.ntmps49
        go_wp2_with fail
        refine (rlevel_any a n cap f Hf.out lo g ⟨src, rng - t, code - t, false⟩ _ hn HS.out).mono ?_
        rintro e w1 ⟨rfl, hf1, h1⟩
        rw [← HX1.out] at h1
        have k4 := blk_cell h1.at_ (j := 4) (v := .bool x1.bad) rfl
        rw [hbad] at k4
        have H1 := hid h1
        have HF1 := hid (Fr.trans (((Fr.refl (fun k => k = g) w).setOne _ _).setOne _ _) hf1)
        clear hf1 h1
        go_wp2_with fail
        go_ret2
        exact ⟨by rw [← ev]; rfl, HF1.out, H1.out⟩
end Go.Proofs.Ytomjagibcdneiaa
