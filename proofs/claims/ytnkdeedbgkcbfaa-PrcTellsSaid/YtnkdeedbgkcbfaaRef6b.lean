/- The document's decoder (06): level. -/
import Derived.Test.YtnkdeedbgkcbfaaRef6
namespace Go.Proofs.Ytnkdeedbgkcbfaa
open Go.RowKit

theorem feed_byte {f : Nat → Int} {n : Nat} (x : RD Nat) : 0 ≤ (x.next (feedNx f n)).1 ∧ (x.next (feedNx f n)).1 < 256 := by
  unfold RD.next
  by_cases h : x.bad = true
  · rw [if_pos h]; exact ⟨Int.le_refl 0, by show (0 : Int) < 256; decide⟩
  · rw [if_neg h]
    show 0 ≤ (feedNx f n x.src).1 ∧ (feedNx f n x.src).1 < 256
    unfold feedNx
    by_cases h2 : x.src < n
    · rw [if_pos h2]; show 0 ≤ f x.src % 256 ∧ f x.src % 256 < 256; omega
    · rw [if_neg h2]; exact ⟨Int.le_refl 0, by show (0 : Int) < 256; decide⟩
def rngAt2 (g : Nat) (w : World) : Nat := match w.cell? ⟨g, 2, none⟩ with | some (.int _ r) => 16777216 - r.toNat | _ => 0
theorem rngAt2_eq {a : Option Addr} {n cap : Nat} {f : Nat → Int} {lo g : Nat} {w : World} {x : RD Nat} (h : RefIs a n cap f lo g w x) : rngAt2 g w = 16777216 - x.rng.toNat := by
  unfold rngAt2
  rw [blk_cell h.at_ (j := 2) (v := .int .u64 x.rng) rfl]
set_option maxRecDepth 100000 in
set_option maxHeartbeats 4000000 in
theorem rplevel_any (a : Option Addr) (n cap : Nat) (f : Nat → Int) (hf : ∀ i, i < n → 0 ≤ f i ∧ f i < 256) (lo g : Nat) (x : RD Nat) (w : World) (hn : n ≤ 1048576) (h : RefIs a n cap f lo g w x) (hr : x.bad = false → 1 ≤ x.rng) :
    Calls Try.prog 35 #[.pointer (some ⟨g, 0, none⟩)] w (RPost a n cap f lo g w (.tuple #[]) (x.plevel (feedNx f n))) := by
  have H := hid h
  have Hf := hid hf
  have Hr := hid hr
  clear h hf hr
  go_enter Try.func35, Try.ntmps35
  go_wp2_with fail
  go_loopw [] (fun wr => ∃ (m : Nat) (x1 : RD Nat), m ≤ 3 ∧ RD.plev (feedNx f n) m x1 = x.plevel (feedNx f n) ∧ (x1.bad = false → 16777216 ≤ x1.rng * 256 ^ m) ∧ Fr (fun k => k = g) w wr ∧ RefIs a n cap f lo g wr x1) (fun wr => rngAt2 g wr)
  case atStart => exact ⟨3, x, by omega, rfl, fun e => by have := Hr.out e; omega, Fr.refl _ _, H.out⟩
  case round =>
    obtain ⟨m, ⟨src, rng, code, bad⟩, hm, hgo, hbig, hfr, href⟩ := hrel
    have c2 := blk_cell href.at_ (j := 2) (v := .int .u64 rng) rfl
    have c3 := blk_cell href.at_ (j := 3) (v := .int .u64 code) rfl
    have c4 := blk_cell href.at_ (j := 4) (v := .bool bad) rfl
    have f2 := blk_frozen href.at_ 2
    have f3 := blk_frozen href.at_ 3
    obtain ⟨o1, o2, o3, o4⟩ := href.ok
    simp only at o1 o2 o3 o4 hbig
    have Hgo := hid hgo
    have Hbig := hid hbig
    have HFR := hid hfr
    have HR := hid href
    clear hgo hbig hfr href
    by_cases hlt : rng < 16777216
    · cases bad with
      | true =>
        have hs : RD.plev (feedNx f n) m (⟨src, rng, code, true⟩ : RD Nat) = ⟨src, rng, code, true⟩ := plev_stop _ _ _ (fun e => Bool.noConfusion e.2)
        have HE := hid (hs.symm.trans Hgo.out)
        clear hs
        go_wp2_with fail
        go_end0
        rw [← HE.out]
        exact ⟨rfl, HFR.out, HR.out⟩
      | false =>
        have hm0 : m ≠ 0 := by
          intro e
          have := Hbig.out rfl
          rw [e] at this
          simp at this
          omega
        obtain ⟨m', rfl⟩ := Nat.exists_eq_succ_of_ne_zero hm0
        have hgo2 : RD.plev (feedNx f n) m' (RD.pstep (feedNx f n) ⟨src, rng, code, false⟩) = x.plevel (feedNx f n) := by
          rw [← Hgo.out]
          exact (if_pos ⟨hlt, rfl⟩).symm
        have hr1 : 1 ≤ rng := by
          have := Hbig.out rfl
          have hp := pow_pos256 m'.succ
          by_cases h0 : rng ≤ 0
          · have : rng * 256 ^ m'.succ ≤ 0 := Int.mul_nonpos_of_nonpos_of_nonneg h0 (by omega)
            omega
          · omega
        have HG := hid hgo2
        clear hgo2
        have hrw : IntKind.u64.wrap (rng * 256) = rng * 256 := by rw [IntKind.wrap_u64]; omega
        have hrt : (rng * 256).tmod 4294967296 = rng * 256 := by rw [Int.tmod_eq_emod_of_nonneg (by omega)]; omega
        have HS := hid (HR.out.set2 (r := rng * 256) (by omega) (by omega))
        have HN := hid (RD.next_rng (feedNx f n) (⟨src, rng, code, false⟩ : RD Nat) (rng * 256))
        obtain ⟨hb0, hb1⟩ := feed_byte (f := f) (n := n) (⟨src, rng, code, false⟩ : RD Nat)
        obtain ⟨b, hb⟩ : ∃ b, b = ((⟨src, rng, code, false⟩ : RD Nat).next (feedNx f n)).1 := ⟨_, rfl⟩
        rw [← hb] at hb0 hb1 HN
        have HB := hid hb
        clear hb
        go_wp2_with fail
        go_region_with (go_at_call 34; refine (rnext_any a n cap f Hf.out lo g ⟨src, rng * 256, code, false⟩ _ hn (by first | exact HS.out.drew | exact HS.out)).mono ?_; rw [HN.out]; rintro e w1 ⟨rfl, hf1, h1⟩; have k3 := blk_cell h1.at_ (j := 3) (v := .int .u64 code) rfl; have g3 := blk_frozen h1.at_ 3; have H1 := hid h1; have HF1 := hid (((Fr.refl (fun k => k = g) _).drew).trans hf1); clear h1 hf1)
        all_goals
          have e1 : IntKind.u64.wrap (code * 256) = code * 256 := by rw [IntKind.wrap_u64]; omega
          have e2 : IntKind.u64.wrap (code * 256 + b) = code * 256 + b := by rw [IntKind.wrap_u64]; omega
          have e3 : (IntKind.u64.wrap (IntKind.u64.wrap (code * 256) + b)).tmod 4294967296 = code * 256 % 4294967296 + b := by
            rw [e1, e2, Int.tmod_eq_emod_of_nonneg (by omega)]; omega
          have HZ := hid (H1.out.set3 (c := code * 256 % 4294967296 + b) (by omega) (by omega))
          rw [← e3] at HZ
          go_wp2_with fail
          go_roundw
          case rel =>
            refine ⟨m', RD.pstep (feedNx f n) ⟨src, rng, code, false⟩, by omega, HG.out, fun _ => ?_, HFR.out.trans (Fr.trans ((Fr.refl (fun k => k = g) wr).setOne _ _) (Fr.setOne HF1.out _ _)), ?_⟩
            · have := Hbig.out (by first | rfl | trivial)
              rw [Int.pow_succ, ← Int.mul_assoc] at this
              show 16777216 ≤ rng * 256 * 256 ^ m'
              rw [Int.mul_assoc, Int.mul_comm 256, ← Int.mul_assoc]
              exact this
            · unfold RD.pstep
              rw [← HB.out, ← e3]
              exact HZ.out
          case measure =>
            have hz := rngAt2_eq HZ.out
            have hr0 := rngAt2_eq HR.out
            rw [hr0]
            show rngAt2 g (w1.setCell ⟨g, 3, none⟩ _) < _
            rw [hz]
            show 16777216 - (rng * 256).toNat < 16777216 - rng.toNat
            omega
    · have hs : RD.plev (feedNx f n) m (⟨src, rng, code, bad⟩ : RD Nat) = ⟨src, rng, code, bad⟩ := plev_stop _ _ _ (fun e => hlt e.1)
      have HE := hid (hs.symm.trans Hgo.out)
      clear hs
      go_wp2_with fail
      go_end0
      rw [← HE.out]
      exact ⟨rfl, HFR.out, HR.out⟩
end Go.Proofs.Ytnkdeedbgkcbfaa
