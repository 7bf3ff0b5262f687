/- The range coder: level, Bit. -/
import Derived.Test.YtomjagibcdneiaaRenc
namespace Go.Proofs.Ytomjagibcdneiaa
open Go.RowKit

def rngIn (g : Nat) (w : World) : Nat := match w.cell? ⟨g, 1, none⟩ with | some (.int _ r) => 16777216 - r.toNat | _ => 0
theorem rngIn_eq {A : Nat → Prop} {g : Nat} {w : World} {c : RC} (h : CodIs A g w c) : rngIn g w = 16777216 - c.rng.toNat := by
  obtain ⟨v, hv⟩ := h
  unfold rngIn
  rw [blk_cell hv.at_ (j := 1) (v := .int .u32 c.rng) rfl]
theorem cod_rng {A : Nat → Prop} {g : Nat} {w : World} {c : RC} (h : CodIs A g w c) (r : Int) : CodIs A g (w.setCell ⟨g, 1, none⟩ (.int .u32 r)) ⟨c.low, r, c.waits, c.more, c.out⟩ := by
  obtain ⟨v, hv⟩ := h
  exact ⟨v, blk_set (i := 1) hv.at_, hv.own.fr (S := fun k => k = g) ((Fr.refl _ _).setOne _ _) (fun k hk e => (hv.sep k hk).1 e), hv.sep, fun k hk => by have := hv.old k hk; simpa using this, hv.not⟩
theorem cod_low {A : Nat → Prop} {g : Nat} {w : World} {c : RC} (h : CodIs A g w c) (l : Int) : CodIs A g (w.setCell ⟨g, 0, none⟩ (.int .u64 l)) ⟨l, c.rng, c.waits, c.more, c.out⟩ := by
  obtain ⟨v, hv⟩ := h
  exact ⟨v, blk_set (i := 0) hv.at_, hv.own.fr (S := fun k => k = g) ((Fr.refl _ _).setOne _ _) (fun k hk e => (hv.sep k hk).1 e), hv.sep, fun k hk => by have := hv.old k hk; simpa using this, hv.not⟩
theorem CodIs.not {A : Nat → Prop} {g : Nat} {w : World} {c : RC} (h : CodIs A g w c) : ¬ A g := by
  obtain ⟨v, hv⟩ := h
  exact hv.not

set_option maxRecDepth 100000 in
set_option maxHeartbeats 2000000 in
theorem level_any (A : Nat → Prop) (g : Nat) (c : RC) (w : World) (h : CodIs A g w c) (hf : c.Fit 1073741820) (h1 : 1 ≤ c.rng) (h2 : c.rng < 4294967296) :
    Calls Try.prog 38 #[.pointer (some ⟨g, 0, none⟩)] w (CPost A g w c.level) := by
  have H := hid h
  have Hf := hid hf
  clear h hf
  go_enter Try.func38, Try.ntmps38
  go_wp2
  go_loopw [] (fun wr => ∃ (n : Nat) (c1 : RC), n ≤ 3 ∧ c1.lev n = c.level ∧ 16777216 ≤ c1.rng * 256 ^ n ∧ 1 ≤ c1.rng ∧ c1.rng < 4294967296 ∧ c1.Fit (1073741823 - n) ∧ Fr (Out A) w wr ∧ CodIs A g wr c1) (fun wr => rngIn g wr)
  case atStart =>
    exact ⟨3, c, by omega, rfl, by omega, h1, h2, Hf.out, Fr.refl _ _, H.out⟩
  case round =>
    obtain ⟨n, c1, hn, hlev, hr, hr1, hr2, hfit, hfr, hc⟩ := hrel
    obtain ⟨v, hv⟩ := hc
    have k1 := blk_cell hv.at_ (j := 1) (v := .int .u32 c1.rng) rfl
    have g1 := blk_frozen hv.at_ 1
    have HV := hid (show CodIs A g wr c1 from ⟨v, hv⟩)
    have HFR := hid hfr
    have HL := hid hlev
    have HR := hid hr
    have HFIT := hid hfit
    clear hv hfr hlev hr hfit
    by_cases hlt : c1.rng < 16777216
    · have hn0 : n ≠ 0 := by
        intro e
        have := HR.out
        rw [e] at this
        simp at this
        omega
      obtain ⟨k, rfl⟩ := Nat.exists_eq_succ_of_ne_zero hn0
      go_wp2_with fail
      refine (give_any A g ⟨c1.low, c1.rng * 256, c1.waits, c1.more, c1.out⟩ _ (cod_rng HV.out _) HFIT.out.1 HFIT.out.2 ⟨HFIT.out.3, HFIT.out.4⟩ (by have := HFIT.out.5; show c1.out.length + c1.more ≤ _; omega)).mono ?_
      rintro e w1 ⟨rfl, hf1, hc1⟩
      have HF1 := hid hf1
      have HC1 := hid hc1
      clear hf1 hc1
      go_wp2_with fail
      go_roundw
      case rel =>
        refine ⟨k, _, by omega, ?_, ?_, ?_, ?_, ?_, HFR.out.trans (Fr.trans (Fr.setCell (p := ⟨g, 1, none⟩) (Fr.refl _ _) (fun _ => HV.out.not) _) HF1.out), HC1.out⟩
        · rw [← HL.out]
          exact (if_pos hlt).symm
        · rw [give_rng]
          have e : c1.rng * 256 * 256 ^ k = c1.rng * 256 ^ (k + 1) := by rw [Int.pow_succ, Int.mul_assoc, Int.mul_comm 256]
          show 16777216 ≤ c1.rng * 256 * 256 ^ k
          rw [e]; exact HR.out
        · rw [give_rng]; show 1 ≤ c1.rng * 256; omega
        · rw [give_rng]; show c1.rng * 256 < _; omega
        · have hh := HFIT.out
          have h3 : (⟨c1.low, c1.rng * 256, c1.waits, c1.more, c1.out⟩ : RC).Fit (1073741823 - (k + 1)) := ⟨hh.1, hh.2, hh.3, hh.4, hh.5⟩
          exact h3.give.1.mono (by omega)
      case measure =>
        rw [rngIn_eq HC1.out, rngIn_eq HV.out, give_rng]
        show _ - (c1.rng * 256).toNat < _
        omega
    · go_wp2_with fail
      go_end0
      have e := HL.out
      rw [lev_stop _ _ (by omega)] at e
      rw [← e]
      exact ⟨rfl, HFR.out, HV.out⟩
end Go.Proofs.Ytomjagibcdneiaa
