/- The document's coder (05): Bit. -/
import Derived.Test.YtomjagibcdneiaaEnc5b
import Derived.Test.YtomjagibcdneiaaAsk
namespace Go.Proofs.Ytomjagibcdneiaa
open Go.RowKit

def EBPost (A : Nat → Prop) (g : Nat) (w : World) (r : Int × RC) (e : Ending) (w' : World) : Prop :=
  e = .returned (.int .u16 r.1) ∧ Fr (Out A) w w' ∧ EncC A g w' r.2
theorem bit_zero' (c : RC) (p : Int) : c.bit p 0 = (p + (2048 - p) / 32, c.part 0 (c.rng / 2048 * p)) := if_pos rfl
theorem bit_one' (c : RC) (p : Int) : c.bit p 1 = (p - p / 32, c.part (c.rng / 2048 * p) (c.rng - c.rng / 2048 * p)) := rfl
set_option maxRecDepth 100000 in
set_option maxHeartbeats 2000000 in
theorem ebit_any (A : Nat → Prop) (g N : Nat) (c : RC) (p : Int) (b : Nat) (w : World) (h : EncC A g w c) (hok : c.Ok N) (hby : c.bytes) (hN : N ≤ 1073741700) (hp0 : 31 ≤ p) (hp1 : p ≤ 2017) (hbit : b ≤ 1) :
    Calls Try.prog 42 #[.pointer (some ⟨g, 0, none⟩), .int .u16 p, .int .i64 b] w (EBPost A g w (c.bit p b)) := by
  have hnot := h.not
  have HH := hid h
  obtain ⟨v, B, hv, hb, hlen, hval⟩ := h
  have c1 := blk_cell hv.at_ (j := 1) (v := .int .u64 c.rng) rfl
  have f1 := blk_frozen hv.at_ 1
  have o2 := hok.rng0
  have o3 := hok.rng1
  have hL : c.len ≤ 1073741800 := by have := hok.size; unfold RC.len; omega
  have hL0 : 0 < c.len := by unfold RC.len; omega
  have b1 := bound_pos c.rng p o2 hp0
  have b2 := bound_gap c.rng p o2 hp1
  have HO := hid hok
  have HB := hid hby
  have HBE := hid (hok.below hby)
  clear hv hb hlen hval hok hby
  obtain ⟨x, hx⟩ : ∃ x, x = c.rng / 2048 * p := ⟨_, rfl⟩
  rw [← hx] at b1 b2
  have HX := hid hx
  rcases Nat.le_one_iff_eq_zero_or_eq_one.1 hbit with rfl | rfl
  · rw [bit_zero', ← hx]
    clear hx
    have hxr : c.rng / 2048 * p = x := HX.out.symm
    have hxm : c.rng / 2048 * p % 18446744073709551616 = x := by rw [hxr]; omega
    go_enter Try.func42, Try.ntmps42
    go_wp2_with fail
    refine (elevel_any A g c.val c.len x _ (enc_rng HH.out x) (by omega) (by omega) (by omega)).mono ?_
    rintro e w1 ⟨rfl, hf1, k, he1, hk0, hk1⟩
    have HE := hid (enc_part HO.out HB.out (a := 0) (r := x) (Int.le_refl 0) (by omega) (by omega) (k := k) (by rw [Int.add_zero]; exact he1) hk0 hk1)
    have HF := hid ((Fr.setCell (p := ⟨g, 1, none⟩) (Fr.refl (Out A) w) (fun _ => hnot) (.int .u64 x)).trans hf1)
    clear hf1 he1
    have ev : IntKind.u16.wrap (p + IntKind.u16.wrap ((2048 - p).tdiv 32)) = p + (2048 - p) / 32 := by
      rw [Int.tdiv_eq_ediv_of_nonneg (by omega), IntKind.wrap_u16, IntKind.wrap_u16]; omega
    go_wp2_with fail
    go_ret
    exact ⟨by rw [← ev]; rfl, HF.out, HE.out⟩
  · rw [bit_one', ← hx]
    clear hx
    have hxr : c.rng / 2048 * p = x := HX.out.symm
    have hxm : c.rng / 2048 * p % 18446744073709551616 = x := by rw [hxr]; omega
    go_enter Try.func42, Try.ntmps42
    go_wp2_with fail
    refine (eadd_any A g c.val c.len c.rng x _ HH.out hL0 (by omega) (by omega) (by omega) (by have := HBE.out.1; omega)).mono ?_
    rintro e w1 ⟨rfl, hf1, he1⟩
    obtain ⟨v1, B1, hv1, q1⟩ := he1
    have c1' := blk_cell hv1.at_ (j := 1) (v := .int .u64 c.rng) rfl
    have f1' := blk_frozen hv1.at_ 1
    have HE1 := hid (show EncIs A g w1 (c.val + x) c.len c.rng from ⟨v1, B1, hv1, q1⟩)
    have HF1 := hid hf1
    clear c1 f1 hf1 hv1 q1
    go_wp2_with fail
    refine (elevel_any A g (c.val + x) c.len (c.rng - x) _ (enc_rng HE1.out (c.rng - x)) (by omega) (by omega) (by omega)).mono ?_
    rintro e w2 ⟨rfl, hf2, k, he2, hk0, hk1⟩
    have HE := hid (enc_part HO.out HB.out (a := x) (r := c.rng - x) (by omega) (by omega) (by omega) (k := k) he2 hk0 hk1)
    have HF := hid (HF1.out.trans ((Fr.setCell (p := ⟨g, 1, none⟩) (Fr.refl (Out A) w1) (fun _ => hnot) (.int .u64 (c.rng - x))).trans hf2))
    clear hf2 he2
    have ev : IntKind.u16.wrap (p - IntKind.u16.wrap (p.tdiv 32)) = p - p / 32 := by
      rw [Int.tdiv_eq_ediv_of_nonneg (by omega), IntKind.wrap_u16, IntKind.wrap_u16]; omega
    go_wp2_with fail
    go_ret
    exact ⟨by rw [← ev]; rfl, HF.out, HE.out⟩
end Go.Proofs.Ytomjagibcdneiaa
