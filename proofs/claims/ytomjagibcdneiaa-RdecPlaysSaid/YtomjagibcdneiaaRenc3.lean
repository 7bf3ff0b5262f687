/- The range coder: Bit. -/
import Derived.Test.YtomjagibcdneiaaRenc2
namespace Go.Proofs.Ytomjagibcdneiaa
open Go.RowKit

def BPost (A : Nat → Prop) (g gp o : Nat) (cs : Array Value) (T : TypeId) (w : World) (r : Int × RC) (e : Ending) (w' : World) : Prop :=
  e = .returned (.tuple #[]) ∧ Fr (fun k => ¬ A k ∨ k = gp) w w' ∧ CodIs A g w' r.2 ∧ w'.heap[gp]? = some (.cells (cs.setIfInBounds o (.int .u16 r.1)) T)
theorem CodIs.set {A : Nat → Prop} {g gp o : Nat} {w : World} {c : RC} (h : CodIs A g w c) (hA : A gp) (v : Value) : CodIs A g (w.setCell ⟨gp, o, none⟩ v) c :=
  h.keep ((Fr.refl (fun k => k = gp) w).setOne o v) (fun k e => by rw [e]; exact hA)

theorem CodIs.drewN {A : Nat → Prop} {g : Nat} {w : World} {c : RC} (h : CodIs A g w c) (n : Nat) : CodIs A g (w.drewN n) c := h.keep ((Fr.refl Non w).drewN n) (fun k e => e.elim)
theorem CodIs.drew {A : Nat → Prop} {g : Nat} {w : World} {c : RC} (h : CodIs A g w c) : CodIs A g w.drew c := h.keep ((Fr.refl Non w).drew) (fun k e => e.elim)
theorem bit_zero (c : RC) (p : Int) : c.bit p 0 = (p + (2048 - p) / 32, (⟨c.low, c.rng / 2048 * p, c.waits, c.more, c.out⟩ : RC).level) := by
  unfold RC.bit RC.part
  rw [if_pos rfl, Int.add_zero]
theorem bit_one (c : RC) (p : Int) : c.bit p 1 = (p - p / 32, (⟨c.low + c.rng / 2048 * p, c.rng - c.rng / 2048 * p, c.waits, c.more, c.out⟩ : RC).level) := rfl

set_option maxRecDepth 100000 in
set_option maxHeartbeats 2000000 in
theorem cbit_any (A : Nat → Prop) (g gp o N : Nat) (cs : Array Value) (T : TypeId) (c : RC) (p : Int) (b : Nat) (w : World) (h : CodIs A g w c) (hA : A gp) (hok : c.Ok N) (hN : N ≤ 1073741800)
    (hb : w.heap[gp]? = some (.cells cs T)) (hc : cs[o]? = some (.int .u16 p)) (hp0 : 31 ≤ p) (hp1 : p ≤ 2017) (hbit : b ≤ 1) :
    Calls Try.prog 15 #[.pointer (some ⟨g, 0, none⟩), .pointer (some ⟨gp, o, none⟩), .int .i64 b] w (BPost A g gp o cs T w (c.bit p b)) := by
  have hne : gp ≠ g := fun e => h.not (by rw [← e]; exact hA)
  have hne' : g ≠ gp := fun e => hne e.symm
  obtain ⟨v, hv⟩ := h
  have c0 := blk_cell hv.at_ (j := 0) (v := .int .u64 c.low) rfl
  have c1 := blk_cell hv.at_ (j := 1) (v := .int .u32 c.rng) rfl
  have cp := blk_cell hb hc
  have f0 := blk_frozen hv.at_ 0
  have f1 := blk_frozen hv.at_ 1
  have fp := blk_frozen hb o
  obtain ⟨o1, o2, o3, o4, o5, o6, o7, o8⟩ := hok
  have b1 := bound_pos c.rng p o2 hp0
  have b2 := bound_gap c.rng p o2 hp1
  have HV := hid (show CodIs A g w c from ⟨v, hv⟩)
  have Hb := hid hb
  have HO7 := hid o7
  clear hv hb o7
  rcases Nat.le_one_iff_eq_zero_or_eq_one.1 hbit with rfl | rfl
  · go_enter Try.func15, Try.ntmps15
    go_wp2
    go_quiet (fail)
    go_wp2
    go_region
    all_goals go_wp2_with fail
    refine (level_any A g ⟨c.low, c.rng / 2048 * p, c.waits, c.more, c.out⟩ _ (by exact ((cod_rng (HV.out.drewN _) _).set hA _).drew) ⟨by show 0 ≤ c.low; omega, by show c.low < _; omega, o5, o6, by show c.out.length + c.more ≤ _; omega⟩ (by show 1 ≤ c.rng / 2048 * p; omega) (by show c.rng / 2048 * p < _; omega)).mono ?_
    rintro e w1 ⟨rfl, hf1, hc1⟩
    have HF := hid hf1
    have HC := hid hc1
    clear hf1 hc1
    go_wp2_with fail
    go_end0
    rw [bit_zero]
    refine ⟨rfl, ?_, HC.out, ?_⟩
    · refine Fr.then (S := fun k => ¬ A k ∨ k = gp) ?_ HF.out (fun _ _ h => .inl h)
      refine Fr.drew ?_
      refine Fr.setCell ?_ (fun _ => .inr rfl) _
      refine Fr.setCell ?_ (fun _ => .inl HV.out.not) _
      exact (Fr.refl _ _).drewN _
    · exact HF.out.blk (blk_drew (blk_set (blk_set_ne (blk_drewN Hb.out) hne))) (fun e => e hA)
  · go_enter Try.func15, Try.ntmps15
    go_wp2
    go_quiet (fail)
    go_wp2
    go_region
    all_goals go_wp2_with fail
    refine (level_any A g ⟨c.low + c.rng / 2048 * p, c.rng - c.rng / 2048 * p, c.waits, c.more, c.out⟩ _ (by exact ((cod_rng (cod_low (HV.out.drewN _) _) _).set hA _).drew) ⟨by show 0 ≤ c.low + c.rng / 2048 * p; omega, by show c.low + c.rng / 2048 * p < _; omega, o5, o6, by show c.out.length + c.more ≤ _; omega⟩ (by show 1 ≤ c.rng - c.rng / 2048 * p; omega) (by show c.rng - c.rng / 2048 * p < _; omega)).mono ?_
    rintro e w1 ⟨rfl, hf1, hc1⟩
    have HF := hid hf1
    have HC := hid hc1
    clear hf1 hc1
    go_wp2_with fail
    go_end0
    rw [bit_one]
    refine ⟨rfl, ?_, HC.out, ?_⟩
    · refine Fr.then (S := fun k => ¬ A k ∨ k = gp) ?_ HF.out (fun _ _ h => .inl h)
      refine Fr.drew ?_
      refine Fr.setCell ?_ (fun _ => .inr rfl) _
      refine Fr.setCell ?_ (fun _ => .inl HV.out.not) _
      refine Fr.setCell ?_ (fun _ => .inl HV.out.not) _
      exact (Fr.refl _ _).drewN _
    · exact HF.out.blk (blk_drew (blk_set (blk_set_ne (blk_set_ne (blk_drewN Hb.out) hne) hne))) (fun e => e hA)
end Go.Proofs.Ytomjagibcdneiaa
