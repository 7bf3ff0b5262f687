/- The range decoder: a bit. -/
import Derived.Test.YtomjagibcdneiaaRdec
namespace Go.Proofs.Ytomjagibcdneiaa
open Go.RowKit

/-- a bit with the probability p: the bit, the probability then, the decoder then. -/
def RD.bit {S : Type} (nx : S → Int × Bool × S) (d : RD S) (p : Int) : Nat × Int × RD S :=
  if d.bad = true then (0, p, d)
  else if d.code < d.rng / 2048 * p then (0, p + (2048 - p) / 32, RD.level nx ⟨d.src, d.rng / 2048 * p, d.code, d.bad⟩)
  else (if (RD.level nx ⟨d.src, d.rng - d.rng / 2048 * p, d.code - d.rng / 2048 * p, d.bad⟩).bad = true then 0 else 1, p - p / 32, RD.level nx ⟨d.src, d.rng - d.rng / 2048 * p, d.code - d.rng / 2048 * p, d.bad⟩)
def bitFoot {S : Type} (s : Sour S) (g gp k : Nat) : Prop := decFoot s g k ∨ k = gp
/-- what Bit leaves: the answer, the decoder, and in block gp the probability at o. -/
def BitPost {S : Type} (s : Sour S) (g gp o : Nat) (cs : Array Value) (T : TypeId) (w : World) (r : Nat × Int × RD S) (e : Ending) (w' : World) : Prop :=
  e = .returned (.int .i64 r.1) ∧ Fr (bitFoot s g gp) w w' ∧ DecIs s g w' r.2.2 ∧ w'.heap[gp]? = some (.cells (cs.setIfInBounds o (.int .u16 r.2.1)) T)
theorem set_same {cs : Array Value} {o : Nat} {v : Value} (h : cs[o]? = some v) : cs.setIfInBounds o v = cs := by
  apply Array.ext_getElem?
  intro j
  rw [Array.getElem?_setIfInBounds]
  by_cases e : o = j
  · subst e
    rw [if_pos rfl, h, if_pos (Array.getElem?_eq_some_iff.1 h).1]
  · rw [if_neg e]
theorem bound_le (r p : Int) (h0 : 0 ≤ r) (hp : p ≤ 2048) : r / 2048 * p ≤ r := by
  have h1 : r / 2048 * p ≤ r / 2048 * 2048 := Int.mul_le_mul_of_nonneg_left hp (by omega)
  omega
theorem bound_nn (r p : Int) (h0 : 0 ≤ r) (hp : 0 ≤ p) : 0 ≤ r / 2048 * p := Int.mul_nonneg (by omega) hp

set_option maxRecDepth 100000 in
set_option maxHeartbeats 1000000 in
theorem dbit_any {S : Type} (s : Sour S) (g gp o : Nat) (cs : Array Value) (T : TypeId) (d : RD S) (p : Int) (w : World) (h : DecIs s g w d) (hg : ¬ decFoot s g gp)
    (hb : w.heap[gp]? = some (.cells cs T)) (hc : cs[o]? = some (.int .u16 p)) (hp0 : 0 ≤ p) (hp1 : p ≤ 2048) :
    Calls Try.prog 34 #[.pointer (some ⟨g, 0, none⟩), .pointer (some ⟨gp, o, none⟩)] w (BitPost s g gp o cs T w (d.bit s.nx p)) := by
  have c1 := blk_cell h.at_ (j := 1) (v := .int .u32 d.rng) rfl
  have c2 := blk_cell h.at_ (j := 2) (v := .int .u32 d.code) rfl
  have c3 := blk_cell h.at_ (j := 3) (v := .bool d.bad) rfl
  have cp := blk_cell hb hc
  have f1 := blk_frozen h.at_ 1
  have f2 := blk_frozen h.at_ 2
  have fp := blk_frozen hb o
  obtain ⟨o1, o2, o3, o4⟩ := h.ok
  have hne : gp ≠ g := fun e => hg (.inl e)
  have hne' : g ≠ gp := fun e => hne e.symm
  have H := hid h
  have Hg := hid hg
  have Hb := hid hb
  have Hc := hid hc
  clear h hg hb hc
  cases hbad : d.bad with
  | true =>
    rw [hbad] at c3
    have HB := hid hbad
    clear hbad
    go_enter Try.func34, Try.ntmps34
    go_wp2
    go_ret
    unfold RD.bit
    rw [if_pos HB.out]
    exact ⟨rfl, Fr.refl _ _, H.out, by rw [set_same Hc.out]; exact Hb.out⟩
  | false =>
    rw [hbad] at c3
    have HB := hid hbad
    clear hbad
    have hbd0 := bound_nn d.rng p o1 hp0
    have hbd1 := bound_le d.rng p o1 hp1
    by_cases hlt : d.code < d.rng / 2048 * p
    · obtain ⟨B, hB⟩ : ∃ B, B = d.rng / 2048 * p := ⟨_, rfl⟩
      obtain ⟨D, hD⟩ : ∃ D, D = RD.level s.nx ⟨d.src, B, d.code, d.bad⟩ := ⟨_, rfl⟩
      have e : d.bit s.nx p = (0, p + (2048 - p) / 32, D) := by
        unfold RD.bit
        rw [if_neg (by rw [HB.out]; decide), if_pos hlt, hD, hB]
      have e2 : ∀ w0, DecIs s g w0 ⟨d.src, B, d.code, d.bad⟩ → Calls Try.prog 52 #[.pointer (some ⟨g, 0, none⟩)] w0 (DPost s g w0 (.tuple #[]) D) := fun w0 h0 => by
        rw [hD]; exact dlevel_any s g _ w0 h0
      have E := hid e
      have E2 := hid e2
      have HBB := hid hB
      have hB0 : 0 ≤ B := by rw [hB]; exact hbd0
      have hB1 : B ≤ d.rng := by rw [hB]; exact hbd1
      clear e e2 hD hB
      go_enter Try.func34, Try.ntmps34
      go_wp2
      go_quiet (fail)
      go_wp2
      go_region
      all_goals go_wp2_with fail
      rw [← HBB.out]
      refine (E2.out _ (by
        refine DecIs.drew ?_
        refine DecIs.keep (T := fun k => k = gp) ?_ (Fr.setOne (Fr.refl _ _) _ _) (fun k hk e => Hg.out (e ▸ hk))
        exact (H.out.drewN _).set 1 _ rfl rfl ⟨hB0, by show B < _; omega, o3, o4⟩)).mono ?_
      rintro e w1 ⟨rfl, hf1, hd1⟩
      have HF := hid hf1
      have HD := hid hd1
      have c3n := blk_cell hd1.at_ (j := 3) (v := .bool D.bad) rfl
      clear hf1 hd1
      have hfin : BitPost s g gp o cs T w (0, p + (2048 - p) / 32, D) (.returned (.int .i64 0)) w1 := by
        refine ⟨rfl, ?_, HD.out, ?_⟩
        · refine Fr.then (S := bitFoot s g gp) ?_ HF.out (fun _ _ h => .inl h)
          refine Fr.drew ?_
          refine Fr.setCell ?_ (fun _ => .inr rfl) _
          refine Fr.setCell ?_ (fun _ => .inl (.inl rfl)) _
          exact (Fr.refl _ _).drewN _
        · exact HF.out.blk (blk_drew (blk_set (blk_set_ne (blk_drewN Hb.out) hne))) Hg.out
      have HFin := hid hfin
      clear hfin
      cases hDb : D.bad with
      | true =>
        rw [hDb] at c3n
        go_wp2_with fail
        go_ret
        rw [E.out]
        exact HFin.out
      | false =>
        rw [hDb] at c3n
        go_wp2_with fail
        go_ret
        rw [E.out]
        exact HFin.out
    · obtain ⟨B, hB⟩ : ∃ B, B = d.rng / 2048 * p := ⟨_, rfl⟩
      obtain ⟨D, hD⟩ : ∃ D, D = RD.level s.nx ⟨d.src, d.rng - B, d.code - B, d.bad⟩ := ⟨_, rfl⟩
      have e : d.bit s.nx p = (if D.bad = true then 0 else 1, p - p / 32, D) := by
        unfold RD.bit
        rw [if_neg (by rw [HB.out]; decide), if_neg hlt, hD, hB]
      have e2 : ∀ w0, DecIs s g w0 ⟨d.src, d.rng - B, d.code - B, d.bad⟩ → Calls Try.prog 52 #[.pointer (some ⟨g, 0, none⟩)] w0 (DPost s g w0 (.tuple #[]) D) := fun w0 h0 => by
        rw [hD]; exact dlevel_any s g _ w0 h0
      have E := hid e
      have E2 := hid e2
      have HBB := hid hB
      have hB0 : 0 ≤ B := by rw [hB]; exact hbd0
      have hB1 : B ≤ d.rng := by rw [hB]; exact hbd1
      have hB2 : B ≤ d.code := by rw [hB]; omega
      clear e e2 hD hB
      go_enter Try.func34, Try.ntmps34
      go_wp2
      go_quiet (fail)
      go_wp2
      go_region
      all_goals go_wp2_with fail
      all_goals go_region
      all_goals go_wp2_with fail
      rw [← HBB.out]
      refine (E2.out _ (by
        refine DecIs.drew ?_
        refine DecIs.keep (T := fun k => k = gp) ?_ (Fr.setOne (Fr.refl _ _) _ _) (fun k hk e => Hg.out (e ▸ hk))
        exact ((H.out.drewN _).set (d' := ⟨d.src, d.rng, d.code - B, d.bad⟩) 2 _ rfl rfl ⟨o1, o2, by show 0 ≤ d.code - B; omega, by show d.code - B < _; omega⟩).set 1 _ rfl rfl ⟨by show 0 ≤ d.rng - B; omega, by show d.rng - B < _; omega, by show 0 ≤ d.code - B; omega, by show d.code - B < _; omega⟩)).mono ?_
      rintro e w1 ⟨rfl, hf1, hd1⟩
      have HF := hid hf1
      have HD := hid hd1
      have c3n := blk_cell hd1.at_ (j := 3) (v := .bool D.bad) rfl
      clear hf1 hd1
      have hfin : BitPost s g gp o cs T w (if D.bad = true then 0 else 1, p - p / 32, D) (.returned (.int .i64 ((if D.bad = true then 0 else 1 : Nat) : Int))) w1 := by
        refine ⟨rfl, ?_, HD.out, ?_⟩
        · refine Fr.then (S := bitFoot s g gp) ?_ HF.out (fun _ _ h => .inl h)
          refine Fr.drew ?_
          refine Fr.setCell ?_ (fun _ => .inr rfl) _
          refine Fr.setCell ?_ (fun _ => .inl (.inl rfl)) _
          refine Fr.setCell ?_ (fun _ => .inl (.inl rfl)) _
          exact (Fr.refl _ _).drewN _
        · exact HF.out.blk (blk_drew (blk_set (blk_set_ne (blk_set_ne (blk_drewN Hb.out) hne) hne))) Hg.out
      have HFin := hid hfin
      clear hfin
      cases hDb : D.bad with
      | true =>
        rw [hDb] at c3n
        have HDb := hid hDb
        clear hDb
        go_wp2_with fail
        go_ret
        rw [E.out]
        have := HFin.out
        rw [HDb.out] at this ⊢
        exact this
      | false =>
        rw [hDb] at c3n
        have HDb := hid hDb
        clear hDb
        go_wp2_with fail
        go_ret
        rw [E.out]
        have := HFin.out
        rw [HDb.out] at this ⊢
        exact this

theorem bit_le {S : Type} (nx : S → Int × Bool × S) (d : RD S) (p : Int) : (d.bit nx p).1 ≤ 1 := by
  unfold RD.bit
  by_cases h : d.bad = true
  · rw [if_pos h]; exact Nat.zero_le _
  · rw [if_neg h]
    by_cases h2 : d.code < d.rng / 2048 * p
    · rw [if_pos h2]; exact Nat.zero_le _
    · rw [if_neg h2]
      by_cases h3 : (RD.level nx ⟨d.src, d.rng - d.rng / 2048 * p, d.code - d.rng / 2048 * p, d.bad⟩).bad = true
      · show (if _ then 0 else 1) ≤ 1; rw [if_pos h3]; exact Nat.zero_le _
      · show (if _ then 0 else 1) ≤ 1; rw [if_neg h3]; exact Nat.le_refl _
theorem bit_prob {S : Type} (nx : S → Int × Bool × S) (d : RD S) (p : Int) (h0 : 31 ≤ p) (h1 : p ≤ 2017) : 31 ≤ (d.bit nx p).2.1 ∧ (d.bit nx p).2.1 ≤ 2017 := by
  unfold RD.bit
  by_cases h : d.bad = true
  · rw [if_pos h]; exact ⟨h0, h1⟩
  · rw [if_neg h]
    by_cases h2 : d.code < d.rng / 2048 * p
    · rw [if_pos h2]; show 31 ≤ p + (2048 - p) / 32 ∧ p + (2048 - p) / 32 ≤ 2017; omega
    · rw [if_neg h2]; show 31 ≤ p - p / 32 ∧ p - p / 32 ≤ 2017; omega
end Go.Proofs.Ytomjagibcdneiaa
