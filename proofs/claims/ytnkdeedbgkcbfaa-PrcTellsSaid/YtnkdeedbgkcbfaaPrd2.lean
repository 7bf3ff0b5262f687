/- PPMd's range decoder: Place, Take, Bit, Bad, Done. -/
import Derived.Test.YtnkdeedbgkcbfaaPrd
import Derived.Test.YtnkdeedbgkcbfaaShare
namespace Go.Proofs.Ytnkdeedbgkcbfaa
open Go.RowKit

theorem dbadq_any {S : Type} (s : Sour S) (g : Nat) (d : RD S) (w : World) (h : DecIs s g w d) :
    Calls Try.prog 21 #[.pointer (some ⟨g, 0, none⟩)] w fun e w' => e = .returned (.bool d.bad) ∧ w = w' := by
  have c3 := blk_cell h.at_ (j := 3) (v := .bool d.bad) rfl
  clear h
  go_enter Try.func21, Try.ntmps21
  go_wp2
  go_ret
  exact ⟨rfl, rfl⟩
def RD.done {S : Type} (d : RD S) : Bool := !d.bad && d.code == 0
theorem ddone_any {S : Type} (s : Sour S) (g : Nat) (d : RD S) (w : World) (h : DecIs s g w d) :
    Calls Try.prog 28 #[.pointer (some ⟨g, 0, none⟩)] w fun e w' => e = .returned (.bool d.done) ∧ w = w' := by
  have c3 := blk_cell h.at_ (j := 3) (v := .bool d.bad) rfl
  have c2 := blk_cell h.at_ (j := 2) (v := .int .u32 d.code) rfl
  clear h
  unfold RD.done
  cases hb : d.bad with
  | true =>
    rw [hb] at c3
    go_enter Try.func28, Try.ntmps28
    go_wp2
    go_ret
    exact ⟨rfl, rfl⟩
  | false =>
    rw [hb] at c3
    go_enter Try.func28, Try.ntmps28
    go_wp2
    go_ret
    exact ⟨rfl, rfl⟩

def RD.place {S : Type} (d : RD S) (t : Nat) : Int × RD S :=
  if d.bad = true then (0, d) else if (t : Int) ≤ d.code / (d.rng / t) then (0, ⟨d.src, d.rng / t, d.code, true⟩) else (d.code / (d.rng / t), ⟨d.src, d.rng / t, d.code, d.bad⟩)
def RD.take {S : Type} (nx : S → Int × Bool × S) (d : RD S) (a z : Int) : RD S :=
  if d.bad = true then d else RD.plevel nx ⟨d.src, d.rng * z, d.code - a * d.rng, d.bad⟩
def RD.pbit {S : Type} (nx : S → Int × Bool × S) (d : RD S) (z n : Nat) : Nat × RD S :=
  if d.bad = true then (0, d)
  else if d.code < d.rng / 2 ^ n * z then (0, RD.plevel nx ⟨d.src, d.rng / 2 ^ n * z, d.code, d.bad⟩)
  else (if (RD.plevel nx ⟨d.src, d.rng - d.rng / 2 ^ n * z, d.code - d.rng / 2 ^ n * z, d.bad⟩).bad = true then 0 else 1, RD.plevel nx ⟨d.src, d.rng - d.rng / 2 ^ n * z, d.code - d.rng / 2 ^ n * z, d.bad⟩)

set_option maxRecDepth 100000 in
set_option maxHeartbeats 4000000 in
theorem dplace_any {S : Type} (s : Sour S) (g : Nat) (d : RD S) (t : Nat) (w : World) (h : DecIs s g w d) (h0 : 1 ≤ t) (h1 : t ≤ 1048576) (hr : d.bad = false → 16777216 ≤ d.rng) :
    Calls Try.prog 20 #[.pointer (some ⟨g, 0, none⟩), .int .u32 t] w (DPost s g w (.int .u32 (d.place t).1) (d.place t).2) := by
  have c1 := blk_cell h.at_ (j := 1) (v := .int .u32 d.rng) rfl
  have c2 := blk_cell h.at_ (j := 2) (v := .int .u32 d.code) rfl
  have c3 := blk_cell h.at_ (j := 3) (v := .bool d.bad) rfl
  have f1 := blk_frozen h.at_ 1
  have f3 := blk_frozen h.at_ 3
  obtain ⟨o1, o2, o3, o4⟩ := h.ok
  have H := hid h
  clear h
  unfold RD.place
  cases hb : d.bad with
  | true =>
    rw [hb] at c3
    go_enter Try.func20, Try.ntmps20
    go_wp2
    go_ret
    exact ⟨rfl, Fr.refl _ _, H.out⟩
  | false =>
    rw [hb] at c3
    have hr' := hr hb
    have HB := hid hb
    clear hr hb
    obtain ⟨q, hq⟩ : ∃ q, q = d.rng / (t : Int) := ⟨_, rfl⟩
    have hq1 : 1 ≤ q := by rw [hq]; exact Int.le_ediv_of_mul_le (by omega) (by omega)
    have hq2 : q ≤ d.rng := by rw [hq]; exact Int.ediv_le_self _ (by omega)
    have hp0 : 0 ≤ d.code / q := Int.ediv_nonneg o3 (by omega)
    have hp1 : d.code / q ≤ d.code := Int.ediv_le_self _ o3
    have HE := hid (H.out.set (d' := ⟨d.src, q, d.code, d.bad⟩) 1 (.int .u32 q) rfl rfl ⟨by show 0 ≤ q; omega, by show q < _; omega, o3, o4⟩)
    rw [← hq]
    have ht0 : (0 : Int) < t := by omega
    have hqq : d.rng / (t : Int) = q := hq.symm
    clear hq
    by_cases hlt : (t : Int) ≤ d.code / q
    · rw [if_neg (by decide), if_pos hlt]
      go_enter Try.func20, Try.ntmps20
      go_wp2_with fail
      go_quiet (fail)
      go_wp2_with fail
      go_ret
      refine ⟨rfl, ?_, (HE.out.drewN _).set (d' := ⟨d.src, q, d.code, true⟩) 3 _ rfl rfl ⟨by show 0 ≤ q; omega, by show q < _; omega, o3, o4⟩⟩
      repeat (first | exact Fr.refl _ _ | refine Fr.drewN ?_ _ | refine Fr.drew ?_ | refine Fr.setCell ?_ (fun _ => .inl rfl) _)
    · rw [if_neg (by decide), if_neg hlt]
      go_enter Try.func20, Try.ntmps20
      go_wp2_with fail
      go_quiet (fail)
      go_wp2_with fail
      go_ret
      refine ⟨rfl, ?_, by have := HE.out.drewN nq; rw [HB.out] at this; exact this⟩
      repeat (first | exact Fr.refl _ _ | refine Fr.drewN ?_ _ | refine Fr.drew ?_ | refine Fr.setCell ?_ (fun _ => .inl rfl) _)

set_option maxRecDepth 100000 in
set_option maxHeartbeats 4000000 in
theorem dtake_any {S : Type} (s : Sour S) (g : Nat) (d : RD S) (a z : Nat) (w : World) (h : DecIs s g w d) (ha : (a : Int) < 4294967296) (hz : (z : Int) < 4294967296) (h1 : d.bad = false → (a : Int) * d.rng ≤ d.code ∧ 1 ≤ d.rng * z ∧ d.rng * z < 4294967296) :
    Calls Try.prog 22 #[.pointer (some ⟨g, 0, none⟩), .int .u32 a, .int .u32 z] w (DPost s g w (.tuple #[]) (d.take s.nx a z)) := by
  have c1 := blk_cell h.at_ (j := 1) (v := .int .u32 d.rng) rfl
  have c2 := blk_cell h.at_ (j := 2) (v := .int .u32 d.code) rfl
  have c3 := blk_cell h.at_ (j := 3) (v := .bool d.bad) rfl
  have f1 := blk_frozen h.at_ 1
  have f2 := blk_frozen h.at_ 2
  obtain ⟨o1, o2, o3, o4⟩ := h.ok
  have H := hid h
  clear h
  unfold RD.take
  cases hb : d.bad with
  | true =>
    rw [hb] at c3
    go_enter Try.func22, Try.ntmps22
    go_wp2
    go_end0
    exact ⟨rfl, Fr.refl _ _, H.out⟩
  | false =>
    rw [hb] at c3
    obtain ⟨h2, h3, h4⟩ := h1 hb
    have HB := hid hb
    clear h1 hb
    have h5 : 0 ≤ (a : Int) * d.rng := Int.mul_nonneg (by omega) o1
    rw [if_neg (by decide)]
    go_enter Try.func22, Try.ntmps22
    go_wp2_with fail
    go_region
    all_goals go_wp2_with fail
    refine (plevel_any s g ⟨d.src, d.rng * z, d.code - a * d.rng, d.bad⟩ _ (by exact ((H.out.set (d' := ⟨d.src, d.rng, d.code - a * d.rng, d.bad⟩) 2 _ rfl rfl ⟨o1, o2, by show 0 ≤ d.code - a * d.rng; omega, by show d.code - a * d.rng < _; omega⟩).set (d' := ⟨d.src, d.rng * z, d.code - a * d.rng, d.bad⟩) 1 _ rfl rfl ⟨by show 0 ≤ d.rng * z; omega, h4, by show 0 ≤ d.code - a * d.rng; omega, by show d.code - a * d.rng < _; omega⟩).drew) h3).mono ?_
    rintro e w1 ⟨rfl, hf1, hd1⟩
    have HF := hid hf1
    have HD := hid hd1
    clear hf1 hd1
    go_wp2_with fail
    go_end0
    rw [HB.out] at HD
    refine ⟨rfl, Fr.trans ?_ HF.out, HD.out⟩
    repeat (first | exact Fr.refl _ _ | refine Fr.drewN ?_ _ | refine Fr.drew ?_ | refine Fr.setCell ?_ (fun _ => .inl rfl) _)

def PBitPost {S : Type} (s : Sour S) (g : Nat) (w : World) (r : Nat × RD S) (e : Ending) (w' : World) : Prop :=
  e = .returned (.int .i64 r.1) ∧ Fr (decFoot s g) w w' ∧ DecIs s g w' r.2
set_option maxRecDepth 100000 in
set_option maxHeartbeats 4000000 in
theorem dpbit_any {S : Type} (s : Sour S) (g : Nat) (d : RD S) (z n : Nat) (w : World) (h : DecIs s g w d) (hn : n ≤ 16) (hz0 : 1 ≤ z) (hz1 : z < 2 ^ n) (hr : d.bad = false → 16777216 ≤ d.rng) :
    Calls Try.prog 19 #[.pointer (some ⟨g, 0, none⟩), .int .u32 z, .int .i64 n] w (PBitPost s g w (d.pbit s.nx z n)) := by
  have c1 := blk_cell h.at_ (j := 1) (v := .int .u32 d.rng) rfl
  have c2 := blk_cell h.at_ (j := 2) (v := .int .u32 d.code) rfl
  have c3 := blk_cell h.at_ (j := 3) (v := .bool d.bad) rfl
  have f1 := blk_frozen h.at_ 1
  have f2 := blk_frozen h.at_ 2
  obtain ⟨o1, o2, o3, o4⟩ := h.ok
  have H := hid h
  clear h
  cases hb : d.bad with
  | true =>
    rw [hb] at c3
    have HB := hid hb
    clear hb
    go_enter Try.func19, Try.ntmps19
    go_wp2
    go_ret
    unfold RD.pbit
    rw [if_pos HB.out]
    exact ⟨rfl, Fr.refl _ _, H.out⟩
  | false =>
    rw [hb] at c3
    have hr' := hr hb
    have HB := hid hb
    clear hr hb
    have hn1 : 1 ≤ n := by
      cases n with
      | zero => simp at hz1; omega
      | succ n => omega
    have hfits := share_fits (s := ⟨1, 0, z, n⟩) (.inr ⟨rfl, Nat.zero_le _, hn1, hn, hz0, hz1⟩) hr'
    have hfits2 := share_fits (s := ⟨1, 1, z, n⟩) (.inr ⟨rfl, Nat.le_refl _, hn1, hn, hz0, hz1⟩) hr'
    have e1 : Share.wide ⟨1, 0, z, n⟩ d.rng = d.rng / 2 ^ n * z := by unfold Share.wide; rw [if_neg (show ¬ (1 : Int) = 0 by decide)]; exact if_pos rfl
    have e2 : Share.wide ⟨1, 1, z, n⟩ d.rng = d.rng - d.rng / 2 ^ n * z := by unfold Share.wide; rw [if_neg (show ¬ (1 : Int) = 0 by decide)]; exact if_neg (show ¬ (1 : Nat) = 0 by decide)
    rw [e1] at hfits
    rw [e2] at hfits2
    have hb1 : 1 ≤ d.rng / 2 ^ n * z := hfits.2.1
    have hb2 : 1 ≤ d.rng - d.rng / 2 ^ n * z := hfits2.2.1
    have hq1 : 0 ≤ d.rng / 2 ^ n := Int.ediv_nonneg (by omega) (Int.le_of_lt (Int.pow_pos (by decide)))
    have hq2 : d.rng / 2 ^ n ≤ d.rng := Int.ediv_le_self _ (by omega)
    have hz3 : z < 65536 := by
      have : 2 ^ n ≤ 2 ^ 16 := Nat.pow_le_pow_right (by decide) hn
      omega
    clear hfits hfits2 e1 e2
    by_cases hlt : d.code < d.rng / 2 ^ n * z
    · obtain ⟨B, hB⟩ : ∃ B, B = d.rng / 2 ^ n * z := ⟨_, rfl⟩
      obtain ⟨D, hD⟩ : ∃ D, D = RD.plevel s.nx ⟨d.src, B, d.code, d.bad⟩ := ⟨_, rfl⟩
      have e : d.pbit s.nx z n = (0, D) := by
        unfold RD.pbit
        rw [if_neg (by rw [HB.out]; decide), if_pos hlt, hD, hB]
      have hB0 : 1 ≤ B := by rw [hB]; exact hb1
      have hB1 : B ≤ d.rng := by rw [hB]; omega
      have e2 : ∀ w0, DecIs s g w0 ⟨d.src, B, d.code, d.bad⟩ → Calls Try.prog 33 #[.pointer (some ⟨g, 0, none⟩)] w0 (DPost s g w0 (.tuple #[]) D) := fun w0 h0 => by
        rw [hD]; exact plevel_any s g _ w0 h0 hB0
      have E := hid e
      have E2 := hid e2
      have HBB := hid hB
      clear e e2 hD hB
      go_enter Try.func19, Try.ntmps19
      go_wp2_with fail
      rw [← HBB.out]
      refine (E2.out _ (by exact H.out.set (d' := ⟨d.src, B, d.code, d.bad⟩) 1 _ rfl rfl ⟨by show 0 ≤ B; omega, by show B < _; omega, o3, o4⟩)).mono ?_
      rintro e w1 ⟨rfl, hf1, hd1⟩
      have HF := hid hf1
      have HD := hid hd1
      have c3n := blk_cell hd1.at_ (j := 3) (v := .bool D.bad) rfl
      clear hf1 hd1
      have hfin : PBitPost s g w (0, D) (.returned (.int .i64 0)) w1 := by
        refine ⟨rfl, Fr.trans ?_ HF.out, HD.out⟩
        repeat (first | exact Fr.refl _ _ | refine Fr.drewN ?_ _ | refine Fr.drew ?_ | refine Fr.setCell ?_ (fun _ => .inl rfl) _)
      have HFin := hid hfin
      clear hfin
      cases hDb : D.bad with
      | true =>
        rw [hDb] at c3n
        go_wp2_with fail
        go_ret
        rw [E.out]
        exact HFin.out
      | false =>
        rw [hDb] at c3n
        go_wp2_with fail
        go_ret
        rw [E.out]
        exact HFin.out
    · obtain ⟨B, hB⟩ : ∃ B, B = d.rng / 2 ^ n * z := ⟨_, rfl⟩
      obtain ⟨D, hD⟩ : ∃ D, D = RD.plevel s.nx ⟨d.src, d.rng - B, d.code - B, d.bad⟩ := ⟨_, rfl⟩
      have e : d.pbit s.nx z n = (if D.bad = true then 0 else 1, D) := by
        unfold RD.pbit
        rw [if_neg (by rw [HB.out]; decide), if_neg hlt, hD, hB]
      have hB0 : 1 ≤ B := by rw [hB]; exact hb1
      have hB1 : 1 ≤ d.rng - B := by rw [hB]; exact hb2
      have hB2 : B ≤ d.code := by rw [hB]; omega
      have e2 : ∀ w0, DecIs s g w0 ⟨d.src, d.rng - B, d.code - B, d.bad⟩ → Calls Try.prog 33 #[.pointer (some ⟨g, 0, none⟩)] w0 (DPost s g w0 (.tuple #[]) D) := fun w0 h0 => by
        rw [hD]; exact plevel_any s g _ w0 h0 hB1
      have E := hid e
      have E2 := hid e2
      have HBB := hid hB
      clear e e2 hD hB
      go_enter Try.func19, Try.ntmps19
      go_wp2_with fail
      go_region
      all_goals go_wp2_with fail
      rw [← HBB.out]
      refine (E2.out _ (by exact ((H.out.set (d' := ⟨d.src, d.rng, d.code - B, d.bad⟩) 2 _ rfl rfl ⟨o1, o2, by show 0 ≤ d.code - B; omega, by show d.code - B < _; omega⟩).set (d' := ⟨d.src, d.rng - B, d.code - B, d.bad⟩) 1 _ rfl rfl ⟨by show 0 ≤ d.rng - B; omega, by show d.rng - B < _; omega, by show 0 ≤ d.code - B; omega, by show d.code - B < _; omega⟩).drew)).mono ?_
      rintro e w1 ⟨rfl, hf1, hd1⟩
      have HF := hid hf1
      have HD := hid hd1
      have c3n := blk_cell hd1.at_ (j := 3) (v := .bool D.bad) rfl
      clear hf1 hd1
      have hfin : ∀ v : Nat, v = (if D.bad = true then 0 else 1) → PBitPost s g w (if D.bad = true then 0 else 1, D) (.returned (.int .i64 v)) w1 := fun v hv => by
        rw [hv]
        refine ⟨rfl, Fr.trans ?_ HF.out, HD.out⟩
        repeat (first | exact Fr.refl _ _ | refine Fr.drewN ?_ _ | refine Fr.drew ?_ | refine Fr.setCell ?_ (fun _ => .inl rfl) _)
      have HFin := hid hfin
      clear hfin
      cases hDb : D.bad with
      | true =>
        rw [hDb] at c3n
        have HDb := hid hDb
        clear hDb
        go_wp2_with fail
        go_ret
        rw [E.out]
        exact HFin.out 0 (by rw [if_pos HDb.out])
      | false =>
        rw [hDb] at c3n
        have HDb := hid hDb
        clear hDb
        go_wp2_with fail
        go_ret
        rw [E.out]
        exact HFin.out 1 (by rw [if_neg (by rw [HDb.out]; decide)])
end Go.Proofs.Ytnkdeedbgkcbfaa
