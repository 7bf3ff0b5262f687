/- law05: put. -/
import Derived.Test.YtomjagibcdneiaaRenc5
import Derived.Test.YtomjagibcdneiaaAsk2
import Derived.Test.YtomjagibcdneiaaBytes
namespace Go.Proofs.Ytomjagibcdneiaa
open Go.RowKit

/-- what is asked for is coded: the probabilities, the coder. -/
def RC.ask (c : RC) (q : Nat → Int) (a : Ask) : (Nat → Int) × RC :=
  if a.kind = 0 then (upd q a.at_.toNat (c.bit (q a.at_.toNat) (a.val.toNat % 2)).1, (c.bit (q a.at_.toNat) (a.val.toNat % 2)).2)
  else if a.kind = 1 then (spliceQ q a.at_.toNat (2 ^ a.bits.toNat) (c.tree a.bits.toNat (fun j => q (a.at_.toNat + j)) a.val.toNat).1, (c.tree a.bits.toNat (fun j => q (a.at_.toNat + j)) a.val.toNat).2)
  else if a.kind = 2 then (spliceQ q a.at_.toNat (2 ^ a.bits.toNat) (c.rev a.bits.toNat (fun j => q (a.at_.toNat + j)) a.val.toNat).1, (c.rev a.bits.toNat (fun j => q (a.at_.toNat + j)) a.val.toNat).2)
  else (q, c.strGo a.bits.toNat a.val.toNat)
def PutPost (A : Nat → Prop) (g gp : Nat) (w : World) (r : (Nat → Int) × RC) (e : Ending) (w' : World) : Prop :=
  e = .returned (.tuple #[]) ∧ Fr (fun k => ¬ A k ∨ k = gp) w w' ∧ CodIs A g w' r.2 ∧ w'.heap[gp]? = some (.cells (arr .u16 600 r.1) 22)

set_option maxRecDepth 100000 in
set_option maxHeartbeats 2000000 in
theorem put_any (A : Nat → Prop) (g gp N : Nat) (c : RC) (q : Nat → Int) (a : Ask) (w : World) (h : CodIs A g w c) (hA : A gp) (hok : c.Ok N) (hN : N ≤ 1073741000)
    (hb : w.heap[gp]? = some (.cells (arr .u16 600 q) 22)) (hp : Pr q 600) (ha : a.Right) (hv : 0 ≤ a.val ∧ a.val < 4294967296) :
    Calls Try.prog 20 #[.pointer (some ⟨g, 0, none⟩), .slice (some ⟨gp, 0, none⟩) 600 600, .agg #[.int .i64 a.kind, .int .i64 a.at_, .int .i64 a.bits, .int .u32 a.val]] w
      (PutPost A g gp w (c.ask q a)) := by
  obtain ⟨k, p, b, v⟩ := a
  simp only at hv
  obtain ⟨V, rfl⟩ := Int.eq_ofNat_of_zero_le hv.1
  have hV : V < 4294967296 := by omega
  have hV2 : IntKind.i64.wrap ((V : Int).tmod 2) = ((V % 2 : Nat) : Int) := by
    rw [Int.tmod_eq_emod_of_nonneg (by omega), IntKind.wrap_i64]
    omega
  have HV2 := hid (show ((V : Int) % 2) = ((V % 2 : Nat) : Int) by omega)
  have H := hid h
  have Hb := hid hb
  have Hp := hid hp
  have Hok := hid hok
  have HB : Hid (∀ o : Obj, CodIs A g (w.alloc o) c) := fun o => H.out.keep ((Fr.refl Non _).alloc o) (fun _ e => e.elim)
  have HC : Hid (∀ o : Obj, (w.alloc o).heap[gp]? = some (.cells (arr .u16 600 q) 22)) := fun o => blk_alloc Hb.out
  clear h hb hp hok
  rcases ha with ⟨hk, h1, h2⟩ | ⟨hk, h1, h2, h3, h4⟩ | ⟨hk, h1, h2⟩
  · simp only at hk h1 h2
    subst hk
    obtain ⟨P, rfl⟩ := Int.eq_ofNat_of_zero_le h1
    have hP : P < 600 := by omega
    have hpa := Hp.out P hP
    go_enter Try.func20, Try.ntmps20
    go_wp2_with fail
    go_region_with (go_at_call 15; rw [HV2.out]; refine (cbit_any A g gp P N _ _ c (q P) (V % 2) _ (by first | exact (HB.out _).drew | exact HB.out _) hA Hok.out (by omega) (by exact HC.out _) (arr_get _ _ _ hP) hpa.1 hpa.2 (by omega)).mono ?_; rintro e w1 ⟨rfl, hf1, hd1, hb1⟩)
    all_goals
      have HF := hid hf1
      have HD := hid hd1
      have HB1 := hid hb1
      clear hf1 hd1 hb1
      go_wp2_with fail
      go_end0
      unfold RC.ask
      rw [if_pos rfl]
      refine ⟨rfl, Fr.trans ?_ HF.out, HD.out, ?_⟩
      · repeat (first | exact Fr.refl _ _ | refine Fr.drew ?_ | refine Fr.alloc ?_ _)
      · have := HB1.out
        rw [arr_set] at this
        exact this
  · simp only at hk h1 h2 h3 h4
    obtain ⟨P, rfl⟩ := Int.eq_ofNat_of_zero_le h1
    obtain ⟨B, rfl⟩ := Int.eq_ofNat_of_zero_le (a := b) (by omega)
    have hP : P < 340 := by omega
    have hB1 : 1 ≤ B := by omega
    have hB2 : B ≤ 8 := by omega
    have hB16 : B ≤ 16 := by omega
    have hP8 : 2 ^ B ≤ 256 := by
      have : 2 ^ B ≤ 2 ^ 8 := Nat.pow_le_pow_right (by decide) hB2
      omega
    have hBL : 2 ^ B ≤ 600 - P := by omega
    have HPr : Hid (Pr (fun j => q (P + j)) (2 ^ B)) := fun j hj => Hp.out (P + j) (by omega)
    have HCell : Hid (∀ j, j < 2 ^ B → (arr .u16 600 q)[P + j]? = some (.int .u16 (q (P + j)))) := fun j hj => arr_get _ _ _ (by omega)
    have hA6 : ¬ 600 = P := by omega
    have hA0 : (0 : Int) ≤ (P : Int) := by omega
    have hA1 : (P : Int) ≤ 600 := by omega
    have HBL := hid hBL
    have HP8 := hid hP8
    clear hBL hP8
    have hBL := HBL.out
    rcases hk with hk | hk
    · subst hk
      go_enter Try.func20, Try.ntmps20
      go_wp2_with fail
      go_region_with (go_at_call 39; refine (ctree_any A g gp P (600 - P) (600 - P) B N _ _ c (fun j => q (P + j)) V _ (by first | exact (HB.out _).drew | exact HB.out _) hA Hok.out (by omega) (by exact HC.out _) HCell.out HPr.out hB16 hBL (by omega) hV).mono ?_; rintro e w1 ⟨rfl, hf1, hd1, cs1, hb1, hw1⟩)
      all_goals
        have HF := hid hf1
        have HD := hid hd1
        have HB1 := hid hb1
        have HW := hid (win_arr hw1 (by omega))
        clear hf1 hd1 hb1 hw1
        go_wp2_with fail
        go_end0
        unfold RC.ask
        rw [if_neg (by show ¬ (1 : Int) = 0; decide), if_pos rfl]
        refine ⟨rfl, Fr.trans ?_ HF.out, HD.out, ?_⟩
        · repeat (first | exact Fr.refl _ _ | refine Fr.drew ?_ | refine Fr.alloc ?_ _)
        · have := HB1.out
          rw [HW.out] at this
          exact this
    · subst hk
      go_enter Try.func20, Try.ntmps20
      go_wp2_with fail
      go_region_with (go_at_call 40; refine (crev_any A g gp P (600 - P) (600 - P) B N _ _ c (fun j => q (P + j)) V _ (by first | exact (HB.out _).drew | exact HB.out _) hA Hok.out (by omega) (by exact HC.out _) HCell.out HPr.out hB16 hBL (by omega) hV).mono ?_; rintro e w1 ⟨rfl, hf1, hd1, cs1, hb1, hw1⟩)
      all_goals
        have HF := hid hf1
        have HD := hid hd1
        have HB1 := hid hb1
        have HW := hid (win_arr hw1 (by omega))
        clear hf1 hd1 hb1 hw1
        go_wp2_with fail
        go_end0
        unfold RC.ask
        rw [if_neg (by show ¬ (2 : Int) = 0; decide), if_neg (by show ¬ (2 : Int) = 1; decide), if_pos rfl]
        refine ⟨rfl, Fr.trans ?_ HF.out, HD.out, ?_⟩
        · repeat (first | exact Fr.refl _ _ | refine Fr.drew ?_ | refine Fr.alloc ?_ _)
        · have := HB1.out
          rw [HW.out] at this
          exact this
  · simp only at hk h1 h2
    subst hk
    obtain ⟨P, rfl⟩ := Int.eq_ofNat_of_zero_le h1
    go_enter Try.func20, Try.ntmps20
    go_wp2_with fail
    refine (cstr_any A g P N c V _ (HB.out _) Hok.out (by omega) (by omega) hV).mono ?_
    rintro e w1 ⟨rfl, hf1, hd1⟩
    have HF := hid hf1
    have HD := hid hd1
    clear hf1 hd1
    go_wp2_with fail
    go_end0
    unfold RC.ask
    rw [if_neg (by show ¬ (3 : Int) = 0; decide), if_neg (by show ¬ (3 : Int) = 1; decide), if_neg (by show ¬ (3 : Int) = 2; decide)]
    exact ⟨rfl, ((Fr.refl _ _).alloc _).trans (HF.out.mono fun _ _ h => .inl h), HD.out, HF.out.blk (HC.out _) (fun e => e hA)⟩
end Go.Proofs.Ytomjagibcdneiaa
