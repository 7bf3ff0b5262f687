/- law04.ask by its contract. -/
import Derived.Test.YtomjagibcdneiaaAsk
namespace Go.Proofs.Ytomjagibcdneiaa
open Go.RowKit

theorem treeGo_lt {S : Type} (nx : S → Int × Bool × S) : ∀ (k j : Nat) (d : RD S) (q : Nat → Int) (m : Nat), m < 2 ^ j → (RD.treeGo nx k d q m).1 < 2 ^ (j + k)
  | 0, j, d, q, m, h => h
  | k + 1, j, d, q, m, h => by
    have hb := bit_le nx d (q m)
    have := treeGo_lt nx k (j + 1) (d.bit nx (q m)).2.2 (upd q m (d.bit nx (q m)).2.1) (2 * m + (d.bit nx (q m)).1) (by rw [Nat.pow_succ]; omega)
    rw [show j + (k + 1) = j + 1 + k by omega]
    exact this
theorem tree_lt {S : Type} (nx : S → Int × Bool × S) (k : Nat) (d : RD S) (q : Nat → Int) : (d.tree nx k q).1 < 2 ^ k := by
  have h := treeGo_lt nx k 1 d q 1 (by decide)
  have hp : 0 < 2 ^ k := Nat.pow_pos (by decide)
  unfold RD.tree
  by_cases hb : (RD.treeGo nx k d q 1).2.2.bad = true
  · rw [if_pos hb]; exact hp
  · rw [if_neg hb]
    show (RD.treeGo nx k d q 1).1 - 2 ^ k < 2 ^ k
    rw [show 1 + k = k + 1 by omega, Nat.pow_succ] at h
    omega
theorem revGo_lt {S : Type} (nx : S → Int × Bool × S) : ∀ (k i : Nat) (d : RD S) (q : Nat → Int) (m out : Nat), out < 2 ^ i → (RD.revGo nx k i d q m out).1 < 2 ^ (i + k)
  | 0, i, d, q, m, out, h => h
  | k + 1, i, d, q, m, out, h => by
    have hb := bit_le nx d (q m)
    have h2 : (d.bit nx (q m)).1 * 2 ^ i ≤ 1 * 2 ^ i := Nat.mul_le_mul_right _ hb
    have := revGo_lt nx k (i + 1) (d.bit nx (q m)).2.2 (upd q m (d.bit nx (q m)).2.1) (2 * m + (d.bit nx (q m)).1) (out + (d.bit nx (q m)).1 * 2 ^ i) (by rw [Nat.pow_succ]; omega)
    rw [show i + (k + 1) = i + 1 + k by omega]
    exact this
theorem rev_lt {S : Type} (nx : S → Int × Bool × S) (k : Nat) (d : RD S) (q : Nat → Int) : (d.rev nx k q).1 < 2 ^ k := by
  have h := revGo_lt nx k 0 d q 1 0 (by decide)
  have hp : 0 < 2 ^ k := Nat.pow_pos (by decide)
  unfold RD.rev
  by_cases hb : (RD.revGo nx k 0 d q 1 0).2.2.bad = true
  · rw [if_pos hb]; exact hp
  · rw [if_neg hb]; rw [Nat.zero_add] at h; exact h

def AskPost {S : Type} (s : Sour S) (g gp : Nat) (w : World) (r : Nat × (Nat → Int) × RD S) (e : Ending) (w' : World) : Prop :=
  e = .returned (.int .u32 r.1) ∧ Fr (bitFoot s g gp) w w' ∧ DecIs s g w' r.2.2 ∧ w'.heap[gp]? = some (.cells (arr .u16 600 r.2.1) 22)

set_option maxRecDepth 100000 in
set_option maxHeartbeats 2000000 in
theorem ask_any {S : Type} (s : Sour S) (g gp : Nat) (d : RD S) (q : Nat → Int) (a : Ask) (w : World) (h : DecIs s g w d) (hg : ¬ decFoot s g gp)
    (hb : w.heap[gp]? = some (.cells (arr .u16 600 q) 22)) (hp : Pr q 600) (ha : a.Right) :
    Calls Try.prog 27 #[.pointer (some ⟨g, 0, none⟩), .slice (some ⟨gp, 0, none⟩) 600 600, .agg #[.int .i64 a.kind, .int .i64 a.at_, .int .i64 a.bits, .int .u32 a.val]] w
      (AskPost s g gp w (d.ask s.nx q a)) := by
  obtain ⟨k, p, b, v⟩ := a
  have H := hid h
  have Hg := hid hg
  have Hb := hid hb
  have Hp := hid hp
  have hfr : ∀ o : Obj, Fr Non w (w.alloc o) := fun o => (Fr.refl _ _).alloc o
  have HB : Hid (∀ o : Obj, DecIs s g (w.alloc o) d) := fun o => H.out.keep (hfr o) (fun _ _ e => e)
  have HC : Hid (∀ o : Obj, (w.alloc o).heap[gp]? = some (.cells (arr .u16 600 q) 22)) := fun o => blk_alloc Hb.out
  clear h hg hb hp hfr
  rcases ha with ⟨hk, h1, h2⟩ | ⟨hk, h1, h2, h3, h4⟩ | ⟨hk, h1, h2⟩
  · simp only at hk h1 h2
    subst hk
    obtain ⟨A, rfl⟩ := Int.eq_ofNat_of_zero_le h1
    have hA : A < 600 := by omega
    have hpa := Hp.out A hA
    have hb2 := bit_le s.nx d (q A)
    go_enter Try.func27, Try.ntmps27
    go_wp2_with fail
    refine (dbit_any s g gp A _ _ d (q A) _ (HB.out _) Hg.out (HC.out _) (arr_get _ _ _ hA) (by omega) (by omega)).mono ?_
    rintro e w1 ⟨rfl, hf1, hd1, hb1⟩
    have HF := hid hf1
    have HD := hid hd1
    have HB1 := hid hb1
    clear hf1 hd1 hb1
    go_wp2_with fail
    go_ret
    unfold RD.ask
    rw [if_pos rfl]
    refine ⟨rfl, ((Fr.refl _ _).alloc _).trans HF.out, HD.out, ?_⟩
    have := HB1.out
    rw [arr_set] at this
    exact this
  · simp only at hk h1 h2 h3 h4
    obtain ⟨A, rfl⟩ := Int.eq_ofNat_of_zero_le h1
    obtain ⟨B, rfl⟩ := Int.eq_ofNat_of_zero_le (a := b) (by omega)
    have hA : A < 340 := by omega
    have hB1 : 1 ≤ B := by omega
    have hB2 : B ≤ 8 := by omega
    have hB16 : B ≤ 16 := by omega
    have hP8 : 2 ^ B ≤ 256 := by
      have : 2 ^ B ≤ 2 ^ 8 := Nat.pow_le_pow_right (by decide) hB2
      omega
    have hBL : 2 ^ B ≤ 600 - A := by omega
    have HPr : Hid (Pr (fun j => q (A + j)) (2 ^ B)) := fun j hj => Hp.out (A + j) (by omega)
    have HCell : Hid (∀ j, j < 2 ^ B → (arr .u16 600 q)[A + j]? = some (.int .u16 (q (A + j)))) := fun j hj => arr_get _ _ _ (by omega)
    have ht1 := tree_lt s.nx B d (fun j => q (A + j))
    have ht2 := rev_lt s.nx B d (fun j => q (A + j))
    have hA6 : ¬ 600 = A := by omega
    have hA0 : (0 : Int) ≤ (A : Int) := by omega
    have hA1 : (A : Int) ≤ 600 := by omega
    have ht3 : (d.tree s.nx B (fun j => q (A + j))).1 < 256 := by omega
    have ht4 : (d.rev s.nx B (fun j => q (A + j))).1 < 256 := by omega
    have HV3 : Hid (IntKind.u32.wrap ((d.tree s.nx B (fun j => q (A + j))).1 : Int) = ((d.tree s.nx B (fun j => q (A + j))).1 : Int)) := by show _ = _; rw [IntKind.wrap_u32']; omega
    have HV4 : Hid (IntKind.u32.wrap ((d.rev s.nx B (fun j => q (A + j))).1 : Int) = ((d.rev s.nx B (fun j => q (A + j))).1 : Int)) := by show _ = _; rw [IntKind.wrap_u32']; omega
    have HBL := hid hBL
    have HP8 := hid hP8
    clear ht1 ht2 hBL hP8
    have hBL := HBL.out
    rcases hk with hk | hk
    · subst hk
      go_enter Try.func27, Try.ntmps27
      go_wp2_with fail
      go_region_with (go_at_call 35; refine (dtree_any s g gp A (600 - A) (600 - A) B _ _ d (fun j => q (A + j)) _ (by first | exact (HB.out _).drew | exact HB.out _) Hg.out (by exact HC.out _) HCell.out HPr.out hB16 hBL (by omega)).mono ?_; rintro e w1 ⟨rfl, hf1, hd1, cs1, hb1, hw1⟩)
      all_goals
        have HF := hid hf1
        have HD := hid hd1
        have HB1 := hid hb1
        have HW := hid (win_arr hw1 (by omega))
        clear hf1 hd1 hb1 hw1
        go_wp2_with fail
        go_ret
        unfold RD.ask
        rw [if_neg (by show ¬ (1 : Int) = 0; decide), if_pos rfl]
        refine ⟨by show Ending.returned (.int .u32 (IntKind.u32.wrap _)) = Ending.returned (.int .u32 _); exact congrArg (fun z => Ending.returned (.int .u32 z)) HV3.out, Fr.trans ?_ HF.out, HD.out, ?_⟩
        · repeat (first | exact Fr.refl _ _ | refine Fr.drew ?_ | refine Fr.alloc ?_ _)
        · have := HB1.out
          rw [HW.out] at this
          exact this
    · subst hk
      go_enter Try.func27, Try.ntmps27
      go_wp2_with fail
      go_region_with (go_at_call 36; refine (drev_any s g gp A (600 - A) (600 - A) B _ _ d (fun j => q (A + j)) _ (by first | exact (HB.out _).drew | exact HB.out _) Hg.out (by exact HC.out _) HCell.out HPr.out hB16 hBL (by omega)).mono ?_; rintro e w1 ⟨rfl, hf1, hd1, cs1, hb1, hw1⟩)
      all_goals
        have HF := hid hf1
        have HD := hid hd1
        have HB1 := hid hb1
        have HW := hid (win_arr hw1 (by omega))
        clear hf1 hd1 hb1 hw1
        go_wp2_with fail
        go_ret
        unfold RD.ask
        rw [if_neg (by show ¬ (2 : Int) = 0; decide), if_neg (by show ¬ (2 : Int) = 1; decide), if_pos rfl]
        refine ⟨by show Ending.returned (.int .u32 (IntKind.u32.wrap _)) = Ending.returned (.int .u32 _); exact congrArg (fun z => Ending.returned (.int .u32 z)) HV4.out, Fr.trans ?_ HF.out, HD.out, ?_⟩
        · repeat (first | exact Fr.refl _ _ | refine Fr.drew ?_ | refine Fr.alloc ?_ _)
        · have := HB1.out
          rw [HW.out] at this
          exact this
  · simp only at hk h1 h2
    subst hk
    obtain ⟨A, rfl⟩ := Int.eq_ofNat_of_zero_le h1
    go_enter Try.func27, Try.ntmps27
    go_wp2_with fail
    refine (dstr_any s g A d _ (HB.out _) (by omega)).mono ?_
    rintro e w1 ⟨rfl, hf1, hd1⟩
    have HF := hid hf1
    have HD := hid hd1
    clear hf1 hd1
    go_wp2_with fail
    go_ret
    unfold RD.ask
    rw [if_neg (by show ¬ (3 : Int) = 0; decide), if_neg (by show ¬ (3 : Int) = 1; decide), if_neg (by show ¬ (3 : Int) = 2; decide)]
    refine ⟨rfl, ((Fr.refl _ _).alloc _).trans (HF.out.mono fun _ _ h => .inl h), HD.out, HF.out.blk (HC.out _) Hg.out⟩
end Go.Proofs.Ytomjagibcdneiaa
