/- law04: said. -/
import Derived.Test.YtomjagibcdneiaaRef4c
import Derived.Test.YtomjagibcdneiaaRef4d
import Derived.Test.YtomjagibcdneiaaRef4e
import Derived.Test.YtomjagibcdneiaaRef4f
import Derived.Test.YtomjagibcdneiaaPair
namespace Go.Proofs.Ytomjagibcdneiaa
open Go.RowKit

def SaidPost (a : Option Addr) (n cap : Nat) (f : Nat → Int) (lo g gq : Nat) (w : World) (r : Nat × (Nat → Int) × RD Nat) (e : Ending) (w' : World) : Prop :=
  e = .returned (.int .u32 r.1) ∧ Fr (fun k => k = g ∨ k = gq) w w' ∧ RefIs a n cap f lo g w' r.2.2 ∧ RowQ w' gq r.2.1
set_option maxRecDepth 100000 in
set_option maxHeartbeats 4000000 in
theorem said_any (a : Option Addr) (n cap : Nat) (f : Nat → Int) (hf : ∀ i, i < n → 0 ≤ f i ∧ f i < 256) (lo g gq cq : Nat) (x : RD Nat) (q : Nat → Int) (s : Ask) (w : World) (hn : n ≤ 1048576) (h : RefIs a n cap f lo g w x)
    (hb : RowQ w gq q) (hp : Pr q 600) (hs : s.Right) (hgq : lo ≤ gq) (hne : gq ≠ g) (hlo : lo ≤ w.heap.size) :
    Calls Try.prog 32 #[.pointer (some ⟨g, 0, none⟩), .slice (some ⟨gq, 0, none⟩) 600 cq, .agg #[.int .i64 s.kind, .int .i64 s.at_, .int .i64 s.bits, .int .u32 s.val]] w
      (SaidPost a n cap f lo g gq w (x.ask (feedNx f n) q s)) := by
  obtain ⟨k, p, b, v⟩ := s
  obtain ⟨cs, hb, hcs⟩ := hb
  have Hf := hid hf
  have Hp := hid hp
  have Hcs := hid hcs
  have hfr : ∀ o : Obj, Fr Non w (w.alloc o) := fun o => (Fr.refl _ _).alloc o
  have HB : Hid (∀ o : Obj, RefIs a n cap f lo g (w.alloc o) x) := fun o => h.keep (hfr o) id (fun _ _ => id)
  have HC : Hid (∀ o : Obj, (w.alloc o).heap[gq]? = some (.cells cs 22)) := fun o => blk_alloc hb
  have hgl := blk_lt h.at_
  have hql := blk_lt hb
  have hne1 : ¬ w.heap.size = g := by omega
  have hne2 : ¬ w.heap.size = gq := by omega
  have hne' : ¬ g = gq := fun e => hne e.symm
  clear h hb hp hfr hf hcs
  rcases hs with ⟨hk, h1, h2⟩ | ⟨hk, h1, h2, h3, h4⟩ | ⟨hk, h1, h2⟩
  · simp only at hk h1 h2
    subst hk
    obtain ⟨P, rfl⟩ := Int.eq_ofNat_of_zero_le h1
    have hP : P < 600 := by omega
    have hpa := Hp.out P hP
    have hb2 := bit_le (feedNx f n) x (q P)
    have cP := fun o => blk_cell (HC.out o) (Hcs.out P hP)
    obtain ⟨y, hy⟩ : ∃ y, y = x.bit (feedNx f n) (q P) := ⟨_, rfl⟩
    rw [← hy] at hb2
    have HY := hid hy
    clear hy
    go_enter Try.func32, Try.ntmps32
    go_wp2_with fail
    refine (rbit_any a n cap f Hf.out lo g x (q P) _ hn (HB.out _) (by omega) (by omega)).mono ?_
    rw [← HY.out]
    rintro e w1 ⟨rfl, hf1, hd1⟩
    have ka := hf1.cell (p := ⟨w.heap.size, 1, none⟩) (v := .int .i64 P) (by exact blk_cell (blk_new w _) rfl) hne1
    have hb1 := hf1.blk (HC.out _) hne
    have k5 := blk_cell hb1 (Hcs.out P hP)
    have g5 := blk_frozen hb1 P
    have HF := hid hf1
    have HD := hid hd1
    have HB1 := hid hb1
    clear hf1 hd1 hb1 cP
    go_wp2_with fail
    go_ret
    have e : x.ask (feedNx f n) q ⟨0, P, b, v⟩ = (y.1, upd q P y.2.1, y.2.2) := by rw [HY.out]; exact if_pos rfl
    rw [e]
    refine ⟨rfl, ?_, HD.out.keep ((Fr.refl (fun k => k = gq) w1).setOne P _) hne' (fun k hk e => by omega), _, blk_set (i := P) HB1.out, fun j hj => ?_⟩
    · exact Fr.setCell (p := ⟨gq, P, none⟩) (((Fr.refl Non w).alloc _).any.then HF.out (fun i _ e => .inl e)) (fun _ => .inr rfl) _
    · have hsz := (Array.getElem?_eq_some_iff.1 (Hcs.out P hP)).1
      rw [Array.getElem?_setIfInBounds]
      by_cases ej : P = j
      · subst ej
        rw [if_pos rfl, if_pos hsz]
        show some (Value.int IntKind.u16 _) = some (Value.int IntKind.u16 (upd q P _ P))
        rw [upd_same]
      · rw [if_neg ej]
        show cs[j]? = some (Value.int IntKind.u16 (upd q P _ j))
        rw [upd_ne _ _ (fun e => ej e.symm)]
        exact Hcs.out j hj
  · simp only at hk h1 h2 h3 h4
    obtain ⟨P, rfl⟩ := Int.eq_ofNat_of_zero_le h1
    obtain ⟨B, rfl⟩ := Int.eq_ofNat_of_zero_le (a := b) (by omega)
    have hB2 : B ≤ 8 := by omega
    have hP8 : 2 ^ B ≤ 256 := by
      have : 2 ^ B ≤ 2 ^ 8 := Nat.pow_le_pow_right (by decide) hB2
      omega
    have hP : P < 340 := by omega
    have hPr : Pr (fun j => q (P + j)) (2 ^ B) := fun j hj => Hp.out (P + j) (by omega)
    have hCell : ∀ j, j < 2 ^ B → cs[P + j]? = some (.int .u16 (q (P + j))) := fun j hj => Hcs.out _ (by omega)
    have HPr := hid hPr
    have HCell := hid hCell
    have HP8 := hid hP8
    clear hPr hCell hP8
    rcases hk with hk | hk
    · subst hk
      obtain ⟨y, hy⟩ : ∃ y, y = x.tree (feedNx f n) B (fun j => q (P + j)) := ⟨_, rfl⟩
      have hyl : y.1 < 256 := by have := tree_lt (feedNx f n) B x (fun j => q (P + j)); rw [← hy] at this; have := HP8.out; omega
      have e : x.ask (feedNx f n) q ⟨1, P, B, v⟩ = (y.1, spliceQ q P (2 ^ B) y.2.1, y.2.2) := by
        rw [hy]; unfold RD.ask
        rw [if_neg (by show ¬ (1 : Int) = 0; decide), if_pos rfl]
        rfl
      have HY := hid hy
      have HE := hid e
      clear hy e
      go_enter Try.func32, Try.ntmps32
      have hyw : IntKind.u32.wrap (y.1 : Int) = (y.1 : Int) := by rw [IntKind.wrap_u32']; omega
      go_wp2_with fail
      refine (rtree_any a n cap f Hf.out lo g gq P B cq x (fun j => q (P + j)) cs _ hn (HB.out _) (HC.out _) HCell.out HPr.out hB2 hP hgq hne).mono ?_
      rw [← HY.out]
      rintro e w1 ⟨rfl, hf1, hd1, cs', hb1, hw1⟩
      have HF := hid hf1
      have HD := hid hd1
      have HB1 := hid hb1
      have HW1 := hid (win_row hw1 Hcs.out)
      clear hf1 hd1 hb1 hw1
      go_wp2_with fail
      go_ret
      rw [HE.out]
      exact ⟨rfl, ((Fr.refl Non w).alloc _).any.then HF.out (fun i _ e => e), HD.out, cs', HB1.out, HW1.out⟩
    · subst hk
      obtain ⟨y, hy⟩ : ∃ y, y = x.rev (feedNx f n) B (fun j => q (P + j)) := ⟨_, rfl⟩
      have hyl : y.1 < 256 := by have := rev_lt (feedNx f n) B x (fun j => q (P + j)); rw [← hy] at this; have := HP8.out; omega
      have e : x.ask (feedNx f n) q ⟨2, P, B, v⟩ = (y.1, spliceQ q P (2 ^ B) y.2.1, y.2.2) := by
        rw [hy]; unfold RD.ask
        rw [if_neg (by show ¬ (2 : Int) = 0; decide), if_neg (by show ¬ (2 : Int) = 1; decide), if_pos rfl]
        rfl
      have HY := hid hy
      have HE := hid e
      clear hy e
      go_enter Try.func32, Try.ntmps32
      have hyw : IntKind.u32.wrap (y.1 : Int) = (y.1 : Int) := by rw [IntKind.wrap_u32']; omega
      go_wp2_with fail
      refine (rrev_any a n cap f Hf.out lo g gq P B cq x (fun j => q (P + j)) cs _ hn (HB.out _) (HC.out _) HCell.out HPr.out hB2 hP hgq hne).mono ?_
      rw [← HY.out]
      rintro e w1 ⟨rfl, hf1, hd1, cs', hb1, hw1⟩
      have HF := hid hf1
      have HD := hid hd1
      have HB1 := hid hb1
      have HW1 := hid (win_row hw1 Hcs.out)
      clear hf1 hd1 hb1 hw1
      go_wp2_with fail
      go_ret
      rw [HE.out]
      exact ⟨rfl, ((Fr.refl Non w).alloc _).any.then HF.out (fun i _ e => e), HD.out, cs', HB1.out, HW1.out⟩
  · simp only at hk h1 h2
    subst hk
    obtain ⟨B, rfl⟩ := Int.eq_ofNat_of_zero_le h1
    obtain ⟨y, hy⟩ : ∃ y, y = x.str (feedNx f n) B := ⟨_, rfl⟩
    have e : x.ask (feedNx f n) q ⟨3, p, B, v⟩ = (y.1, q, y.2) := by
      rw [hy]; unfold RD.ask
      rw [if_neg (by show ¬ (3 : Int) = 0; decide), if_neg (by show ¬ (3 : Int) = 1; decide), if_neg (by show ¬ (3 : Int) = 2; decide)]
      rfl
    have HY := hid hy
    have HE := hid e
    clear hy e
    go_enter Try.func32, Try.ntmps32
    go_wp2_with fail
    refine (rstr_any a n cap f Hf.out lo g B x _ hn (HB.out _) (by omega)).mono ?_
    rw [← HY.out]
    rintro e w1 ⟨rfl, hf1, hd1⟩
    have HF := hid hf1
    have HD := hid hd1
    clear hf1 hd1
    go_wp2_with fail
    go_ret
    rw [HE.out]
    exact ⟨rfl, ((Fr.refl Non w).alloc _).any.then HF.out (fun i _ e => .inl e), HD.out, cs, HF.out.blk (HC.out _) hne, Hcs.out⟩
end Go.Proofs.Ytomjagibcdneiaa
