/- The document's coder (05): Ask, told straight. -/
import Derived.Test.YtomjagibcdneiaaEnc5k
import Derived.Test.YtomjagibcdneiaaLaw05c
namespace Go.Proofs.Ytomjagibcdneiaa
open Go.RowKit

theorem str1_zero (c : RC) : c.str1 0 = c.part 0 (c.rng / 2) := rfl
theorem str1_one (c : RC) : c.str1 1 = c.part (c.rng / 2) (c.rng / 2) := rfl
def ESPost (A : Nat → Prop) (g : Nat) (w : World) (c : RC) (e : Ending) (w' : World) : Prop :=
  e = .returned (.tuple #[]) ∧ Fr (Out A) w w' ∧ EncC A g w' c
structure ESAt (A' : Nat → Prop) (g N : Nat) (W wr : World) (c1 : RC) : Prop where
  fr : Fr (Out A') W wr
  enc : EncC A' g wr c1
  ok : c1.Ok N
  by_ : c1.bytes
theorem ESAt.step {A' : Nat → Prop} {g N b : Nat} {W wr w1 : World} {c1 : RC} (h : ESAt A' g N W wr c1) (hf : Fr (Out A') wr w1) (he : EncC A' g w1 (c1.str1 b)) : ESAt A' g (N + 3) W w1 (c1.str1 b) := by
  obtain ⟨n, hn⟩ := h.ok.reach_str1 h.by_ b
  exact ⟨h.fr.trans hf, he, h.ok.str1 b, hn.4 h.by_⟩
set_option maxRecDepth 100000 in
set_option maxHeartbeats 8000000 in
theorem eask_3 (A : Nat → Prop) (g N B V : Nat) (pv : Value) (p : Int) (c : RC) (w : World) (h : EncC A g w c) (hok : c.Ok N) (hby : c.bytes) (hN : N ≤ 1073741000) (hB : B ≤ 32) :
    Calls Try.prog 21 #[.pointer (some ⟨g, 0, none⟩), pv, .agg #[.int .i64 3, .int .i64 p, .int .i64 B, .int .u32 V]] w (ESPost A g w (RC.strGo B c V)) := by
  have hnot := h.not
  obtain ⟨W, hW⟩ : ∃ W, W = w.alloc (.cells #[.int .i64 3, .int .i64 p, .int .i64 B, .int .u32 V] 39) := ⟨_, rfl⟩
  have hfw : Fr Non w W := by rw [hW]; exact (Fr.refl Non w).alloc _
  have ha : W.heap[w.heap.size]? = some (.cells #[.int .i64 3, .int .i64 p, .int .i64 B, .int .u32 V] 39) := by rw [hW]; exact blk_new w _
  have hlt := blk_lt ha
  obtain ⟨A', hA'⟩ : ∃ A', A' = Since A w W := ⟨_, rfl⟩
  have S0 := hid (show ESAt A' g N W W c from ⟨Fr.refl _ _, by rw [hA']; exact h.fresh hfw, hok, hby⟩)
  have hAa : A' w.heap.size := by rw [hA']; exact .inr ⟨Nat.le_refl _, hlt⟩
  have HAA := hid hAa
  have HLA := hid (show ∀ k, A k → A' k from fun k hk => by rw [hA']; exact .inl hk)
  have HFW := hid hfw
  have HA := hid ha
  have HW := hid hW
  clear h hok hby hA' hfw ha hlt hAa hW
  go_enter Try.func21, Try.ntmps21
  go_wp2_with fail
  rw [← HW.out]
  go_loopw [12] (fun iv wr => ∃ (k : Nat) (c1 : RC), k ≤ B ∧ iv = .int .i64 ((k : Int) - 1) ∧ RC.strGo k c1 V = RC.strGo B c V ∧ ESAt A' g (N + 3 * (B - k)) W wr c1)
    (fun iv _ => (intOf iv + 1).toNat)
  case atStart =>
    refine ⟨B, c, Nat.le_refl _, rfl, rfl, ?_⟩
    rw [Nat.sub_self]; exact S0.out
  case round =>
    obtain ⟨k, c1, hk, rfl, hgo, hst⟩ := hrel
    have ha := hst.fr.blk HA.out (fun e => e HAA.out)
    have a3 := blk_cell ha (j := 3) (v := .int .u32 V) rfl
    have hne : ¬ w.heap.size = g := fun e => hst.enc.not (by rw [← e]; exact HAA.out)
    have Hgo := hid hgo
    have ST := hid hst
    clear hgo hst ha
    by_cases hk0 : k = 0
    · subst hk0
      have hgo : c1 = RC.strGo B c V := Hgo.out
      have HG := hid hgo
      clear hgo
      go_wp2_with fail
      go_end0
      rw [← HG.out]
      exact ⟨rfl, HFW.out.any.then ST.out.fr (fun i _ e h => e (HLA.out i h)), ST.out.enc.less HLA.out⟩
    · obtain ⟨i, rfl⟩ := Nat.exists_eq_succ_of_ne_zero hk0
      rw [show ((i.succ : Nat) : Int) - 1 = (i : Int) by omega]
      obtain ⟨b, hb⟩ : ∃ b, b = V / 2 ^ i % 2 := ⟨_, rfl⟩
      have hb1 : b ≤ 1 := by omega
      have HBB := hid hb
      clear hb
      have hbv : ((V : Int) / 2 ^ i).tmod 2 = (b : Int) := by
        have e : ((V : Int) / 2 ^ i) = ((V / 2 ^ i : Nat) : Int) := by simp
        rw [e, Int.tmod_eq_emod_of_nonneg (Int.natCast_nonneg _), HBB.out]
        generalize V / 2 ^ i = x
        omega
      obtain ⟨v1, B1, hv1, q1⟩ := ST.out.enc
      have c1' := blk_cell hv1.at_ (j := 1) (v := .int .u64 c1.rng) rfl
      have f1' := blk_frozen hv1.at_ 1
      have o2 := ST.out.ok.rng0
      have o3 := ST.out.ok.rng1
      have hL : c1.len ≤ 1073741800 := by have := ST.out.ok.size; unfold RC.len; omega
      have hL0 : 0 < c1.len := by unfold RC.len; omega
      have HBE := hid (ST.out.ok.below ST.out.by_)
      clear hv1 q1
      have eB : N + 3 * (B - i.succ) + 3 = N + 3 * (B - i) := by omega
      have eG : RC.strGo i.succ c1 V = RC.strGo i (c1.str1 (V / 2 ^ i % 2)) V := rfl
      rcases Nat.le_one_iff_eq_zero_or_eq_one.1 hb1 with rfl | rfl
      · rw [← HBB.out] at eG
        have HGO := hid (show RC.strGo i (c1.str1 0) V = RC.strGo B c V from eG.symm.trans Hgo.out)
        clear eG
        go_wp2_with fail
        refine (elevel_any A' g c1.val c1.len (c1.rng / 2) _ (by exact enc_rng ST.out.enc _) (by omega) (by omega) (by omega)).mono ?_
        rintro e w1 ⟨rfl, hf1, k, he1, hk0, hk1⟩
        have HE := hid (enc_part ST.out.ok ST.out.by_ (a := 0) (r := c1.rng / 2) (Int.le_refl 0) (by omega) (by omega) (k := k) (by rw [Int.add_zero]; exact he1) hk0 hk1)
        have HS := hid (ST.out.step (b := 0) ((Fr.setCell (p := ⟨g, 1, none⟩) (Fr.refl (Out A') wr) (fun _ => ST.out.enc.not) _).trans hf1) HE.out)
        clear hf1 he1
        go_wp2_with fail
        go_roundw
        case rel => exact ⟨i, c1.str1 0, by omega, by go_num, HGO.out, by rw [← eB]; exact HS.out⟩
        case measure => simp [intOf]
      · rw [← HBB.out] at eG
        have HGO := hid (show RC.strGo i (c1.str1 1) V = RC.strGo B c V from eG.symm.trans Hgo.out)
        clear eG
        go_wp2_with fail
        refine (eadd_any A' g c1.val c1.len (c1.rng / 2) (c1.rng / 2) _ (by exact enc_rng ST.out.enc _) hL0 (by omega) (by omega) (by omega) (by have := HBE.out.1; omega)).mono ?_
        rintro e w1 ⟨rfl, hf1, he1⟩
        have HF1 := hid hf1
        have HE1 := hid he1
        clear hf1 he1
        go_wp2_with fail
        refine (elevel_any A' g (c1.val + c1.rng / 2) c1.len (c1.rng / 2) _ HE1.out (by omega) (by omega) (by omega)).mono ?_
        rintro e w2 ⟨rfl, hf2, k, he2, hk0, hk1⟩
        have HE := hid (enc_part ST.out.ok ST.out.by_ (a := c1.rng / 2) (r := c1.rng / 2) (by omega) (by omega) (by omega) (k := k) he2 hk0 hk1)
        have HS := hid (ST.out.step (b := 1) (((Fr.setCell (p := ⟨g, 1, none⟩) (Fr.refl (Out A') wr) (fun _ => ST.out.enc.not) _).trans HF1.out).trans hf2) HE.out)
        clear hf2 he2
        go_wp2_with fail
        go_roundw
        case rel => exact ⟨i, c1.str1 1, by omega, by go_num, HGO.out, by rw [← eB]; exact HS.out⟩
        case measure => simp [intOf]
end Go.Proofs.Ytomjagibcdneiaa
