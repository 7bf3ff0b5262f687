/- lzma2: Unpack of any property; Lzma2Sizes' walk. -/
import Derived.Test.YtjnegcambbeblaaMg12
namespace Go.Proofs.Ytjnegcambbeblaa
open Go.RowKit

set_option maxRecDepth 100000 in
set_option maxHeartbeats 800000 in
theorem l2unpack_bad (p : Nat) (hp : 40 < p) (hp2 : p < 256) (v : Value) (x : Int) (gm : Nat) (w : World) :
    Calls Try.prog 38 #[v, .int .u8 p, .int .i64 x, .pointer (some ⟨gm, 0, none⟩)] w fun e w' => e = .returned (.tuple #[.slice none 0 0, .int .i64 11]) ∧ w = w' := by
  have CN := hid (l2new_bad gm p x w hp hp2)
  clear hp hp2
  go_enter_defers Try.func38, Try.ntmps38
  go_wp2_with fail
  refine CN.out.mono ?_
  rintro e w1 ⟨rfl, rfl⟩
  go_wp2_with fail
  exact ⟨.tuple #[.slice none 0 0, .int .i64 11], Eq.trans (results_tmp2 rfl _ _ _) rfl, rfl, rfl⟩
/-- Unpack of any property: what the ending is. -/
def L2APost (p : Nat) (R : Option (List Int)) (W : World) (e : Ending) (w' : World) : Prop :=
  ∃ v q, e = .returned (.tuple #[v, .int .i64 q]) ∧ Fr Non W w' ∧ ((40 < p ∧ q = 11) ∨ (p ≤ 40 ∧ R = none ∧ q = 12) ∨ (p ≤ 40 ∧ q = 0 ∧ ∃ xs, R = some xs ∧ RowO w' W.heap.size v xs))
theorem l2unpack_all (p : Nat) (hp : p < 256) (x : Int) (a : Option Addr) (n c : Nat) (f : Nat → Int) (hf : ∀ i, i < n → 0 ≤ f i ∧ f i < 256) (gm : Nat) (W w : World)
    (hW : Fr Non W w) (hgW : W.heap.size ≤ gm) (h : MAt w gm MUCH) (hs : x ≤ 5000) (hs0 : -9223372036854775808 ≤ x) (hn : n ≤ 20000) (hnc : n ≤ c) (hnil : a = none → c = 0) (hr : RowIn w.heap.size .u8 w a n f) :
    Calls Try.prog 38 #[.slice a n c, .int .u8 p, .int .i64 x, .pointer (some ⟨gm, 0, none⟩)] w (L2APost p (l2unpack (feedNx f n) 0 p (wsize (min (set2 p).dict x)) x.toNat) W) := by
  by_cases h40 : p ≤ 40
  · refine (l2unpack_much p h40 x _ rfl a n c f hf gm W w _ rfl hW hgW h hs hs0 hn hnc hnil hr).mono ?_
    rintro e w' ⟨h1, h2 | ⟨xs, v, h5, h6, h7⟩⟩
    · exact ⟨_, _, h2.2, h1, .inr (.inl ⟨h40, h2.1, rfl⟩)⟩
    · exact ⟨_, _, h6, h1, .inr (.inr ⟨h40, rfl, xs, h5, h7⟩)⟩
  · refine (l2unpack_bad p (by omega) hp _ x gm w).mono ?_
    rintro e w' ⟨h1, rfl⟩
    exact ⟨_, _, h1, hW, .inl ⟨by omega, rfl⟩⟩
set_option maxRecDepth 100000 in
set_option maxHeartbeats 800000 in
theorem lzma2Sizes_walk (a : Option Addr) (n cap : Nat) (f : Nat → Int) (p : Nat) (z : P16) (w : World) (hz : z.wf) (hp : p < 256) (hnc : n ≤ cap) (hcm : cap ≤ 9223372036854775807) (hnil : a = none → cap = 0) (hr : RowIn w.heap.size .u8 w a n f) (hf : ∀ i, i < n → 0 ≤ f i ∧ f i < 256) :
    Calls Try.prog 10 #[.slice a n cap, .int .u8 p, z.val] w fun e w' => e = .returned (.bool true) ∧ Fr Non w w' := by
  obtain ⟨x, y⟩ := z
  obtain ⟨⟨x0, x1⟩, y0, y1⟩ := hz
  dsimp only at x0 x1 y0 y1
  obtain ⟨u, hu⟩ : ∃ u : Nat, u = (x % 5000).toNat := ⟨_, rfl⟩
  obtain ⟨v, hv⟩ : ∃ v : Nat, v = (y % 5000).toNat := ⟨_, rfl⟩
  have hxu : x % 5000 = (u : Int) := by omega
  have hyv : y % 5000 = (v : Int) := by omega
  have hu5 : (u : Int) < 5000 := by omega
  have hv5 : (v : Int) < 5000 := by omega
  have HR := hid hr
  have HF := hid hf
  have HC := hid (And.intro hnc hnil)
  have hn1 : (n : Int) ≤ 9223372036854775807 := by omega
  clear hr hf hnc hnil hu hv
  show Calls Try.prog 10 #[.slice a n cap, .int .u8 p, .agg #[.int .u16 x, .int .u16 y]] w _
  go_enter Try.func10, Try.ntmps10
  go_wp2_with fail
  refine (awake11_any _).mono ?_
  rintro e w1 ⟨rfl, hf1⟩
  have hb := hf1.blk (blk_new w (.cells #[.int .u16 x, .int .u16 y] 65)) id
  have c0 := blk_cell hb (j := 0) (v := .int .u16 x) rfl
  have c1 := blk_cell hb (j := 1) (v := .int .u16 y) rfl
  have F1 := hid (((Fr.refl Non w).alloc _).trans hf1)
  clear hf1 hb
  by_cases hbig : (8192 : Int) < (n : Int)
  · go_wp2_with fail
    go_ret
    exact ⟨rfl, F1.out⟩
  · by_cases heq : u = v
    · subst heq
      go_wp2_with fail
      go_ret
      exact ⟨rfl, F1.out⟩
    · have hne : ((u : Int) == (v : Int)) = false := by simp; omega
      have HNE := hid heq
      clear heq
      go_wp2_with fail
      refine (much_any _).mono ?_
      rintro e wm ⟨gm, rfl, hgm, hfm, hmm⟩
      have F2 := hid (F1.out.trans hfm)
      have HMM := hid hmm
      have HGM := hid (Nat.le_trans F1.out.size hgm)
      clear hfm hmm hgm
      go_wp2_with fail
      refine (l2unpack_all p hp u a n cap f HF.out gm w _ F2.out HGM.out HMM.out (by omega) (by omega) (by omega) HC.out.1 HC.out.2 (F2.out.size |> fun h => (HR.out.fr F2.out (fun _ _ e => e)).mono h)).mono ?_
      rintro e w2 ⟨va, qa, rfl, hf2, hqa⟩
      have HQA := hid hqa
      have F3 := hid hf2
      clear hqa hf2
      go_wp2_with fail
      refine (much_any _).mono ?_
      rintro e wk ⟨gk, rfl, hgk, hfk, hmk⟩
      have F4 := hid (F3.out.trans hfk)
      have HMK := hid hmk
      have HGK := hid (Nat.le_trans F3.out.size hgk)
      clear hfk hmk hgk
      go_wp2_with fail
      refine (l2unpack_all p hp v a n cap f HF.out gk w _ F4.out HGK.out HMK.out (by omega) (by omega) (by omega) HC.out.1 HC.out.2 (F4.out.size |> fun h => (HR.out.fr F4.out (fun _ _ e => e)).mono h)).mono ?_
      rintro e w4 ⟨vb, qb, rfl, hf4, hqb⟩
      have HQB := hid hqb
      have F5 := hid hf4
      clear hqb hf4
      rcases HQA.out with ⟨_, rfl⟩ | ⟨_, _, rfl⟩ | ⟨h40, rfl, xs, hx, _⟩
      · go_wp2_with fail
        go_ret
        exact ⟨rfl, F5.out⟩
      · go_wp2_with fail
        go_ret
        exact ⟨rfl, F5.out⟩
      · have hno : l2unpack (feedNx f n) 0 p (wsize (min (set2 p).dict (v : Int))) (v : Int).toNat = none := l2one (feedNx f n) 0 p u v h40 HNE.out hx
        have hq12 : qb = 12 := by
          rcases HQB.out with ⟨h1, _⟩ | ⟨_, _, h1⟩ | ⟨_, _, ys, h1, _⟩
          · omega
          · exact h1
          · rw [hno] at h1; cases h1
        subst hq12
        clear hno hx h40
        go_wp2_with fail
        go_ret
        exact ⟨rfl, F5.out⟩
end Go.Proofs.Ytjnegcambbeblaa
