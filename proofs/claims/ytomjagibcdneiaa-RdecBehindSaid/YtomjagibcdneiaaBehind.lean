/- Plain: a decoder that isn't bad tells the same with other bytes behind its own. -/
import Derived.Test.YtomjagibcdneiaaLaw04c
namespace Go.Proofs.Ytomjagibcdneiaa
open Go.RowKit

theorem next_bad {S : Type} (nx1 : S → Int × Bool × S) (d : RD S) (h : d.bad = true) : (d.next nx1).2.bad = true := by
  unfold RD.next; rw [if_pos h]; exact h
theorem four_bad {S : Type} (nx1 : S → Int × Bool × S) : ∀ (k : Nat) (d : RD S), d.bad = true → (RD.four nx1 k d).bad = true
  | 0, d, h => h
  | k + 1, d, h => four_bad nx1 k ⟨(d.next nx1).2.src, d.rng, d.code * 256 % 4294967296 + (d.next nx1).1, (d.next nx1).2.bad⟩ (next_bad nx1 d h)
section
variable {S : Type} (nx1 nx2 : S → Int × Bool × S) (H : ∀ s, (nx1 s).2.1 = true → nx2 s = nx1 s)
include H
theorem next_same (d : RD S) (h : (d.next nx1).2.bad = false) : d.next nx2 = d.next nx1 := by
  unfold RD.next at h ⊢
  by_cases hb : d.bad = true
  · rw [if_pos hb, if_pos hb]
  · rw [if_neg hb] at h ⊢
    rw [if_neg hb]
    have h2 : (!(nx1 d.src).2.1) = false := h
    rw [H d.src (by simpa using h2)]
theorem level_same (d : RD S) (h : (d.level nx1).bad = false) : d.level nx2 = d.level nx1 := by
  by_cases hr : d.rng < 16777216
  · rw [RD.level_lt _ _ hr] at h ⊢
    rw [RD.level_lt _ _ hr, next_same nx1 nx2 H d h]
  · rw [RD.level_ge _ _ hr, RD.level_ge _ _ hr]
theorem bit_same (d : RD S) (p : Int) (h : (d.bit nx1 p).2.2.bad = false) : d.bit nx2 p = d.bit nx1 p := by
  unfold RD.bit at h ⊢
  by_cases hb : d.bad = true
  · rw [if_pos hb, if_pos hb]
  · rw [if_neg hb] at h ⊢
    rw [if_neg hb]
    by_cases hc : d.code < d.rng / 2048 * p
    · rw [if_pos hc] at h ⊢
      rw [if_pos hc, level_same nx1 nx2 H _ h]
    · rw [if_neg hc] at h ⊢
      rw [if_neg hc, level_same nx1 nx2 H _ h]
theorem treeGo_same : ∀ (k : Nat) (d : RD S) (q : Nat → Int) (m : Nat), (RD.treeGo nx1 k d q m).2.2.bad = false → RD.treeGo nx2 k d q m = RD.treeGo nx1 k d q m
  | 0, d, q, m, _ => rfl
  | k + 1, d, q, m, h => by
    have hb : (d.bit nx1 (q m)).2.2.bad = false := by
      cases hx : (d.bit nx1 (q m)).2.2.bad with
      | false => rfl
      | true =>
        have h2 : (RD.treeGo nx1 k (d.bit nx1 (q m)).2.2 (upd q m (d.bit nx1 (q m)).2.1) (2 * m + (d.bit nx1 (q m)).1)).2.2.bad = false := h
        rw [treeGo_bad nx1 k _ _ _ hx, hx] at h2
        cases h2
    show RD.treeGo nx2 k (d.bit nx2 (q m)).2.2 (upd q m (d.bit nx2 (q m)).2.1) (2 * m + (d.bit nx2 (q m)).1) = _
    rw [bit_same nx1 nx2 H d (q m) hb]
    exact treeGo_same k _ _ _ h
theorem revGo_same : ∀ (k i : Nat) (d : RD S) (q : Nat → Int) (m out : Nat), (RD.revGo nx1 k i d q m out).2.2.bad = false → RD.revGo nx2 k i d q m out = RD.revGo nx1 k i d q m out
  | 0, i, d, q, m, out, _ => rfl
  | k + 1, i, d, q, m, out, h => by
    have hb : (d.bit nx1 (q m)).2.2.bad = false := by
      cases hx : (d.bit nx1 (q m)).2.2.bad with
      | false => rfl
      | true =>
        have h2 : (RD.revGo nx1 k (i + 1) (d.bit nx1 (q m)).2.2 (upd q m (d.bit nx1 (q m)).2.1) (2 * m + (d.bit nx1 (q m)).1) (out + (d.bit nx1 (q m)).1 * 2 ^ i)).2.2.bad = false := h
        rw [revGo_bad nx1 k _ _ _ _ _ hx, hx] at h2
        cases h2
    show RD.revGo nx2 k (i + 1) (d.bit nx2 (q m)).2.2 (upd q m (d.bit nx2 (q m)).2.1) (2 * m + (d.bit nx2 (q m)).1) (out + (d.bit nx2 (q m)).1 * 2 ^ i) = _
    rw [bit_same nx1 nx2 H d (q m) hb]
    exact revGo_same k _ _ _ _ _ h
theorem str1_same (d : RD S) (h : (d.str1 nx1).2.bad = false) : d.str1 nx2 = d.str1 nx1 := by
  unfold RD.str1 at h ⊢
  by_cases hc : d.rng / 2 ≤ d.code
  · rw [if_pos hc] at h ⊢
    rw [if_pos hc, level_same nx1 nx2 H _ h]
  · rw [if_neg hc] at h ⊢
    rw [if_neg hc, level_same nx1 nx2 H _ h]
theorem strGo_same : ∀ (k : Nat) (d : RD S) (out : Nat), (RD.strGo nx1 k d out).2.bad = false → RD.strGo nx2 k d out = RD.strGo nx1 k d out
  | 0, d, out, _ => rfl
  | k + 1, d, out, h => by
    cases hd : d.bad with
    | true => rw [strGo_bad _ _ _ _ hd, strGo_bad _ _ _ _ hd]
    | false =>
      rw [strGo_good _ _ _ _ hd] at h ⊢
      rw [strGo_good _ _ _ _ hd]
      have hb : (d.str1 nx1).2.bad = false := by
        cases hx : (d.str1 nx1).2.bad with
        | false => rfl
        | true => rw [strGo_bad _ _ _ _ hx, hx] at h; cases h
      rw [str1_same nx1 nx2 H d hb]
      exact strGo_same k _ _ h
theorem ask_same (d : RD S) (q : Nat → Int) (a : Ask) (h : (d.ask nx1 q a).2.2.bad = false) : d.ask nx2 q a = d.ask nx1 q a := by
  unfold RD.ask at h ⊢
  by_cases h0 : a.kind = 0
  · rw [if_pos h0] at h ⊢
    rw [if_pos h0, bit_same nx1 nx2 H _ _ h]
  · rw [if_neg h0] at h ⊢
    rw [if_neg h0]
    by_cases h1 : a.kind = 1
    · rw [if_pos h1] at h ⊢
      rw [if_pos h1]
      unfold RD.tree at h ⊢
      rw [treeGo_same nx1 nx2 H _ _ _ _ h]
    · rw [if_neg h1] at h ⊢
      rw [if_neg h1]
      by_cases h2 : a.kind = 2
      · rw [if_pos h2] at h ⊢
        rw [if_pos h2]
        unfold RD.rev at h ⊢
        rw [revGo_same nx1 nx2 H _ _ _ _ _ _ h]
      · rw [if_neg h2] at h ⊢
        rw [if_neg h2]
        unfold RD.str at h ⊢
        rw [strGo_same nx1 nx2 H _ _ _ h]
theorem four_same : ∀ (k : Nat) (d : RD S), (RD.four nx1 k d).bad = false → RD.four nx2 k d = RD.four nx1 k d
  | 0, d, _ => rfl
  | k + 1, d, h => by
    have hb : (d.next nx1).2.bad = false := by
      cases hx : (d.next nx1).2.bad with
      | false => rfl
      | true =>
        have := four_bad nx1 k ⟨(d.next nx1).2.src, d.rng, d.code * 256 % 4294967296 + (d.next nx1).1, (d.next nx1).2.bad⟩ hx
        have h2 : (RD.four nx1 k ⟨(d.next nx1).2.src, d.rng, d.code * 256 % 4294967296 + (d.next nx1).1, (d.next nx1).2.bad⟩).bad = false := h
        rw [this] at h2
        cases h2
    show RD.four nx2 k ⟨(d.next nx2).2.src, d.rng, d.code * 256 % 4294967296 + (d.next nx2).1, (d.next nx2).2.bad⟩ = _
    rw [next_same nx1 nx2 H d hb]
    exact four_same k _ h
theorem new_same (s0 : S) (h : (RD.new nx1 s0).bad = false) : RD.new nx2 s0 = RD.new nx1 s0 := by
  have h4 : (RD.four nx1 4 (RD.first nx1 s0)).bad = false := by
    have h2 : ((RD.four nx1 4 (RD.first nx1 s0)).bad || decide ((RD.four nx1 4 (RD.first nx1 s0)).rng ≤ (RD.four nx1 4 (RD.first nx1 s0)).code)) = false := h
    rw [Bool.or_eq_false_iff] at h2
    exact h2.1
  have hf : (RD.first nx1 s0).bad = false := by
    cases hx : (RD.first nx1 s0).bad with
    | false => rfl
    | true => rw [four_bad nx1 4 _ hx] at h4; cases h4
  have e : RD.first nx2 s0 = RD.first nx1 s0 := by
    unfold RD.first at hf ⊢
    by_cases h0 : (RD.next nx1 ⟨s0, 4294967295, 0, false⟩).1 = 0
    · rw [if_pos h0] at hf ⊢
      rw [next_same nx1 nx2 H _ hf, if_pos h0]
    · rw [if_neg h0] at hf; cases hf
  unfold RD.new
  rw [e, four_same nx1 nx2 H 4 _ h4]
end

/-- bad, or just as the other. -/
def Like (r r' : RD Nat × (Nat → Int)) : Prop := r.1.bad = true ∨ r' = r
theorem feed_like (f g : Nat → Int) (n m : Nat) (hm : n ≤ m) (hg : ∀ i, i < n → g i = f i) : ∀ s, (feedNx f n s).2.1 = true → feedNx g m s = feedNx f n s := by
  intro s h
  unfold feedNx at h ⊢
  by_cases hs : s < n
  · rw [if_pos hs, if_pos (by omega), hg s hs]
  · rw [if_neg hs] at h; cases h
end Go.Proofs.Ytomjagibcdneiaa
