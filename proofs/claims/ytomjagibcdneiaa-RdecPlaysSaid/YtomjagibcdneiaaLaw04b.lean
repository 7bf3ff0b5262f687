/- law04: same; what a row of questions does, in plain terms. -/
import Derived.Test.YtomjagibcdneiaaLaw04
import Derived.Test.YtomjagibcdneiaaAskOpen
namespace Go.Proofs.Ytomjagibcdneiaa
open Go.RowKit

theorem same_yes (a b : Option Addr) (n c1 c2 : Nat) (f g : Nat → Int) (w : World) (hn : n ≤ 4611686018427387904) (B : Nat)
    (ha : RowIn B .u16 w a n f) (hb : RowIn B .u16 w b n g) (hfg : ∀ i, i < n → f i = g i) :
    Calls Try.prog 30 #[.slice a n c1, .slice b n c2] w fun e w' => e = .returned (.bool true) ∧ ∃ m, w' = w.drewN m := by
  have Ha := hid ha
  have Hb := hid hb
  have Hfg := hid hfg
  clear ha hb hfg
  go_enter Try.func30, Try.ntmps30
  go_wp2
  go_loopw [5] (fun i wr => ∃ k m : Nat, k ≤ n ∧ i = .int .i64 k ∧ wr = w.drewN m) (fun i _ => n - (intOf i).toNat)
  case atStart => exact ⟨0, 0, Nat.zero_le _, rfl, rfl⟩
  case round =>
    obtain ⟨k, m, hk, rfl, rfl⟩ := hrel
    by_cases hlt : k < n
    · obtain ⟨b1, o1, rfl, hB1, hx⟩ := Ha.out.at hlt
      obtain ⟨b2, o2, rfl, hB2, hy⟩ := Hb.out.at hlt
      rw [Hfg.out k hlt] at hx
      have h0 : (0 : Int) ≤ (k : Int) := by omega
      have h1 : (k : Int) < (n : Int) := by omega
      go_wp2
      go_quiet (fail)
      go_wp2
      go_roundw
      case rel => exact ⟨k + 1, m + nq, by omega, by go_num, by simp⟩
      case measure => simp [intOf]; omega
    · have e : k = n := by omega
      subst e
      go_wp2
      go_ret
      exact ⟨rfl, _, rfl⟩

/-! ### plain: what a bad decoder tells -/
theorem upd_id (q : Nat → Int) (m : Nat) : upd q m (q m) = q := by
  funext j; unfold upd; by_cases h : j = m
  · rw [if_pos h, h]
  · rw [if_neg h]
theorem bit_bad {S : Type} (nx : S → Int × Bool × S) (d : RD S) (p : Int) (h : d.bad = true) : d.bit nx p = (0, p, d) := if_pos h
theorem treeGo_bad {S : Type} (nx : S → Int × Bool × S) : ∀ (k : Nat) (d : RD S) (q : Nat → Int) (m : Nat), d.bad = true → (RD.treeGo nx k d q m).2 = (q, d)
  | 0, d, q, m, h => rfl
  | k + 1, d, q, m, h => by
    show (RD.treeGo nx k (d.bit nx (q m)).2.2 (upd q m (d.bit nx (q m)).2.1) (2 * m + (d.bit nx (q m)).1)).2 = _
    rw [bit_bad nx d (q m) h, upd_id]
    exact treeGo_bad nx k d q _ h
theorem revGo_bad {S : Type} (nx : S → Int × Bool × S) : ∀ (k i : Nat) (d : RD S) (q : Nat → Int) (m out : Nat), d.bad = true → (RD.revGo nx k i d q m out).2 = (q, d)
  | 0, i, d, q, m, out, h => rfl
  | k + 1, i, d, q, m, out, h => by
    show (RD.revGo nx k (i + 1) (d.bit nx (q m)).2.2 (upd q m (d.bit nx (q m)).2.1) (2 * m + (d.bit nx (q m)).1) (out + (d.bit nx (q m)).1 * 2 ^ i)).2 = _
    rw [bit_bad nx d (q m) h, upd_id]
    exact revGo_bad nx k (i + 1) d q _ _ h
theorem tree_bad {S : Type} (nx : S → Int × Bool × S) (k : Nat) (d : RD S) (q : Nat → Int) (h : d.bad = true) : d.tree nx k q = (0, q, d) := by
  unfold RD.tree
  rw [treeGo_bad nx k d q 1 h]
  simp only [h, if_true]
theorem rev_bad {S : Type} (nx : S → Int × Bool × S) (k : Nat) (d : RD S) (q : Nat → Int) (h : d.bad = true) : d.rev nx k q = (0, q, d) := by
  unfold RD.rev
  rw [revGo_bad nx k 0 d q 1 0 h]
  simp only [h, if_true]
theorem str_bad {S : Type} (nx : S → Int × Bool × S) (k : Nat) (d : RD S) (h : d.bad = true) : d.str nx k = (0, d) := by
  unfold RD.str
  rw [strGo_bad nx k d 0 h]
  simp only [h, if_true]
theorem spliceQ_id (q : Nat → Int) (off L : Nat) : spliceQ q off L (fun j => q (off + j)) = q := by
  funext j; unfold spliceQ
  by_cases h : off ≤ j ∧ j < off + L
  · rw [if_pos h]; show q (off + (j - off)) = q j; rw [show off + (j - off) = j by omega]
  · rw [if_neg h]
/-- a bad decoder tells 0, and changes nothing. -/
theorem ask_bad {S : Type} (nx : S → Int × Bool × S) (d : RD S) (q : Nat → Int) (a : Ask) (h : d.bad = true) : d.ask nx q a = (0, q, d) := by
  unfold RD.ask
  by_cases h0 : a.kind = 0
  · rw [if_pos h0, bit_bad nx d _ h, upd_id]
  · rw [if_neg h0]
    by_cases h1 : a.kind = 1
    · rw [if_pos h1, tree_bad nx _ d _ h, spliceQ_id]
    · rw [if_neg h1]
      by_cases h2 : a.kind = 2
      · rw [if_pos h2, rev_bad nx _ d _ h, spliceQ_id]
      · rw [if_neg h2, str_bad nx _ d h]

/-! ### plain: probabilities stay in their bounds -/
theorem treeGo_pr {S : Type} (nx : S → Int × Bool × S) : ∀ (k j : Nat) (d : RD S) (q : Nat → Int) (m L : Nat), Pr q L → m < 2 ^ j → 2 ^ (j + k) ≤ 2 * L → Pr (RD.treeGo nx k d q m).2.1 L
  | 0, j, d, q, m, L, h, _, _ => h
  | k + 1, j, d, q, m, L, h, hm, hL => by
    have hb := bit_le nx d (q m)
    have hmL : m < L := by
      have : 2 ^ (j + 1) ≤ 2 ^ (j + (k + 1)) := Nat.pow_le_pow_right (by decide) (by omega)
      rw [Nat.pow_succ] at this
      omega
    have hp := h m hmL
    have hb2 := bit_prob nx d (q m) hp.1 hp.2
    exact treeGo_pr nx k (j + 1) _ _ _ L (h.upd m hb2.1 hb2.2) (by rw [Nat.pow_succ]; omega) (by rw [show j + 1 + k = j + (k + 1) by omega]; exact hL)
theorem revGo_pr {S : Type} (nx : S → Int × Bool × S) : ∀ (k i j : Nat) (d : RD S) (q : Nat → Int) (m out L : Nat), Pr q L → m < 2 ^ j → 2 ^ (j + k) ≤ 2 * L → Pr (RD.revGo nx k i d q m out).2.1 L
  | 0, i, j, d, q, m, out, L, h, _, _ => h
  | k + 1, i, j, d, q, m, out, L, h, hm, hL => by
    have hb := bit_le nx d (q m)
    have hmL : m < L := by
      have : 2 ^ (j + 1) ≤ 2 ^ (j + (k + 1)) := Nat.pow_le_pow_right (by decide) (by omega)
      rw [Nat.pow_succ] at this
      omega
    have hp := h m hmL
    have hb2 := bit_prob nx d (q m) hp.1 hp.2
    exact revGo_pr nx k (i + 1) (j + 1) _ _ _ _ L (h.upd m hb2.1 hb2.2) (by rw [Nat.pow_succ]; omega) (by rw [show j + 1 + k = j + (k + 1) by omega]; exact hL)
theorem splice_pr {q r : Nat → Int} {off L N : Nat} (h : Pr q N) (hr : Pr r L) : Pr (spliceQ q off L r) N := by
  intro j hj
  unfold spliceQ
  by_cases e : off ≤ j ∧ j < off + L
  · rw [if_pos e]; exact hr _ (by omega)
  · rw [if_neg e]; exact h j hj
theorem ask_pr {S : Type} (nx : S → Int × Bool × S) (d : RD S) (q : Nat → Int) (a : Ask) (ha : a.Right) (h : Pr q 600) : Pr (d.ask nx q a).2.1 600 := by
  have hsub : (a.kind = 1 ∨ a.kind = 2) → Pr (fun j => q (a.at_.toNat + j)) (2 ^ a.bits.toNat) := by
    intro hk j hj
    rcases ha with ⟨h0, _⟩ | ⟨_, h1, h2, h3, h4⟩ | ⟨h0, _⟩
    · omega
    · have : 2 ^ a.bits.toNat ≤ 2 ^ 8 := Nat.pow_le_pow_right (by decide) (by omega)
      exact h _ (by omega)
    · omega
  unfold RD.ask
  by_cases h0 : a.kind = 0
  · rw [if_pos h0]
    have hat : a.at_.toNat < 600 := by
      rcases ha with ⟨_, h1, h2⟩ | ⟨hk, _⟩ | ⟨hk, _⟩ <;> omega
    have hp := h _ hat
    have hb2 := bit_prob nx d (q a.at_.toNat) hp.1 hp.2
    exact h.upd _ hb2.1 hb2.2
  · rw [if_neg h0]
    by_cases h1 : a.kind = 1
    · rw [if_pos h1]
      exact splice_pr h (treeGo_pr nx _ 1 d _ 1 _ (hsub (.inl h1)) (by decide) (by rw [show 1 + a.bits.toNat = a.bits.toNat + 1 by omega, Nat.pow_succ]; omega))
    · rw [if_neg h1]
      by_cases h2 : a.kind = 2
      · rw [if_pos h2]
        exact splice_pr h (revGo_pr nx _ 0 1 d _ 1 0 _ (hsub (.inr h2)) (by decide) (by rw [show 1 + a.bits.toNat = a.bits.toNat + 1 by omega, Nat.pow_succ]; omega))
      · rw [if_neg h2]; exact h

/-- k questions of a row, those that may be asked. -/
def RD.run {S : Type} (nx : S → Int × Bool × S) (l : Nat → Ask) (d : RD S) (q : Nat → Int) : Nat → RD S × (Nat → Int)
  | 0 => (d, q)
  | k + 1 => if (l k).rightB = true then ((RD.ask nx (RD.run nx l d q k).1 (RD.run nx l d q k).2 (l k)).2.2, (RD.ask nx (RD.run nx l d q k).1 (RD.run nx l d q k).2 (l k)).2.1) else RD.run nx l d q k
theorem fresh_pr : Pr (fun _ => 1024) 600 := fun _ _ => by show (31 : Int) ≤ 1024 ∧ (1024 : Int) ≤ 2017; omega
end Go.Proofs.Ytomjagibcdneiaa
