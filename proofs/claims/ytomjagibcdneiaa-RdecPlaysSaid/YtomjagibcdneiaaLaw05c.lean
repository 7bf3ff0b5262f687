/- law05: the coder and its probabilities through a row of questions; RencFirst. -/
import Derived.Test.YtomjagibcdneiaaLaw05b
import Derived.Test.YtomjagibcdneiaaLaw04c
namespace Go.Proofs.Ytomjagibcdneiaa
open Go.RowKit

theorem RC.Ok.reach_str1 {c : RC} {N : Nat} (h : c.Ok N) (hb : c.bytes) (b : Nat) : ∃ k, Reach c (c.str1 b) k := by
  have h2 := h.rng0
  refine h.reach_part hb ?_ (by omega) ?_
  · by_cases hb : b = 1
    · rw [if_pos hb]; omega
    · rw [if_neg hb]; omega
  · by_cases hb : b = 1
    · rw [if_pos hb]; omega
    · rw [if_neg hb]; omega
theorem treeGo_keep (k : Nat) : ∀ (c : RC) (q : Nat → Int) (m v N j L : Nat), c.Ok N → c.bytes → Pr q L → m < 2 ^ j → 2 ^ (j + k) ≤ 2 * L →
    (RC.treeGo k c q m v).2.Ok (N + 3 * k) ∧ Pr (RC.treeGo k c q m v).1 L ∧ ∃ n, Reach c (RC.treeGo k c q m v).2 n := by
  induction k with
  | zero => intro c q m v N j L h1 h2 h3 _ _; exact ⟨h1, h3, 0, Reach.refl c⟩
  | succ k ih =>
    intro c q m v N j L h1 h2 h3 h4 h5
    have hm : m < L := by
      have : 2 ^ (j + 1) ≤ 2 ^ (j + (k + 1)) := Nat.pow_le_pow_right (by decide) (by omega)
      rw [Nat.pow_succ] at this
      omega
    have hp := h3 m hm
    have hb := bit_prob' c hp.1 hp.2 (v / 2 ^ k % 2)
    obtain ⟨n1, r1⟩ := h1.reach_bit h2 hp.1 hp.2 (v / 2 ^ k % 2)
    obtain ⟨g1, g2, n2, g3⟩ := ih (c.bit (q m) (v / 2 ^ k % 2)).2 (upd q m (c.bit (q m) (v / 2 ^ k % 2)).1) (2 * m + v / 2 ^ k % 2) v (N + 3) (j + 1) L (h1.bit hp.1 hp.2 _) (r1.bytes h2) (h3.upd m hb.1 hb.2) (by rw [Nat.pow_succ]; omega) (by rw [show j + 1 + k = j + (k + 1) by omega]; exact h5)
    exact ⟨g1.mono (by omega), g2, _, r1.trans g3⟩
theorem revGo_keep (k : Nat) : ∀ (i : Nat) (c : RC) (q : Nat → Int) (m v N j L : Nat), c.Ok N → c.bytes → Pr q L → m < 2 ^ j → 2 ^ (j + k) ≤ 2 * L →
    (RC.revGo k i c q m v).2.Ok (N + 3 * k) ∧ Pr (RC.revGo k i c q m v).1 L ∧ ∃ n, Reach c (RC.revGo k i c q m v).2 n := by
  induction k with
  | zero => intro i c q m v N j L h1 h2 h3 _ _; exact ⟨h1, h3, 0, Reach.refl c⟩
  | succ k ih =>
    intro i c q m v N j L h1 h2 h3 h4 h5
    have hm : m < L := by
      have : 2 ^ (j + 1) ≤ 2 ^ (j + (k + 1)) := Nat.pow_le_pow_right (by decide) (by omega)
      rw [Nat.pow_succ] at this
      omega
    have hp := h3 m hm
    have hb := bit_prob' c hp.1 hp.2 (v / 2 ^ i % 2)
    obtain ⟨n1, r1⟩ := h1.reach_bit h2 hp.1 hp.2 (v / 2 ^ i % 2)
    obtain ⟨g1, g2, n2, g3⟩ := ih (i + 1) (c.bit (q m) (v / 2 ^ i % 2)).2 (upd q m (c.bit (q m) (v / 2 ^ i % 2)).1) (2 * m + v / 2 ^ i % 2) v (N + 3) (j + 1) L (h1.bit hp.1 hp.2 _) (r1.bytes h2) (h3.upd m hb.1 hb.2) (by rw [Nat.pow_succ]; omega) (by rw [show j + 1 + k = j + (k + 1) by omega]; exact h5)
    exact ⟨g1.mono (by omega), g2, _, r1.trans g3⟩
theorem strGo_keep (k : Nat) : ∀ (c : RC) (v N : Nat), c.Ok N → c.bytes → (RC.strGo k c v).Ok (N + 3 * k) ∧ ∃ n, Reach c (RC.strGo k c v) n := by
  induction k with
  | zero => intro c v N h1 h2; exact ⟨h1, 0, Reach.refl c⟩
  | succ k ih =>
    intro c v N h1 h2
    obtain ⟨n1, r1⟩ := h1.reach_str1 h2 (v / 2 ^ k % 2)
    obtain ⟨g1, n2, g3⟩ := ih (c.str1 (v / 2 ^ k % 2)) v (N + 3) (h1.str1 _) (r1.bytes h2)
    exact ⟨g1.mono (by omega), _, r1.trans g3⟩
/-- what is coded: the coder stays one, the probabilities stay such. -/
theorem cask_keep {c : RC} {q : Nat → Int} {a : Ask} {N : Nat} (ha : a.Right) (h : c.Ok N) (hb : c.bytes) (hp : Pr q 600) :
    (c.ask q a).2.Ok (N + 96) ∧ Pr (c.ask q a).1 600 ∧ ∃ n, Reach c (c.ask q a).2 n := by
  obtain ⟨k, p, b, v⟩ := a
  rcases ha with ⟨hk, h1, h2⟩ | ⟨hk, h1, h2, h3, h4⟩ | ⟨hk, h1, h2⟩
  · simp only at hk h1 h2
    subst hk
    have hpa := hp p.toNat (by omega)
    have hb3 := bit_prob' c hpa.1 hpa.2 (v.toNat % 2)
    unfold RC.ask
    rw [if_pos rfl]
    exact ⟨(h.bit hpa.1 hpa.2 _).mono (by omega), hp.upd _ hb3.1 hb3.2, h.reach_bit hb hpa.1 hpa.2 _⟩
  · simp only at hk h1 h2 h3 h4
    obtain ⟨P, rfl⟩ := Int.eq_ofNat_of_zero_le h1
    obtain ⟨B, rfl⟩ := Int.eq_ofNat_of_zero_le (a := b) (by omega)
    have hP8 : 2 ^ B ≤ 256 := by
      have : 2 ^ B ≤ 2 ^ 8 := Nat.pow_le_pow_right (by decide) (by omega)
      omega
    have hpr : Pr (fun j => q (P + j)) (2 ^ B) := fun j hj => hp (P + j) (by omega)
    have hL : 2 ^ (1 + B) ≤ 2 * 2 ^ B := by rw [Nat.pow_add]; omega
    rcases hk with hk | hk
    · subst hk
      obtain ⟨g1, g2, g3⟩ := treeGo_keep B c (fun j => q (P + j)) 1 v.toNat N 1 (2 ^ B) h hb hpr (by decide) hL
      unfold RC.ask
      rw [if_neg (by show ¬ (1 : Int) = 0; decide), if_pos rfl]
      exact ⟨g1.mono (by omega), splice_pr hp g2, g3⟩
    · subst hk
      obtain ⟨g1, g2, g3⟩ := revGo_keep B 0 c (fun j => q (P + j)) 1 v.toNat N 1 (2 ^ B) h hb hpr (by decide) hL
      unfold RC.ask
      rw [if_neg (by show ¬ (2 : Int) = 0; decide), if_neg (by show ¬ (2 : Int) = 1; decide), if_pos rfl]
      exact ⟨g1.mono (by omega), splice_pr hp g2, g3⟩
  · simp only at hk h1 h2
    subst hk
    obtain ⟨g1, g2⟩ := strGo_keep b.toNat c v.toNat N h hb
    unfold RC.ask
    rw [if_neg (by show ¬ (3 : Int) = 0; decide), if_neg (by show ¬ (3 : Int) = 1; decide), if_neg (by show ¬ (3 : Int) = 2; decide)]
    exact ⟨g1.mono (by omega), hp, g2⟩

/-- the coder and its 600 probabilities, in a world that grew out of w. -/
structure StC (A : Nat → Prop) (g gp : Nat) (w wr : World) (r : RC × (Nat → Int)) (N : Nat) : Prop where
  fr : Fr Non w wr
  cod : CodIs A g wr r.1
  blk : wr.heap[gp]? = some (.cells (arr .u16 600 r.2) 22)
  pr : Pr r.2 600
  ok : r.1.Ok N
  bytes : r.1.bytes
theorem StC.any {A : Nat → Prop} {g gp : Nat} {w wr w' : World} {r : RC × (Nat → Int)} {N : Nat} (h : StC A g gp w wr r N) (hf : Fr Non wr w') : StC A g gp w w' r N :=
  ⟨h.fr.trans hf, h.cod.any hf, hf.blk h.blk id, h.pr, h.ok, h.bytes⟩
theorem StC.put {A : Nat → Prop} {g gp : Nat} {w wr : World} {r : RC × (Nat → Int)} {N : Nat} (h : StC A g gp w wr r N) (hA : A gp) (hA0 : ∀ k, k < w.heap.size → A k) (hgp : w.heap.size ≤ gp) (hN : N ≤ 1073741000) (a : Ask) (ha : a.Right) (hv : a.wf) :
    Calls Try.prog 20 #[.pointer (some ⟨g, 0, none⟩), .slice (some ⟨gp, 0, none⟩) 600 600, .agg #[.int .i64 a.kind, .int .i64 a.at_, .int .i64 a.bits, .int .u32 a.val]] wr
      fun e w' => e = .returned (.tuple #[]) ∧ StC A g gp w w' ((r.1.ask r.2 a).2, (r.1.ask r.2 a).1) (N + 96) ∧ Fr (fun k => ¬ A k ∨ k = gp) wr w' := by
  obtain ⟨k1, k2, n, k3⟩ := cask_keep ha h.ok h.bytes h.pr
  refine (put_any A g gp N r.1 r.2 a wr h.cod hA h.ok hN h.blk h.pr ha hv.2.2.2).mono ?_
  rintro e w' ⟨h1, h2, h3, h4⟩
  refine ⟨h1, ⟨h.fr.then h2 (fun i hi hk => ?_), h3, h4, k2, k1, k3.bytes h.bytes⟩, h2⟩
  rcases hk with hk | hk
  · exact absurd (hA0 i hi) hk
  · omega
end Go.Proofs.Ytomjagibcdneiaa
