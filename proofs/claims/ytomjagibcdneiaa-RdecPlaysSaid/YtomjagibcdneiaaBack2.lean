/- RencBack, in plain numbers. -/
import Derived.Test.YtomjagibcdneiaaBack
import Derived.Test.YtomjagibcdneiaaRencFirst
namespace Go.Proofs.Ytomjagibcdneiaa
open Go.RowKit

def Ask.want (a : Ask) : Nat := if a.kind = 0 then a.val.toNat % 2 else a.val.toNat % 2 ^ a.bits.toNat
theorem sync_ask {f : Nat → Int} {n : Nat} {C : RC} (h : Told f n C) {c : RC} {d : RD Nat} {q : Nat → Int} {a : Ask} {N : Nat} (ha : a.Right) (hs : Sync f c d) (hok : c.Ok N) (hb : c.bytes) (hp : Pr q 600) (hre : ∃ k, Reach (c.ask q a).2 C k) :
    (d.ask (feedNx f n) q a).1 = a.want ∧ (d.ask (feedNx f n) q a).2.1 = (c.ask q a).1 ∧ Sync f (c.ask q a).2 (d.ask (feedNx f n) q a).2.2 := by
  obtain ⟨k, p, b, v⟩ := a
  rcases ha with ⟨hk, h1, h2⟩ | ⟨hk, h1, h2, h3, h4⟩ | ⟨hk, h1, h2⟩
  · simp only at hk h1 h2
    subst hk
    have hpa := hp p.toNat (by omega)
    have eC : c.ask q ⟨0, p, b, v⟩ = (upd q p.toNat (c.bit (q p.toNat) (v.toNat % 2)).1, (c.bit (q p.toNat) (v.toNat % 2)).2) := if_pos rfl
    have eD : d.ask (feedNx f n) q ⟨0, p, b, v⟩ = ((d.bit (feedNx f n) (q p.toNat)).1, upd q p.toNat (d.bit (feedNx f n) (q p.toNat)).2.1, (d.bit (feedNx f n) (q p.toNat)).2.2) := if_pos rfl
    rw [eC] at hre ⊢
    rw [eD]
    obtain ⟨kk, hre⟩ := hre
    obtain ⟨e1, e2, e3⟩ := sync_bit h hs hok hpa.1 hpa.2 (v.toNat % 2) (by omega) hre
    exact ⟨by rw [e1]; rfl, by show upd q p.toNat _ = upd q p.toNat _; rw [e2], e3⟩
  · simp only at hk h1 h2 h3 h4
    obtain ⟨P, rfl⟩ := Int.eq_ofNat_of_zero_le h1
    obtain ⟨B, rfl⟩ := Int.eq_ofNat_of_zero_le (a := b) (by omega)
    have hP8 : 2 ^ B ≤ 256 := by
      have : 2 ^ B ≤ 2 ^ 8 := Nat.pow_le_pow_right (by decide) (by omega)
      omega
    have hpr : Pr (fun j => q (P + j)) (2 ^ B) := fun j hj => hp (P + j) (by omega)
    have hL : 2 ^ (1 + B) ≤ 2 * 2 ^ B := by rw [Nat.pow_add]; omega
    rcases hk with hk | hk
    · subst hk
      have eC : c.ask q ⟨1, P, B, v⟩ = (spliceQ q P (2 ^ B) (c.tree B (fun j => q (P + j)) v.toNat).1, (c.tree B (fun j => q (P + j)) v.toNat).2) := by
        unfold RC.ask; rw [if_neg (by show ¬ (1 : Int) = 0; decide), if_pos rfl]; rfl
      have eD : d.ask (feedNx f n) q ⟨1, P, B, v⟩ = ((d.tree (feedNx f n) B (fun j => q (P + j))).1, spliceQ q P (2 ^ B) (d.tree (feedNx f n) B (fun j => q (P + j))).2.1, (d.tree (feedNx f n) B (fun j => q (P + j))).2.2) := by
        unfold RD.ask; rw [if_neg (by show ¬ (1 : Int) = 0; decide), if_pos rfl]; rfl
      rw [eC] at hre ⊢
      rw [eD]
      obtain ⟨g1, g2, g3⟩ := sync_treeGo h B c d (fun j => q (P + j)) 1 v.toNat N 1 (2 ^ B) hs hok hb hpr (by decide) hL hre
      refine ⟨?_, ?_, g3⟩
      · show (if (RD.treeGo (feedNx f n) B d (fun j => q (P + j)) 1).2.2.bad = true then 0 else (RD.treeGo (feedNx f n) B d (fun j => q (P + j)) 1).1 - 2 ^ B) = _
        rw [if_neg (by rw [g3.bad]; decide), g1]
        show 2 ^ B * 1 + v.toNat % 2 ^ B - 2 ^ B = v.toNat % 2 ^ B
        omega
      · show spliceQ q P (2 ^ B) (RD.treeGo (feedNx f n) B d (fun j => q (P + j)) 1).2.1 = _
        rw [g2]; rfl
    · subst hk
      have eC : c.ask q ⟨2, P, B, v⟩ = (spliceQ q P (2 ^ B) (c.rev B (fun j => q (P + j)) v.toNat).1, (c.rev B (fun j => q (P + j)) v.toNat).2) := by
        unfold RC.ask; rw [if_neg (by show ¬ (2 : Int) = 0; decide), if_neg (by show ¬ (2 : Int) = 1; decide), if_pos rfl]; rfl
      have eD : d.ask (feedNx f n) q ⟨2, P, B, v⟩ = ((d.rev (feedNx f n) B (fun j => q (P + j))).1, spliceQ q P (2 ^ B) (d.rev (feedNx f n) B (fun j => q (P + j))).2.1, (d.rev (feedNx f n) B (fun j => q (P + j))).2.2) := by
        unfold RD.ask; rw [if_neg (by show ¬ (2 : Int) = 0; decide), if_neg (by show ¬ (2 : Int) = 1; decide), if_pos rfl]; rfl
      rw [eC] at hre ⊢
      rw [eD]
      obtain ⟨g1, g2, g3⟩ := sync_revGo h B 0 c d (fun j => q (P + j)) 1 0 v.toNat N 1 (2 ^ B) hs hok hb hpr (by decide) hL hre
      refine ⟨?_, ?_, g3⟩
      · show (if (RD.revGo (feedNx f n) B 0 d (fun j => q (P + j)) 1 0).2.2.bad = true then 0 else (RD.revGo (feedNx f n) B 0 d (fun j => q (P + j)) 1 0).1) = _
        rw [if_neg (by rw [g3.bad]; decide), g1]
        show 0 + v.toNat / 2 ^ 0 % 2 ^ B * 2 ^ 0 = v.toNat % 2 ^ B
        simp
      · show spliceQ q P (2 ^ B) (RD.revGo (feedNx f n) B 0 d (fun j => q (P + j)) 1 0).2.1 = _
        rw [g2]; rfl
  · simp only at hk h1 h2
    subst hk
    have eC : c.ask q ⟨3, p, b, v⟩ = (q, c.strGo b.toNat v.toNat) := by
      unfold RC.ask; rw [if_neg (by show ¬ (3 : Int) = 0; decide), if_neg (by show ¬ (3 : Int) = 1; decide), if_neg (by show ¬ (3 : Int) = 2; decide)]
    have eD : d.ask (feedNx f n) q ⟨3, p, b, v⟩ = ((d.str (feedNx f n) b.toNat).1, q, (d.str (feedNx f n) b.toNat).2) := by
      unfold RD.ask; rw [if_neg (by show ¬ (3 : Int) = 0; decide), if_neg (by show ¬ (3 : Int) = 1; decide), if_neg (by show ¬ (3 : Int) = 2; decide)]
    rw [eC] at hre ⊢
    rw [eD]
    obtain ⟨g1, g2⟩ := sync_strGo h b.toNat c d 0 v.toNat N hs hok hb hre
    refine ⟨?_, rfl, g2⟩
    show (if (RD.strGo (feedNx f n) b.toNat d 0).2.bad = true then 0 else (RD.strGo (feedNx f n) b.toNat d 0).1) = _
    rw [if_neg (by rw [g2.bad]; decide), g1]
    show 2 ^ b.toNat * 0 + v.toNat % 2 ^ b.toNat = v.toNat % 2 ^ b.toNat
    omega
/-- the coder and its probabilities behind the first k questions. -/
def encR (l : Nat → Ask) : Nat → RC × (Nat → Int)
  | 0 => (RC.new, fun _ => 1024)
  | k + 1 => if (l k).rightB = true then (((encR l k).1.ask (encR l k).2 (l k)).2, ((encR l k).1.ask (encR l k).2 (l k)).1) else encR l k
theorem encR_ok (l : Nat → Ask) (k : Nat) : (encR l k).1.Ok (96 * k) ∧ (encR l k).1.bytes ∧ Pr (encR l k).2 600 := by
  induction k with
  | zero => exact ⟨new_ok _, new_bytes, fresh_pr⟩
  | succ k ih =>
    obtain ⟨h1, h2, h3⟩ := ih
    unfold encR
    by_cases hr : (l k).rightB = true
    · rw [if_pos hr]
      obtain ⟨k1, k2, n, k3⟩ := cask_keep (of_decide_eq_true hr) h1 h2 h3
      exact ⟨k1, k3.bytes h2, k2⟩
    · rw [if_neg hr]; exact ⟨h1.mono (by omega), h2, h3⟩
theorem encR_step (l : Nat → Ask) (k : Nat) : ∃ n, Reach (encR l k).1 (encR l (k + 1)).1 n := by
  obtain ⟨h1, h2, h3⟩ := encR_ok l k
  show ∃ n, Reach (encR l k).1 (if (l k).rightB = true then (((encR l k).1.ask (encR l k).2 (l k)).2, ((encR l k).1.ask (encR l k).2 (l k)).1) else encR l k).1 n
  by_cases hr : (l k).rightB = true
  · rw [if_pos hr]
    obtain ⟨_, _, n, k3⟩ := cask_keep (of_decide_eq_true hr) h1 h2 h3
    exact ⟨n, k3⟩
  · rw [if_neg hr]; exact ⟨0, Reach.refl _⟩
theorem encR_reach (l : Nat → Ask) (k j : Nat) : ∃ n, Reach (encR l k).1 (encR l (k + j)).1 n := by
  induction j with
  | zero => exact ⟨0, Reach.refl _⟩
  | succ j ih =>
    obtain ⟨a, ha⟩ := ih
    obtain ⟨b, hb⟩ := encR_step l (k + j)
    exact ⟨_, ha.trans hb⟩
theorem pre_take (f : Nat → Int) (out : List Int) (h : ∀ i, i < out.length → f i = out.getD i 0) : ∀ i, i ≤ out.length → pre f i = valL (out.take i) := by
  intro i
  induction i with
  | zero => intro _; rfl
  | succ i ih =>
    intro hi
    have e : out.take (i + 1) = out.take i ++ [out.getD i 0] := by
      rw [List.take_add_one]
      congr 1
      simp [List.getD, show i < out.length by omega]
    rw [e, valL_snoc, ← ih (by omega), ← h i (by omega)]
    rfl
/-- the bytes that a coder finished with, and others behind them. -/
theorem told_of (l : Nat → Ask) (m n : Nat) (f : Nat → Int) (hn : (encR l m).1.len ≤ n) (hf : ∀ i, i < n → 0 ≤ f i ∧ f i < 256) (ho : ∀ i, i < (encR l m).1.len → f i = ((encR l m).1.gives 5).out.getD i 0) : Told f n (encR l m).1 := by
  obtain ⟨h1, h2, h3⟩ := encR_ok l m
  obtain ⟨g1, g2, g3⟩ := gives_out (h1.fin h2)
  refine ⟨hf, hn, ?_, by have := h1.rng0; omega⟩
  rw [pre_take f _ (fun i hi => ho i (by rw [← g2]; exact hi)) _ (by rw [g2]; exact Nat.le_refl _), ← g2, List.take_length, g1]
theorem sync_new {f : Nat → Int} {n : Nat} {C : RC} (h : Told f n C) {k : Nat} (hr : Reach RC.new C k) : Sync f RC.new (RD.new (feedNx f n) 0) := by
  obtain ⟨w1, w2, w3⟩ := h.window hr
  have hl : RC.new.len = 5 := rfl
  have hg : RC.new.rng = 4294967295 := rfl
  rw [new_val, hl] at w1 w2
  rw [hg] at w2
  rw [hl] at w3
  have b0 := h.bytes 0 (by omega)
  have b1 := h.bytes 1 (by omega)
  have b2 := h.bytes 2 (by omega)
  have b3 := h.bytes 3 (by omega)
  have b4 := h.bytes 4 (by omega)
  have e5 : pre f 5 = ((((0 * 256 + f 0) * 256 + f 1) * 256 + f 2) * 256 + f 3) * 256 + f 4 := rfl
  have f0 : f 0 = 0 := by omega
  have nx : ∀ (i : Nat) (r c : Int), i < n → RD.next (feedNx f n) ⟨i, r, c, false⟩ = (f i % 256, ⟨i + 1, r, c, false⟩) := by
    intro i r c hi
    unfold RD.next
    rw [if_neg (by show ¬ false = true; decide)]
    show ((feedNx f n i).1, (⟨(feedNx f n i).2.2, r, c, !(feedNx f n i).2.1⟩ : RD Nat)) = _
    unfold feedNx
    rw [if_pos hi]
    rfl
  have first : RD.first (feedNx f n) 0 = ⟨1, 4294967295, 0, false⟩ := by
    unfold RD.first
    rw [nx 0 _ _ (by omega), if_pos (by show f 0 % 256 = 0; omega)]
  have four : RD.four (feedNx f n) 4 ⟨1, 4294967295, 0, false⟩ = ⟨5, 4294967295, pre f 5, false⟩ := by
    have s : ∀ (j i : Nat) (c : Int), i < n → RD.four (feedNx f n) (j + 1) ⟨i, 4294967295, c, false⟩ = RD.four (feedNx f n) j ⟨i + 1, 4294967295, c * 256 % 4294967296 + f i % 256, false⟩ := by
      intro j i c hi
      show RD.four (feedNx f n) j ⟨(RD.next (feedNx f n) ⟨i, 4294967295, c, false⟩).2.src, 4294967295, c * 256 % 4294967296 + (RD.next (feedNx f n) ⟨i, 4294967295, c, false⟩).1, (RD.next (feedNx f n) ⟨i, 4294967295, c, false⟩).2.bad⟩ = _
      rw [nx i _ _ hi]
    rw [s 3 1 0 (by omega), s 2 2 _ (by omega), s 1 3 _ (by omega), s 0 4 _ (by omega)]
    show (⟨5, 4294967295, _, false⟩ : RD Nat) = _
    congr 1
    omega
  have enew : RD.new (feedNx f n) 0 = ⟨5, 4294967295, pre f 5, false⟩ := by
    unfold RD.new
    rw [first, four]
    show (⟨5, 4294967295, pre f 5, false || decide ((4294967295 : Int) ≤ pre f 5)⟩ : RD Nat) = _
    have : decide ((4294967295 : Int) ≤ pre f 5) = false := by simp; omega
    rw [this]
    rfl
  rw [enew]
  refine ⟨rfl, rfl, rfl, ?_⟩
  rw [hl, new_val]
  show pre f 5 = pre f 5 - 0
  omega
end Go.Proofs.Ytomjagibcdneiaa
