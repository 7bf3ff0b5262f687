/- RdecZeros: of bytes 0 only 0 is told, and 3000 of them are enough. -/
import Derived.Test.YtomjagibcdneiaaLaw04c
namespace Go.Proofs.Ytomjagibcdneiaa
open Go.RowKit

/-! ### plain: seven bits at least for each byte -/
def thr : Nat → Int
  | 0 => 16777216
  | c + 1 => 2 * thr c + 2048
theorem thr_pos : ∀ c, 16777216 ≤ thr c
  | 0 => Int.le_refl _
  | c + 1 => by have := thr_pos c; show _ ≤ 2 * thr c + 2048; omega
def znx : Nat → Int × Bool × Nat := feedNx (fun _ => 0) 3000
def Zd (T : Nat) (d : RD Nat) : Prop := d.bad = false ∧ d.code = 0 ∧ d.rng < 4294967296 ∧ ∃ c : Nat, c ≤ 6 ∧ thr c ≤ d.rng ∧ 7 * d.src + 6 ≤ T + c + 41
def Zq (q : Nat → Int) (L : Nat) : Prop := ∀ j, j < L → 1024 ≤ q j ∧ q j ≤ 2017
theorem Zd.mono {T T' : Nat} {d : RD Nat} (h : Zd T d) (hT : T ≤ T') : Zd T' d := by
  obtain ⟨h1, h2, h3, c, h4, h5, h6⟩ := h
  exact ⟨h1, h2, h3, c, h4, h5, by omega⟩
theorem znext (d : RD Nat) (h1 : d.bad = false) (hs : d.src < 3000) : d.next znx = (0, ⟨d.src + 1, d.rng, d.code, false⟩) := by
  unfold RD.next znx feedNx
  rw [h1, if_neg (by decide), if_pos hs]
  rfl
theorem zlevel {T : Nat} {d : RD Nat} (h : Zd T d) (hT : T ≤ 16000) (B : Int) (hB0 : d.rng / 2048 * 1024 ≤ B) (hB1 : B ≤ d.rng) : Zd (T + 1) (RD.level znx ⟨d.src, B, 0, false⟩) := by
  obtain ⟨h1, h2, h3, c, h4, h5, h6⟩ := h
  have hp := thr_pos c
  by_cases hl : B < 16777216
  · rw [RD.level_lt _ _ hl]
    have hc : c = 0 := by
      cases c with
      | zero => rfl
      | succ c =>
        have := thr_pos c
        have e : thr (c + 1) = 2 * thr c + 2048 := rfl
        omega
    subst hc
    have hs : d.src < 3000 := by omega
    rw [znext ⟨d.src, B, 0, false⟩ rfl hs]
    refine ⟨rfl, rfl, by show B * 256 < _; omega, 6, by decide, ?_, ?_⟩
    · show (1073870848 : Int) ≤ B * 256
      omega
    · show 7 * (d.src + 1) + 6 ≤ T + 1 + 6 + 41
      omega
  · rw [RD.level_ge _ _ hl]
    cases c with
    | zero => exact ⟨rfl, rfl, by show B < _; omega, 0, by decide, by show (16777216 : Int) ≤ B; omega, by show 7 * d.src + 6 ≤ T + 1 + 0 + 41; omega⟩
    | succ c =>
      have e : thr (c + 1) = 2 * thr c + 2048 := rfl
      exact ⟨rfl, rfl, by show B < _; omega, c, by omega, by show thr c ≤ B; omega, by show 7 * d.src + 6 ≤ T + 1 + c + 41; omega⟩
theorem zbit {T : Nat} {d : RD Nat} (h : Zd T d) (hT : T ≤ 16000) (p : Int) (hp0 : 1024 ≤ p) (hp1 : p ≤ 2017) :
    (d.bit znx p).1 = 0 ∧ (1024 ≤ (d.bit znx p).2.1 ∧ (d.bit znx p).2.1 ≤ 2017) ∧ Zd (T + 1) (d.bit znx p).2.2 := by
  have h0 := h
  obtain ⟨h1, h2, h3, c, h4, h5, h6⟩ := h0
  have ht := thr_pos c
  have hb0 : d.rng / 2048 * 1024 ≤ d.rng / 2048 * p := Int.mul_le_mul_of_nonneg_left hp0 (by omega)
  have hb1 := bound_le d.rng p (by omega) (by omega)
  unfold RD.bit
  rw [if_neg (by rw [h1]; decide), if_pos (by rw [h2]; omega), h1, h2]
  exact ⟨rfl, by show 1024 ≤ p + (2048 - p) / 32 ∧ p + (2048 - p) / 32 ≤ 2017; omega, zlevel h hT _ hb0 hb1⟩
theorem Zq.upd {q : Nat → Int} {L : Nat} (h : Zq q L) (m : Nat) {x : Int} (h0 : 1024 ≤ x ∧ x ≤ 2017) : Zq (upd q m x) L := by
  intro j hj
  unfold Go.Proofs.Ytomjagibcdneiaa.upd
  by_cases e : j = m
  · rw [if_pos e]; exact h0
  · rw [if_neg e]; exact h j hj
theorem ztreeGo : ∀ (k j T : Nat) (d : RD Nat) (q : Nat → Int) (m L : Nat), Zd T d → T + k ≤ 16000 → Zq q L → m < 2 ^ j → 2 ^ (j + k) ≤ 2 * L →
    (RD.treeGo znx k d q m).1 = m * 2 ^ k ∧ Zq (RD.treeGo znx k d q m).2.1 L ∧ Zd (T + k) (RD.treeGo znx k d q m).2.2
  | 0, j, T, d, q, m, L, h, _, hq, _, _ => ⟨(Nat.mul_one m).symm, hq, h⟩
  | k + 1, j, T, d, q, m, L, h, hT, hq, hm, hL => by
    have hmL : m < L := by
      have : 2 ^ (j + 1) ≤ 2 ^ (j + (k + 1)) := Nat.pow_le_pow_right (by decide) (by omega)
      rw [Nat.pow_succ] at this
      omega
    have hb := zbit h (by omega) (q m) (hq m hmL).1 (hq m hmL).2
    have ih := ztreeGo k (j + 1) (T + 1) (d.bit znx (q m)).2.2 (upd q m (d.bit znx (q m)).2.1) (2 * m + (d.bit znx (q m)).1) L hb.2.2 (by omega) (hq.upd m hb.2.1) (by rw [hb.1, Nat.pow_succ]; omega) (by rw [show j + 1 + k = j + (k + 1) by omega]; exact hL)
    refine ⟨ih.1.trans ?_, ih.2.1, by rw [show T + (k + 1) = T + 1 + k by omega]; exact ih.2.2⟩
    rw [hb.1, Nat.pow_succ, Nat.add_zero, Nat.mul_comm 2 m, Nat.mul_assoc, Nat.mul_comm 2]
theorem zrevGo : ∀ (k i j T : Nat) (d : RD Nat) (q : Nat → Int) (m out L : Nat), Zd T d → T + k ≤ 16000 → Zq q L → m < 2 ^ j → 2 ^ (j + k) ≤ 2 * L →
    (RD.revGo znx k i d q m out).1 = out ∧ Zq (RD.revGo znx k i d q m out).2.1 L ∧ Zd (T + k) (RD.revGo znx k i d q m out).2.2
  | 0, i, j, T, d, q, m, out, L, h, _, hq, _, _ => ⟨rfl, hq, h⟩
  | k + 1, i, j, T, d, q, m, out, L, h, hT, hq, hm, hL => by
    have hmL : m < L := by
      have : 2 ^ (j + 1) ≤ 2 ^ (j + (k + 1)) := Nat.pow_le_pow_right (by decide) (by omega)
      rw [Nat.pow_succ] at this
      omega
    have hb := zbit h (by omega) (q m) (hq m hmL).1 (hq m hmL).2
    have ih := zrevGo k (i + 1) (j + 1) (T + 1) (d.bit znx (q m)).2.2 (upd q m (d.bit znx (q m)).2.1) (2 * m + (d.bit znx (q m)).1) (out + (d.bit znx (q m)).1 * 2 ^ i) L hb.2.2 (by omega) (hq.upd m hb.2.1) (by rw [hb.1, Nat.pow_succ]; omega) (by rw [show j + 1 + k = j + (k + 1) by omega]; exact hL)
    refine ⟨ih.1.trans ?_, ih.2.1, by rw [show T + (k + 1) = T + 1 + k by omega]; exact ih.2.2⟩
    rw [hb.1, Nat.zero_mul, Nat.add_zero]
theorem zstr1 {T : Nat} {d : RD Nat} (h : Zd T d) (hT : T ≤ 16000) : (d.str1 znx).1 = 0 ∧ Zd (T + 1) (d.str1 znx).2 := by
  have h0 := h
  obtain ⟨h1, h2, h3, c, h4, h5, h6⟩ := h0
  have ht := thr_pos c
  unfold RD.str1
  rw [if_neg (by rw [h2]; omega), h2]
  exact ⟨rfl, zlevel h hT _ (by omega) (by omega)⟩
theorem zstrGo : ∀ (k T : Nat) (d : RD Nat), Zd T d → T + k ≤ 16000 → (RD.strGo znx k d 0).1 = 0 ∧ Zd (T + k) (RD.strGo znx k d 0).2
  | 0, T, d, h, _ => ⟨rfl, h⟩
  | k + 1, T, d, h, hT => by
    have hs := zstr1 h (by omega)
    rw [strGo_good _ _ _ _ h.1, hs.1]
    have ih := zstrGo k (T + 1) (d.str1 znx).2 hs.2 (by omega)
    exact ⟨ih.1, by rw [show T + (k + 1) = T + 1 + k by omega]; exact ih.2⟩
theorem zsplice {q r : Nat → Int} {off L N : Nat} (h : Zq q N) (hr : Zq r L) : Zq (spliceQ q off L r) N := by
  intro j hj
  unfold spliceQ
  by_cases e : off ≤ j ∧ j < off + L
  · rw [if_pos e]; exact hr _ (by omega)
  · rw [if_neg e]; exact h j hj
theorem zask {T : Nat} {d : RD Nat} {q : Nat → Int} (h : Zd T d) (hq : Zq q 600) (a : Ask) (ha : a.Right) (hT : T + 32 ≤ 16000) :
    (d.ask znx q a).1 = 0 ∧ Zq (d.ask znx q a).2.1 600 ∧ Zd (T + 32) (d.ask znx q a).2.2 := by
  have hsub : (a.kind = 1 ∨ a.kind = 2) → a.bits.toNat ≤ 8 ∧ Zq (fun j => q (a.at_.toNat + j)) (2 ^ a.bits.toNat) := by
    intro hk
    rcases ha with ⟨h0, _⟩ | ⟨_, h1, h2, h3, h4⟩ | ⟨h0, _⟩
    · omega
    · refine ⟨by omega, fun j hj => ?_⟩
      have : 2 ^ a.bits.toNat ≤ 2 ^ 8 := Nat.pow_le_pow_right (by decide) (by omega)
      exact hq _ (by omega)
    · omega
  unfold RD.ask
  by_cases h0 : a.kind = 0
  · rw [if_pos h0]
    have hat : a.at_.toNat < 600 := by
      rcases ha with ⟨_, h1, h2⟩ | ⟨hk, _⟩ | ⟨hk, _⟩ <;> omega
    have hb := zbit h (by omega) (q a.at_.toNat) (hq _ hat).1 (hq _ hat).2
    exact ⟨hb.1, hq.upd _ hb.2.1, hb.2.2.mono (by omega)⟩
  · rw [if_neg h0]
    by_cases h1 : a.kind = 1
    · rw [if_pos h1]
      obtain ⟨hb8, hs⟩ := hsub (.inl h1)
      have ht := ztreeGo a.bits.toNat 1 T d _ 1 _ h (by omega) hs (by decide) (by rw [show 1 + a.bits.toNat = a.bits.toNat + 1 by omega, Nat.pow_succ]; omega)
      refine ⟨?_, zsplice hq ht.2.1, ht.2.2.mono (by omega)⟩
      unfold RD.tree
      rw [if_neg (by rw [ht.2.2.1]; decide)]
      show (RD.treeGo znx a.bits.toNat d _ 1).1 - 2 ^ a.bits.toNat = 0
      rw [ht.1]; omega
    · rw [if_neg h1]
      by_cases h2 : a.kind = 2
      · rw [if_pos h2]
        obtain ⟨hb8, hs⟩ := hsub (.inr h2)
        have ht := zrevGo a.bits.toNat 0 1 T d _ 1 0 _ h (by omega) hs (by decide) (by rw [show 1 + a.bits.toNat = a.bits.toNat + 1 by omega, Nat.pow_succ]; omega)
        refine ⟨?_, zsplice hq ht.2.1, ht.2.2.mono (by omega)⟩
        unfold RD.rev
        rw [if_neg (by rw [ht.2.2.1]; decide)]
        exact ht.1
      · rw [if_neg h2]
        have hb32 : a.bits.toNat ≤ 32 := by
          rcases ha with ⟨hk, _⟩ | ⟨hk, _⟩ | ⟨_, h3, h4⟩ <;> omega
        have ht := zstrGo a.bits.toNat T d h (by omega)
        refine ⟨?_, hq, ht.2.mono (by omega)⟩
        unfold RD.str
        rw [if_neg (by rw [ht.2.1]; decide)]
        exact ht.1
theorem znew : RD.new znx 0 = ⟨5, 4294967295, 0, false⟩ := by kernel_rfl
theorem znew_d : Zd 0 ⟨5, 4294967295, 0, false⟩ := ⟨rfl, rfl, by show (4294967295 : Int) < 4294967296; decide, 6, by decide, by show (1073870848 : Int) ≤ 4294967295; decide, by decide⟩
theorem Zd.done {T : Nat} {d : RD Nat} (h : Zd T d) : d.done = true := by
  unfold RD.done; rw [h.1, h.2.1]; rfl
theorem fresh_zq : Zq (fun _ => 1024) 600 := fun _ _ => by show (1024 : Int) ≤ 1024 ∧ (1024 : Int) ≤ 2017; omega
end Go.Proofs.Ytomjagibcdneiaa
