/- The plain laws of packets: bytes that are one piece again and again take few packets; bytes of which none comes twice are literals. No program in sight. -/
import Derived.Test.YteedolfhmiehfaaPar
namespace Go.Proofs.Yteedolfhmiehfaa
open Go.RowKit

theorem findFrom_len (b : Nat → Int) (to_ dict : Nat) : ∀ (m i : Nat) (r : Nat → Nat), (findFrom b to_ dict m i r).1.length ≤ to_ - i
  | 0, i, r => Nat.zero_le _
  | m + 1, i, r => by
    unfold findFrom
    split
    · rename_i h
      have h1 := packetAt_pos b to_ dict i r
      have h2 := packetAt_le b to_ dict i r h
      have h3 := findFrom_len b to_ dict m (i + (packetAt b to_ dict i r).2.1) (packetAt b to_ dict i r).2.2
      simp only [List.length_cons]
      omega
    · exact Nat.zero_le _
/-- bytes with the period p: a copy of p bytes at least goes on as far as may be. -/
theorem runFrom_full (b : Nat → Int) (p i d M N : Nat) (hp0 : 0 < p) (hper : ∀ j, p ≤ j → j < N → b j = b (j - p)) (hd : d < i) (hip : p ≤ i) (hN : i + M ≤ N) (hl : p ≤ runFrom b i d M 0) : runFrom b i d M 0 = M := by
  have hle := runFrom_le b i d M 0
  by_cases h : runFrom b i d M 0 < 0 + M
  · exfalso
    refine runFrom_ne b i d M 0 h ?_
    obtain ⟨n, hn⟩ : ∃ n, n = runFrom b i d M 0 := ⟨_, rfl⟩
    rw [← hn] at h hl ⊢
    have e1 := hper (i + n) (by omega) (by omega)
    have e2 := runFrom_eq b i d M 0 (n - p) (Nat.zero_le _) (by omega)
    have e3 := hper (i + n - 1 - d) (by omega) (by omega)
    rw [e1, e3, show i + n - p = i + (n - p) by omega, e2]
    congr 1
    omega
  · omega
/-- from the period on, far from the end: the packet is as long as one may be. -/
theorem packet_full (b : Nat → Int) (p to_ dict i : Nat) (r : Nat → Nat) (hp0 : 0 < p) (hp : p ≤ 100) (hper : ∀ j, p ≤ j → j < to_ → b j = b (j - p)) (hip : p ≤ i) (hpd : p ≤ dict) (ht : i + p + 1 < to_) :
    (packetAt b to_ dict i r).2.1 = min 273 (to_ - i) := by
  obtain ⟨M, hM⟩ : ∃ M, M = min 273 (to_ - i) := ⟨_, rfl⟩
  rw [← hM]
  have hMp : p + 1 < M + 1 := by omega
  have lenfull : ∀ d, p ≤ lenAt b to_ dict i d → lenAt b to_ dict i d = M := by
    intro d hd
    unfold lenAt at hd ⊢
    by_cases h : i ≤ d ∨ dict ≤ d
    · rw [if_pos h] at hd; omega
    · rw [if_neg h] at hd ⊢
      rw [← hM] at hd ⊢
      exact runFrom_full b p i d M to_ hp0 hper (by omega) hip (by omega) hd
  have hall : lenAt b to_ dict i (p - 1) = M := by
    unfold lenAt
    rw [if_neg (by omega), ← hM, runFrom_all b i (p - 1) M 0 (fun j h1 h2 => ?_)]
    · omega
    · rw [hper (i + j) (by omega) (by omega)]
      congr 1
      omega
  have hw : (wide b to_ dict i).1 = M := by
    have h1 := best_ge (lenAt b to_ dict i) (min i dict) (p - 1) (by omega)
    have h2 := wide_le b to_ dict i
    rw [hall] at h1
    unfold wide at *
    omega
  have hwl : wideLen b to_ dict i = M := by
    unfold wideLen
    rw [if_neg (by omega), hw]
  unfold packetAt
  dsimp only
  rw [hwl]
  split
  · rename_i h
    show (best (fun h => lenAt b to_ dict i (r h)) 4).1 = M
    have h0 := best_at (fun h => lenAt b to_ dict i (r h)) 4 (by omega)
    rw [← h0.2]
    refine lenfull _ ?_
    have := h0.2
    rw [this]
    omega
  · rw [if_pos (.inl (by omega))]
/-- how many packets there are from a place on. -/
theorem short_count (b : Nat → Int) (p to_ dict : Nat) (hp0 : 0 < p) (hp : p ≤ 100) (hper : ∀ j, p ≤ j → j < to_ → b j = b (j - p)) (hpd : p ≤ dict) : ∀ (m i : Nat) (r : Nat → Nat), (findFrom b to_ dict m i r).1.length ≤ (p - i) + (to_ - i) / 273 + p + 2
  | 0, i, r => Nat.zero_le _
  | m + 1, i, r => by
    by_cases hend : to_ ≤ i + p + 1
    · have := findFrom_len b to_ dict (m + 1) i r
      omega
    · have hlt : i < to_ := by omega
      have h1 := packetAt_pos b to_ dict i r
      have h2 := packetAt_le b to_ dict i r hlt
      have ih := short_count b p to_ dict hp0 hp hper hpd m (i + (packetAt b to_ dict i r).2.1) (packetAt b to_ dict i r).2.2
      have e : (findFrom b to_ dict (m + 1) i r).1.length = (findFrom b to_ dict m (i + (packetAt b to_ dict i r).2.1) (packetAt b to_ dict i r).2.2).1.length + 1 := by
        rw [findFrom, if_pos hlt]; rfl
      rw [e]
      by_cases hip : p ≤ i
      · have hf := packet_full b p to_ dict i r hp0 hp hper hip hpd (by omega)
        by_cases h273 : 273 ≤ to_ - i
        · rw [hf, Nat.min_eq_left h273] at ih ⊢
          omega
        · have e2 : i + (packetAt b to_ dict i r).2.1 = to_ := by rw [hf]; omega
          rw [e2] at ih ⊢
          have := findFrom_len b to_ dict m to_ (packetAt b to_ dict i r).2.2
          omega
      · have hdiv : (to_ - (i + (packetAt b to_ dict i r).2.1)) / 273 ≤ (to_ - i) / 273 := Nat.div_le_div_right (by omega)
        omega
/-- no copy at all: a literal. -/
theorem packet_alone (b : Nat → Int) (to_ dict i : Nat) (r : Nat → Nat) (hne : ∀ j, j < i → b i ≠ b j) : packetAt b to_ dict i r = (⟨0, 0, 0, b i⟩, 1, r) := by
  have hl : ∀ d, lenAt b to_ dict i d = 0 := by
    intro d
    unfold lenAt
    split
    · rfl
    · rename_i h
      cases hm : min 273 (to_ - i) with
      | zero => rfl
      | succ m =>
        unfold runFrom
        rw [if_neg]
        simpa using hne (i - 1 - d) (by omega)
  have hb : ∀ (L : Nat → Nat), (∀ d, L d = 0) → ∀ n, best L n = (0, 0) := by
    intro L hL n
    refine best_zero L n ?_
    by_cases h0 : 0 < (best L n).1
    · have := (best_at L n h0).2
      rw [hL] at this
      omega
    · omega
  have e1 := hb (fun h => lenAt b to_ dict i (r h)) (fun d => hl _) 4
  have e2 : wideLen b to_ dict i = 0 := by
    unfold wideLen wide
    rw [hb _ hl]
    rfl
  unfold packetAt
  dsimp only
  rw [e1, e2, hl]
  rfl
end Go.Proofs.Yteedolfhmiehfaa
