/- BcjCall, the plain part: one call among bytes that are none. -/
import Derived.Test.YtfedllfpgalalaaBcj9
namespace Go.Proofs.Ytfedllfpgalalaa
open Go.RowKit

/-- a number of 25 bits, its sign spread. -/
def edgeT (x : Int) : Int := if 16777216 ≤ x % 33554432 then x % 33554432 + 4261412864 else x % 33554432
/-- bytes that are no calls, but the one at n, which leads to s. -/
def callF (n : Nat) (c s : Int) : Nat → Int := fun j => if j = n then c else if n < j ∧ j < n + 5 then s / 2 ^ (8 * (j - n - 1)) % 256 else 144
theorem edgeT_range (x : Int) : 0 ≤ edgeT x ∧ edgeT x < 4294967296 := by unfold edgeT; split <;> omega
theorem callF_range {n : Nat} {c s : Int} (hc : 0 ≤ c ∧ c < 256) (j : Nat) : 0 ≤ callF n c s j ∧ callF n c s j < 256 := by
  unfold callF
  by_cases h1 : j = n
  · rw [if_pos h1]; exact hc
  · rw [if_neg h1]
    by_cases h2 : n < j ∧ j < n + 5
    · rw [if_pos h2]; omega
    · rw [if_neg h2]; omega
theorem callF_low {n : Nat} {c s : Int} {j : Nat} (h : j < n) : callF n c s j = 144 := by
  unfold callF; rw [if_neg (by omega), if_neg (by omega)]
theorem callF_at (n : Nat) (c s : Int) : callF n c s n = c := if_pos rfl
theorem run_up (n : Nat) (hn : n < 65536) (c s : Int) (d : Nat) : ∀ (i k : Nat) (b : BW), i + d = n → b.mask = 0 → b.place = i → b.code = true → n + 9 ≤ i + k →
    ∃ k' gap, n + 9 ≤ n + k' ∧ runB (n + 9) k i b (callF n c s) = runB (n + 9) k' n ⟨n, gap, 0, true⟩ (callF n c s) := by
  induction d with
  | zero =>
    intro i k b hi hm hp hc hk
    obtain ⟨place, gap, mask, code⟩ := b
    simp only at hm hp hc
    subst hm hp hc
    have : i = n := by omega
    subst this
    exact ⟨k, gap, hk, rfl⟩
  | succ d ih =>
    intro i k b hi hm hp hc hk
    obtain ⟨k', hk', e⟩ := runB_step (n := n + 9) (b := b) (F := callF n c s) (show i + 4 < n + 9 by omega) hk
    have h0 : isCall ((fun j => callF n c s (i + j)) 0) = false := by
      show isCall (callF n c s (i + 0)) = false
      rw [callF_low (by omega)]; decide
    rw [pass_plain h0] at e
    dsimp only at e
    rw [lay_same] at e
    rw [e]
    exact ih (i + 1) k' _ (by omega) hm (by show (b.place + 1) % 4294967296 = _; omega) hc (by omega)
theorem call_code (n : Nat) (hn : n < 65536) (c y : Int) (hc : isCall c = true) (j : Nat) :
    allB true (n + 9) (callF n c (edgeT y)) j = if n < j ∧ j < n + 5 then edgeT (edgeT y + n + 5) / 2 ^ (8 * (j - n - 1)) % 256 else callF n c (edgeT y) j := by
  obtain ⟨k', gap, hk', e⟩ := run_up n hn c (edgeT y) n 0 (n + 9) ⟨0, 0, 0, true⟩ (by omega) rfl rfl rfl (by omega)
  have e0 : allB true (n + 9) (callF n c (edgeT y)) = runB (n + 9) k' n ⟨n, gap, 0, true⟩ (callF n c (edgeT y)) := e
  rw [e0]
  obtain ⟨s, hs⟩ : ∃ s, s = edgeT y := ⟨_, rfl⟩
  rw [← hs]
  have r := edgeT_range y
  rw [← hs] at r
  have hb : ∀ k, 1 ≤ k → k < 5 → callF n c s (n + k) = s / 2 ^ (8 * (k - 1)) % 256 := by
    intro k h1 h2
    unfold callF
    rw [if_neg (by omega), if_pos (by omega), show n + k - n - 1 = k - 1 by omega]
  have h1 := hb 1 (by decide) (by decide)
  have h2 := hb 2 (by decide) (by decide)
  have h3 := hb 3 (by decide) (by decide)
  have h4 := hb 4 (by decide) (by decide)
  have htop : s / 16777216 = 0 ∨ s / 16777216 = 1 ∨ s / 16777216 = 254 ∨ s / 16777216 = 255 := by rw [hs]; unfold edgeT; split <;> omega
  have htop2 : s / 16777216 = 0 ∨ s / 16777216 = 255 := by rw [hs]; unfold edgeT; split <;> omega
  obtain ⟨k2, hk2, e2⟩ := runB_step (n := n + 9) (b := ⟨n, gap, 0, true⟩) (F := callF n c s) (show n + 4 < n + 9 by omega) hk'
  have hc0 : isCall ((fun j => callF n c s (n + j)) 0) = true := by
    show isCall (callF n c s (n + 0)) = true
    rw [Nat.add_zero, callF_at]; exact hc
  have hsh : ∀ gp, shiftM gp 0 = 0 := by intro gp; unfold shiftM; split <;> simp
  have hnt : noTurn (shiftM (⟨n, gap, 0, true⟩ : BW).up.gap (⟨n, gap, 0, true⟩ : BW).mask) (fun j => callF n c s (n + j)) = false := by
    show noTurn (shiftM _ 0) _ = false
    rw [hsh]
    have e4 : edgeB (callF n c s (n + 4)) = true := by
      rw [h4]
      rcases htop2 with h | h
      · rw [show s / 2 ^ (8 * (4 - 1)) = s / 16777216 from rfl, h]; decide
      · rw [show s / 2 ^ (8 * (4 - 1)) = s / 16777216 from rfl, h]; decide
    unfold noTurn stopB
    rw [e4]
    simp
  rw [pass_turn hc0 hnt] at e2
  rw [e2]
  dsimp only
  rw [hsh]
  rw [runB_end (by omega)]
  have hword : wordOf (fun j => callF n c s (n + j)) = s := by
    show callF n c s (n + 1) + 256 * callF n c s (n + 2) + 65536 * callF n c s (n + 3) + 16777216 * callF n c s (n + 4) = s
    rw [h1, h2, h3, h4]
    show s / 1 % 256 + 256 * (s / 256 % 256) + 65536 * (s / 65536 % 256) + 16777216 * (s / 16777216 % 256) = s
    omega
  have hturn : (⟨(n : Int), 0, 0, true⟩ : BW).turned s = (s + n + 5) % 4294967296 := by
    unfold BW.turned
    rw [if_pos rfl]
    unfold BW.target
    rw [if_pos rfl]
  rw [hword]
  show lay (callF n c s) n 5 (put4 (fun j => callF n c s (n + j)) ((⟨(n : Int), 0, 0, true⟩ : BW).turned s)) j = _
  rw [hturn]
  by_cases hj : n < j ∧ j < n + 5
  · rw [if_pos hj]
    obtain ⟨k, rfl⟩ : ∃ k, j = n + k := ⟨j - n, by omega⟩
    rw [lay_in _ _ _ _ (by omega), show n + k - n - 1 = k - 1 by omega]
    obtain ⟨_, p1, p2, p3, p4⟩ := put4_at (fun j => callF n c s (n + j)) ((s + n + 5) % 4294967296)
    have hE : edgeT (s + n + 5) = if 16777216 ≤ (s + n + 5) % 33554432 then (s + n + 5) % 33554432 + 4261412864 else (s + n + 5) % 33554432 := rfl
    have hk : k = 1 ∨ k = 2 ∨ k = 3 ∨ k = 4 := by omega
    rcases hk with rfl | rfl | rfl | rfl
    · rw [p1, hE]
      show _ = _ / 1 % 256
      split <;> omega
    · rw [p2, hE]
      show _ = _ / 256 % 256
      split <;> omega
    · rw [p3, hE]
      show _ = _ / 65536 % 256
      split <;> omega
    · rw [p4, hE]
      show _ = _ / 16777216 % 256
      split <;> omega
  · rw [if_neg hj]
    by_cases hj2 : j = n
    · rw [hj2]
      have := lay_in (callF n c s) (put4 (fun j => callF n c s (n + j)) ((s + n + 5) % 4294967296)) n 0 (by decide)
      rw [Nat.add_zero] at this
      rw [this]
      rfl
    · rw [lay_out _ _ _ _ (by omega)]
end Go.Proofs.Ytfedllfpgalalaa
