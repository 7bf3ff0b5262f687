/- bcj: what its going through answers, in plain numbers. -/
import Derived.Test.YtkahjjmjbcjaaaaBcj5
namespace Go.Proofs.Ytkahjjmjbcjaaaa
open Go.RowKit

theorem runB_below (n k : Nat) : ∀ (i : Nat) (b : BW) (E : Nat → Int) (j : Nat), j < i → runB n k i b E j = E j := by
  induction k with
  | zero => intro i b E j hj; rfl
  | succ k ih =>
    intro i b E j hj
    unfold runB
    by_cases h : i + 4 < n
    · rw [if_pos h, ih _ _ _ _ (by omega)]
      unfold lay
      rw [if_neg (by omega)]
    · rw [if_neg h]
theorem put4_at (f : Nat → Int) (t : Int) : put4 f t 0 = f 0 ∧ put4 f t 1 = t % 256 ∧ put4 f t 2 = t / 256 % 256 ∧ put4 f t 3 = t / 65536 % 256 ∧ put4 f t 4 = -(t / 16777216 % 2) % 256 := by
  refine ⟨?_, ?_, ?_, ?_, ?_⟩ <;> simp [put4, upd]
theorem put4_zero (f : Nat → Int) (t : Int) : put4 f t 0 = f 0 := rfl
theorem lay_same (E : Nat → Int) (i : Nat) : lay E i 5 (fun j => E (i + j)) = E := by
  funext j
  unfold lay
  by_cases h : i ≤ j ∧ j < i + 5
  · rw [if_pos h]
    show E (i + (j - i)) = E j
    congr 1; omega
  · rw [if_neg h]
theorem lay_in (E f : Nat → Int) (i j : Nat) (h : j < 5) : lay E i 5 f (i + j) = f j := by
  unfold lay; rw [if_pos (by omega)]; congr 1; omega
theorem lay_out (E f : Nat → Int) (i j : Nat) (h : j < i ∨ i + 5 ≤ j) : lay E i 5 f j = E j := by
  unfold lay; rw [if_neg (by omega)]

/-- the three ways of a step. -/
theorem pass_plain {b : BW} {f : Nat → Int} (h : isCall (f 0) = false) : b.pass f = (⟨(b.place + 1) % 4294967296, b.up.gap, b.mask, b.code⟩, f, 1) := by
  unfold BW.pass; rw [if_neg (by rw [h]; decide)]
theorem pass_no {b : BW} {f : Nat → Int} (h : isCall (f 0) = true) (h2 : noTurn (shiftM b.up.gap b.mask) f = true) : b.pass f = (⟨(b.place + 1) % 4294967296, 0, shiftM b.up.gap b.mask * 2 % 8 + 1, b.code⟩, f, 1) := by
  have e : b.up.meet f = (⟨b.place, 0, shiftM b.up.gap b.mask * 2 % 8 + 1, b.code⟩, f, false) := meet_no (m := shiftM b.up.gap b.mask) rfl h2
  unfold BW.pass
  rw [if_pos h, e]
  rfl
theorem pass_turn {b : BW} {f : Nat → Int} (h : isCall (f 0) = true) (h2 : noTurn (shiftM b.up.gap b.mask) f = false) : b.pass f = (⟨(b.place + 5) % 4294967296, 4, shiftM b.up.gap b.mask, b.code⟩, put4 f ((⟨b.place, 0, shiftM b.up.gap b.mask, b.code⟩ : BW).turned (wordOf f)), 5) := by
  have e : b.up.meet f = (⟨b.place, 0, shiftM b.up.gap b.mask, b.code⟩, put4 f ((⟨b.place, 0, shiftM b.up.gap b.mask, b.code⟩ : BW).turned (wordOf f)), true) := meet_yes (m := shiftM b.up.gap b.mask) rfl h2
  unfold BW.pass
  rw [if_pos h, e, if_pos rfl]

theorem noTurn_parts {m : Nat} {f : Nat → Int} (h : noTurn m f = false) : stopB m f = false ∧ edgeB (f 4) = true := by
  unfold noTurn at h
  cases h1 : stopB m f <;> cases h2 : edgeB (f 4) <;> simp_all
theorem noTurn_edge {m : Nat} {f : Nat → Int} (h : edgeB (f 4) = false) : noTurn m f = true := by
  unfold noTurn; rw [h]; simp
theorem noTurn_congr {m : Nat} {f g : Nat → Int} (h : ∀ j, j < 5 → f j = g j) : noTurn m f = noTurn m g := by
  unfold noTurn stopB
  rw [h 4 (by decide), h (4 - bitN m) (by omega)]

/-- the byte of a turned number that a mask looks at is no edge. -/
theorem turned_byte {b : BW} {f : Nat → Int} (hm8 : b.mask < 8) (hx : ∀ j, j < 5 → 0 ≤ f j ∧ f j < 256) (h : stopB b.mask f = false) (h0 : b.mask ≠ 0) :
    (b.mask = 1 ∨ b.mask = 2 ∨ b.mask = 4) ∧ edgeB (put4 f (b.turned (wordOf f)) (4 - bitN b.mask)) = false := by
  rcases stop_no hm8 hx h with h1 | ⟨h1, h2⟩
  · exact absurd h1 h0
  · refine ⟨h1, ?_⟩
    have h3 := turned_top b (wordOf f) h1 h2
    obtain ⟨p0, p1, p2, p3, p4⟩ := put4_at f (b.turned (wordOf f))
    obtain ⟨q1, q2, q3⟩ := topB_mod (b.turned (wordOf f))
    rcases h1 with e | e | e
    · rw [e] at h3 ⊢
      show edgeB (put4 f _ 3) = false
      rw [p3]
      rw [q1] at h3
      have : b.turned (wordOf f) / 65536 % 256 = b.turned (wordOf f) % 16777216 / 65536 := by omega
      rw [this]; exact h3
    · rw [e] at h3 ⊢
      show edgeB (put4 f _ 2) = false
      rw [p2]
      rw [q2] at h3
      have : b.turned (wordOf f) / 256 % 256 = b.turned (wordOf f) % 65536 / 256 := by omega
      rw [this]; exact h3
    · rw [e] at h3 ⊢
      show edgeB (put4 f _ 1) = false
      rw [p1]
      rw [q3] at h3
      exact h3

/-- behind an instruction at i that was not turned: its bytes stay, or its greatest is no edge. -/
theorem later (n i : Nat) (k : Nat) : ∀ (d : Nat) (b : BW) (E : Nat → Int), b.ok → 1 ≤ d → b.up.gap ≤ d → (d ≤ 3 → shiftM b.up.gap b.mask / 2 ^ (d - 1) % 2 = 1) → (∀ j, j < n → 0 ≤ E j ∧ E j < 256) →
    (∀ j, j < 5 → runB n k (i + d) b E (i + j) = E (i + j)) ∨ edgeB (runB n k (i + d) b E (i + 4)) = false := by
  induction k with
  | zero => intro d b E _ _ _ _ _; exact .inl fun j _ => rfl
  | succ k ih =>
    intro d b E hok hd hg hbit hE
    by_cases hn : i + d + 4 < n
    · have hstep : runB n (k + 1) (i + d) b E = runB n k (i + d + (b.pass (fun j => E (i + d + j))).2.2) (b.pass (fun j => E (i + d + j))).1 (lay E (i + d) 5 (b.pass (fun j => E (i + d + j))).2.1) := if_pos hn
      by_cases hd4 : 4 ≤ d
      · refine .inl fun j hj => ?_
        by_cases hlt : j < d
        · exact runB_below _ _ _ _ _ _ (by omega)
        · have : d = 4 ∧ j = 4 := by omega
          obtain ⟨rfl, rfl⟩ := this
          rw [hstep, runB_below _ _ _ _ _ _ (by have := (pass_inv (f := fun j => E (i + 4 + j)) hok).2.1; omega)]
          rw [show i + 4 = i + 4 + 0 from rfl, lay_in _ _ _ _ (by decide)]
          have e : ∀ (b : BW) (f : Nat → Int), (b.pass f).2.1 0 = f 0 := by
            intro b f
            cases hc : isCall (f 0) with
            | false => rw [pass_plain hc]
            | true =>
              cases ht : noTurn (shiftM b.up.gap b.mask) f with
              | true => rw [pass_no hc ht]
              | false => rw [pass_turn hc ht]; rfl
          rw [e]
      · have hd3 : d ≤ 3 := by omega
        have hb := hbit hd3
        have hs8 := shiftM_lt b.up.gap b.mask
        rw [hstep]
        have hg3 : ¬ 3 < b.up.gap := by omega
        have hup : b.up.gap = min (b.gap + 1) 4 := rfl
        have hsh : shiftM b.up.gap b.mask = b.mask * 2 ^ (b.up.gap - 1) % 8 := if_neg hg3
        have hp := pass_inv (f := fun j => E (i + d + j)) hok
        cases hc : isCall (E (i + d + 0)) with
        | false =>
          rw [pass_plain (f := fun j => E (i + d + j)) hc] at hp ⊢
          dsimp only at hp ⊢
          rw [lay_same]
          refine ih (d + 1) _ E hp.1 (by omega) (by show min (b.up.gap + 1) 4 ≤ _; omega) (fun h3 => ?_) hE
          have hu : (⟨(b.place + 1) % 4294967296, b.up.gap, b.mask, b.code⟩ : BW).up.gap = b.up.gap + 1 := by show min (b.up.gap + 1) 4 = _; omega
          rw [hu]
          have e2 : shiftM (b.up.gap + 1) b.mask = b.mask * 2 ^ b.up.gap % 8 := by
            unfold shiftM; rw [if_neg (by omega)]; congr 2
          show shiftM (b.up.gap + 1) b.mask / 2 ^ d % 2 = 1
          rw [e2]
          rw [hsh] at hb
          have h12 : (b.up.gap = 1 ∧ (d = 1 ∨ d = 2)) ∨ (b.up.gap = 2 ∧ d = 2) := by
            have : 1 ≤ b.up.gap := by omega
            omega
          rcases h12 with ⟨e3, e4 | e4⟩ | ⟨e3, e4⟩ <;> (rw [e3, e4] at hb; rw [e3, e4]; simp at hb ⊢; omega)
        | true =>
          cases ht : noTurn (shiftM b.up.gap b.mask) (fun j => E (i + d + j)) with
          | true =>
            rw [pass_no (f := fun j => E (i + d + j)) hc ht] at hp ⊢
            dsimp only at hp ⊢
            rw [lay_same]
            refine ih (d + 1) _ E hp.1 (by omega) (by show min (0 + 1) 4 ≤ _; omega) (fun h3 => ?_) hE
            show shiftM (min (0 + 1) 4) (shiftM b.up.gap b.mask * 2 % 8 + 1) / 2 ^ d % 2 = 1
            generalize shiftM b.up.gap b.mask = m at *
            have e2 : shiftM (min (0 + 1) 4) (m * 2 % 8 + 1) = (m * 2 % 8 + 1) % 8 := by
              show (if 3 < min (0 + 1) 4 then 0 else _) = _
              rw [if_neg (by decide)]
              simp
            rw [e2]
            have h12 : d = 1 ∨ d = 2 := by omega
            rcases h12 with e4 | e4 <;> (rw [e4] at hb; rw [e4]; simp at hb ⊢; omega)
          | false =>
            rw [pass_turn (f := fun j => E (i + d + j)) hc ht]
            dsimp only
            refine .inr ?_
            rw [runB_below _ _ _ _ _ _ (by omega), show i + 4 = i + d + (4 - d) by omega, lay_in _ _ _ _ (by omega)]
            obtain ⟨hst, hed⟩ := noTurn_parts ht
            have h0 : shiftM b.up.gap b.mask ≠ 0 := by
              intro e
              rw [e] at hb
              simp at hb
            have htb := turned_byte (b := ⟨b.place, 0, shiftM b.up.gap b.mask, b.code⟩) (f := fun j => E (i + d + j)) hs8 (fun j hj => hE _ (by omega)) hst h0
            obtain ⟨h124, htb⟩ := htb
            dsimp only at h124 htb
            have hbn : bitN (shiftM b.up.gap b.mask) = d := by
              generalize shiftM b.up.gap b.mask = m at *
              have h123 : d = 1 ∨ d = 2 ∨ d = 3 := by omega
              rcases h124 with e | e | e <;> rcases h123 with e2 | e2 | e2 <;> (rw [e, e2] at hb; first | (rw [e, e2]; rfl) | (exfalso; revert hb; decide))
            rw [hbn] at htb
            exact htb
    · refine .inl fun j _ => ?_
      rw [runB_end hn]

/-- what is turned twice is as it was. -/
theorem turn_back (b c : BW) (hb : b.code = true) (hc : c.code = false) (hp : c.place = b.place) (hm : c.mask = b.mask) (s s' : Int) (hs' : s' % 33554432 = b.turned s % 33554432)
    (h : b.mask = 0 ∨ ((b.mask = 1 ∨ b.mask = 2 ∨ b.mask = 4) ∧ edgeB (topB b.mask s) = false)) : c.turned s' % 33554432 = s % 33554432 := by
  have hbt : ∀ x, b.target x = (x + b.place + 5) % 4294967296 := fun x => by unfold BW.target; rw [hb]; rfl
  have hct : ∀ x, c.target x = (x - b.place - 5) % 4294967296 := fun x => by unfold BW.target; rw [hc, hp]; rfl
  rcases h with h0 | ⟨h1, h2⟩
  · unfold BW.turned at *
    rw [hm]
    rw [if_pos h0] at hs' ⊢
    rw [hbt] at hs'
    rw [hct]
    omega
  · have h0 : ¬ b.mask = 0 := by omega
    unfold BW.turned at *
    rw [hm]
    rw [if_neg h0] at hs' ⊢
    rw [hbt] at hs'
    rw [hct]
    by_cases he : edgeB (topB b.mask ((s + b.place + 5) % 4294967296)) = true
    · rw [if_pos he, hbt] at hs'
      have hf : topB b.mask ((s' - b.place - 5) % 4294967296) = 255 - topB b.mask ((s + b.place + 5) % 4294967296) := by
        obtain ⟨p1, p2, p3⟩ := topB_mod ((s' - b.place - 5) % 4294967296)
        obtain ⟨q1, q2, q3⟩ := topB_mod ((s + b.place + 5) % 4294967296)
        rcases h1 with e | e | e
        · rw [e] at hs' ⊢
          rw [p1, q1]
          have el : lowM 1 = 16777216 := rfl
          rw [el] at hs'
          unfold flipT at hs'
          omega
        · rw [e] at hs' ⊢
          rw [p2, q2]
          have el : lowM 2 = 65536 := rfl
          rw [el] at hs'
          unfold flipT at hs'
          omega
        · rw [e] at hs' ⊢
          rw [p3, q3]
          have el : lowM 4 = 256 := rfl
          rw [el] at hs'
          unfold flipT at hs'
          omega
      rw [if_pos (by rw [hf, edge_flip]; exact he), hct]
      rcases h1 with e | e | e
      · rw [e] at hs' ⊢
        have el : lowM 1 = 16777216 := rfl
        rw [el] at hs' ⊢
        unfold flipT at hs' ⊢
        omega
      · rw [e] at hs' ⊢
        have el : lowM 2 = 65536 := rfl
        rw [el] at hs' ⊢
        unfold flipT at hs' ⊢
        omega
      · rw [e] at hs' ⊢
        have el : lowM 4 = 256 := rfl
        rw [el] at hs' ⊢
        unfold flipT at hs' ⊢
        omega
    · rw [if_neg he] at hs'
      have hf : topB b.mask ((s' - b.place - 5) % 4294967296) = topB b.mask s := by
        obtain ⟨p1, p2, p3⟩ := topB_mod ((s' - b.place - 5) % 4294967296)
        obtain ⟨q1, q2, q3⟩ := topB_mod s
        rcases h1 with e | e | e
        · rw [e]; rw [p1, q1]; omega
        · rw [e]; rw [p2, q2]; omega
        · rw [e]; rw [p3, q3]; omega
      rw [if_neg (by rw [hf, h2]; decide)]
      omega
end Go.Proofs.Ytkahjjmjbcjaaaa
