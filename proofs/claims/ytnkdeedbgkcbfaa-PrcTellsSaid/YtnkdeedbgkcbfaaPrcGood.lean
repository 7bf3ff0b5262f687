/- PPMd's range decoder: what stays true of its numbers; a decoder in a law's world. -/
import Derived.Test.YtnkdeedbgkcbfaaLaw06
import Derived.Test.YtnkdeedbgkcbfaaShareOpen
namespace Go.Proofs.Ytnkdeedbgkcbfaa
open Go.RowKit

def RD.Good {S : Type} (d : RD S) : Prop := d.bad = false → 16777216 ≤ d.rng ∧ d.code < d.rng
theorem plev_good {S : Type} (s : Sour S) (n : Nat) : ∀ d : RD S, d.Ok → (d.bad = false → d.code < d.rng) → 16777216 ≤ d.rng * 256 ^ n → 1 ≤ d.rng → (RD.plev s.nx n d).Good := by
  induction n with
  | zero => intro d _ h2 h3 _ hb; exact ⟨by show 16777216 ≤ d.rng; simpa using h3, h2 hb⟩
  | succ n ih =>
    intro d h1 h2 h3 h4
    unfold RD.plev
    by_cases h : d.rng < 16777216 ∧ d.bad = false
    · rw [if_pos h]
      obtain ⟨ha, hb⟩ := h
      have hc := h2 hb
      have hx := RD.next_byte s d
      obtain ⟨o1, o2, o3, o4⟩ := h1
      have e : d.code * 256 % 4294967296 = d.code * 256 := by omega
      refine ih _ ⟨by show 0 ≤ d.rng * 256; omega, by show d.rng * 256 < _; omega, by show 0 ≤ d.code * 256 % 4294967296 + _; omega, by show d.code * 256 % 4294967296 + _ < _; omega⟩ (fun _ => by show d.code * 256 % 4294967296 + _ < d.rng * 256; omega) ?_ (by show 1 ≤ d.rng * 256; omega)
      have e : d.rng * 256 * 256 ^ n = d.rng * 256 ^ (n + 1) := by rw [Int.pow_succ, Int.mul_assoc, Int.mul_comm 256]
      show 16777216 ≤ d.rng * 256 * 256 ^ n
      rw [e]; exact h3
    · rw [if_neg h]
      intro hb
      have : ¬ d.rng < 16777216 := fun e => h ⟨e, hb⟩
      exact ⟨by omega, h2 hb⟩
theorem plevel_good {S : Type} (s : Sour S) (d : RD S) (h1 : d.Ok) (h2 : d.bad = false → d.code < d.rng) (h3 : 1 ≤ d.rng) : (d.plevel s.nx).Good :=
  plev_good s 3 d h1 h2 (by omega) h3
theorem place_spec {S : Type} (d : RD S) (t : Nat) (h0 : 1 ≤ t) (h1 : t ≤ 1048576) (ho : d.Ok) (hg : d.Good) :
    ∃ P : Nat, (d.place t).1 = (P : Int) ∧ P < t ∧ ((d.place t).2.bad = true → P = 0) ∧
      ((d.place t).2.bad = false → (P : Int) * (d.place t).2.rng ≤ (d.place t).2.code ∧ (d.place t).2.code < ((P : Int) + 1) * (d.place t).2.rng ∧ 1 ≤ (d.place t).2.rng ∧ (d.place t).2.rng * t < 4294967296) ∧ (d.place t).2.Ok := by
  obtain ⟨o1, o2, o3, o4⟩ := ho
  unfold RD.place
  by_cases hb : d.bad = true
  · rw [if_pos hb]
    exact ⟨0, rfl, by omega, fun _ => rfl, fun e => (by rw [hb] at e; cases e), o1, o2, o3, o4⟩
  · rw [if_neg hb]
    have hb' : d.bad = false := by simpa using hb
    obtain ⟨g1, g2⟩ := hg hb'
    obtain ⟨q, hq⟩ : ∃ q, q = d.rng / (t : Int) := ⟨_, rfl⟩
    have hq1 : 1 ≤ q := by rw [hq]; exact Int.le_ediv_of_mul_le (by omega) (by omega)
    have hq2 : q * t ≤ d.rng := by rw [hq]; exact Int.ediv_mul_le _ (by omega)
    have hq3 : q ≤ d.rng := by rw [hq]; exact Int.ediv_le_self _ (by omega)
    have hp0 : 0 ≤ d.code / q := Int.ediv_nonneg o3 (by omega)
    rw [← hq]
    by_cases hlt : (t : Int) ≤ d.code / q
    · rw [if_pos hlt]
      exact ⟨0, rfl, by omega, fun _ => rfl, (fun e => Bool.noConfusion e), by show 0 ≤ q; omega, by show q < _; omega, o3, o4⟩
    · rw [if_neg hlt]
      obtain ⟨P, hP⟩ := Int.eq_ofNat_of_zero_le hp0
      have hm := Int.emod_nonneg d.code (show q ≠ 0 by omega)
      have hm2 := Int.emod_lt_of_pos d.code (show 0 < q by omega)
      have hd := Int.mul_ediv_add_emod d.code q
      rw [hP] at hd hlt
      refine ⟨P, hP, by omega, fun e => (by rw [hb'] at e; cases e), fun _ => ⟨?_, ?_, hq1, by show q * t < _; omega⟩, by show 0 ≤ q; omega, by show q < _; omega, o3, o4⟩
      · show (P : Int) * q ≤ d.code
        rw [Int.mul_comm]; omega
      · show d.code < ((P : Int) + 1) * q
        rw [Int.add_mul, Int.mul_comm]; omega
theorem take_good {S : Type} (s : Sour S) (d : RD S) (a z : Nat) (ho : d.Ok) (h : d.bad = false → (a : Int) * d.rng ≤ d.code ∧ d.code < ((a : Int) + z) * d.rng ∧ 1 ≤ d.rng ∧ d.rng * z < 4294967296) : (d.take s.nx a z).Good := by
  unfold RD.take
  by_cases hb : d.bad = true
  · rw [if_pos hb]; intro e; rw [hb] at e; cases e
  · rw [if_neg hb]
    have hb' : d.bad = false := by simpa using hb
    obtain ⟨h1, h2, h3, h4⟩ := h hb'
    obtain ⟨o1, o2, o3, o4⟩ := ho
    have h5 : 0 ≤ (a : Int) * d.rng := Int.mul_nonneg (by omega) o1
    rw [Int.add_mul, Int.mul_comm (z : Int)] at h2
    exact plevel_good s _ ⟨by show 0 ≤ d.rng * z; omega, h4, by show 0 ≤ d.code - a * d.rng; omega, by show d.code - a * d.rng < _; omega⟩ (fun _ => by show d.code - a * d.rng < d.rng * z; omega) (by show 1 ≤ d.rng * z; omega)
theorem pbit_good {S : Type} (s : Sour S) (d : RD S) (z n : Nat) (ho : d.Ok) (hg : d.Good) (hn1 : 1 ≤ n) (hn : n ≤ 16) (hz0 : 1 ≤ z) (hz1 : z < 2 ^ n) : (d.pbit s.nx z n).2.Good ∧ (d.pbit s.nx z n).1 ≤ 1 := by
  unfold RD.pbit
  by_cases hb : d.bad = true
  · rw [if_pos hb]; exact ⟨fun e => (by rw [hb] at e; cases e), by show 0 ≤ 1; omega⟩
  · rw [if_neg hb]
    have hb' : d.bad = false := by simpa using hb
    obtain ⟨g1, g2⟩ := hg hb'
    obtain ⟨o1, o2, o3, o4⟩ := ho
    have hfits := share_fits (s := ⟨1, 0, z, n⟩) (.inr ⟨rfl, Nat.zero_le _, hn1, hn, hz0, hz1⟩) g1
    have hfits2 := share_fits (s := ⟨1, 1, z, n⟩) (.inr ⟨rfl, Nat.le_refl _, hn1, hn, hz0, hz1⟩) g1
    have e1 : Share.wide ⟨1, 0, z, n⟩ d.rng = d.rng / 2 ^ n * z := by unfold Share.wide; rw [if_neg (show ¬ (1 : Int) = 0 by decide)]; exact if_pos rfl
    have e2 : Share.wide ⟨1, 1, z, n⟩ d.rng = d.rng - d.rng / 2 ^ n * z := by unfold Share.wide; rw [if_neg (show ¬ (1 : Int) = 0 by decide)]; exact if_neg (show ¬ (1 : Nat) = 0 by decide)
    rw [e1] at hfits
    rw [e2] at hfits2
    have hb1 := hfits.2.1
    have hb2 := hfits2.2.1
    by_cases hlt : d.code < d.rng / 2 ^ n * z
    · rw [if_pos hlt]
      exact ⟨plevel_good s _ ⟨by show 0 ≤ d.rng / 2 ^ n * z; omega, by show d.rng / 2 ^ n * z < _; omega, o3, o4⟩ (fun _ => hlt) hb1, by show 0 ≤ 1; omega⟩
    · rw [if_neg hlt]
      refine ⟨plevel_good s _ ⟨by show 0 ≤ d.rng - d.rng / 2 ^ n * z; omega, by show d.rng - d.rng / 2 ^ n * z < _; omega, by show 0 ≤ d.code - d.rng / 2 ^ n * z; omega, by show d.code - d.rng / 2 ^ n * z < _; omega⟩ (fun _ => by show d.code - d.rng / 2 ^ n * z < d.rng - d.rng / 2 ^ n * z; omega) hb2, ?_⟩
      show (if _ then 0 else 1) ≤ 1
      split <;> omega
theorem four_rng {S : Type} (nx : S → Int × Bool × S) : ∀ (k : Nat) (d : RD S), (RD.four nx k d).rng = d.rng := by
  intro k
  induction k with
  | zero => intro d; rfl
  | succ k ih => intro d; unfold RD.four; rw [ih]
theorem pnew_good {S : Type} (nx : S → Int × Bool × S) (s0 : S) : (RD.pnew nx s0).Good := by
  intro hb
  have e : (RD.pnew nx s0).rng = 4294967295 := by
    show (RD.four nx 4 (RD.fst nx s0).2).rng = _
    rw [four_rng]
    unfold RD.fst RD.next
    rw [if_neg (by show ¬ false = true; decide)]
  have hb' : ((RD.four nx 4 (RD.fst nx s0).2).bad || ((RD.fst nx s0).1 != 0 || decide ((RD.four nx 4 (RD.fst nx s0).2).rng ≤ (RD.four nx 4 (RD.fst nx s0).2).code))) = false := hb
  rw [Bool.or_eq_false_iff, Bool.or_eq_false_iff] at hb'
  have h3 := of_decide_eq_false hb'.2.2
  refine ⟨by rw [e]; decide, ?_⟩
  show (RD.four nx 4 (RD.fst nx s0).2).code < (RD.four nx 4 (RD.fst nx s0).2).rng
  omega
/-- a decoder, in a world that grew out of w. -/
structure StP {lo hi : Nat} {f : Nat → Int} {n : Nat} (D : Deco lo hi f n) (w wr : World) (d : RD Nat) : Prop where
  fr : Fr Non w wr
  dec : D.Is wr d
  good : d.Good
theorem StP.any {lo hi : Nat} {f : Nat → Int} {n : Nat} {D : Deco lo hi f n} {w wr w' : World} {d : RD Nat} (h : StP D w wr d) (hf : Fr Non wr w') : StP D w w' d := ⟨h.fr.trans hf, h.dec.any hf, h.good⟩
theorem StP.then {lo hi : Nat} {f : Nat → Int} {n : Nat} {D : Deco lo hi f n} {w wr w' : World} {d d' : RD Nat} (h : StP D w wr d) (hlo : w.heap.size ≤ lo) (hf : Fr (decFoot D.s D.g) wr w') (hd : D.Is w' d') (hg : d'.Good) : StP D w w' d' :=
  ⟨h.fr.then hf (fun i hi hk => by have := D.low i hk; omega), hd, hg⟩
end Go.Proofs.Ytnkdeedbgkcbfaa
