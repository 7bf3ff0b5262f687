/- Texts of this proof, one behind the other. -/
import Derived.Test.YtjnegcambbeblaaMg13
import Derived.Test.YtjnegcambbeblaaMg10
import Derived.Test.YtjnegcambbeblaaMg07
import Derived.Test.YtjnegcambbeblaaMg14
import Derived.Test.YtjnegcambbeblaaMg08
import Derived.Test.YtjnegcambbeblaaMg02

/- The document's walk over its decoder, plain: it is the program's own reckoning, as long as the decoder is good. -/
namespace Go.Proofs.Ytjnegcambbeblaa
open Go.RowKit

section
variable (a : Option Addr) (n cap : Nat) (f : Nat → Int) (lo gd : Nat)
theorem kbit_D (P : Nat → Int) (c : RD Nat) (k : Nat) (b : Int) : kbit (cdrD a n cap f lo gd) P c k b = lbit (feedNx f n) P c k := rfl
theorem upd_in (P : Nat → Int) (o m : Nat) (x : Int) : upd (fun j => P (o + j)) m x = fun j => upd P (o + m) x (o + j) := by
  funext j
  unfold upd
  by_cases h : j = m
  · rw [if_pos h, if_pos (by omega)]
  · rw [if_neg h, if_neg (by omega)]
theorem ktreeGo_D (o : Nat) (v : Int) : ∀ (i : Nat) (P : Nat → Int) (c : RD Nat) (m : Nat),
    RD.treeGo (feedNx f n) i c (fun j => P (o + j)) m = ((ktreeGo (cdrD a n cap f lo gd) o v i P c m).1, (fun j => (ktreeGo (cdrD a n cap f lo gd) o v i P c m).2.1 (o + j)), (ktreeGo (cdrD a n cap f lo gd) o v i P c m).2.2)
  | 0, P, c, m => rfl
  | i + 1, P, c, m => by
    show RD.treeGo (feedNx f n) i (c.bit (feedNx f n) (P (o + m))).2.2 (upd (fun j => P (o + j)) m (c.bit (feedNx f n) (P (o + m))).2.1) (2 * m + (c.bit (feedNx f n) (P (o + m))).1) = _
    rw [upd_in, ktreeGo_D o v i]
    rfl
theorem ktreeGo_out (o : Nat) (v : Int) (x : Nat) : ∀ (i : Nat) (P : Nat → Int) (c : RD Nat) (m T : Nat), (m + 1) * 2 ^ i ≤ 2 * T → (x < o ∨ o + T ≤ x) → (ktreeGo (cdrD a n cap f lo gd) o v i P c m).2.1 x = P x
  | 0, P, c, m, T, _, _ => rfl
  | i + 1, P, c, m, T, hm, hx => by
    have hb := bit_le (feedNx f n) c (P (o + m))
    have hmT : m < T := by
      rw [Nat.pow_succ, ← Nat.mul_assoc] at hm
      have h1 : m + 1 ≤ (m + 1) * 2 ^ i := Nat.le_mul_of_pos_right _ (Nat.pow_pos (by decide))
      omega
    have h2 : (2 * m + (c.bit (feedNx f n) (P (o + m))).1 + 1) * 2 ^ i ≤ 2 * T := by
      refine Nat.le_trans (Nat.mul_le_mul_right _ (show 2 * m + (c.bit (feedNx f n) (P (o + m))).1 + 1 ≤ 2 * (m + 1) by omega)) ?_
      rw [Nat.pow_succ] at hm
      rw [Nat.mul_comm 2 (m + 1), Nat.mul_assoc, Nat.mul_comm 2 (2 ^ i)]
      exact hm
    show (ktreeGo (cdrD a n cap f lo gd) o v i (upd P (o + m) _) _ (2 * m + (c.bit (feedNx f n) (P (o + m))).1)).2.1 x = P x
    rw [ktreeGo_out o v x i _ _ _ T h2 hx, upd_ne _ _ (by omega)]
/-- a tree: the probabilities and the decoder are the program's; the number too, if the decoder is good. -/
theorem ktree_D (P : Nat → Int) (c : RD Nat) (o B : Nat) (v : Int) : (ktree (cdrD a n cap f lo gd) P c o B v).2 = (ltree (feedNx f n) P c o B).2 ∧ ((ltree (feedNx f n) P c o B).2.2.bad = false → (ktree (cdrD a n cap f lo gd) P c o B v).1 = (ltree (feedNx f n) P c o B).1) := by
  have h := ktreeGo_D a n cap f lo gd o v B P c 1
  have hs : spliceQ P o (2 ^ B) (fun j => (ktreeGo (cdrD a n cap f lo gd) o v B P c 1).2.1 (o + j)) = (ktreeGo (cdrD a n cap f lo gd) o v B P c 1).2.1 := by
    funext x
    unfold spliceQ
    by_cases hx : o ≤ x ∧ x < o + 2 ^ B
    · rw [if_pos hx]
      show (ktreeGo (cdrD a n cap f lo gd) o v B P c 1).2.1 (o + (x - o)) = _
      rw [show o + (x - o) = x by omega]
    · rw [if_neg hx]
      exact (ktreeGo_out a n cap f lo gd o v x B P c 1 (2 ^ B) (by omega) (by omega)).symm
  unfold ktree ltree RD.tree
  rw [h]
  dsimp only
  rw [hs]
  refine ⟨rfl, fun hb => ?_⟩
  rw [if_neg (by rw [hb]; decide)]
theorem krevGo_D (o : Nat) (v : Int) : ∀ (k i : Nat) (P : Nat → Int) (c : RD Nat) (m out : Nat),
    RD.revGo (feedNx f n) k i c (fun j => P (o + j)) m out = ((krevGo (cdrD a n cap f lo gd) o v k i P c m out).1, (fun j => (krevGo (cdrD a n cap f lo gd) o v k i P c m out).2.1 (o + j)), (krevGo (cdrD a n cap f lo gd) o v k i P c m out).2.2)
  | 0, i, P, c, m, out => rfl
  | k + 1, i, P, c, m, out => by
    show RD.revGo (feedNx f n) k (i + 1) (c.bit (feedNx f n) (P (o + m))).2.2 (upd (fun j => P (o + j)) m (c.bit (feedNx f n) (P (o + m))).2.1) (2 * m + (c.bit (feedNx f n) (P (o + m))).1) (out + (c.bit (feedNx f n) (P (o + m))).1 * 2 ^ i) = _
    rw [upd_in, krevGo_D o v k (i + 1)]
    rfl
theorem krevGo_out (o : Nat) (v : Int) (x : Nat) : ∀ (k i : Nat) (P : Nat → Int) (c : RD Nat) (m out T : Nat), (m + 1) * 2 ^ k ≤ 2 * T → (x < o ∨ o + T ≤ x) → (krevGo (cdrD a n cap f lo gd) o v k i P c m out).2.1 x = P x
  | 0, i, P, c, m, out, T, _, _ => rfl
  | k + 1, i, P, c, m, out, T, hm, hx => by
    have hb := bit_le (feedNx f n) c (P (o + m))
    have hmT : m < T := by
      rw [Nat.pow_succ, ← Nat.mul_assoc] at hm
      have h1 : m + 1 ≤ (m + 1) * 2 ^ k := Nat.le_mul_of_pos_right _ (Nat.pow_pos (by decide))
      omega
    have h2 : (2 * m + (c.bit (feedNx f n) (P (o + m))).1 + 1) * 2 ^ k ≤ 2 * T := by
      refine Nat.le_trans (Nat.mul_le_mul_right _ (show 2 * m + (c.bit (feedNx f n) (P (o + m))).1 + 1 ≤ 2 * (m + 1) by omega)) ?_
      rw [Nat.pow_succ] at hm
      rw [Nat.mul_comm 2 (m + 1), Nat.mul_assoc, Nat.mul_comm 2 (2 ^ k)]
      exact hm
    show (krevGo (cdrD a n cap f lo gd) o v k (i + 1) (upd P (o + m) _) _ (2 * m + (c.bit (feedNx f n) (P (o + m))).1) _).2.1 x = P x
    rw [krevGo_out o v x k (i + 1) _ _ _ _ T h2 hx, upd_ne _ _ (by omega)]
theorem krev_D (P : Nat → Int) (c : RD Nat) (o B : Nat) (v : Int) : (krev (cdrD a n cap f lo gd) P c o B v).2 = (lrev (feedNx f n) P c o B).2 ∧ ((lrev (feedNx f n) P c o B).2.2.bad = false → (krev (cdrD a n cap f lo gd) P c o B v).1 = (lrev (feedNx f n) P c o B).1) := by
  have h := krevGo_D a n cap f lo gd o v B 0 P c 1 0
  have hs : spliceQ P o (2 ^ B) (fun j => (krevGo (cdrD a n cap f lo gd) o v B 0 P c 1 0).2.1 (o + j)) = (krevGo (cdrD a n cap f lo gd) o v B 0 P c 1 0).2.1 := by
    funext x
    unfold spliceQ
    by_cases hx : o ≤ x ∧ x < o + 2 ^ B
    · rw [if_pos hx]
      show (krevGo (cdrD a n cap f lo gd) o v B 0 P c 1 0).2.1 (o + (x - o)) = _
      rw [show o + (x - o) = x by omega]
    · rw [if_neg hx]
      exact (krevGo_out a n cap f lo gd o v x B 0 P c 1 0 (2 ^ B) (by omega) (by omega)).symm
  unfold krev lrev RD.rev
  rw [h]
  dsimp only
  rw [hs]
  refine ⟨rfl, fun hb => ?_⟩
  rw [if_neg (by rw [hb]; decide)]
end
end Go.Proofs.Ytjnegcambbeblaa

/- The document's walk over its decoder, plain: literals, lengths, distances. -/
namespace Go.Proofs.Ytjnegcambbeblaa
open Go.RowKit

section
variable (a : Option Addr) (n cap : Nat) (f : Nat → Int) (lo gd : Nat)
theorem klitGo_D (k0 : Nat) (v : Int) : ∀ (i : Nat) (b : Bool) (o m : Nat) (P : Nat → Int) (c : RD Nat), klitGo (cdrD a n cap f lo gd) k0 v i b o m P c = litGo (feedNx f n) k0 i b o m P c
  | 0, _, _, m, P, c => rfl
  | i + 1, true, o, m, P, c => by
    unfold klitGo litGo
    exact klitGo_D k0 v i _ o _ _ _
  | i + 1, false, o, m, P, c => by
    unfold klitGo litGo
    exact klitGo_D k0 v i _ o _ _ _
theorem klen_D (P : Nat → Int) (c : RD Nat) (b sp : Nat) (v : Int) : (klen (cdrD a n cap f lo gd) P c b sp v).2 = (ltell (feedNx f n) P c b sp).2 ∧ ((ltell (feedNx f n) P c b sp).2.2.bad = false → (klen (cdrD a n cap f lo gd) P c b sp v).1 = (ltell (feedNx f n) P c b sp).1) := by
  unfold klen klen1 ltell
  rw [kbit_D]
  by_cases h0 : (lbit (feedNx f n) P c b).1 = 0
  · rw [if_pos h0, if_pos h0]
    exact ktree_D a n cap f lo gd _ _ _ _ _
  · rw [if_neg h0, if_neg h0]
    unfold klen2
    rw [kbit_D]
    by_cases h1 : (lbit (feedNx f n) (lbit (feedNx f n) P c b).2.1 (lbit (feedNx f n) P c b).2.2 (b + 1)).1 = 0
    · rw [if_pos h1, if_pos h1]
      obtain ⟨e1, e2⟩ := ktree_D a n cap f lo gd (lbit (feedNx f n) (lbit (feedNx f n) P c b).2.1 (lbit (feedNx f n) P c b).2.2 (b + 1)).2.1 (lbit (feedNx f n) (lbit (feedNx f n) P c b).2.1 (lbit (feedNx f n) P c b).2.2 (b + 1)).2.2 (b + 130 + 8 * sp) 3 (v - 8)
      exact ⟨e1, fun hb => by show 8 + _ = 8 + _; rw [e2 hb]⟩
    · rw [if_neg h1, if_neg h1]
      obtain ⟨e1, e2⟩ := ktree_D a n cap f lo gd (lbit (feedNx f n) (lbit (feedNx f n) P c b).2.1 (lbit (feedNx f n) P c b).2.2 (b + 1)).2.1 (lbit (feedNx f n) (lbit (feedNx f n) P c b).2.1 (lbit (feedNx f n) P c b).2.2 (b + 1)).2.2 (b + 258) 8 (v - 16)
      exact ⟨e1, fun hb => by show 16 + _ = 16 + _; rw [e2 hb]⟩
/-- a bad decoder leaves all as it is. -/
theorem lbit_bad {S : Type} (nx : S → Int × Bool × S) (P : Nat → Int) (d : RD S) (k : Nat) (h : d.bad = true) : lbit nx P d k = (0, P, d) := by
  unfold lbit RD.bit
  rw [if_pos h]
  have e : upd P k (P k) = P := by
    funext j
    unfold upd
    split
    · rename_i hj; rw [hj]
    · rfl
  show (0, upd P k (P k), d) = _
  rw [e]
theorem krevGo_bad (o : Nat) (v : Int) : ∀ (k i : Nat) (P : Nat → Int) (c : RD Nat) (m out : Nat), c.bad = true → (krevGo (cdrD a n cap f lo gd) o v k i P c m out).2 = (P, c)
  | 0, i, P, c, m, out, _ => rfl
  | k + 1, i, P, c, m, out, h => by
    unfold krevGo
    rw [kbit_D, lbit_bad _ _ _ _ h]
    exact krevGo_bad o v k (i + 1) P c _ _ h
theorem krev_bad (P : Nat → Int) (c : RD Nat) (o B : Nat) (v : Int) (h : c.bad = true) : (krev (cdrD a n cap f lo gd) P c o B v).2 = (P, c) := krevGo_bad a n cap f lo gd o v B 0 P c 1 0 h
theorem kstr_bad {S : Type} (nx : S → Int × Bool × S) (d : RD S) (k : Nat) (h : d.bad = true) : (d.str nx k).2 = d := by
  unfold RD.str
  cases k with
  | zero => rfl
  | succ k =>
    show (RD.strGo nx (k + 1) d 0).2 = d
    unfold RD.strGo
    rw [if_pos h]
theorem ltree_bad0 {S : Type} (nx : S → Int × Bool × S) (P : Nat → Int) (d : RD S) (k B : Nat) (h : (ltree nx P d k B).2.2.bad = true) : (ltree nx P d k B).1 = 0 := by
  unfold ltree RD.tree at h ⊢
  dsimp only at h ⊢
  rw [if_pos h]
theorem kdist_D (P : Nat → Int) (c : RD Nat) (l v : Nat) : (kdist (cdrD a n cap f lo gd) P c l v).2 = (ldist (feedNx f n) P c l).2 ∧ ((ldist (feedNx f n) P c l).2.2.bad = false → (kdist (cdrD a n cap f lo gd) P c l v).1 = (ldist (feedNx f n) P c l).1) := by
  obtain ⟨e1, e2⟩ := ktree_D a n cap f lo gd P c (432 + 64 * min l 3) 6 ((slotL v : Nat) : Int)
  unfold kdist ldist
  obtain ⟨r, hr⟩ : ∃ r, r = ktree (cdrD a n cap f lo gd) P c (432 + 64 * min l 3) 6 ((slotL v : Nat) : Int) := ⟨_, rfl⟩
  obtain ⟨q, hq⟩ : ∃ q, q = ltree (feedNx f n) P c (432 + 64 * min l 3) 6 := ⟨_, rfl⟩
  have hq0 : q.2.2.bad = true → q.1 = 0 := by rw [hq]; exact ltree_bad0 _ _ _ _ _
  rw [← hr, ← hq] at e1 e2 ⊢
  obtain ⟨sl, P1, c1⟩ := r
  obtain ⟨ql, P2, c2⟩ := q
  dsimp only at e1 e2 hq0 ⊢
  injection e1 with e3 e4
  subst e3 e4
  cases hb : c1.bad with
  | true =>
    have h0 := hq0 hb
    subst h0
    have eL : ldist2 (feedNx f n) P1 c1 0 = (0, P1, c1) := rfl
    rw [eL]
    refine ⟨?_, fun h => by exact absurd (hb.symm.trans h) (by decide)⟩
    unfold kdist2
    dsimp only
    split
    · rfl
    · split
      · exact krev_bad a n cap f lo gd _ _ _ _ _ hb
      · show (kdist3 (cdrD a n cap f lo gd) v sl P1 (c1.str (feedNx f n) (slotN sl - 4))).2 = (P1, c1)
        unfold kdist3
        dsimp only
        rw [kstr_bad _ _ _ hb]
        exact krev_bad a n cap f lo gd _ _ _ _ _ hb
  | false =>
    have h0 := e2 hb
    subst h0
    unfold kdist2 ldist2
    dsimp only
    split
    · exact ⟨rfl, fun _ => rfl⟩
    · split
      · obtain ⟨g1, g2⟩ := krev_D a n cap f lo gd P1 c1 (688 + (slotB sl - sl)) (slotN sl) ((v : Int) - (slotB sl : Nat))
        exact ⟨g1, fun h => by show slotB sl + _ = slotB sl + _; rw [g2 h]⟩
      · obtain ⟨g1, g2⟩ := krev_D a n cap f lo gd P1 (c1.str (feedNx f n) (slotN sl - 4)).2 803 4 ((v % 16 : Nat) : Int)
        exact ⟨g1, fun h => congrArg (fun x => slotB sl + 16 * (c1.str (feedNx f n) (slotN sl - 4)).1 + x) (g2 h)⟩
end
end Go.Proofs.Ytjnegcambbeblaa

/- LzmaCoded, plain: the document's walk over fewer bytes, and over more, in step as long as it is not bad. -/
namespace Go.Proofs.Ytjnegcambbeblaa
open Go.RowKit

/-- two functions over a decoder of m bytes and of more. -/
structure Frn {V : Type} (m : Nat) (FA FB : (Nat → Int) → RD Nat → V × (Nat → Int) × RD Nat) : Prop where
  stick : ∀ P d, d.bad = true → (FA P d).2.2.bad = true
  same : ∀ P d, (FA P d).2.2.bad = false → FB P d = FA P d
  below : ∀ P d, d.src ≤ m → (FA P d).2.2.src ≤ m
section
variable {fb : Nat → Int} {n m : Nat}
theorem Frn.bind {V W : Type} {FE FD : (Nat → Int) → RD Nat → V × (Nat → Int) × RD Nat} {GE GD : V → (Nat → Int) → RD Nat → W × (Nat → Int) × RD Nat}
    (h : Frn m FE FD) (g : ∀ x, Frn m (GE x) (GD x)) : Frn m (fun P c => GE (FE P c).1 (FE P c).2.1 (FE P c).2.2) (fun P d => GD (FD P d).1 (FD P d).2.1 (FD P d).2.2) where
  stick P d hb := (g _).stick _ _ (h.stick P d hb)
  same P d hb := by
    have h1 : (FE P d).2.2.bad = false := by
      cases q : (FE P d).2.2.bad with
      | false => rfl
      | true =>
        have := (g (FE P d).1).stick (FE P d).2.1 _ q
        try dsimp only at hb
        rw [this] at hb
        cases hb
    try dsimp only at hb ⊢
    rw [h.same P d h1]
    exact (g _).same _ _ hb
  below P d hs := (g _).below _ _ (h.below P d hs)
theorem Frn.pure {V : Type} (x : V) : Frn m (fun P c => (x, P, c)) (fun P d => (x, P, d)) := ⟨fun _ _ h => h, fun _ _ _ => rfl, fun _ _ h => h⟩
theorem Frn.map {V W : Type} {FE FD : (Nat → Int) → RD Nat → V × (Nat → Int) × RD Nat} (g : V → W) (h : Frn m FE FD) : Frn m (fun P c => (g (FE P c).1, (FE P c).2)) (fun P d => (g (FD P d).1, (FD P d).2)) :=
  ⟨h.stick, fun P d hb => by (try dsimp only); rw [h.same P d hb], h.below⟩
/-- the bytes of fewer, and of more. -/
theorem feed_sim (hT : m ≤ n) : SimS Eq (feedNx fb m) (feedNx fb n) where
  go a b hab h := by
    subst hab
    unfold feedNx at h ⊢
    by_cases hl : a < m
    · rw [if_pos hl, if_pos (by omega)]
      exact ⟨rfl, rfl, rfl⟩
    · rw [if_neg hl] at h; cases h
theorem sim_eq {d d' : RD Nat} (h : Sim1 Eq d d') : d' = d := by
  obtain ⟨h1, h2, h3, h4⟩ := h
  cases d
  cases d'
  cases h1
  cases h2
  cases h3
  cases h4
  rfl
theorem next_below {d : RD Nat} (h : d.src ≤ m) : (d.next (feedNx fb m)).2.src ≤ m := by
  unfold RD.next
  split
  · exact h
  · show (feedNx fb m d.src).2.2 ≤ m
    unfold feedNx
    split
    · show d.src + 1 ≤ m
      omega
    · exact h
theorem level_below {d : RD Nat} (h : d.src ≤ m) : (d.level (feedNx fb m)).src ≤ m := by
  unfold RD.level
  split
  · exact next_below h
  · exact h
theorem bit_below {d : RD Nat} (p : Int) (h : d.src ≤ m) : (d.bit (feedNx fb m) p).2.2.src ≤ m := by
  unfold RD.bit
  split
  · exact h
  · split
    · exact level_below (d := ⟨d.src, _, _, _⟩) h
    · exact level_below (d := ⟨d.src, _, _, _⟩) h
theorem str1_below {d : RD Nat} (h : d.src ≤ m) : (d.str1 (feedNx fb m)).2.src ≤ m := by
  unfold RD.str1
  split
  · exact level_below (d := ⟨d.src, _, _, _⟩) h
  · exact level_below (d := ⟨d.src, _, _, _⟩) h
theorem strGo_below : ∀ (k : Nat) (d : RD Nat) (out : Nat), d.src ≤ m → (RD.strGo (feedNx fb m) k d out).2.src ≤ m
  | 0, _, _, h => h
  | k + 1, d, out, h => by
    show (if d.bad = true then (out, d) else RD.strGo (feedNx fb m) k (d.str1 (feedNx fb m)).2 (2 * out + (d.str1 (feedNx fb m)).1)).2.src ≤ m
    split
    · exact h
    · exact strGo_below k _ _ (str1_below h)
theorem four_below : ∀ (k : Nat) (d : RD Nat), d.src ≤ m → (RD.four (feedNx fb m) k d).src ≤ m
  | 0, _, h => h
  | k + 1, _, h => four_below k _ (next_below h)
theorem new_below : (RD.new (feedNx fb m) 0).src ≤ m := by
  show (RD.four (feedNx fb m) 4 (RD.first (feedNx fb m) 0)).src ≤ m
  refine four_below 4 _ ?_
  unfold RD.first
  split
  · exact next_below (d := ⟨0, _, _, _⟩) (Nat.zero_le _)
  · exact next_below (d := ⟨0, _, _, _⟩) (Nat.zero_le _)
variable (a : Option Addr) (cap lo2 gd : Nat)
theorem fr_bit (hT : m ≤ n) (k : Nat) (b b' : Int) : Frn m (fun P c => kbit (cdrD a m cap fb lo2 gd) P c k b) (fun P d => kbit (cdrD a n cap fb lo2 gd) P d k b') where
  stick P d hb := by
    rw [kbit_D, lbit_bad _ P d k hb]
    exact hb
  same P d hb := by
    obtain ⟨h1, h2, h3⟩ := bit_sim (feed_sim (fb := fb) hT) (P k) (d := d) (d' := d) ⟨rfl, rfl, rfl, rfl⟩ hb
    show ((d.bit (feedNx fb n) (P k)).1, upd P k (d.bit (feedNx fb n) (P k)).2.1, (d.bit (feedNx fb n) (P k)).2.2) = ((d.bit (feedNx fb m) (P k)).1, upd P k (d.bit (feedNx fb m) (P k)).2.1, (d.bit (feedNx fb m) (P k)).2.2)
    rw [h1, h2, sim_eq h3]
  below P d hs := bit_below (P k) hs
theorem fr_treeGo (hT : m ≤ n) (o : Nat) (v v' : Int) : ∀ (i mm : Nat), Frn m (fun P c => ktreeGo (cdrD a m cap fb lo2 gd) o v i P c mm) (fun P d => ktreeGo (cdrD a n cap fb lo2 gd) o v' i P d mm)
  | 0, mm => Frn.pure mm
  | i + 1, mm => Frn.bind (fr_bit a cap lo2 gd hT (o + mm) (bitAt v i) (bitAt v' i)) (GE := fun x P c => ktreeGo (cdrD a m cap fb lo2 gd) o v i P c (2 * mm + x)) (GD := fun x P d => ktreeGo (cdrD a n cap fb lo2 gd) o v' i P d (2 * mm + x)) (fun x => fr_treeGo hT o v v' i (2 * mm + x))
theorem fr_tree (hT : m ≤ n) (o B : Nat) (v v' : Int) : Frn m (fun P c => ktree (cdrD a m cap fb lo2 gd) P c o B v) (fun P d => ktree (cdrD a n cap fb lo2 gd) P d o B v') := Frn.map (· - 2 ^ B) (fr_treeGo a cap lo2 gd hT o v v' B 1)
theorem fr_revGo (hT : m ≤ n) (o : Nat) (v v' : Int) : ∀ (k i mm out : Nat), Frn m (fun P c => krevGo (cdrD a m cap fb lo2 gd) o v k i P c mm out) (fun P d => krevGo (cdrD a n cap fb lo2 gd) o v' k i P d mm out)
  | 0, _, _, out => Frn.pure out
  | k + 1, i, mm, out => Frn.bind (fr_bit a cap lo2 gd hT (o + mm) (bitAt v i) (bitAt v' i)) (GE := fun x P c => krevGo (cdrD a m cap fb lo2 gd) o v k (i + 1) P c (2 * mm + x) (out + x * 2 ^ i)) (GD := fun x P d => krevGo (cdrD a n cap fb lo2 gd) o v' k (i + 1) P d (2 * mm + x) (out + x * 2 ^ i)) (fun x => fr_revGo hT o v v' k (i + 1) (2 * mm + x) (out + x * 2 ^ i))
theorem fr_rev (hT : m ≤ n) (o B : Nat) (v v' : Int) : Frn m (fun P c => krev (cdrD a m cap fb lo2 gd) P c o B v) (fun P d => krev (cdrD a n cap fb lo2 gd) P d o B v') := fr_revGo a cap lo2 gd hT o v v' B 0 1 0
theorem fr_litGo (hT : m ≤ n) (k0 : Nat) (v v' : Int) (o : Nat) : ∀ (i : Nat) (b : Bool) (mm : Nat), Frn m (fun P c => klitGo (cdrD a m cap fb lo2 gd) k0 v i b o mm P c) (fun P d => klitGo (cdrD a n cap fb lo2 gd) k0 v' i b o mm P d)
  | 0, b, mm => by unfold klitGo; exact Frn.pure mm
  | i + 1, true, mm => by
    unfold klitGo
    exact Frn.bind (fr_bit a cap lo2 gd hT (k0 + 256 * (1 + o / 2 ^ i % 2) + mm) (bitAt v i) (bitAt v' i)) (GE := fun x P c => klitGo (cdrD a m cap fb lo2 gd) k0 v i (x == o / 2 ^ i % 2) o (2 * mm + x) P c) (GD := fun x P d => klitGo (cdrD a n cap fb lo2 gd) k0 v' i (x == o / 2 ^ i % 2) o (2 * mm + x) P d) (fun x => fr_litGo hT k0 v v' o i _ _)
  | i + 1, false, mm => by
    unfold klitGo
    exact Frn.bind (fr_bit a cap lo2 gd hT (k0 + mm) (bitAt v i) (bitAt v' i)) (GE := fun x P c => klitGo (cdrD a m cap fb lo2 gd) k0 v i false o (2 * mm + x) P c) (GD := fun x P d => klitGo (cdrD a n cap fb lo2 gd) k0 v' i false o (2 * mm + x) P d) (fun x => fr_litGo hT k0 v v' o i _ _)
theorem fr_len (hT : m ≤ n) (b sp : Nat) (v v' : Int) : Frn m (fun P c => klen (cdrD a m cap fb lo2 gd) P c b sp v) (fun P d => klen (cdrD a n cap fb lo2 gd) P d b sp v') :=
  Frn.bind (fr_bit a cap lo2 gd hT b (min (v.tdiv 8) 1) (min (v'.tdiv 8) 1)) (GE := fun x P c => klen1 (cdrD a m cap fb lo2 gd) b sp v (x, P, c)) (GD := fun x P d => klen1 (cdrD a n cap fb lo2 gd) b sp v' (x, P, d)) (fun x => by
    unfold klen1
    by_cases hx : x = 0
    · simp only [if_pos hx]
      exact fr_tree a cap lo2 gd hT _ _ _ _
    · simp only [if_neg hx]
      exact Frn.bind (fr_bit a cap lo2 gd hT (b + 1) (min (v.tdiv 16) 1) (min (v'.tdiv 16) 1)) (GE := fun y P c => klen2 (cdrD a m cap fb lo2 gd) b sp v (y, P, c)) (GD := fun y P d => klen2 (cdrD a n cap fb lo2 gd) b sp v' (y, P, d)) (fun y => by
        unfold klen2
        by_cases hy : y = 0
        · simp only [if_pos hy]
          exact Frn.map (8 + ·) (fr_tree a cap lo2 gd hT _ _ _ _)
        · simp only [if_neg hy]
          exact Frn.map (16 + ·) (fr_tree a cap lo2 gd hT _ _ _ _)))
/-- bits told straight. -/
theorem fr_str (hT : m ≤ n) (k : Nat) (v v' : Int) : Frn m (fun P c => (((cdrD a m cap fb lo2 gd).ns c k v).1, P, ((cdrD a m cap fb lo2 gd).ns c k v).2)) (fun P d => (((cdrD a n cap fb lo2 gd).ns d k v').1, P, ((cdrD a n cap fb lo2 gd).ns d k v').2)) where
  stick P d hb := by
    show (d.str (feedNx fb m) k).2.bad = true
    rw [kstr_bad _ d k hb]
    exact hb
  same P d hb := by
    have hb' : (RD.strGo (feedNx fb m) k d 0).2.bad = false := hb
    obtain ⟨g1, g2⟩ := strGo_sim (feed_sim (fb := fb) hT) k d d 0 ⟨rfl, rfl, rfl, rfl⟩ hb'
    show ((d.str (feedNx fb n) k).1, P, (d.str (feedNx fb n) k).2) = ((d.str (feedNx fb m) k).1, P, (d.str (feedNx fb m) k).2)
    unfold RD.str
    rw [g1, sim_eq g2]
  below P d hs := strGo_below k d 0 hs
theorem fr_dist (hT : m ≤ n) (l v v' : Nat) : Frn m (fun P c => kdist (cdrD a m cap fb lo2 gd) P c l v) (fun P d => kdist (cdrD a n cap fb lo2 gd) P d l v') := by
  have hx : ∀ x : Nat, Frn m (fun P c => kdist2 (cdrD a m cap fb lo2 gd) v (x, P, c)) (fun P d => kdist2 (cdrD a n cap fb lo2 gd) v' (x, P, d)) := by
    intro x
    unfold kdist2
    by_cases h4 : x < 4
    · simp only [if_pos h4]
      exact Frn.pure x
    · simp only [if_neg h4]
      by_cases h14 : x < 14
      · simp only [if_pos h14]
        exact Frn.map (slotB x + ·) (fr_rev a cap lo2 gd hT _ _ _ _)
      · simp only [if_neg h14]
        exact Frn.bind (FE := fun P c => (((cdrD a m cap fb lo2 gd).ns c (slotN x - 4) (restOf v x)).1, P, ((cdrD a m cap fb lo2 gd).ns c (slotN x - 4) (restOf v x)).2)) (FD := fun P d => (((cdrD a n cap fb lo2 gd).ns d (slotN x - 4) (restOf v' x)).1, P, ((cdrD a n cap fb lo2 gd).ns d (slotN x - 4) (restOf v' x)).2)) (fr_str a cap lo2 gd hT (slotN x - 4) (restOf v x) (restOf v' x)) (GE := fun y P c => kdist3 (cdrD a m cap fb lo2 gd) v x P (y, c)) (GD := fun y P d => kdist3 (cdrD a n cap fb lo2 gd) v' x P (y, d)) (fun y => by
          unfold kdist3
          exact Frn.map (fun z => slotB x + 16 * y + z) (fr_rev a cap lo2 gd hT 803 4 ((v % 16 : Nat) : Int) ((v' % 16 : Nat) : Int)))
  exact Frn.bind (fr_tree a cap lo2 gd hT (432 + 64 * min l 3) 6 ((slotL v : Nat) : Int) ((slotL v' : Nat) : Int)) (GE := fun x P c => kdist2 (cdrD a m cap fb lo2 gd) v (x, P, c)) (GD := fun x P d => kdist2 (cdrD a n cap fb lo2 gd) v' (x, P, d)) hx
theorem fr_kind (hT : m ≤ n) (s : LS) (sp : Nat) (k k' : Int) : Frn m (fun P c => kkind (cdrD a m cap fb lo2 gd) { s with P := P } c sp k) (fun P d => kkind (cdrD a n cap fb lo2 gd) { s with P := P } d sp k') :=
  Frn.bind (fr_bit a cap lo2 gd hT (16 * s.st + sp) (min k 1) (min k' 1)) (GE := fun x P c => kkind0 (cdrD a m cap fb lo2 gd) s sp k (x, P, c)) (GD := fun x P d => kkind0 (cdrD a n cap fb lo2 gd) s sp k' (x, P, d)) (fun x => by
    unfold kkind0
    by_cases hx : x = 0
    · simp only [if_pos hx]
      exact Frn.pure (0, false)
    · simp only [if_neg hx]
      exact Frn.bind (fr_bit a cap lo2 gd hT (192 + s.st) (chz (k == 1 || k == 7)) (chz (k' == 1 || k' == 7))) (GE := fun y P c => kkind1 (cdrD a m cap fb lo2 gd) s sp k (y, P, c)) (GD := fun y P d => kkind1 (cdrD a n cap fb lo2 gd) s sp k' (y, P, d)) (fun y => by
        unfold kkind1
        by_cases hy : y = 0
        · simp only [if_pos hy]
          exact Frn.pure (1, false)
        · simp only [if_neg hy]
          by_cases hH : s.H.length = 0
          · simp only [if_pos hH]
            exact Frn.pure (6, true)
          · simp only [if_neg hH]
            refine Frn.map (fun z => (z, false)) (Frn.bind (fr_bit a cap lo2 gd hT (204 + s.st) (chz (k == 2 || k == 6)) (chz (k' == 2 || k' == 6))) (GE := fun z P c => kpick2 (cdrD a m cap fb lo2 gd) s.st sp k (z, P, c)) (GD := fun z P d => kpick2 (cdrD a n cap fb lo2 gd) s.st sp k' (z, P, d)) (fun z => ?_))
            unfold kpick2
            by_cases hz : z = 0
            · simp only [if_pos hz]
              exact Frn.map (fun u => if u = 0 then 6 else 2) (fr_bit a cap lo2 gd hT (240 + 16 * s.st + sp) (chz (k == 6)) (chz (k' == 6)))
            · simp only [if_neg hz]
              refine Frn.bind (fr_bit a cap lo2 gd hT (216 + s.st) (chz (k == 3)) (chz (k' == 3))) (GE := fun u P c => kpick4 (cdrD a m cap fb lo2 gd) s.st k (u, P, c)) (GD := fun u P d => kpick4 (cdrD a n cap fb lo2 gd) s.st k' (u, P, d)) (fun u => ?_)
              unfold kpick4
              by_cases hu : u = 0
              · simp only [if_pos hu]
                exact Frn.pure 3
              · simp only [if_neg hu]
                exact Frn.map (fun t => if t = 0 then 4 else 5) (fr_bit a cap lo2 gd hT (228 + s.st) (chz (k == 4)) (chz (k' == 4)))))
/-- a result that asks whether what decodes is bad. -/
theorem Frn.mapB {V W : Type} {FE FD : (Nat → Int) → RD Nat → V × (Nat → Int) × RD Nat} (g : V → Bool → W) (h : Frn m FE FD) : Frn m (fun P c => (g (FE P c).1 (FE P c).2.2.bad, (FE P c).2)) (fun P d => (g (FD P d).1 (FD P d).2.2.bad, (FD P d).2)) :=
  ⟨h.stick, fun P d hb => by (try dsimp only); rw [h.same P d hb], h.below⟩
theorem fr_far (hT : m ≤ n) (sp : Nat) (l l' : Int) (v v' : Nat) : Frn m (farF (cdrD a m cap fb lo2 gd) sp l v) (farF (cdrD a n cap fb lo2 gd) sp l' v') :=
  Frn.bind (fr_len a cap lo2 gd hT 819 sp l l') (GE := fun x P c => ((x, (kdist (cdrD a m cap fb lo2 gd) P c x v).1), (kdist (cdrD a m cap fb lo2 gd) P c x v).2)) (GD := fun x P d => ((x, (kdist (cdrD a n cap fb lo2 gd) P d x v').1), (kdist (cdrD a n cap fb lo2 gd) P d x v').2))
    (fun x => Frn.map (fun y => (x, y)) (fr_dist a cap lo2 gd hT x v v'))
set_option maxRecDepth 100000 in
theorem fr_pk2 (hT : m ≤ n) (s : LS) (sp : Nat) (p p' : PkV) (k : Nat) : Frn m (pk2F (cdrD a m cap fb lo2 gd) s sp p k) (pk2F (cdrD a n cap fb lo2 gd) s sp p' k) := by
  by_cases h0 : k = 0
  · subst h0
    have e1 : pk2F (cdrD a m cap fb lo2 gd) s sp p 0 = fun P c => (gLit s (klit (cdrD a m cap fb lo2 gd) { s with P := P } c p.byte).1 (klit (cdrD a m cap fb lo2 gd) { s with P := P } c p.byte).2.2.bad, (klit (cdrD a m cap fb lo2 gd) { s with P := P } c p.byte).2) := by
      funext P c
      exact pk2_lit (cdrD a m cap fb lo2 gd) s sp p P c
    have e2 : pk2F (cdrD a n cap fb lo2 gd) s sp p' 0 = fun P d => (gLit s (klit (cdrD a n cap fb lo2 gd) { s with P := P } d p'.byte).1 (klit (cdrD a n cap fb lo2 gd) { s with P := P } d p'.byte).2.2.bad, (klit (cdrD a n cap fb lo2 gd) { s with P := P } d p'.byte).2) := by
      funext P d
      exact pk2_lit (cdrD a n cap fb lo2 gd) s sp p' P d
    rw [e1, e2]
    exact Frn.mapB (gLit s) (fr_litGo a cap lo2 gd hT (1847 + krow s) p.byte p'.byte (backD s (s.rep 0)).1.toNat 8 (decide (7 ≤ s.st)) 1)
  · by_cases h1 : k = 1
    · subst h1
      have e1 : pk2F (cdrD a m cap fb lo2 gd) s sp p 1 = fun P c => (gFar s (farF (cdrD a m cap fb lo2 gd) sp (if p.kind = 7 then 0 else p.len - 2) (if p.kind = 7 then 4294967295 else p.dist) P c).1 (farF (cdrD a m cap fb lo2 gd) sp (if p.kind = 7 then 0 else p.len - 2) (if p.kind = 7 then 4294967295 else p.dist) P c).2.2.bad, (farF (cdrD a m cap fb lo2 gd) sp (if p.kind = 7 then 0 else p.len - 2) (if p.kind = 7 then 4294967295 else p.dist) P c).2) := by
        funext P c
        unfold farF
        obtain ⟨L, hL⟩ : ∃ L, L = klen (cdrD a m cap fb lo2 gd) P c 819 sp (if p.kind = 7 then 0 else p.len - 2) := ⟨_, rfl⟩
        rw [← hL]
        obtain ⟨D, hD⟩ : ∃ D, D = kdist (cdrD a m cap fb lo2 gd) L.2.1 L.2.2 L.1 (if p.kind = 7 then 4294967295 else p.dist) := ⟨_, rfl⟩
        rw [← hD, pk2_far (cdrD a m cap fb lo2 gd) s sp p P c L hL D hD]
        rfl
      have e2 : pk2F (cdrD a n cap fb lo2 gd) s sp p' 1 = fun P d => (gFar s (farF (cdrD a n cap fb lo2 gd) sp (if p'.kind = 7 then 0 else p'.len - 2) (if p'.kind = 7 then 4294967295 else p'.dist) P d).1 (farF (cdrD a n cap fb lo2 gd) sp (if p'.kind = 7 then 0 else p'.len - 2) (if p'.kind = 7 then 4294967295 else p'.dist) P d).2.2.bad, (farF (cdrD a n cap fb lo2 gd) sp (if p'.kind = 7 then 0 else p'.len - 2) (if p'.kind = 7 then 4294967295 else p'.dist) P d).2) := by
        funext P d
        unfold farF
        obtain ⟨L, hL⟩ : ∃ L, L = klen (cdrD a n cap fb lo2 gd) P d 819 sp (if p'.kind = 7 then 0 else p'.len - 2) := ⟨_, rfl⟩
        rw [← hL]
        obtain ⟨D, hD⟩ : ∃ D, D = kdist (cdrD a n cap fb lo2 gd) L.2.1 L.2.2 L.1 (if p'.kind = 7 then 4294967295 else p'.dist) := ⟨_, rfl⟩
        rw [← hD, pk2_far (cdrD a n cap fb lo2 gd) s sp p' P d L hL D hD]
        rfl
      rw [e1, e2]
      exact Frn.mapB (gFar s) (fr_far a cap lo2 gd hT sp _ _ _ _)
    · by_cases h6 : k = 6
      · subst h6
        have e1 : pk2F (cdrD a m cap fb lo2 gd) s sp p 6 = fun P c => (gEnd { s with st := afterL s.st 9 11 } 1 c.bad, P, c) := by
          funext P c
          exact pk2_one (cdrD a m cap fb lo2 gd) s sp p P c
        have e2 : pk2F (cdrD a n cap fb lo2 gd) s sp p' 6 = fun P d => (gEnd { s with st := afterL s.st 9 11 } 1 d.bad, P, d) := by
          funext P d
          exact pk2_one (cdrD a n cap fb lo2 gd) s sp p' P d
        rw [e1, e2]
        exact Frn.mapB (fun (_ : Unit) b => gEnd { s with st := afterL s.st 9 11 } 1 b) (Frn.pure ())
      · have e1 : pk2F (cdrD a m cap fb lo2 gd) s sp p k = fun P c => (gEnd { s with st := afterL s.st 8 11, rep := updN (shiftL s.rep (k - 2)) 0 (s.rep (k - 2)) } ((klen (cdrD a m cap fb lo2 gd) P c 1333 sp (p.len - 2)).1 + 2) (klen (cdrD a m cap fb lo2 gd) P c 1333 sp (p.len - 2)).2.2.bad, (klen (cdrD a m cap fb lo2 gd) P c 1333 sp (p.len - 2)).2) := by
          funext P c
          exact pk2_again (cdrD a m cap fb lo2 gd) s sp p k h0 h1 h6 P c _ rfl
        have e2 : pk2F (cdrD a n cap fb lo2 gd) s sp p' k = fun P d => (gEnd { s with st := afterL s.st 8 11, rep := updN (shiftL s.rep (k - 2)) 0 (s.rep (k - 2)) } ((klen (cdrD a n cap fb lo2 gd) P d 1333 sp (p'.len - 2)).1 + 2) (klen (cdrD a n cap fb lo2 gd) P d 1333 sp (p'.len - 2)).2.2.bad, (klen (cdrD a n cap fb lo2 gd) P d 1333 sp (p'.len - 2)).2) := by
          funext P d
          exact pk2_again (cdrD a n cap fb lo2 gd) s sp p' k h0 h1 h6 P d _ rfl
        rw [e1, e2]
        exact Frn.mapB (fun (x : Nat) b => gEnd { s with st := afterL s.st 8 11, rep := updN (shiftL s.rep (k - 2)) 0 (s.rep (k - 2)) } (x + 2) b) (fr_len a cap lo2 gd hT 1333 sp (p.len - 2) (p'.len - 2))
/-- a packet, over the coder and over its decoder. -/
theorem fr_pk (hT : m ≤ n) (s : LS) (p p' : PkV) : Frn m (pkF (cdrD a m cap fb lo2 gd) s p) (pkF (cdrD a n cap fb lo2 gd) s p') :=
  Frn.bind (fr_kind a cap lo2 gd hT s (s.H.length % 2 ^ s.pb) p.kind p'.kind) (GE := fun x P c => pk2F (cdrD a m cap fb lo2 gd) { s with bad := s.bad || x.2 } (s.H.length % 2 ^ s.pb) p x.1 P c) (GD := fun x P d => pk2F (cdrD a n cap fb lo2 gd) { s with bad := s.bad || x.2 } (s.H.length % 2 ^ s.pb) p' x.1 P d) (fun x => fr_pk2 a cap lo2 gd hT { s with bad := s.bad || x.2 } (s.H.length % 2 ^ s.pb) p p' x.1)
end
end Go.Proofs.Ytjnegcambbeblaa

/- The document's walk over its decoder, plain: which packet; the byte at a distance; literals, matches, elder distances. -/
namespace Go.Proofs.Ytjnegcambbeblaa
open Go.RowKit

/-- the ring holds what the document looks at. -/
def RingOk (N : Nat) (s : LS) : Prop := ∀ d, d < min s.H.length N ↔ (d < s.H.length ∧ d < s.dict)
theorem backD_ring {N : Nat} {s : LS} (h : RingOk N s) (d : Nat) : backD s d = (backH s.H N d, decide (d < min s.H.length N)) := by
  unfold backD backH
  by_cases hd : d < min s.H.length N
  · have h1 := (h d).1 hd
    rw [if_neg (by omega), if_pos hd, decide_eq_true hd]
  · have h1 : s.H.length ≤ d ∨ s.dict ≤ d := by
      by_cases h2 : s.H.length ≤ d
      · exact .inl h2
      · refine .inr ?_
        by_cases h3 : s.dict ≤ d
        · exact h3
        · exact absurd ((h d).2 ⟨by omega, by omega⟩) hd
    rw [if_pos h1, if_neg hd, decide_eq_false hd]
section
variable (a : Option Addr) (n cap : Nat) (f : Nat → Int) (lo gd : Nat)
def pickN : Option Nat → Nat
  | none => 6
  | some k => k + 2
theorem kpick_D (P : Nat → Int) (c : RD Nat) (st sp : Nat) (k b : Int) : (kpick2 (cdrD a n cap f lo gd) st sp k (kbit (cdrD a n cap f lo gd) P c (204 + st) b)).2 = (lagPick (feedNx f n) P c st sp).2 ∧ (kpick2 (cdrD a n cap f lo gd) st sp k (kbit (cdrD a n cap f lo gd) P c (204 + st) b)).1 = pickN (lagPick (feedNx f n) P c st sp).1 := by
  unfold kpick2 lagPick
  rw [kbit_D]
  by_cases h0 : (lbit (feedNx f n) P c (204 + st)).1 = 0
  · rw [if_pos h0, if_pos h0]
    unfold kpick3
    rw [kbit_D]
    refine ⟨rfl, ?_⟩
    dsimp only
    split
    · rfl
    · rfl
  · rw [if_neg h0, if_neg h0]
    unfold kpick4
    rw [kbit_D]
    by_cases h1 : (lbit (feedNx f n) (lbit (feedNx f n) P c (204 + st)).2.1 (lbit (feedNx f n) P c (204 + st)).2.2 (216 + st)).1 = 0
    · rw [if_pos h1, if_pos h1]
      exact ⟨rfl, rfl⟩
    · rw [if_neg h1, if_neg h1]
      unfold kpick5
      rw [kbit_D]
      refine ⟨rfl, ?_⟩
      dsimp only
      obtain ⟨x, hx⟩ : ∃ x, x = (lbit (feedNx f n) (lbit (feedNx f n) (lbit (feedNx f n) P c (204 + st)).2.1 (lbit (feedNx f n) P c (204 + st)).2.2 (216 + st)).2.1 (lbit (feedNx f n) (lbit (feedNx f n) P c (204 + st)).2.1 (lbit (feedNx f n) P c (204 + st)).2.2 (216 + st)).2.2 (228 + st)).1 := ⟨_, rfl⟩
      have hx1 : x ≤ 1 := by rw [hx]; exact bit_le _ _ _
      rw [← hx]
      show (if x = 0 then 4 else 5) = 2 + x + 2
      split <;> omega
theorem klit_D {L : LL} {s : LS} (h : RingOk L.n s) (hp : s.place = s.H.length) (c : RD Nat) (v : Int) : klit (cdrD a n cap f lo gd) s c v = llit (feedNx f n) L s c := by
  unfold klit llit krow LS.row
  rw [klitGo_D, backD_ring h, backD_ring h, hp]
theorem afterL_next (st y o : Nat) : afterL st y o = nextL st y o := rfl
/-- a match: the state, the decoder, the length, where the decoder is good behind it. -/
theorem kmid1_D (s : LS) (c : RD Nat) (sp : Nat) (kind l : Int) (dist : Nat) (he : s.ended = false) (hg : (lfresh (feedNx f n) s c sp).2.2.bad = false) (m : LS × RD Nat × Nat) (hm : m = kmid1 (cdrD a n cap f lo gd) s sp kind dist (klen (cdrD a n cap f lo gd) s.P c 819 sp l)) :
    m.1 = (lfresh (feedNx f n) s c sp).2.1 ∧ m.2.1 = (lfresh (feedNx f n) s c sp).2.2 ∧ (m.1.ended = false → m.2.2 = (lfresh (feedNx f n) s c sp).1) := by
  obtain ⟨e1, e2⟩ := klen_D a n cap f lo gd s.P c 819 sp l
  obtain ⟨q, hq⟩ : ∃ q, q = ltell (feedNx f n) s.P c 819 sp := ⟨_, rfl⟩
  obtain ⟨r, hr⟩ : ∃ r, r = klen (cdrD a n cap f lo gd) s.P c 819 sp l := ⟨_, rfl⟩
  obtain ⟨wd, hwd⟩ : ∃ w, w = if kind = 7 then 4294967295 else dist := ⟨_, rfl⟩
  unfold lfresh at hg ⊢
  unfold kmid1 at hm
  rw [← hr, ← hwd] at hm
  rw [← hq] at hg ⊢
  rw [← hq, ← hr] at e1 e2
  dsimp only at hg ⊢
  have hqg : q.2.2.bad = false := by
    cases hb : q.2.2.bad
    · rfl
    · have h1 := kdist_D a n cap f lo gd q.2.1 q.2.2 q.1 0
      have h2 : (kdist (cdrD a n cap f lo gd) q.2.1 q.2.2 q.1 0).2.2.bad = true := by
        have key : ∀ (i : Nat) (P : Nat → Int) (c : RD Nat) (o m : Nat) (v : Int), c.bad = true → (ktreeGo (cdrD a n cap f lo gd) o v i P c m).2 = (P, c) := by
          intro i
          induction i with
          | zero => intro P c o m v _; rfl
          | succ i ih =>
            intro P c o m v h
            unfold ktreeGo
            rw [kbit_D, lbit_bad _ _ _ _ h]
            exact ih P c o _ v h
        have k1 : (ktree (cdrD a n cap f lo gd) q.2.1 q.2.2 (432 + 64 * min q.1 3) 6 ((slotL 0 : Nat) : Int)).2 = (q.2.1, q.2.2) := key 6 _ _ _ _ _ hb
        unfold kdist
        obtain ⟨t, ht⟩ : ∃ t, t = ktree (cdrD a n cap f lo gd) q.2.1 q.2.2 (432 + 64 * min q.1 3) 6 ((slotL 0 : Nat) : Int) := ⟨_, rfl⟩
        rw [← ht] at k1 ⊢
        have hb2 : t.2.2.bad = true := by rw [k1]; exact hb
        unfold kdist2
        split
        · exact hb2
        · split
          · show (krev (cdrD a n cap f lo gd) t.2.1 t.2.2 _ _ _).2.2.bad = true
            rw [krev_bad a n cap f lo gd _ _ _ _ _ hb2]
            exact hb2
          · show (krev (cdrD a n cap f lo gd) t.2.1 (t.2.2.str (feedNx f n) (slotN t.1 - 4)).2 803 4 _).2.2.bad = true
            rw [kstr_bad _ _ _ hb2, krev_bad a n cap f lo gd _ _ _ _ _ hb2]
            exact hb2
      rw [h1.1, hg] at h2
      cases h2
  have e3 := e2 hqg
  have hrq : r = q := Prod.ext e3 e1
  subst hrq
  obtain ⟨g1, g2⟩ := kdist_D a n cap f lo gd r.2.1 r.2.2 r.1 wd
  have g3 := g2 hg
  obtain ⟨D, hD⟩ : ∃ D, D = kdist (cdrD a n cap f lo gd) r.2.1 r.2.2 r.1 wd := ⟨_, rfl⟩
  obtain ⟨X, hX⟩ : ∃ X, X = ldist (feedNx f n) r.2.1 r.2.2 r.1 := ⟨_, rfl⟩
  rw [← hD] at g1 g3 hm
  rw [← hX] at g1 g3 hg ⊢
  have hDX : D = X := Prod.ext g3 g1
  subst hDX
  have hbK : (cdrD a n cap f lo gd).bad D.2.2 = D.2.2.bad := rfl
  rw [hm]
  dsimp only
  rw [hbK, hg, he]
  refine ⟨?_, rfl, ?_⟩
  · have e : (D.1 == 4294967295) = decide (D.1 = 4294967295) := rfl
    rw [e]
    simp [afterL_next]
  · intro hE
    have hE' : decide (D.1 = 4294967295) = false := by simpa using hE
    have e : (D.1 == 4294967295) = false := hE'
    rw [e]
    rfl
end
end Go.Proofs.Ytjnegcambbeblaa

/- The document's walk over its decoder, plain: a packet is the program's. -/
namespace Go.Proofs.Ytjnegcambbeblaa
open Go.RowKit

theorem rotL_zero (r : Nat → Nat) : rotL r 0 = r := by
  funext i
  unfold rotL updN shiftL
  by_cases h : i = 0
  · subst h; rfl
  · rw [if_neg h, if_neg (by omega)]
section
variable (a : Option Addr) (n cap : Nat) (f : Nat → Int) (lo gd : Nat)
/-- an elder distance: the state, the decoder, the length, where the decoder is good behind it. -/
theorem kmid2_D (s : LS) (c : RD Nat) (sp j : Nat) (l : Int) (hg : (lagEnd (feedNx f n) { s with rep := if j = 0 then s.rep else rotL s.rep j } c sp).2.2.bad = false) :
    kmid2 s j (klen (cdrD a n cap f lo gd) s.P c 1333 sp l) = ((lagEnd (feedNx f n) { s with rep := if j = 0 then s.rep else rotL s.rep j } c sp).2.1, (lagEnd (feedNx f n) { s with rep := if j = 0 then s.rep else rotL s.rep j } c sp).2.2, (lagEnd (feedNx f n) { s with rep := if j = 0 then s.rep else rotL s.rep j } c sp).1) := by
  obtain ⟨e1, e2⟩ := klen_D a n cap f lo gd s.P c 1333 sp l
  unfold lagEnd at hg ⊢
  dsimp only at hg ⊢
  have hrq : klen (cdrD a n cap f lo gd) s.P c 1333 sp l = ltell (feedNx f n) s.P c 1333 sp := Prod.ext (e2 hg) e1
  unfold kmid2
  rw [hrq]
  have hr : (if j = 0 then s.rep else rotL s.rep j) = rotL s.rep j := by
    split
    · rename_i h; rw [h, rotL_zero]
    · rfl
  rw [hr]
  rfl
/-- what the document copies, where the distance is there: bytes one by one. -/
def copyH (N : Nat) : Nat → List Int → Nat → List Int
  | 0, H, _ => H
  | k + 1, H, d => copyH N k (H ++ [backH H N d]) d
theorem copyH_len (N : Nat) : ∀ (k : Nat) (H : List Int) (d : Nat), (copyH N k H d).length = H.length + k
  | 0, H, d => rfl
  | k + 1, H, d => by
    unfold copyH
    rw [copyH_len N k, List.length_append]
    show H.length + 1 + k = _
    omega
/-- a ring that holds what the document looks at, for every number of bytes up to a bound. -/
def RingUp (N dict M : Nat) : Prop := ∀ m d, m ≤ M → (d < min m N ↔ (d < m ∧ d < dict))
theorem RingUp.ok {N M : Nat} {s : LS} (h : RingUp N s.dict M) (hm : s.H.length ≤ M) : RingOk N s := fun d => h _ d hm
theorem kcopy_D {N M : Nat} : ∀ (k i : Nat) (s : LS), RingUp N s.dict M → s.H.length + k ≤ M → s.rep 0 < s.H.length → s.rep 0 < s.dict → kcopy k i s = ({ s with H := copyH N k s.H (s.rep 0) }, i + k)
  | 0, i, s, _, _, _, _ => rfl
  | k + 1, i, s, hr, hM, h1, h2 => by
    have hb := backD_ring (hr.ok (s := s) (by omega)) (s.rep 0)
    have hlt : s.rep 0 < min s.H.length N := (hr s.H.length (s.rep 0) (by omega)).2 ⟨h1, h2⟩
    unfold kcopy
    rw [hb]
    dsimp only
    rw [if_pos (decide_eq_true hlt)]
    have ih := kcopy_D k (i + 1) { s with H := s.H ++ [backH s.H N (s.rep 0)] } hr (by show (s.H ++ [_]).length + k ≤ M; simp; omega) (by show s.rep 0 < (s.H ++ [_]).length; simp; omega) h2
    rw [ih]
    show (_, i + 1 + k) = (_, i + (k + 1))
    rw [show i + 1 + k = i + (k + 1) by omega]
    rfl
/-- the program's copying, byte by byte. -/
theorem lnext2_run {S : Type} (L : LL) (d : RD S) : ∀ (k : Nat) (s : LS), s.left = k → ∃ s' : LS, s' = { s with left := 0, place := s.place + k, H := copyH L.n k s.H (s.rep 0) } ∧ Nat.rec (motive := fun _ => LS) s (fun _ t => (lnext2 L t d).2.1) k = s'
  | 0, s, h => ⟨_, rfl, by
    show s = _
    have : ({ s with left := 0, place := s.place + 0, H := copyH L.n 0 s.H (s.rep 0) } : LS) = s := by
      cases s
      cases h
      rfl
    exact this.symm⟩
  | k + 1, s, h => by
    refine ⟨_, rfl, ?_⟩
    have key : ∀ (k : Nat) (t : LS), Nat.rec (motive := fun _ => LS) t (fun _ t => (lnext2 L t d).2.1) (k + 1) = Nat.rec (motive := fun _ => LS) (lnext2 L t d).2.1 (fun _ t => (lnext2 L t d).2.1) k := by
      intro k t
      induction k with
      | zero => rfl
      | succ k ih =>
        show (lnext2 L (Nat.rec (motive := fun _ => LS) t (fun _ t => (lnext2 L t d).2.1) (k + 1)) d).2.1 = _
        rw [ih]
    rw [key]
    have h1 : (lnext2 L s d).2.1 = { s with left := k, place := s.place + 1, H := s.H ++ [backH s.H L.n (s.rep 0)] } := by
      unfold lnext2
      rw [if_neg (by omega)]
      show ({ s with left := s.left - 1, place := s.place + 1, H := s.H ++ [backH s.H L.n (s.rep 0)] } : LS) = _
      rw [h]
      rfl
    rw [h1]
    obtain ⟨s', e1, e2⟩ := lnext2_run L d k { s with left := k, place := s.place + 1, H := s.H ++ [backH s.H L.n (s.rep 0)] } rfl
    rw [e2, e1]
    show ({ s with left := 0, place := s.place + 1 + k, H := copyH L.n k (s.H ++ [backH s.H L.n (s.rep 0)]) (s.rep 0) } : LS) = { s with left := 0, place := s.place + (k + 1), H := copyH L.n k (s.H ++ [backH s.H L.n (s.rep 0)]) (s.rep 0) }
    rw [show s.place + 1 + k = s.place + (k + 1) by omega]
end
end Go.Proofs.Ytjnegcambbeblaa

/- The document's walk over its decoder, plain: a packet told well is the program's packet. -/
namespace Go.Proofs.Ytjnegcambbeblaa
open Go.RowKit

section
variable (a : Option Addr) (n cap : Nat) (f : Nat → Int) (lo gd : Nat)
/-- the document keeps no place and nothing left. -/
def bare (s : LS) : LS := { s with place := 0, left := 0 }
theorem kpacket_lit {L : LL} {s : LS} (c : RD Nat) (p : PkV) (hr : RingOk L.n s) (hp : s.place = s.H.length) (hb : s.bad = false) (h1 : (lpacket (feedNx f n) L s c).1.2 = true) :
    kpacket (cdrD a n cap f lo gd) (bare s) c p = (bare { (lpacket (feedNx f n) L s c).2.1 with H := s.H ++ [(((lpacket (feedNx f n) L s c).1.1 : Nat) : Int)] }, (lpacket (feedNx f n) L s c).2.2, 1) := by
  unfold lpacket at h1 ⊢
  dsimp only at h1 ⊢
  by_cases h0 : (lbit (feedNx f n) s.P c (16 * s.st + s.place % 2 ^ s.pb)).1 = 0
  · rw [if_pos h0] at h1 ⊢
    have hk : kkind (cdrD a n cap f lo gd) (bare s) c (s.place % 2 ^ s.pb) p.kind = ((0, false), (lbit (feedNx f n) s.P c (16 * s.st + s.place % 2 ^ s.pb)).2) := by
      unfold kkind kkind0
      rw [kbit_D]
      exact if_pos h0
    have hbad : (llit (feedNx f n) L { s with P := (lbit (feedNx f n) s.P c (16 * s.st + s.place % 2 ^ s.pb)).2.1 } (lbit (feedNx f n) s.P c (16 * s.st + s.place % 2 ^ s.pb)).2.2).2.2.bad = false := by
      simpa using h1
    have hl := klit_D a n cap f lo gd (L := L) (s := { s with P := (lbit (feedNx f n) s.P c (16 * s.st + s.place % 2 ^ s.pb)).2.1 }) hr hp (lbit (feedNx f n) s.P c (16 * s.st + s.place % 2 ^ s.pb)).2.2 p.byte
    unfold kpacket
    rw [show (bare s).H.length % 2 ^ (bare s).pb = s.place % 2 ^ s.pb by rw [hp]; rfl, hk]
    unfold kpacket2
    rw [if_pos rfl]
    have hl2 : klit (cdrD a n cap f lo gd) { bare s with P := (lbit (feedNx f n) s.P c (16 * s.st + s.place % 2 ^ s.pb)).2.1, bad := (bare s).bad || false } (lbit (feedNx f n) s.P c (16 * s.st + s.place % 2 ^ s.pb)).2.2 p.byte = llit (feedNx f n) L { s with P := (lbit (feedNx f n) s.P c (16 * s.st + s.place % 2 ^ s.pb)).2.1 } (lbit (feedNx f n) s.P c (16 * s.st + s.place % 2 ^ s.pb)).2.2 := hl
    show klitP (cdrD a n cap f lo gd) { bare s with P := (lbit (feedNx f n) s.P c (16 * s.st + s.place % 2 ^ s.pb)).2.1, bad := (bare s).bad || false } (klit (cdrD a n cap f lo gd) { bare s with P := (lbit (feedNx f n) s.P c (16 * s.st + s.place % 2 ^ s.pb)).2.1, bad := (bare s).bad || false } (lbit (feedNx f n) s.P c (16 * s.st + s.place % 2 ^ s.pb)).2.2 p.byte) = _
    rw [hl2]
    unfold klitP
    rw [if_neg (by show ¬ (llit (feedNx f n) L _ _).2.2.bad = true; rw [hbad]; decide)]
    rw [hbad]
    have e : ((bare s).bad || false) = false := by show (s.bad || false) = false; rw [hb]; rfl
    rw [e]
    rfl
  · rw [if_neg h0] at h1
    split at h1
    · cases h1
    · split at h1
      · cases h1
      · cases h1
end
end Go.Proofs.Ytjnegcambbeblaa

/- The document's walk over its decoder, plain: a packet that copies is the program's packet, copied out. -/
namespace Go.Proofs.Ytjnegcambbeblaa
open Go.RowKit

theorem lpEnd_good {S : Type} (L : LL) (s : LS) (d : RD S) (h : (lpEnd L s d).left ≠ 0) : lpEnd L s d = { s with bad := false } ∧ s.bad = false ∧ d.bad = false ∧ s.ended = false ∧ s.rep 0 < s.dict ∧ s.rep 0 < min s.H.length L.n := by
  unfold lpEnd at h ⊢
  by_cases h1 : ((s.bad || d.bad) || s.ended) = true
  · rw [if_pos h1] at h; exact absurd rfl h
  · rw [if_neg h1] at h ⊢
    have h1' : ((s.bad || d.bad) || s.ended) = false := by simpa using h1
    obtain ⟨e1, e2⟩ := Bool.or_eq_false_iff.1 h1'
    obtain ⟨e3, e4⟩ := Bool.or_eq_false_iff.1 e1
    by_cases h2 : s.dict ≤ s.rep 0 ∨ ¬ s.rep 0 < min s.H.length L.n
    · rw [if_pos h2] at h; exact absurd rfl h
    · rw [if_neg h2]
      refine ⟨by rw [e1], e3, e4, e2, by omega, ?_⟩
      by_cases h3 : s.rep 0 < min s.H.length L.n
      · exact h3
      · exact absurd (.inr h3) h2
section
variable (a : Option Addr) (n cap : Nat) (f : Nat → Int) (lo gd : Nat)
/-- what is behind the switch, where all is good. -/
theorem kend_D {N M : Nat} (m : LS × RD Nat × Nat) (hb : m.2.1.bad = false) (hs : m.1.bad = false) (he : m.1.ended = false) (hr : RingUp N m.1.dict M) (hM : m.1.H.length + m.2.2 ≤ M) (h1 : m.1.rep 0 < m.1.H.length) (h2 : m.1.rep 0 < m.1.dict) :
    kend (cdrD a n cap f lo gd) m = ({ m.1 with H := copyH N m.2.2 m.1.H (m.1.rep 0) }, m.2.1, m.2.2) := by
  have e : (if (cdrD a n cap f lo gd).bad m.2.1 = true then { m.1 with bad := true } else m.1) = m.1 := if_neg (by show ¬ m.2.1.bad = true; rw [hb]; decide)
  unfold kend
  rw [e]
  unfold kend2
  rw [if_neg (by rw [hs, he]; decide), kcopy_D (N := N) (M := M) m.2.2 0 m.1 hr hM h1 h2, Nat.zero_add]
theorem kpacket_far {L : LL} {M : Nat} {s : LS} (c : RD Nat) (p : PkV) (hr : RingUp L.n s.dict M) (hp : s.place = s.H.length) (hb : s.bad = false) (he : s.ended = false)
    (h0 : (lbit (feedNx f n) s.P c (16 * s.st + s.place % 2 ^ s.pb)).1 ≠ 0) (h1 : (lbit (feedNx f n) (lbit (feedNx f n) s.P c (16 * s.st + s.place % 2 ^ s.pb)).2.1 (lbit (feedNx f n) s.P c (16 * s.st + s.place % 2 ^ s.pb)).2.2 (192 + s.st)).1 = 0)
    (ht : (lpacket (feedNx f n) L s c).2.1.left ≠ 0) (hM : s.H.length + (lpacket (feedNx f n) L s c).2.1.left ≤ M) :
    kpacket (cdrD a n cap f lo gd) (bare s) c p = (bare { (lpacket (feedNx f n) L s c).2.1 with H := copyH L.n (lpacket (feedNx f n) L s c).2.1.left s.H ((lpacket (feedNx f n) L s c).2.1.rep 0) }, (lpacket (feedNx f n) L s c).2.2, (lpacket (feedNx f n) L s c).2.1.left) := by
  obtain ⟨r1, hr1⟩ : ∃ r, r = lbit (feedNx f n) (lbit (feedNx f n) s.P c (16 * s.st + s.place % 2 ^ s.pb)).2.1 (lbit (feedNx f n) s.P c (16 * s.st + s.place % 2 ^ s.pb)).2.2 (192 + s.st) := ⟨_, rfl⟩
  obtain ⟨F, hF⟩ : ∃ F, F = lfresh (feedNx f n) { s with P := r1.2.1 } r1.2.2 (s.place % 2 ^ s.pb) := ⟨_, rfl⟩
  have hpk : lpacket (feedNx f n) L s c = ((0, false), lpEnd L { F.2.1 with left := F.1 } F.2.2, F.2.2) := by
    unfold lpacket
    dsimp only
    rw [if_neg h0, if_pos h1, hF, hr1]
  rw [hpk] at ht hM ⊢
  obtain ⟨g1, g2, g3, g4, g5, g6⟩ := lpEnd_good L { F.2.1 with left := F.1 } F.2.2 ht
  dsimp only at hM ⊢
  rw [g1] at hM ⊢
  have hk : kkind (cdrD a n cap f lo gd) (bare s) c (s.place % 2 ^ s.pb) p.kind = ((1, false), r1.2) := by
    unfold kkind kkind0
    rw [kbit_D]
    have h0' : ¬ (lbit (feedNx f n) (bare s).P c (16 * (bare s).st + s.place % 2 ^ s.pb)).1 = 0 := h0
    rw [if_neg h0']
    unfold kkind1
    rw [kbit_D, hr1]
    exact if_pos h1
  unfold kpacket
  rw [show (bare s).H.length % 2 ^ (bare s).pb = s.place % 2 ^ s.pb by rw [hp]; rfl, hk]
  obtain ⟨S, hS⟩ : ∃ S : LS, S = { bare s with P := r1.2.1, bad := (bare s).bad || false } := ⟨_, rfl⟩
  show kpacket2 (cdrD a n cap f lo gd) { bare s with P := r1.2.1, bad := (bare s).bad || false } r1.2.2 (s.place % 2 ^ s.pb) p 1 = _
  rw [← hS]
  unfold kpacket2
  rw [if_neg (by decide)]
  unfold kmid
  rw [if_pos rfl]
  have hSF : lfresh (feedNx f n) S r1.2.2 (s.place % 2 ^ s.pb) = (F.1, { F.2.1 with place := 0, left := 0, bad := (s.bad || false) }, F.2.2) := by
    rw [hS, hF]
    rfl
  obtain ⟨m, hm⟩ : ∃ m, m = kmid1 (cdrD a n cap f lo gd) S (s.place % 2 ^ s.pb) p.kind p.dist (klen (cdrD a n cap f lo gd) S.P r1.2.2 819 (s.place % 2 ^ s.pb) (if p.kind = 7 then 0 else p.len - 2)) := ⟨_, rfl⟩
  have hD := kmid1_D a n cap f lo gd S r1.2.2 (s.place % 2 ^ s.pb) p.kind (if p.kind = 7 then 0 else p.len - 2) p.dist (by rw [hS]; exact he) (by rw [hSF]; exact g3) m hm
  rw [hSF] at hD
  obtain ⟨d1, d2, d3⟩ := hD
  have hme : m.1.ended = false := by rw [d1]; exact g4
  have d4 := d3 hme
  rw [← hm]
  have hsb : (s.bad || false) = false := by rw [hb]; rfl
  rw [hsb] at d1
  have hFH : F.2.1.H = s.H ∧ F.2.1.dict = s.dict := by rw [hF]; exact ⟨rfl, rfl⟩
  have hmH : m.1.H = s.H := by rw [d1]; exact hFH.1
  have hmd : m.1.dict = s.dict := by rw [d1]; exact hFH.2
  have hmr : m.1.rep 0 = F.2.1.rep 0 := by rw [d1]
  have g5' : F.2.1.rep 0 < F.2.1.dict := g5
  have g6' : F.2.1.rep 0 < min F.2.1.H.length L.n := g6
  rw [kend_D a n cap f lo gd (N := L.n) (M := M) m (by rw [d2]; exact g3) (by rw [d1]) hme (by rw [hmd]; exact hr) (by rw [hmH, d4]; exact hM) (by rw [hmr, hmH, ← hFH.1]; omega) (by rw [hmr, hmd, ← hFH.2]; exact g5')]
  rw [d4, d2, hmH, hmr, d1]
  rfl
end
end Go.Proofs.Ytjnegcambbeblaa

/- src: a cursor over four bytes: New, Num(4); Put of four bytes. -/
namespace Go.Proofs.Ytjnegcambbeblaa
open Go.RowKit

def CurAt (w : World) (g : Nat) (a : Option Addr) (n c : Nat) (at_ : Int) : Prop := w.heap[g]? = some (.cells #[.slice a n c, .int .i64 at_, .int .i64 0] 171)
def CurNewPost (w : World) (n : Nat) (f : Nat → Int) (e : Ending) (w' : World) : Prop :=
  ∃ g a' c', e = .returned (.pointer (some ⟨g, 0, none⟩)) ∧ Fr Non w w' ∧ CurAt w' g a' n c' 0 ∧ RowIn g .u8 w' a' n f ∧ n ≤ c' ∧ c' ≤ maxLen ∧ w.heap.size ≤ g ∧ g < w'.heap.size
set_option maxRecDepth 100000 in
theorem curNew_any (a : Option Addr) (n c : Nat) (f : Nat → Int) (w : World) (hn : n ≤ 1048576) (hnc : n ≤ c) (hnil : a = none → c = 0) (h : RowIn w.heap.size .u8 w a n f) :
    Calls Try.prog 69 #[.slice a n c] w (CurNewPost w n f) := by
  have H := hid h
  have Hnil := hid hnil
  clear h hnil
  go_enter Try.func69, Try.ntmps69
  go_wp2_with fail
  refine (clone_any a n c f _ hn hnc Hnil.out H.out).mono ?_
  rintro e w1 ⟨a', c', rfl, hf1, hr1, hn1, hc1, hb1⟩
  have HF := hid hf1
  have HR := hid hr1
  clear hf1 hr1 hb1
  go_wp2
  go_ret
  exact ⟨w1.heap.size, a', c', rfl, HF.out.alloc _, blk_new _ _, HR.out.fr ((Fr.refl Non _).alloc _) (fun _ _ => id), hn1, hc1, HF.out.size, by simp⟩
theorem sized4 (w : World) : Calls Try.prog 99 #[.int .i64 4] w fun e w' => e = .returned (.bool true) ∧ w = w' := by
  go_enter Try.func99, Try.ntmps99
  go_wp2
  go_ret
  exact ⟨rfl, rfl⟩
theorem curLeft_any (w : World) (g : Nat) (a : Option Addr) (n c : Nat) (hn : n ≤ 1048576) (h : CurAt w g a n c 0) : Calls Try.prog 120 #[.pointer (some ⟨g, 0, none⟩)] w fun e w' => e = .returned (.int .i64 n) ∧ Fr Non w w' := by
  have c0 := blk_cell h (j := 0) (v := .slice a n c) rfl
  have c1 := blk_cell h (j := 1) (v := .int .i64 0) rfl
  have hw : IntKind.i64.wrap (n : Int) = (n : Int) := by rw [IntKind.wrap_i64]; omega
  clear h
  go_enter Try.func120, Try.ntmps120
  go_upto_region 1 with fail
  go_quiet (fail)
  go_wp2
  go_ret
  refine ⟨?_, (Fr.refl Non _).drewN _⟩
  first
    | rfl
    | (congr 2; omega)
/-- the number of k bytes, the least first. -/
def leN (f : Nat → Int) : Nat → Int
  | 0 => 0
  | k + 1 => leN f k + f k * 256 ^ k
theorem leN_bd {f : Nat → Int} : ∀ k, (∀ i, i < k → 0 ≤ f i ∧ f i < 256) → 0 ≤ leN f k ∧ leN f k < 256 ^ k
  | 0, _ => ⟨Int.le_refl _, by show (0 : Int) < 1; decide⟩
  | k + 1, h => by
    obtain ⟨h1, h2⟩ := leN_bd k (fun i hi => h i (by omega))
    obtain ⟨h3, h4⟩ := h k (by omega)
    have hp : (0 : Int) < 256 ^ k := Int.pow_pos (by decide)
    show 0 ≤ leN f k + f k * 256 ^ k ∧ leN f k + f k * 256 ^ k < 256 ^ (k + 1)
    rw [Int.pow_succ]
    generalize (256 : Int) ^ k = X at *
    have h5 : 0 ≤ f k * X := Int.mul_nonneg h3 (by omega)
    have h6 : f k * X ≤ 255 * X := Int.mul_le_mul_of_nonneg_right (by omega) (by omega)
    omega
theorem u64_low (a x : Int) (k : Nat) (h0 : 0 ≤ x) (h1 : x < 2 ^ k) (ha : 0 ≤ a) (hk : k ≤ 56) (ha2 : a < 256) : bits .or .u64 x (a * 2 ^ k) = x + a * 2 ^ k := by
  obtain ⟨m, rfl⟩ := Int.eq_ofNat_of_zero_le ha
  obtain ⟨y, rfl⟩ := Int.eq_ofNat_of_zero_le h0
  have hp : 2 ^ k ≤ 2 ^ 56 := Nat.pow_le_pow_right (by decide) hk
  have e1 : (m : Int) * 2 ^ k = ((m * 2 ^ k : Nat) : Int) := by push_cast; rfl
  have h1' : y < 2 ^ k := by
    have e : ((2 : Int) ^ k) = ((2 ^ k : Nat) : Int) := by push_cast; rfl
    rw [e] at h1
    exact Int.ofNat_lt.1 h1
  have hm : m * 2 ^ k ≤ 255 * 2 ^ 56 := Nat.mul_le_mul (by omega) hp
  rw [e1, u64_or_nat y (m * 2 ^ k) (by omega) (by omega), Nat.or_comm, nat_or_low m y k h1']
  push_cast
  omega
theorem wrap_u64q (n : Int) : IntKind.u64.wrap n = n % 18446744073709551616 := by simp [IntKind.wrap, IntKind.bits, IntKind.signed]
def TakePost (w : World) (g : Nat) (f : Nat → Int) (e : Ending) (w' : World) : Prop :=
  ∃ a' c', e = .returned (.slice a' 4 c') ∧ Fr (fun k => k = g) w w' ∧ RowIn w'.heap.size .u8 w' a' 4 f
set_option maxRecDepth 100000 in
set_option maxHeartbeats 800000 in
theorem take4 (w : World) (g : Nat) (a : Option Addr) (c : Nat) (f : Nat → Int) (h : CurAt w g a 4 c 0) (hc : 4 ≤ c) (hcm : c ≤ maxLen) (hr : RowIn g .u8 w a 4 f) :
    Calls Try.prog 102 #[.pointer (some ⟨g, 0, none⟩), .int .u64 4] w (TakePost w g f) := by
  obtain ⟨b, off, rfl, hB, hx⟩ := hr.at (show 0 < 4 by decide)
  have HA := hid h
  have HR := hid hr
  unfold maxLen at hcm
  have c2 := blk_cell h (j := 2) (v := .int .i64 0) rfl
  clear h hr hx
  go_enter Try.func102, Try.ntmps102
  go_wp2_with fail
  refine (curLeft_any w g _ 4 c (by decide) HA.out).mono ?_
  rintro e w1 ⟨rfl, hf1⟩
  have h1 := hf1.blk HA.out id
  have c0 := blk_cell h1 (j := 0) (v := .slice (some ⟨b, off, none⟩) 4 c) rfl
  have c1 := blk_cell h1 (j := 1) (v := .int .i64 0) rfl
  have c2 := blk_cell h1 (j := 2) (v := .int .i64 0) rfl
  have z1 := blk_frozen h1 1
  have H1 := hid h1
  have HR1 := hid (HR.out.fr hf1 (fun _ _ e => e))
  have F1 := hid hf1
  clear h1 hf1
  have hc9 : (4 : Int) ≤ (c : Int) := by omega
  have hc8 : ¬ c = 0 := by omega
  have hw4 : IntKind.i64.wrap 4 = 4 := by decide
  have hc7 : ¬ (c : Int) = 0 := by omega
  go_upto_region 4 with fail
  go_cut [5] (fun v wx => ∃ a' c', v = .slice a' 4 c' ∧ Fr Non w1 wx ∧ RowIn wx.heap.size .u8 wx a' 4 f ∧ ∀ ad, a' = some ad → g < ad.block)
  case first =>
    have hcl := hid (fun W (hW : Fr Non w1 W) => clone_any (some ⟨b, off, none⟩) 4 c f W (by decide) hc (fun e => by cases e) ((HR1.out.fr hW (fun _ _ e => e)).mono (Nat.le_of_lt (Nat.lt_of_lt_of_le (blk_lt H1.out) hW.size))))
    go_region_with (first | (go_at_call 59; refine (hcl.out _ (by repeat (first | exact Fr.refl _ _ | refine Fr.drewN ?_ _ | refine Fr.drew ?_))).mono ?_; rintro e wm ⟨a', c', rfl, hfm, hrm, _, _, hbm⟩; have HFM := hid hfm; have HRM := hid hrm; have HBM := hid (show ∀ ad, a' = some ad → g < ad.block from fun ad e => Nat.lt_of_lt_of_le (Nat.lt_of_lt_of_le (blk_lt H1.out) (Fr.size (S := Non) (by repeat (first | exact Fr.refl _ _ | refine Fr.drewN ?_ _ | refine Fr.drew ?_)))) (hbm ad e).1); clear hfm hrm hbm) | fail)
    all_goals
      go_wp2_with fail
      go_meet
      exact ⟨a', c', rfl, Fr.trans (by repeat (first | exact Fr.refl _ _ | refine Fr.drewN ?_ _ | refine Fr.drew ?_)) HFM.out, HRM.out, HBM.out⟩
  case rest =>
    obtain ⟨a', c', rfl, hf2, hr2, hb2⟩ := hcut
    obtain ⟨w2, hw2⟩ : ∃ w2, w2 = wc := ⟨_, rfl⟩
    rw [← hw2] at hf2 hr2 ⊢
    have h2 := hf2.blk H1.out id
    clear hw2 c0 c1 c2 z1
    have c1 := blk_cell h2 (j := 1) (v := .int .i64 0) rfl
    have z1 := blk_frozen h2 1
    have F2 := hid (F1.out.trans hf2)
    have R2 := hid hr2
    have B2 := hid hb2
    clear hf2 hr2 h2 hb2
    go_wp2_with fail
    go_ret
    have hf3 : Fr (fun k => k = g) w2 (w2.setCell ⟨g, 1, none⟩ (.int .i64 4)) := (Fr.refl _ _).setOne _ _
    refine ⟨a', c', rfl, F2.out.any.trans hf3, ?_⟩
    rcases R2.out with h | ⟨b, off, e, hb, hc⟩
    · cases h
    · exact .inr ⟨b, off, e, by simpa using hb, fun i hi => hf3.cell (hc i hi) (fun e1 => by have e2 : b = g := e1; have h9 : g < b := B2.out _ e; omega)⟩
set_option maxRecDepth 100000 in
set_option maxHeartbeats 800000 in
theorem least4 (a : Option Addr) (c B : Nat) (f : Nat → Int) (w : World) (hr : RowIn B .u8 w a 4 f) (hf : ∀ i, i < 4 → 0 ≤ f i ∧ f i < 256) :
    Calls Try.prog 101 #[.slice a 4 c] w fun e w' => e = .returned (.int .u64 (leN f 4)) ∧ w = w' := by
  have HR := hid hr
  have HF := hid hf
  clear hr hf
  go_enter Try.func101, Try.ntmps101
  go_wp2_with fail
  go_loopw [3, 8] (fun v i wr => ∃ k : Nat, k ≤ 4 ∧ i = .int .i64 k ∧ v = .int .u64 (leN f k) ∧ wr = w) (fun v i _ => 4 - (intOf i).toNat)
  case atStart => exact ⟨0, by decide, rfl, rfl, rfl⟩
  case round =>
    obtain ⟨k, hk, rfl, rfl, rfl⟩ := hrel
    by_cases hlt : k < 4
    · obtain ⟨b, off, rfl, hB, hx⟩ := HR.out.at hlt
      obtain ⟨hv0, hv1⟩ := leN_bd k (fun i hi => HF.out i (by omega))
      obtain ⟨hx0, hx1⟩ := HF.out k hlt
      have h0 : (0 : Int) ≤ (k : Int) := by omega
      have h1 : (k : Int) < 4 := by omega
      have HU := hid (u64_low (f k) (leN f k) (8 * k) hv0 (by rw [Int.pow_mul]; exact hv1) hx0 (by omega) hx1)
      have HV := hid (And.intro hv0 hv1)
      clear hv0 hv1
      obtain ⟨y, hy⟩ : ∃ y, y = leN f k := ⟨_, rfl⟩
      rw [← hy] at HU ⊢
      have HY := hid hy
      clear hy
      go_wp2_with fail
      have hw : IntKind.u64.wrap (f k * 2 ^ (8 * k)) = f k * 2 ^ (8 * k) := by
        rw [wrap_u64q]
        have hp : (2 : Int) ^ (8 * k) ≤ 2 ^ 24 := by
          have : 2 ^ (8 * k) ≤ 2 ^ 24 := Nat.pow_le_pow_right (by decide) (by omega)
          exact_mod_cast this
        have hp0 : (0 : Int) ≤ 2 ^ (8 * k) := Int.le_of_lt (Int.pow_pos (by decide))
        have h5 : 0 ≤ f k * 2 ^ (8 * k) := Int.mul_nonneg hx0 hp0
        have h6 : f k * 2 ^ (8 * k) ≤ 255 * 2 ^ 24 := Int.le_trans (Int.mul_le_mul_of_nonneg_right (by omega : f k ≤ 255) hp0) (Int.mul_le_mul_of_nonneg_left hp (by decide))
        exact Int.emod_eq_of_lt h5 (Int.lt_of_le_of_lt h6 (by decide))
      rw [hw, HU.out, HY.out]
      refine ⟨⟨k + 1, by omega, by go_num, ?_, trivial⟩, ?_⟩
      · congr 1
        show leN f k + f k * 2 ^ (8 * k) = leN f k + f k * 256 ^ k
        rw [Int.pow_mul]
        rfl
      · simp [intOf]; omega
    · have e : k = 4 := by omega
      subst e
      go_wp2_with fail
      go_ret
      exact ⟨rfl, rfl⟩
theorem num4 (w : World) (g : Nat) (a : Option Addr) (c : Nat) (f : Nat → Int) (h : CurAt w g a 4 c 0) (hc : 4 ≤ c) (hcm : c ≤ maxLen) (hr : RowIn g .u8 w a 4 f) (hf : ∀ i, i < 4 → 0 ≤ f i ∧ f i < 256) :
    Calls Try.prog 70 #[.pointer (some ⟨g, 0, none⟩), .int .i64 4] w fun e w' => e = .returned (.int .u64 (leN f 4)) ∧ Fr (fun k => k = g) w w' := by
  have H := hid h
  have HR := hid hr
  have HF := hid hf
  clear h hr hf
  go_enter Try.func70, Try.ntmps70
  go_wp2_with fail
  refine (sized4 _).mono ?_
  rintro e w1 ⟨rfl, rfl⟩
  go_wp2_with fail
  refine (take4 w g a c f H.out hc hcm HR.out).mono ?_
  rintro e w2 ⟨a', c', rfl, hf2, hr2⟩
  have F2 := hid hf2
  have R2 := hid hr2
  clear hf2 hr2
  go_wp2_with fail
  refine (least4 a' c' _ f w2 R2.out HF.out).mono ?_
  rintro e w3 ⟨rfl, rfl⟩
  go_wp2_with fail
  go_ret
  exact ⟨rfl, F2.out⟩
/-- a clone is a row of the call's own. -/
theorem clone_own (a : Option Addr) (n c : Nat) (f : Nat → Int) (w : World) (hn : n ≤ 1048576) (hnc : n ≤ c) (hnil : a = none → c = 0) (h : RowIn w.heap.size .u8 w a n f) :
    Calls Try.prog 59 #[.slice a n c] w fun e w' => ∃ v, e = .returned v ∧ Fr Non w w' ∧ Own w' w.heap.size .u8 5 v ((List.range n).map f) := by
  have H := hid h
  clear h
  cases a with
  | none =>
    have hc : c = 0 := hnil rfl
    have hn0 : n = 0 := by omega
    subst hc hn0
    clear hnil
    have k0 := fun wx : World => Lib.run_eql_slice_nil (P := Try.prog) wx 30 5 none 0 0 0 0 Try.underlying30
    go_enter Try.func59, Try.ntmps59
    go_wp2
    go_ret
    exact ⟨_, rfl, Fr.refl _ _, Own.nil _ _ _ _⟩
  | some ad =>
    clear hnil
    have k0 := fun wx : World => Lib.run_eql_slice_nil (P := Try.prog) wx 30 5 (some ad) n c 0 0 Try.underlying30
    go_enter Try.func59, Try.ntmps59
    go_wp2_with (refine opAppendRow (some 7) rfl rfl (.tmp 5) (.tmp 6) 30 rfl w.heap.size .u8 5 1 Try.underlying30 Try.info_u8 (.slice (some ⟨w.heap.size, 0, none⟩) 0 0) [] rfl (Own.empty w _ .u8 5 (Nat.le_refl _)) w.heap.size (some ad) n c f rfl (fun e => by cases e) hnc (H.out.fr ((Fr.refl Non _).alloc _) (fun _ _ => id)) (by decide) (by simp; omega) (by simp) ?_; intro v2 w2 hown2 hg2)
    go_ret
    exact ⟨_, rfl, clone_fr hg2, hown2⟩
/-- the bytes of a number, the least first. -/
def leB (v : Int) (k : Nat) : List Int := (List.range k).map (fun i => v / 256 ^ i % 256)
set_option maxRecDepth 100000 in
set_option maxHeartbeats 800000 in
theorem put4 (a : Option Addr) (c : Nat) (x v : Int) (w : World) (hr : RowIn w.heap.size .u8 w a 1 (fun _ => x)) (hc : 1 ≤ c) (hnil : a = none → c = 0) (hv0 : 0 ≤ v) (hv1 : v < 4294967296) :
    Calls Try.prog 71 #[.slice a 1 c, .int .i64 4, .int .u64 v] w fun e w' => ∃ u, e = .returned u ∧ Fr Non w w' ∧ RowO w' w.heap.size u (x :: leB v 4) := by
  have HR := hid hr
  have HNIL := hid hnil
  clear hr hnil
  go_enter Try.func71, Try.ntmps71
  go_wp2_with fail
  refine (clone_own a 1 c (fun _ => x) w (by decide) hc HNIL.out HR.out).mono ?_
  rintro e w1 ⟨v1, rfl, hf1, ho1⟩
  have F1 := hid hf1
  have O1 := hid ho1
  clear hf1 ho1
  go_wp2_with fail
  refine (sized4 _).mono ?_
  rintro e w2 ⟨rfl, rfl⟩
  go_wp2_with fail
  go_loopw [7, 2, 15] (fun u y i wr => ∃ k : Nat, k ≤ 4 ∧ i = .int .i64 k ∧ y = .int .u64 (v / 256 ^ k) ∧ Fr Non w wr ∧ Own wr w.heap.size .u8 5 u (x :: leB v k)) (fun u y i _ => 4 - (intOf i).toNat)
  case atStart => exact ⟨0, by decide, rfl, by simp, F1.out, O1.out⟩
  case round =>
    obtain ⟨k, hk, rfl, rfl, hfr, hown⟩ := hrel
    have HFR := hid hfr
    have HOW := hid hown
    clear hfr hown
    by_cases hlt : k < 4
    · have h1 : (k : Int) < 4 := by omega
      have h0 : (0 : Int) ≤ (k : Int) := by omega
      have hyw : IntKind.u8.wrap (v / 256 ^ k) = v / 256 ^ k % 256 := by rw [IntKind.wrap_u8]
      have hsz := HFR.out.size
      have hl4 : (x :: leB v k).length ≤ 5 := by simp [leB]; omega
      go_wp2_with (refine opAppend1 (some 21) rfl rfl (.tmp 17) (.tmp 20) 30 rfl w.heap.size .u8 5 1 Try.underlying30 Try.info_u8q _ _ rfl (by exact HOW.out.alloc _) ⟨_, 0, none⟩ 1 _ rfl (cell_new1 _ _ _) (by decide) (by omega) (by simp; omega) ?_; intro v6 w6 hown6 hg6)
      have hf6 : Fr Non w w6 := Fr.grown (HFR.out.alloc _) hg6 (fun b hb hlt => by have := (HOW.out.block b hb).1; omega)
      have e1 : v / 256 ^ k / 256 = v / 256 ^ (k + 1) := by
        obtain ⟨m, rfl⟩ := Int.eq_ofNat_of_zero_le hv0
        have e : ((256 : Int) ^ k) = ((256 ^ k : Nat) : Int) := by push_cast; rfl
        have e2 : ((256 : Int) ^ (k + 1)) = ((256 ^ (k + 1) : Nat) : Int) := by push_cast; rfl
        rw [e, e2]
        have e3 : m / 256 ^ k / 256 = m / 256 ^ (k + 1) := by rw [Nat.div_div_eq_div_mul, Nat.pow_succ]
        exact_mod_cast e3
      have e2 : x :: leB v (k + 1) = x :: leB v k ++ [v / 256 ^ k % 256] := by
        unfold leB; rw [List.range_succ, List.map_append]; rfl
      refine ⟨⟨k + 1, by omega, by go_num, by rw [e1], hf6, ?_⟩, ?_⟩
      · rw [e2]
        first
          | exact hown6
          | (rw [hyw] at hown6; exact hown6)
      · simp [intOf]; omega
    · have e : k = 4 := by omega
      subst e
      go_wp2_with fail
      go_ret
      exact ⟨_, rfl, HFR.out, HOW.out.rowO⟩
end Go.Proofs.Ytjnegcambbeblaa
