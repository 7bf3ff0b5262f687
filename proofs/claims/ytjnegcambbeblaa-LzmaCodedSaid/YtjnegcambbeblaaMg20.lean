/- Texts of this proof, one behind the other. -/
import Derived.Test.YtjnegcambbeblaaMg19
import Derived.Test.YtjnegcambbeblaaMg14
import Derived.Test.YtjnegcambbeblaaMg18
import Derived.Test.YtjnegcambbeblaaMg13

/- The document's decoder over its bytes, plain: it unpacks to what the program's does. -/
namespace Go.Proofs.Ytjnegcambbeblaa
open Go.RowKit

theorem range_all {p q : Nat → Bool} : ∀ {m : Nat}, (∀ i, i < m → p i = q i) → (List.range m).all p = (List.range m).all q
  | 0, _ => rfl
  | m + 1, h => by
    rw [List.range_succ, List.all_append, List.all_append, range_all (m := m) (fun i hi => h i (by omega))]
    simp only [List.all_cons, List.all_nil]
    rw [h m (by omega)]
theorem range_allT {p : Nat → Bool} {m : Nat} : (List.range m).all p = true ↔ ∀ i, i < m → p i = true := by
  rw [List.all_eq_true]
  constructor
  · intro h i hi; exact h i (List.mem_range.2 hi)
  · intro h i hi; exact h i (List.mem_range.1 hi)
section
variable {T : Type} (nx : T → Int × Bool × T)
theorem lrun_ring {L K : LL} (s : LS) (d : RD T) (m : Nat) (h : s.H.length + m ≤ L.n) (h' : s.H.length + m ≤ K.n) : ∀ k, k ≤ m → lrun nx L k s d = lrun nx K k s d ∧ (lrun nx L k s d).1.H.length ≤ s.H.length + k
  | 0, _ => ⟨rfl, Nat.le_refl _⟩
  | k + 1, hk => by
    obtain ⟨i1, i2⟩ := lrun_ring s d m h h' k (by omega)
    refine ⟨?_, ?_⟩
    · show (lnext nx L (lrun nx L k s d).1 (lrun nx L k s d).2).2 = (lnext nx K (lrun nx K k s d).1 (lrun nx K k s d).2).2
      rw [← i1, lnext_ring nx (L := L) (K := K) _ _ (by omega) (by omega)]
    · have := lnext_H nx L (lrun nx L k s d).1 (lrun nx L k s d).2
      show (lnext nx L (lrun nx L k s d).1 (lrun nx L k s d).2).2.1.H.length ≤ _
      omega
theorem lok_ring {L K : LL} (s : LS) (d : RD T) (m : Nat) (h : s.H.length + m ≤ L.n) (h' : s.H.length + m ≤ K.n) (k : Nat) (hk : k < m) : lok nx L s d k = lok nx K s d k ∧ lbyte nx L s d k = lbyte nx K s d k := by
  obtain ⟨i1, i2⟩ := lrun_ring nx s d m h h' k (by omega)
  unfold lok lbyte
  rw [← i1, lnext_ring nx (L := L) (K := K) _ _ (by omega) (by omega)]
  exact ⟨rfl, rfl⟩
end
theorem lunpack_ring {S : Type} (nx : S → Int × Bool × S) (s0 : S) (p : Lset) {N K size : Nat} (hN : size ≤ N) (hK : size ≤ K) : lunpack nx s0 p N size = lunpack nx s0 p K size := by
  have h0 : (lstart p).H.length = 0 := rfl
  have hr := lrun_ring (anx nx) (L := LL.of N) (K := LL.of K) (lstart p) (RD.new (anx nx) ⟨s0, 0, false⟩) size (by rw [h0, Nat.zero_add]; exact hN) (by rw [h0, Nat.zero_add]; exact hK)
  have ho := lok_ring (anx nx) (L := LL.of N) (K := LL.of K) (lstart p) (RD.new (anx nx) ⟨s0, 0, false⟩) size (by rw [h0, Nat.zero_add]; exact hN) (by rw [h0, Nat.zero_add]; exact hK)
  obtain ⟨r1, r2⟩ := hr size (Nat.le_refl _)
  have e1 : (List.range size).all (lok (anx nx) (LL.of N) (lstart p) (RD.new (anx nx) ⟨s0, 0, false⟩)) = (List.range size).all (lok (anx nx) (LL.of K) (lstart p) (RD.new (anx nx) ⟨s0, 0, false⟩)) := range_all (fun i hi => (ho i hi).1)
  have e2 : lbytes (anx nx) (LL.of N) (lstart p) (RD.new (anx nx) ⟨s0, 0, false⟩) size = lbytes (anx nx) (LL.of K) (lstart p) (RD.new (anx nx) ⟨s0, 0, false⟩) size := by
    unfold lbytes
    exact List.map_congr_left (fun i hi => (ho i (List.mem_range.1 hi)).2)
  have e3 : ∀ (s : LS) (d : RD (AhS S)), s.H.length ≤ size → lfinish nx (LL.of N) s d = lfinish nx (LL.of K) s d := by
    intro s d h
    unfold lfinish
    rw [lpacket_ring (anx nx) (L := LL.of N) (K := LL.of K) s _ (Nat.le_trans h hN) (Nat.le_trans h hK)]
  unfold lunpack
  rw [e1, e2, ← r1, e3 _ _ (by rw [h0] at r2; omega)]
/-- a source that was asked ahead, and the place in the bytes. -/
def AhR (f : Nat → Int) (n : Nat) (x : AhS Nat) (y : Nat) : Prop := y ≤ n ∧ ((x.full = false ∧ x.s = y) ∨ (x.full = true ∧ x.s = y + 1 ∧ y < n ∧ x.b = f y % 256))
theorem simAB (f : Nat → Int) (n : Nat) : SimS (AhR f n) (anx (feedNx f n)) (feedNx f n) where
  go := by
    rintro ⟨xs, xb, xf⟩ y ⟨hy, hR⟩ ho
    unfold anx ahNx at ho ⊢
    dsimp only at ho hR ⊢
    rcases hR with ⟨rfl, rfl⟩ | ⟨rfl, rfl, hlt, rfl⟩
    · rw [if_neg (by decide)] at ho ⊢
      dsimp only at ho ⊢
      unfold feedNx at ho ⊢
      by_cases h : xs < n
      · rw [if_pos h]
        exact ⟨by show f xs % 256 = f xs % 256 % 256; omega, rfl, h, .inl ⟨rfl, rfl⟩⟩
      · rw [if_neg h] at ho; cases ho
    · rw [if_pos rfl]
      unfold feedNx
      rw [if_pos hlt]
      exact ⟨by show f y % 256 = f y % 256 % 256; omega, rfl, hlt, .inl ⟨rfl, rfl⟩⟩
theorem simBA (f : Nat → Int) (n : Nat) : SimS (fun y x => AhR f n x y) (feedNx f n) (anx (feedNx f n)) where
  go := by
    rintro y ⟨xs, xb, xf⟩ ⟨hy, hR⟩ ho
    unfold anx ahNx
    dsimp only at hR ⊢
    have hlt : y < n := by
      unfold feedNx at ho
      by_cases h : y < n
      · exact h
      · rw [if_neg h] at ho; cases ho
    rcases hR with ⟨rfl, rfl⟩ | ⟨rfl, rfl, _, rfl⟩
    · rw [if_neg (by decide)]
      unfold feedNx
      rw [if_pos hlt]
      exact ⟨by show f xs % 256 % 256 = f xs % 256; omega, rfl, hlt, .inl ⟨rfl, rfl⟩⟩
    · rw [if_pos rfl]
      unfold feedNx
      rw [if_pos hlt]
      exact ⟨by show f y % 256 % 256 = f y % 256; omega, rfl, hlt, .inl ⟨rfl, rfl⟩⟩
theorem lover_good {S : Type} (nx : S → Int × Bool × S) (s : LS) (d : RD (AhS S)) (h : (lover nx s d).1 = true) : d.bad = false := by
  unfold lover at h
  by_cases hw : lwhole s d = true
  · unfold lwhole RD.done at hw
    cases hd : d.bad
    · rfl
    · rw [hd] at hw; simp at hw
  · rw [if_neg hw] at h; cases h
theorem lover_left (f : Nat → Int) (n : Nat) (s : LS) (hb : s.bad = false) (hl : s.left = 0) (d : RD (AhS Nat)) (c : RD Nat) (hAB : d.bad = false → Sim1 (AhR f n) d c) (hBA : c.bad = false → Sim1 (fun y x => AhR f n x y) c d) :
    (lover (feedNx f n) s d).1 = kleft n c ∧ ((lover (feedNx f n) s d).2.bad = false → Sim1 (AhR f n) (lover (feedNx f n) s d).2 c) ∧ (c.bad = false → Sim1 (fun y x => AhR f n x y) c (lover (feedNx f n) s d).2) := by
  have hw : lwhole s d = d.done := by unfold lwhole; rw [hb, hl]; simp
  cases hd : d.bad with
  | true =>
    have hc : c.bad = true := by
      cases hq : c.bad with
      | true => rfl
      | false => have := (hBA hq).2.2.2; rw [hd, hq] at this; cases this
    have hdn : d.done = false := by unfold RD.done; rw [hd]; rfl
    unfold lover
    rw [hw, hdn, if_neg (by decide)]
    refine ⟨?_, fun h => ?_, fun h => ?_⟩
    · unfold kleft; rw [hc]; rfl
    · have h' : d.bad = false := h; rw [hd] at h'; cases h'
    · rw [hc] at h; cases h
  | false =>
    obtain ⟨⟨hy, hR⟩, h2, h3, h4⟩ := hAB hd
    have hcb : c.bad = false := h4.trans hd
    have flip : ∀ (x : AhS Nat), AhR f n x c.src → Sim1 (AhR f n) (⟨x, d.rng, d.code, d.bad⟩ : RD (AhS Nat)) c ∧ Sim1 (fun y x => AhR f n x y) c (⟨x, d.rng, d.code, d.bad⟩ : RD (AhS Nat)) := fun x hx => ⟨⟨hx, h2, h3, h4⟩, ⟨hx, h2.symm, h3.symm, h4.symm⟩⟩
    unfold lover
    rw [hw]
    by_cases hc0 : d.code = 0
    · have hdn : d.done = true := by unfold RD.done; rw [hd, hc0]; rfl
      rw [if_pos hdn]
      have hkl : kleft n c = decide (c.src = n) := by unfold kleft; rw [hcb, h3, hc0]; simp
      rw [hkl]
      unfold ahMore
      rcases hR with ⟨hfull, hs⟩ | ⟨hfull, hs, hlt, hbb⟩
      · rw [if_neg (by rw [hfull]; decide)]
        unfold feedNx
        rw [hs]
        by_cases hlt : c.src < n
        · rw [if_pos hlt]
          have hR' : AhR f n ⟨c.src + 1, f c.src % 256, true⟩ c.src := ⟨hy, .inr ⟨rfl, rfl, hlt, rfl⟩⟩
          exact ⟨by show (!true) = _; rw [decide_eq_false (by omega)]; rfl, fun _ => (flip _ hR').1, fun _ => (flip _ hR').2⟩
        · rw [if_neg hlt]
          have hR' : AhR f n ⟨c.src, 0, false⟩ c.src := ⟨hy, .inl ⟨rfl, rfl⟩⟩
          exact ⟨by show (!false) = _; rw [decide_eq_true (by omega)]; rfl, fun _ => (flip _ hR').1, fun _ => (flip _ hR').2⟩
      · rw [if_pos hfull]
        have hR' : AhR f n d.src c.src := ⟨hy, .inr ⟨hfull, hs, hlt, hbb⟩⟩
        exact ⟨by show (!true) = _; rw [decide_eq_false (by omega)]; rfl, fun _ => (flip _ hR').1, fun _ => (flip _ hR').2⟩
    · have hdn : d.done = false := by unfold RD.done; rw [hd]; simpa using hc0
      rw [if_neg (by rw [hdn]; decide)]
      have hR' : AhR f n d.src c.src := ⟨hy, hR⟩
      refine ⟨?_, fun _ => (flip _ hR').1, fun _ => (flip _ hR').2⟩
      unfold kleft
      rw [h3, decide_eq_false hc0]
      simp
/-- what the document unpacks: the packets, and the end. -/
def kunp (a : Option Addr) (n cap : Nat) (f : Nat → Int) (lo gd : Nat) (p : PkV) (size : Nat) (s : LS) (c : RD Nat) : Option (List Int) :=
  match kgo (cdrD a n cap f lo gd) p size size s c with
  | none => none
  | some x =>
    if kleft n x.2 = true then some x.1.H
    else if ((kpacket (cdrD a n cap f lo gd) x.1 x.2 p).1.ended && !(kpacket (cdrD a n cap f lo gd) x.1 x.2 p).1.bad && decide ((kpacket (cdrD a n cap f lo gd) x.1 x.2 p).1.H.length = x.1.H.length) && kleft n (kpacket (cdrD a n cap f lo gd) x.1 x.2 p).2.1) = true then some (kpacket (cdrD a n cap f lo gd) x.1 x.2 p).1.H
    else none
theorem kleft_good {n : Nat} {c : RD Nat} (h : kleft n c = true) : c.bad = false := by
  unfold kleft at h
  cases hq : c.bad
  · rfl
  · rw [hq] at h; simp at h
theorem kunp_is (a : Option Addr) (n cap : Nat) (f : Nat → Int) (lo gd : Nat) (p0 : PkV) (p : Lset) (size : Nat) (hd : 0 < p.dict.toNat) :
    kunp a n cap f lo gd p0 size (bare (lstart p)) (RD.new (feedNx f n) 0) = lunpack (feedNx f n) 0 p p.dict.toNat size := by
  have hB : Betw (lstart p) := ⟨rfl, rfl, rfl, rfl⟩
  have hdict : (lstart p).dict = p.dict.toNat := rfl
  have h0 : size - (lstart p).H.length = size := Nat.sub_zero size
  have hnil : (lstart p).H = [] := rfl
  have hrun := kgo_run a n cap f lo gd (L := LL.of p.dict.toNat) p0 size size (lstart p) (RD.new (feedNx f n) 0) hB (by rw [hdict]; rfl) (by rw [hdict]; exact hd) (by rw [h0]; exact Nat.le_refl _) (Nat.zero_le _)
  rw [h0] at hrun
  have hA0 : AhR f n ⟨0, 0, false⟩ 0 := ⟨Nat.zero_le _, .inl ⟨rfl, rfl⟩⟩
  have hAB := fun hb => new_sim (simAB f n) hA0 hb
  have hBA := fun hb => new_sim (simBA f n) (a := 0) (b := ⟨0, 0, false⟩) hA0 hb
  unfold lunpack
  obtain ⟨s0, hs0⟩ : ∃ x, x = lstart p := ⟨_, rfl⟩
  obtain ⟨d0, hd0⟩ : ∃ x, x = RD.new (anx (feedNx f n)) ⟨0, 0, false⟩ := ⟨_, rfl⟩
  obtain ⟨c0, hc0⟩ : ∃ x, x = RD.new (feedNx f n) 0 := ⟨_, rfl⟩
  obtain ⟨L, hL⟩ : ∃ x, x = LL.of p.dict.toNat := ⟨_, rfl⟩
  rw [← hd0, ← hc0] at hAB hBA
  rw [← hs0] at hnil
  rw [← hs0, ← hc0, ← hL] at hrun
  rw [← hs0, ← hd0, ← hc0, ← hL]
  clear hs0 hd0 hc0 hL hB hdict h0 hA0
  have okAB : (∀ i, i < size → lok (anx (feedNx f n)) L s0 d0 i = true) → ∀ i, i < size → lok (feedNx f n) L s0 c0 i = true ∧ lbyte (feedNx f n) L s0 c0 i = lbyte (anx (feedNx f n)) L s0 d0 i := fun h i hi => lok_sim (simAB f n) L s0 hAB i (fun j hj => h j (by omega))
  have okBA : (∀ i, i < size → lok (feedNx f n) L s0 c0 i = true) → ∀ i, i < size → lok (anx (feedNx f n)) L s0 d0 i = true ∧ lbyte (anx (feedNx f n)) L s0 d0 i = lbyte (feedNx f n) L s0 c0 i := fun h i hi => lok_sim (simBA f n) L s0 hBA i (fun j hj => h j (by omega))
  rcases hrun with ⟨s', c', k1, k2, k3, k4, k5⟩ | ⟨k1, k2⟩
  · have allA : ∀ i, i < size → lok (anx (feedNx f n)) L s0 d0 i = true := fun i hi => (okBA k3 i hi).1
    obtain ⟨a1, a2⟩ := lrun_sim (simAB f n) L s0 hAB size allA
    obtain ⟨_, b2⟩ := lrun_sim (simBA f n) L s0 hBA size k3
    rw [k2] at a1 a2 b2
    dsimp only at a1 a2 b2
    rw [range_allT.2 allA, ← a1]
    have hbytes : lbytes (anx (feedNx f n)) L s0 d0 size = s'.H := by
      have h1 := lrun_told (feedNx f n) L s0 c0 size k3
      rw [k2, hnil, List.nil_append] at h1
      rw [show s'.H = _ from h1]
      unfold lbytes
      exact List.map_congr_left (fun i hi => (okBA k3 i (List.mem_range.1 hi)).2)
    rw [hbytes]
    obtain ⟨d', hd'⟩ : ∃ x, x = (lrun (anx (feedNx f n)) L size s0 d0).2 := ⟨_, rfl⟩
    rw [← hd'] at a2 b2 ⊢
    obtain ⟨l1, l2, l3⟩ := lover_left f n s' k4.bad k4.left d' c' a2 b2
    unfold kunp
    rw [k1]
    dsimp only
    have hfin0 : ¬ (s'.bad = true ∨ s'.left ≠ 0) := by rw [k4.bad, k4.left]; simp
    by_cases hk : kleft n c' = true
    · rw [if_pos hk, if_pos]
      · rfl
      · refine ⟨rfl, ?_⟩
        unfold lfinish
        rw [if_neg hfin0, if_pos (.inl (l1.trans hk))]
        exact l1.trans hk
    · rw [if_neg hk]
      have hfin1 : ¬ ((lover (feedNx f n) s' d').1 = true ∨ s'.ended = true) := by
        rw [l1, k4.ended]
        rintro (h | h)
        · exact hk h
        · cases h
      obtain ⟨dA, hdA⟩ : ∃ x, x = (lover (feedNx f n) s' d').2 := ⟨_, rfl⟩
      rw [← hdA] at l2 l3
      have hlf : (lfinish (feedNx f n) L s' d').1 = if (lpacket (anx (feedNx f n)) L s' dA).2.1.ended = true then (lover (feedNx f n) (lpacket (anx (feedNx f n)) L s' dA).2.1 (lpacket (anx (feedNx f n)) L s' dA).2.2).1 else false := by
        unfold lfinish
        rw [if_neg hfin0, if_neg hfin1, ← hdA]
        split <;> rfl
      rw [hlf]
      obtain ⟨E1, E2⟩ := kpacket_ends a n cap f lo gd (L := L) c' p0 k4
      have pAB : (lpacket (anx (feedNx f n)) L s' dA).2.2.bad = false → (lpacket (feedNx f n) L s' c').1 = (lpacket (anx (feedNx f n)) L s' dA).1 ∧ (lpacket (feedNx f n) L s' c').2.1 = (lpacket (anx (feedNx f n)) L s' dA).2.1 ∧ Sim1 (AhR f n) (lpacket (anx (feedNx f n)) L s' dA).2.2 (lpacket (feedNx f n) L s' c').2.2 := fun hb => by
        refine packet_sim (simAB f n) L s' (l2 ?_) hb
        cases hq : dA.bad with
        | false => rfl
        | true => exact (bad_not hb (packet_stk (simAB f n) L s' dA hq)).elim
      have pBA : (lpacket (feedNx f n) L s' c').2.2.bad = false → (lpacket (anx (feedNx f n)) L s' dA).1 = (lpacket (feedNx f n) L s' c').1 ∧ (lpacket (anx (feedNx f n)) L s' dA).2.1 = (lpacket (feedNx f n) L s' c').2.1 ∧ Sim1 (fun y x => AhR f n x y) (lpacket (feedNx f n) L s' c').2.2 (lpacket (anx (feedNx f n)) L s' dA).2.2 := fun hb => by
        refine packet_sim (simBA f n) L s' (l3 ?_) hb
        cases hq : c'.bad with
        | false => rfl
        | true => exact (bad_not hb (packet_stk (simBA f n) L s' c' hq)).elim
      obtain ⟨R, hR⟩ : ∃ x, x = kpacket (cdrD a n cap f lo gd) (bare s') c' p0 := ⟨_, rfl⟩
      rw [← hR] at E1 E2 ⊢
      obtain ⟨rA, hrA⟩ : ∃ x, x = lpacket (anx (feedNx f n)) L s' dA := ⟨_, rfl⟩
      obtain ⟨rB, hrB⟩ : ∃ x, x = lpacket (feedNx f n) L s' c' := ⟨_, rfl⟩
      rw [← hrB] at E1 E2
      rw [← hrA, ← hrB] at pAB pBA
      rw [← hrA]
      by_cases hE : rB.2.1.ended = true ∧ rB.2.2.bad = false
      · obtain ⟨e1, e2, e3, e4, e5, e6⟩ := E2 hE.1 hE.2
        obtain ⟨q1, q2, q3⟩ := pBA hE.2
        have hab : rA.2.2.bad = false := q3.2.2.2.trans hE.2
        obtain ⟨_, _, q4⟩ := pAB hab
        rw [if_pos (show rA.2.1.ended = true by rw [q2]; exact hE.1)]
        obtain ⟨m1, _, _⟩ := lover_left f n rA.2.1 (by rw [q2]; exact e5) (by rw [q2]; exact e6) rA.2.2 rB.2.2 (fun _ => q4) (fun _ => q3)
        rw [m1, e1, e2, e3, e4]
        have hlen : decide (s'.H.length = (bare s').H.length) = true := decide_eq_true rfl
        rw [hlen]
        cases kleft n rB.2.2 <;> rfl
      · have hc : ¬ (R.1.ended && !R.1.bad && decide (R.1.H.length = (bare s').H.length) && kleft n R.2.1) = true := by
          intro h
          rw [Bool.and_eq_true, Bool.and_eq_true, Bool.and_eq_true] at h
          exact hE (E1 h.1.1.1 (kleft_good h.2))
        rw [if_neg hc, if_neg]
        rintro ⟨_, h⟩
        by_cases hAe : rA.2.1.ended = true
        · rw [if_pos hAe] at h
          have hab := lover_good _ _ _ h
          obtain ⟨q1, q2, q3⟩ := pAB hab
          exact hE ⟨by rw [q2]; exact hAe, q3.2.2.2.trans hab⟩
        · rw [if_neg hAe] at h
          cases h
  · unfold kunp
    rw [k1, if_neg]
    rintro ⟨h1, h2⟩
    have allA := range_allT.1 h1
    have allB : ∀ i, i < size → lok (feedNx f n) L s0 c0 i = true := fun i hi => (okAB allA i hi).1
    rcases k2 with ⟨i, hi, q⟩ | q
    · rw [allB i hi] at q; cases q
    · obtain ⟨a1, _⟩ := lrun_sim (simAB f n) L s0 hAB size allA
      rw [a1] at q
      unfold lfinish at h2
      rw [if_pos (.inr q)] at h2
      cases h2
end Go.Proofs.Ytjnegcambbeblaa

/- The document's walk through LZMA: New. -/
namespace Go.Proofs.Ytjnegcambbeblaa
open Go.RowKit

/-- a walk with nothing beneath it yet. -/
def kraw (p : Lset) (gp cap : Nat) : Array Value := #[.int .i64 p.lc, .int .i64 p.lp, .int .i64 p.pb, .int .i64 p.dict, .pointer none, .pointer none, .slice (some ⟨gp, 0, none⟩) p.probs cap, .slice none 0 0, .int .i64 0, .int .u32 0, .int .u32 0, .int .u32 0, .int .u32 0, .bool false, .bool false]
def KNewPost (p : Lset) (w : World) (e : Ending) (w' : World) : Prop :=
  ∃ g gp cap, e = .returned (.pointer (some ⟨g, 0, none⟩)) ∧ Fr Non w w' ∧ w.heap.size ≤ g ∧ w.heap.size ≤ gp ∧ g ≠ gp ∧ g < w'.heap.size ∧ gp < w'.heap.size ∧
    w'.heap[g]? = some (.cells (kraw p gp cap) 85) ∧ Own w' 0 .u16 40 (.slice (some ⟨gp, 0, none⟩) p.probs cap) (List.replicate p.probs 1024)
theorem fresh_row {w : World} {base : Nat} {v : Value} {n : Nat} (h : Own w base .u16 40 v (List.replicate n 1024)) (hn : 0 < n) : ∃ gp cap, v = .slice (some ⟨gp, 0, none⟩) n cap ∧ base ≤ gp ∧ gp < w.heap.size ∧ Own w 0 .u16 40 (.slice (some ⟨gp, 0, none⟩) n cap) (List.replicate n 1024) := by
  have hb := h.block
  obtain ⟨h1, h2⟩ := h
  rcases h2 with ⟨_, h3⟩ | ⟨g, cap, cur, rfl, hbg, hh, hnc, hc, hs, ht⟩
  · simp at h3; omega
  · have hg := hb g rfl
    have e : (List.replicate n (1024 : Int)).length = n := List.length_replicate
    exact ⟨g, cap, by rw [e], hg.1, hg.2, h1, .inr ⟨g, cap, cur, by rw [e], Nat.zero_le _, hh, hnc, hc, hs, ht⟩⟩
set_option maxRecDepth 100000 in
set_option maxHeartbeats 1600000 in
theorem knew_any (p : Lset) (hp : p.Light) (w : World) : Calls Try.prog 48 #[p.val] w (KNewPost p w) := by
  have hpr : p.probs ≤ 51000 ∧ 0 < p.probs := by
    have h1 := hp.nl_le
    unfold Lset.nl at h1
    unfold Lset.probs
    rw [if_pos (Lset.may_iff.2 hp.may)]
    omega
  have HPR := hid hpr
  obtain ⟨W, hW⟩ : ∃ W, W = w.alloc (.cells #[.int .i64 p.lc, .int .i64 p.lp, .int .i64 p.pb, .int .i64 p.dict] 23) := ⟨_, rfl⟩
  have FW := hid (show Fr Non w W by rw [hW]; exact (Fr.refl Non w).alloc _)
  have hb : W.heap[w.heap.size]? = some (.cells #[.int .i64 p.lc, .int .i64 p.lp, .int .i64 p.pb, .int .i64 p.dict] 23) := by rw [hW]; exact blk_new w _
  have k0 := blk_cell hb (j := 0) (v := .int .i64 p.lc) rfl
  have k1 := blk_cell hb (j := 1) (v := .int .i64 p.lp) rfl
  have k2 := blk_cell hb (j := 2) (v := .int .i64 p.pb) rfl
  have k3 := blk_cell hb (j := 3) (v := .int .i64 p.dict) rfl
  obtain ⟨bx, hbx⟩ : ∃ b, b = w.heap.size := ⟨_, rfl⟩
  rw [← hbx] at k0 k1 k2 k3
  have CP := hid (rprobs_any p)
  clear hp hpr hb
  show Calls Try.prog 48 #[.agg #[.int .i64 p.lc, .int .i64 p.lp, .int .i64 p.pb, .int .i64 p.dict]] w _
  go_enter Try.func48, Try.ntmps48
  go_upto_region 1 with fail
  rw [← hW, ← hbx]
  clear hW hbx
  go_region_held3 (fun wx => wx.cell? ⟨bx, 0, none⟩ = some (.int .i64 p.lc) ∧ wx.cell? ⟨bx, 1, none⟩ = some (.int .i64 p.lp) ∧ wx.cell? ⟨bx, 2, none⟩ = some (.int .i64 p.pb) ∧ wx.cell? ⟨bx, 3, none⟩ = some (.int .i64 p.dict)) (exact ⟨Fr.cell (S := Non) (w := W) (by repeat (first | exact Fr.refl _ _ | refine Fr.drewN ?_ _ | refine Fr.drew ?_ | refine Fr.alloc ?_ _ | refine Fr.trans ?_ (by assumption))) k0 id, Fr.cell (S := Non) (w := W) (by repeat (first | exact Fr.refl _ _ | refine Fr.drewN ?_ _ | refine Fr.drew ?_ | refine Fr.alloc ?_ _ | refine Fr.trans ?_ (by assumption))) k1 id, Fr.cell (S := Non) (w := W) (by repeat (first | exact Fr.refl _ _ | refine Fr.drewN ?_ _ | refine Fr.drew ?_ | refine Fr.alloc ?_ _ | refine Fr.trans ?_ (by assumption))) k2 id, Fr.cell (S := Non) (w := W) (by repeat (first | exact Fr.refl _ _ | refine Fr.drewN ?_ _ | refine Fr.drew ?_ | refine Fr.alloc ?_ _ | refine Fr.trans ?_ (by assumption))) k3 id⟩) (first
    | (go_at_call 27; refine (CP.out _).mono ?_; rintro e wp ⟨rfl, hfp⟩)
    | (go_at_call 74; refine (rfresh_any p.probs _ (by have := HPR.out; omega)).mono ?_; rintro e wf ⟨fv, rfl, hof, hff⟩; obtain ⟨gp, cap, rfl, hg1, hg2, hown⟩ := fresh_row hof HPR.out.2))
  all_goals
    have HFP := hid hfp
    have HFF := hid hff
    have HOWN := hid hown
    clear hof hfp hff k0 k1 k2 k3 hown
    go_wp2_with fail
    go_ret
    have FA : Fr Non w wf := FW.out.trans (by repeat (first | exact Fr.refl _ _ | refine Fr.drewN ?_ _ | refine Fr.drew ?_ | refine Fr.trans ?_ HFF.out | refine Fr.trans ?_ HFP.out))
    have hwf := FA.size
    have hW := FW.out.size
    have hgp : gp < wf.heap.size := hg2
    refine ⟨wf.heap.size, gp, cap, rfl, ?_, hwf, ?_, by omega, ?_, ?_, ?_, ?_⟩
    · repeat (first | exact FA | refine Fr.drewN ?_ _ | refine Fr.drew ?_ | refine Fr.alloc ?_ _)
    · refine Nat.le_trans ?_ hg1
      exact Fr.size (S := Non) (by repeat (first | exact FW.out | refine Fr.drewN ?_ _ | refine Fr.drew ?_ | refine Fr.trans ?_ HFP.out))
    · simp
    · simp; omega
    · exact blk_new wf _
    · exact HOWN.out.fr ((Fr.refl Non wf).alloc _) (fun _ _ => id)
end Go.Proofs.Ytjnegcambbeblaa

/- The document's Unpack, plain helps; what it leaves. -/
namespace Go.Proofs.Ytjnegcambbeblaa
open Go.RowKit

theorem kcopy_len : ∀ (k i : Nat) (s : LS), (kcopy k i s).1.bad = false → (kcopy k i s).1.H.length = s.H.length + k
  | 0, _, _, _ => rfl
  | k + 1, i, s, h => by
    unfold kcopy at h ⊢
    split at h
    · rename_i h0
      rw [if_pos h0, kcopy_len k (i + 1) _ h]
      show (s.H ++ [_]).length + k = _
      rw [List.length_append]
      show s.H.length + 1 + k = _
      omega
    · cases h
theorem kend_grow {C : Type} (K : Cdr C) (m : LS × C × Nat) (h1 : (kend K m).1.bad = false) (h2 : (kend K m).1.ended = false) : (kend K m).1.H.length = m.1.H.length + m.2.2 := by
  unfold kend at h1 h2 ⊢
  dsimp only at h1 h2 ⊢
  obtain ⟨s, hs⟩ : ∃ s, s = (if K.bad m.2.1 = true then { m.1 with bad := true } else m.1) := ⟨_, rfl⟩
  rw [← hs] at h1 h2 ⊢
  have hH : s.H = m.1.H := by rw [hs]; split <;> rfl
  unfold kend2 at h1 h2 ⊢
  by_cases h : (s.bad || s.ended) = true
  · rw [if_pos h] at h1 h2
    have h1' : s.bad = false := h1
    have h2' : s.ended = false := h2
    rw [h1', h2'] at h
    cases h
  · rw [if_neg h] at h1 ⊢
    rw [kcopy_len m.2.2 0 s h1, hH]
theorem kmid_H {C : Type} (K : Cdr C) (s : LS) (c : C) (sp : Nat) (p : PkV) (k : Nat) : (kmid K s c sp p k).1.H = s.H ∧ 1 ≤ (kmid K s c sp p k).2.2 := by
  unfold kmid
  split
  · exact ⟨rfl, by show 1 ≤ _ + 2; omega⟩
  · split
    · exact ⟨rfl, Nat.le_refl _⟩
    · exact ⟨rfl, by show 1 ≤ _ + 2; omega⟩
theorem kpacket2_grow {C : Type} (K : Cdr C) (s : LS) (c : C) (sp : Nat) (p : PkV) (k : Nat) (h1 : (kpacket2 K s c sp p k).1.bad = false) (h2 : (kpacket2 K s c sp p k).1.ended = false) : s.H.length < (kpacket2 K s c sp p k).1.H.length := by
  unfold kpacket2 at h1 h2 ⊢
  by_cases hk : k = 0
  · rw [if_pos hk] at h1 ⊢
    unfold klitP at h1 ⊢
    split at h1
    · cases h1
    · rename_i h0
      rw [if_neg h0]
      show s.H.length < (s.H ++ [_]).length
      rw [List.length_append]
      exact Nat.lt_succ_self _
  · rw [if_neg hk] at h1 h2 ⊢
    obtain ⟨e1, e2⟩ := kmid_H K s c sp p k
    rw [kend_grow K _ h1 h2, e1]
    omega
/-- a packet that stops nothing tells at least one byte. -/
theorem kpacket_grow {C : Type} (K : Cdr C) (s : LS) (c : C) (p : PkV) (h1 : (kpacket K s c p).1.bad = false) (h2 : (kpacket K s c p).1.ended = false) : s.H.length < (kpacket K s c p).1.H.length :=
  kpacket2_grow K { s with P := (kkind K s c (s.H.length % 2 ^ s.pb) p.kind).2.1, bad := s.bad || (kkind K s c (s.H.length % 2 ^ s.pb) p.kind).1.2 } (kkind K s c (s.H.length % 2 ^ s.pb) p.kind).2.2 (s.H.length % 2 ^ s.pb) p (kkind K s c (s.H.length % 2 ^ s.pb) p.kind).1.1 h1 h2
section
variable {C : Type} (K : Cdr C) (p : PkV) (size : Nat)
theorem kgo_end {k : Nat} {s : LS} {c : C} (h : size ≤ s.H.length) : kgo K p size k s c = some (s, c) := by
  cases k with
  | zero => rfl
  | succ k =>
    unfold kgo
    rw [if_pos h]
/-- one more packet of the document's. -/
theorem kgo_step {k : Nat} {s : LS} {c : C} (hk : size - s.H.length ≤ k) (h : s.H.length < size) (X : LS × C × Nat) (hX : X = kpacket K s c p) :
    ((X.1.bad || X.1.ended || K.bad X.2.1) = true → kgo K p size k s c = none) ∧ (size < X.1.H.length → kgo K p size k s c = none) ∧
    (X.1.bad = false → X.1.ended = false → K.bad X.2.1 = false → ¬ size < X.1.H.length → ∃ k', kgo K p size k s c = kgo K p size k' X.1 X.2.1 ∧ size - X.1.H.length ≤ k' ∧ s.H.length < X.1.H.length) := by
  obtain ⟨k', rfl⟩ : ∃ k', k = k' + 1 := ⟨k - 1, by omega⟩
  have hn : ¬ size ≤ s.H.length := by omega
  refine ⟨fun h1 => ?_, fun h1 => ?_, fun h1 h2 h3 h4 => ⟨k', ?_, ?_⟩⟩
  · show (if size ≤ s.H.length then _ else _) = _
    rw [if_neg hn, ← hX, if_pos (.inl h1)]
  · show (if size ≤ s.H.length then _ else _) = _
    rw [if_neg hn, ← hX, if_pos (.inr h1)]
  · show (if size ≤ s.H.length then _ else _) = _
    rw [if_neg hn, ← hX, if_neg]
    rintro (q | q)
    · rw [h1, h2, h3] at q; cases q
    · exact h4 q
  · have hg : s.H.length < X.1.H.length := by
      rw [hX] at h1 h2 ⊢
      exact kpacket_grow K s c p h1 h2
    exact ⟨by omega, hg⟩
end
/-- the end of the document's Unpack. -/
def kfin (a : Option Addr) (n cap : Nat) (f : Nat → Int) (lo gd : Nat) (p : PkV) (o : Option (LS × RD Nat)) : Option (List Int) :=
  match o with
  | none => none
  | some x =>
    if kleft n x.2 = true then some x.1.H
    else if ((kpacket (cdrD a n cap f lo gd) x.1 x.2 p).1.ended && !(kpacket (cdrD a n cap f lo gd) x.1 x.2 p).1.bad && decide ((kpacket (cdrD a n cap f lo gd) x.1 x.2 p).1.H.length = x.1.H.length) && kleft n (kpacket (cdrD a n cap f lo gd) x.1 x.2 p).2.1) = true then some (kpacket (cdrD a n cap f lo gd) x.1 x.2 p).1.H
    else none
theorem kunp_fin (a : Option Addr) (n cap : Nat) (f : Nat → Int) (lo gd : Nat) (p : PkV) (size : Nat) (s : LS) (c : RD Nat) : kunp a n cap f lo gd p size s c = kfin a n cap f lo gd p (kgo (cdrD a n cap f lo gd) p size size s c) := rfl
def KUnPost (R : Option (List Int)) (w : World) (e : Ending) (w' : World) : Prop :=
  Fr Non w w' ∧ ((R = none ∧ e = .returned (.tuple #[.slice none 0 0, .int .i64 12])) ∨ (∃ xs v, R = some xs ∧ e = .returned (.tuple #[v, .int .i64 0]) ∧ RowO w' w.heap.size v xs))
/-- the bytes that were told lie in memory of the call's own. -/
theorem KV.rowO {C : Type} {K : Cdr C} {U A : Nat → Prop} {g gp np cap : Nat} {v : Value} {w : World} {s : LS} {c : C} (hK : K.Ok) (h : KV K U A g gp np cap v w s c) : RowO w K.lo v s.H := by
  obtain ⟨a, c, h1, h2, h3, h4, h5⟩ := h.own.rowO
  refine ⟨a, c, h1, h2, h3, h4, fun ad e => ?_⟩
  have hb : v.ownBlock = some ad.block := by rw [h1, e]; rfl
  exact ((h.up hK).2.2.2.2 ad.block hb).1.1
/-- how many bytes were told. -/
def hlenW (g : Nat) (w : World) : Nat := match w.cell? ⟨g, 7, none⟩ with
  | some (.slice _ n _) => n
  | _ => 0
/-- a decoder just made, with its range decoder laid down. -/
theorem kfresh (p : Lset) (hp : p.Light) (a : Option Addr) (n cap : Nat) (f : Nat → Int) (lo g gp cpp gd : Nat) (w : World) (hat : w.heap[g]? = some (.cells (kraw p gp cpp) 85)) (hown : Own w 0 .u16 40 (.slice (some ⟨gp, 0, none⟩) p.probs cpp) (List.replicate p.probs 1024))
    (hne : g ≠ gp) (hg : lo ≤ g ∧ g ≠ gd ∧ g < w.heap.size) (hgp : lo ≤ gp ∧ gp ≠ gd ∧ gp < w.heap.size) (hd : RefIs a n cap f lo gd w (RD.new (feedNx f n) 0)) :
    KIs (cdrD a n cap f lo gd) (fun _ => False) g gp p.probs cpp (w.setCell ⟨g, 4, none⟩ (.pointer (some ⟨gd, 0, none⟩))) (bare (lstart p)) (RD.new (feedNx f n) 0) := by
  have hm := hp.may
  have e1 : ((p.lc.toNat : Nat) : Int) = p.lc := by have := hm.lc0; omega
  have e2 : ((p.lp.toNat : Nat) : Int) = p.lp := by have := hm.lp0; omega
  have e3 : ((p.pb.toNat : Nat) : Int) = p.pb := by have := hm.pb0; omega
  have e4 : ((p.dict.toNat : Nat) : Int) = p.dict := by have := hm.d0; omega
  have hf : Fr (fun k => k = g) w (w.setCell ⟨g, 4, none⟩ (.pointer (some ⟨gd, 0, none⟩))) := (Fr.refl _ _).setOne _ _
  have hsz : (w.setCell ⟨g, 4, none⟩ (.pointer (some ⟨gd, 0, none⟩))).heap.size = w.heap.size := by simp
  have hprobs : p.probs = 1847 + p.nl := by unfold Lset.probs Lset.nl; rw [if_pos (Lset.may_iff.2 hp.may)]
  have hnl := hp.nl_le
  refine ⟨fun k => lo ≤ k ∧ k ≠ gd ∧ k < w.heap.size, .slice none 0 0, ?_, ?_, ?_, ?_, hne, hg, hgp, ?_, ?_, ?_⟩
  · have hc : (kraw p gp cpp).setIfInBounds 4 (.pointer (some ⟨gd, 0, none⟩)) = kcells (cdrD a n cap f lo gd) gp p.probs cpp (.slice none 0 0) (bare (lstart p)) := by
      show (#[.int .i64 p.lc, .int .i64 p.lp, .int .i64 p.pb, .int .i64 p.dict, .pointer (some ⟨gd, 0, none⟩), .pointer none, .slice (some ⟨gp, 0, none⟩) p.probs cpp, .slice none 0 0, .int .i64 0, .int .u32 0, .int .u32 0, .int .u32 0, .int .u32 0, .bool false, .bool false] : Array Value) = #[.int .i64 ((p.lc.toNat : Nat) : Int), .int .i64 ((p.lp.toNat : Nat) : Int), .int .i64 ((p.pb.toNat : Nat) : Int), .int .i64 ((p.dict.toNat : Nat) : Int), .pointer (some ⟨gd, 0, none⟩), .pointer none, .slice (some ⟨gp, 0, none⟩) p.probs cpp, .slice none 0 0, .int .i64 0, .int .u32 0, .int .u32 0, .int .u32 0, .int .u32 0, .bool false, .bool false]
      rw [e1, e2, e3, e4]
    rw [← hc]
    exact blk_set hat
  · have hP : (List.range p.probs).map (bare (lstart p)).P = List.replicate p.probs 1024 := by
      show (List.range p.probs).map (fun _ => (1024 : Int)) = _
      rw [List.map_const', List.length_range]
    rw [hP]
    exact hown.fr hf (fun k hk e => by
      have e2 : gp = k := by simpa [Value.ownBlock] using hk
      exact hne (by rw [e2]; exact (show k = g from e).symm))
  · exact Own.nil _ _ _ _
  · intro k hk; cases hk
  · exact ⟨hd.keep hf (fun e => hg.2.1 e.symm) (fun k hk e => by have e' : k = g := e; omega), fun e => e.2.1 rfl, fun k hk => ⟨hk.1, by rw [hsz]; exact hk.2.2⟩⟩
  · refine ⟨fresh_prL _, by show 0 < 12; decide, fun i _ => by show 0 < 4294967296; decide, ?_, ?_, ?_, ?_, by omega, ?_, fun x hx => by cases hx⟩
    · show p.lc.toNat ≤ 8
      have := hm.lc1; omega
    · show p.lp.toNat ≤ 4
      have := hm.lp1; omega
    · show p.pb.toNat ≤ 4
      have := hm.pb1; omega
    · show 1847 + 768 * 2 ^ (p.lc.toNat + p.lp.toNat) ≤ p.probs
      rw [hprobs]
      unfold Lset.nl
      have := hm.lc0
      have := hm.lp0
      rw [show p.lc.toNat + p.lp.toNat = (p.lc + p.lp).toNat by omega]
      exact Nat.le_refl _
    · show p.dict.toNat ≤ 4294967295
      have := hm.d1; omega
  · intro k hk; cases hk
end Go.Proofs.Ytjnegcambbeblaa

/- What a range coder told, as its bytes; a decoder that begins. -/
namespace Go.Proofs.Ytjnegcambbeblaa
open Go.RowKit

theorem pre_take (f : Nat → Int) (out : List Int) (h : ∀ i, i < out.length → f i = out.getD i 0) : ∀ i, i ≤ out.length → pre f i = valL (out.take i) := by
  intro i
  induction i with
  | zero => intro _; rfl
  | succ i ih =>
    intro hi
    have e : out.take (i + 1) = out.take i ++ [out.getD i 0] := by
      rw [List.take_add_one]
      congr 1
      simp [List.getD, show i < out.length by omega]
    rw [e, valL_snoc, ← ih (by omega), ← h i (by omega)]
    rfl
/-- a coder's bytes, and others behind them. -/
theorem told_rc {C : RC} {N n : Nat} {f : Nat → Int} (h1 : C.Ok N) (h2 : C.bytes) (hn : C.len ≤ n) (hf : ∀ i, i < n → 0 ≤ f i ∧ f i < 256) (ho : ∀ i, i < C.len → f i = (C.gives 5).out.getD i 0) : Told f n C := by
  obtain ⟨g1, g2, g3⟩ := gives_out (h1.fin h2)
  refine ⟨hf, hn, ?_, by have := h1.rng0; omega⟩
  rw [pre_take f _ (fun i hi => ho i (by rw [← g2]; exact hi)) _ (by rw [g2]; exact Nat.le_refl _), ← g2, List.take_length, g1]
theorem sync_new {f : Nat → Int} {n : Nat} {C : RC} (h : Told f n C) {k : Nat} (hr : Reach RC.new C k) : Sync f RC.new (RD.new (feedNx f n) 0) := by
  obtain ⟨w1, w2, w3⟩ := h.window hr
  have hl : RC.new.len = 5 := rfl
  have hg : RC.new.rng = 4294967295 := rfl
  rw [new_val, hl] at w1 w2
  rw [hg] at w2
  rw [hl] at w3
  have b0 := h.bytes 0 (by omega)
  have b1 := h.bytes 1 (by omega)
  have b2 := h.bytes 2 (by omega)
  have b3 := h.bytes 3 (by omega)
  have b4 := h.bytes 4 (by omega)
  have e5 : pre f 5 = ((((0 * 256 + f 0) * 256 + f 1) * 256 + f 2) * 256 + f 3) * 256 + f 4 := rfl
  have f0 : f 0 = 0 := by omega
  have nx : ∀ (i : Nat) (r c : Int), i < n → RD.next (feedNx f n) ⟨i, r, c, false⟩ = (f i % 256, ⟨i + 1, r, c, false⟩) := by
    intro i r c hi
    unfold RD.next
    rw [if_neg (by show ¬ false = true; decide)]
    show ((feedNx f n i).1, (⟨(feedNx f n i).2.2, r, c, !(feedNx f n i).2.1⟩ : RD Nat)) = _
    unfold feedNx
    rw [if_pos hi]
    rfl
  have first : RD.first (feedNx f n) 0 = ⟨1, 4294967295, 0, false⟩ := by
    unfold RD.first
    rw [nx 0 _ _ (by omega), if_pos (by show f 0 % 256 = 0; omega)]
  have four : RD.four (feedNx f n) 4 ⟨1, 4294967295, 0, false⟩ = ⟨5, 4294967295, pre f 5, false⟩ := by
    have s : ∀ (j i : Nat) (c : Int), i < n → RD.four (feedNx f n) (j + 1) ⟨i, 4294967295, c, false⟩ = RD.four (feedNx f n) j ⟨i + 1, 4294967295, c * 256 % 4294967296 + f i % 256, false⟩ := by
      intro j i c hi
      show RD.four (feedNx f n) j ⟨(RD.next (feedNx f n) ⟨i, 4294967295, c, false⟩).2.src, 4294967295, c * 256 % 4294967296 + (RD.next (feedNx f n) ⟨i, 4294967295, c, false⟩).1, (RD.next (feedNx f n) ⟨i, 4294967295, c, false⟩).2.bad⟩ = _
      rw [nx i _ _ hi]
    rw [s 3 1 0 (by omega), s 2 2 _ (by omega), s 1 3 _ (by omega), s 0 4 _ (by omega)]
    show (⟨5, 4294967295, _, false⟩ : RD Nat) = _
    congr 1
    omega
  have enew : RD.new (feedNx f n) 0 = ⟨5, 4294967295, pre f 5, false⟩ := by
    unfold RD.new
    rw [first, four]
    show (⟨5, 4294967295, pre f 5, false || decide ((4294967295 : Int) ≤ pre f 5)⟩ : RD Nat) = _
    have : decide ((4294967295 : Int) ≤ pre f 5) = false := by simp; omega
    rw [this]
    rfl
  rw [enew]
  refine ⟨rfl, rfl, rfl, ?_⟩
  rw [hl, new_val]
  show pre f 5 = pre f 5 - 0
  omega
end Go.Proofs.Ytjnegcambbeblaa

/- LzmaCoded, plain: packets coded one behind the other, and decoded. -/
namespace Go.Proofs.Ytjnegcambbeblaa
open Go.RowKit

/-- one more packet of the list, where it is let in. -/
def kone {C : Type} (K : Cdr C) (t : LS → PkV → Bool) (x : LS × C) (p : PkV) : LS × C :=
  if t x.1 p = true then ((kpacket K x.1 x.2 p).1, (kpacket K x.1 x.2 p).2.1) else x
def kcode {C : Type} (K : Cdr C) (t : LS → PkV → Bool) (l : List PkV) (x : LS × C) : LS × C := l.foldl (kone K t) x
/-- only what fits is let in. -/
def LetIn (t : LS → PkV → Bool) : Prop := ∀ s p, t s p = true → kfit s p = true
structure PkFine (p : PkV) : Prop where
  d1 : p.dist < 4294967296
theorem kfit_kind {s : LS} {p : PkV} (h : kfit s p = true) : 0 ≤ p.kind ∧ p.kind ≤ 7 := by
  unfold kfit at h
  split at h
  · cases h
  · split at h
    · omega
    · split at h
      · omega
      · split at h
        · cases h
        · split at h
          · omega
          · split at h
            · omega
            · cases h
theorem kfit_len {s : LS} {p : PkV} (h : kfit s p = true) : p.kind = 0 ∨ p.kind = 6 ∨ p.kind = 7 ∨ (2 ≤ p.len ∧ p.len ≤ 273) := by
  unfold kfit at h
  split at h
  · cases h
  · split at h
    · omega
    · split at h
      · omega
      · split at h
        · cases h
        · omega
/-- between two packets. -/
structure CSt (most : Nat) (x : LS × RC) : Prop where
  allP : AllP x.1.P
  ok : ∃ N, x.2.Ok N
  by_ : x.2.bytes
  bad : x.1.bad = false
  ended : x.1.ended = false
  few : x.1.H.length ≤ most
theorem told_any : Told (fun _ => 0) 5 RC.new := ⟨fun _ _ => ⟨by decide, by decide⟩, Nat.le_refl _, by decide, by decide⟩
section
variable {most : Nat} (lo ge : Nat) {t : LS → PkV → Bool}
theorem kpacket_keep {x : LS × RC} (h : CSt most x) {p : PkV} (hp : PkFine p) : AllP (kpacket (cdrE lo ge) x.1 x.2 p).1.P ∧ (∃ M, (kpacket (cdrE lo ge) x.1 x.2 p).2.1.Ok M) ∧ (kpacket (cdrE lo ge) x.1 x.2 p).2.1.bytes ∧ ∃ k, Reach x.2 (kpacket (cdrE lo ge) x.1 x.2 p).2.1 k := by
  obtain ⟨N, hN⟩ := h.ok
  exact (step_pk lo ge none 0 0 0 told_any x.1 p p hp.d1).keep x.1.P x.2 N h.allP hN h.by_
theorem kone_st (ht : LetIn t) (hm : most ≤ 4294967295) {x : LS × RC} (h : CSt most x) {p : PkV} (hp : PkFine p) (h7 : p.kind ≠ 7) : CSt (most + 273) (kone (cdrE lo ge) t x p) ∧ (∃ k, Reach x.2 (kone (cdrE lo ge) t x p).2 k) ∧ x.1.H.length ≤ (kone (cdrE lo ge) t x p).1.H.length := by
  unfold kone
  by_cases hf : t x.1 p = true
  · rw [if_pos hf]
    have hf := ht _ _ hf
    obtain ⟨k1, k2, k3, k4⟩ := kpacket_keep lo ge h hp
    have hw := kpacket_whole (cdrE_echo lo ge) x.1 x.2 p h.bad h.ended (kfit_kind hf).1 (kfit_kind hf).2 hf (Nat.le_trans h.few hm)
    obtain ⟨hm1, hm2, hm3⟩ := hw.more h7
    have hl := kfit_len hf
    have hfew := h.few
    refine ⟨⟨k1, k2, k3, hw.bad, hw.ended.trans (by rw [decide_eq_false h7]), ?_⟩, k4, by dsimp only; omega⟩
    dsimp only
    rcases hl with hl | hl | hl | hl
    · have := hm3 (.inl hl); omega
    · have := hm3 (.inr hl); omega
    · exact absurd hl h7
    · omega
  · rw [if_neg hf]
    exact ⟨⟨h.allP, h.ok, h.by_, h.bad, h.ended, Nat.le_add_right_of_le h.few⟩, ⟨0, Reach.refl _⟩, Nat.le_refl _⟩
theorem kcode_st (ht : LetIn t) : ∀ (l : List PkV) (most : Nat) (x : LS × RC), most + 273 * l.length ≤ 4294967295 → CSt most x → (∀ p ∈ l, PkFine p ∧ p.kind ≠ 7) → CSt (most + 273 * l.length) (kcode (cdrE lo ge) t l x) ∧ (∃ k, Reach x.2 (kcode (cdrE lo ge) t l x).2 k) ∧ x.1.H.length ≤ (kcode (cdrE lo ge) t l x).1.H.length
  | [], _, x, _, h, _ => ⟨h, ⟨0, Reach.refl _⟩, Nat.le_refl _⟩
  | p :: l, most, x, hm, h, hl => by
    have hm' : most + 273 * (l.length + 1) ≤ 4294967295 := hm
    obtain ⟨h1, ⟨j, h2⟩, h3⟩ := kone_st lo ge ht (by omega) h (hl p (by simp)).1 (hl p (by simp)).2
    obtain ⟨g1, ⟨k, g2⟩, g3⟩ := kcode_st ht l (most + 273) _ (by omega) h1 (fun q hq => hl q (by simp [hq]))
    have e : most + 273 * (p :: l).length = most + 273 + 273 * l.length := by
      show most + 273 * (l.length + 1) = _
      omega
    rw [e]
    exact ⟨g1, ⟨_, h2.trans g2⟩, Nat.le_trans h3 g3⟩
variable {fb : Nat → Int} {n : Nat} {C : RC} (a : Option Addr) (cap lo2 gd : Nat)
/-- one packet, decoded. -/
theorem kpacket_dec (hT : Told fb n C) {x : LS × RC} (h : CSt most x) {p : PkV} (hp : PkFine p) (p' : PkV) {d : RD Nat} (hs : Sync fb x.2 d) (hr : ∃ k, Reach (kpacket (cdrE lo ge) x.1 x.2 p).2.1 C k) :
    (kpacket (cdrD a n cap fb lo2 gd) x.1 d p').1 = (kpacket (cdrE lo ge) x.1 x.2 p).1 ∧ Sync fb (kpacket (cdrE lo ge) x.1 x.2 p).2.1 (kpacket (cdrD a n cap fb lo2 gd) x.1 d p').2.1 := by
  obtain ⟨N, hN⟩ := h.ok
  obtain ⟨s1, s2, s3⟩ := (step_pk lo ge a cap lo2 gd hT x.1 p p' hp.d1).sync x.1.P x.2 d N h.allP hN h.by_ hs hr
  refine ⟨noP_ext ?_ s2, s3⟩
  exact congrArg Prod.fst s1
theorem kcode_dec (hT : Told fb n C) (ht : LetIn t) (p' : PkV) (size : Nat) : ∀ (l : List PkV) (most : Nat) (x : LS × RC) (d : RD Nat) (k : Nat), most + 273 * l.length ≤ 4294967295 → CSt most x → (∀ p ∈ l, PkFine p ∧ p.kind ≠ 7) → Sync fb x.2 d → (∃ k, Reach (kcode (cdrE lo ge) t l x).2 C k) → size = (kcode (cdrE lo ge) t l x).1.H.length → size - x.1.H.length ≤ k →
    ∃ d', kgo (cdrD a n cap fb lo2 gd) p' size k x.1 d = some ((kcode (cdrE lo ge) t l x).1, d') ∧ Sync fb (kcode (cdrE lo ge) t l x).2 d'
  | [], _, x, d, k, _, _, _, hs, _, hsz, _ => ⟨d, kgo_end _ _ _ (by rw [hsz]; exact Nat.le_refl _), hs⟩
  | p :: l, most, x, d, k, hm, h, hl, hs, hr, hsz, hk => by
    have hm' : most + 273 * (l.length + 1) ≤ 4294967295 := hm
    have hp := hl p (by simp)
    have hl' : ∀ q ∈ l, PkFine q ∧ q.kind ≠ 7 := fun q hq => hl q (by simp [hq])
    have e : kcode (cdrE lo ge) t (p :: l) x = kcode (cdrE lo ge) t l (kone (cdrE lo ge) t x p) := rfl
    rw [e] at hr hsz ⊢
    obtain ⟨h1, _, _⟩ := kone_st lo ge ht (by omega) h hp.1 hp.2
    obtain ⟨_, ⟨j, g2⟩, g3⟩ := kcode_st lo ge ht l (most + 273) _ (by omega) h1 hl'
    by_cases hf0 : t x.1 p = true
    · have ek : kone (cdrE lo ge) t x p = ((kpacket (cdrE lo ge) x.1 x.2 p).1, (kpacket (cdrE lo ge) x.1 x.2 p).2.1) := if_pos hf0
      have hf := ht _ _ hf0
      have hw := kpacket_whole (cdrE_echo lo ge) x.1 x.2 p h.bad h.ended (kfit_kind hf).1 (kfit_kind hf).2 hf (Nat.le_trans h.few (by omega))
      have hmo := hw.more hp.2
      rw [ek] at hr hsz g2 g3 h1 ⊢
      obtain ⟨kk, hr'⟩ := hr
      obtain ⟨d1, d2⟩ := kpacket_dec lo ge a cap lo2 gd hT h hp.1 p' hs ⟨_, g2.trans hr'⟩
      have hst := kgo_step (cdrD a n cap fb lo2 gd) p' size (k := k) (s := x.1) (c := d) hk (by dsimp only at g3; omega) _ rfl
      obtain ⟨k', q1, q2, q3⟩ := hst.2.2 (by rw [d1]; exact hw.bad) (by rw [d1, hw.ended, decide_eq_false hp.2]) d2.bad (by rw [d1, hsz]; dsimp only at g3; omega)
      rw [q1, d1]
      rw [d1] at q2
      exact kcode_dec hT ht p' size l (most + 273) _ _ k' (by omega) h1 hl' d2 ⟨kk, hr'⟩ hsz q2
    · have ek : kone (cdrE lo ge) t x p = x := if_neg hf0
      rw [ek] at hr hsz ⊢
      exact kcode_dec hT ht p' size l most x d k (by omega) h hl' hs hr hsz hk
end
section
variable {fb : Nat → Int} {n m : Nat} (a : Option Addr) (cap lo2 gd : Nat)
theorem fr_kpacket (hT : m ≤ n) (s : LS) (d : RD Nat) (p p' : PkV) :
    (d.bad = true → (kpacket (cdrD a m cap fb lo2 gd) s d p).2.1.bad = true) ∧
    ((kpacket (cdrD a m cap fb lo2 gd) s d p).2.1.bad = false → (kpacket (cdrD a n cap fb lo2 gd) s d p').1 = (kpacket (cdrD a m cap fb lo2 gd) s d p).1 ∧ (kpacket (cdrD a n cap fb lo2 gd) s d p').2.1 = (kpacket (cdrD a m cap fb lo2 gd) s d p).2.1) ∧
    (d.src ≤ m → (kpacket (cdrD a m cap fb lo2 gd) s d p).2.1.src ≤ m) := by
  have h := fr_pk (fb := fb) a cap lo2 gd hT s p p'
  refine ⟨h.stick s.P d, fun hb => ?_, h.below s.P d⟩
  have e := h.same s.P d hb
  have e1 : ((kpacket (cdrD a n cap fb lo2 gd) s d p').1.noP, (kpacket (cdrD a n cap fb lo2 gd) s d p').2.2) = ((kpacket (cdrD a m cap fb lo2 gd) s d p).1.noP, (kpacket (cdrD a m cap fb lo2 gd) s d p).2.2) := congrArg Prod.fst e
  have e2 : ((kpacket (cdrD a n cap fb lo2 gd) s d p').1.P, (kpacket (cdrD a n cap fb lo2 gd) s d p').2.1) = ((kpacket (cdrD a m cap fb lo2 gd) s d p).1.P, (kpacket (cdrD a m cap fb lo2 gd) s d p).2.1) := congrArg Prod.snd e
  exact ⟨noP_ext (congrArg Prod.fst e1) (congrArg Prod.fst e2), congrArg Prod.snd e2⟩
/-- the packets of fewer bytes, as long as they are not bad, and of more. -/
theorem kgo_front (hT : m ≤ n) (p : PkV) (size : Nat) : ∀ (k : Nat) (s : LS) (d : RD Nat) (x : LS × RD Nat), kgo (cdrD a m cap fb lo2 gd) p size k s d = some x → x.2.bad = false → d.src ≤ m → d.bad = false ∧ kgo (cdrD a n cap fb lo2 gd) p size k s d = some x ∧ x.2.src ≤ m
  | 0, s, d, x, h, hb, hs => by
    have h' : some (s, d) = some x := h
    injection h' with h'
    subst h'
    exact ⟨hb, rfl, hs⟩
  | k + 1, s, d, x, h, hb, hs => by
    unfold kgo at h ⊢
    by_cases h1 : size ≤ s.H.length
    · rw [if_pos h1] at h ⊢
      injection h with h
      subst h
      exact ⟨hb, rfl, hs⟩
    · rw [if_neg h1] at h ⊢
      obtain ⟨f1, f2, f3⟩ := fr_kpacket a cap lo2 gd (fb := fb) hT s d p p
      by_cases h2 : ((kpacket (cdrD a m cap fb lo2 gd) s d p).1.bad || (kpacket (cdrD a m cap fb lo2 gd) s d p).1.ended || (cdrD a m cap fb lo2 gd).bad (kpacket (cdrD a m cap fb lo2 gd) s d p).2.1) = true ∨ size < (kpacket (cdrD a m cap fb lo2 gd) s d p).1.H.length
      · rw [if_pos h2] at h; cases h
      · rw [if_neg h2] at h
        have hdb : (kpacket (cdrD a m cap fb lo2 gd) s d p).2.1.bad = false := by
          cases q : (kpacket (cdrD a m cap fb lo2 gd) s d p).2.1.bad with
          | false => rfl
          | true =>
            refine absurd (.inl ?_) h2
            have q' : (cdrD a m cap fb lo2 gd).bad (kpacket (cdrD a m cap fb lo2 gd) s d p).2.1 = true := q
            rw [q']
            simp
        obtain ⟨e1, e2⟩ := f2 hdb
        obtain ⟨_, g2, g3⟩ := kgo_front hT p size k _ _ x h hb (f3 hs)
        refine ⟨?_, ?_, g3⟩
        · cases q : d.bad with
          | false => rfl
          | true => rw [f1 q] at hdb; cases hdb
        · rw [e1, e2]
          show (if ((kpacket (cdrD a m cap fb lo2 gd) s d p).1.bad || (kpacket (cdrD a m cap fb lo2 gd) s d p).1.ended || (cdrD a m cap fb lo2 gd).bad (kpacket (cdrD a m cap fb lo2 gd) s d p).2.1) = true ∨ size < (kpacket (cdrD a m cap fb lo2 gd) s d p).1.H.length then none else _) = _
          rw [if_neg h2]
          exact g2
end
end Go.Proofs.Ytjnegcambbeblaa
