/- Texts of this proof, one behind the other. -/
import Derived.Test.YtjnegcambbeblaaMg18
import Derived.Test.YtjnegcambbeblaaMg13
import Derived.Test.YtjnegcambbeblaaMg15
import Derived.Test.YtjnegcambbeblaaMg10
import Derived.Test.YtjnegcambbeblaaMg11
import Derived.Test.YtjnegcambbeblaaMg14

/- The document's decoder, plain: packets until there is enough. -/
namespace Go.Proofs.Ytjnegcambbeblaa
open Go.RowKit

/-- the document's packets until there are so many bytes: the state, the coder; or nothing. -/
def kgo {C : Type} (K : Cdr C) (p : PkV) (size : Nat) : Nat → LS → C → Option (LS × C)
  | 0, s, c => some (s, c)
  | k + 1, s, c =>
    if size ≤ s.H.length then some (s, c)
    else if ((kpacket K s c p).1.bad || (kpacket K s c p).1.ended || K.bad (kpacket K s c p).2.1) = true ∨ size < (kpacket K s c p).1.H.length then none
    else kgo K p size k (kpacket K s c p).1 (kpacket K s c p).2.1
/-- between two packets. -/
structure Betw (s : LS) : Prop where
  left : s.left = 0
  place : s.place = s.H.length
  bad : s.bad = false
  ended : s.ended = false
section
variable {T : Type} (nx : T → Int × Bool × T) (L : LL)
theorem lrun_head (s : LS) (d : RD T) : ∀ k, lrun nx L (k + 1) s d = lrun nx L k (lnext nx L s d).2.1 (lnext nx L s d).2.2
  | 0 => rfl
  | k + 1 => by
    show (lnext nx L (lrun nx L (k + 1) s d).1 (lrun nx L (k + 1) s d).2).2 = (lnext nx L (lrun nx L k _ _).1 (lrun nx L k _ _).2).2
    rw [lrun_head s d k]
theorem lok_head (s : LS) (d : RD T) (k : Nat) : lok nx L s d (k + 1) = lok nx L (lnext nx L s d).2.1 (lnext nx L s d).2.2 k := by
  unfold lok
  rw [lrun_head]
theorem lrun_add (s : LS) (d : RD T) (i : Nat) : ∀ j, lrun nx L (i + j) s d = lrun nx L j (lrun nx L i s d).1 (lrun nx L i s d).2
  | 0 => rfl
  | j + 1 => by
    show (lnext nx L (lrun nx L (i + j) s d).1 (lrun nx L (i + j) s d).2).2 = (lnext nx L (lrun nx L j _ _).1 (lrun nx L j _ _).2).2
    rw [lrun_add s d i j]
theorem lok_add (s : LS) (d : RD T) (i j : Nat) : lok nx L s d (i + j) = lok nx L (lrun nx L i s d).1 (lrun nx L i s d).2 j := by
  unfold lok
  rw [lrun_add]
theorem lnext_tells (s : LS) (d : RD T) (h : (lnext nx L s d).1.2 = true) : (lnext nx L s d).2.1.H = s.H ++ [(lnext nx L s d).1.1] := by
  have h2 : ∀ (s : LS) (d : RD T), (lnext2 L s d).1.2 = true → (lnext2 L s d).2.1.H = s.H ++ [(lnext2 L s d).1.1] := by
    intro s d h
    unfold lnext2 at h ⊢
    split
    · rename_i h0; rw [if_pos h0] at h; cases h
    · rfl
  have e := (lpacket_same nx L s d).H
  unfold lnext at h ⊢
  by_cases h0 : s.bad = true ∨ s.ended = true
  · rw [if_pos h0] at h; cases h
  · rw [if_neg h0] at h ⊢
    by_cases hl : s.left = 0
    · rw [if_pos hl] at h ⊢
      by_cases hk : (lpacket nx L s d).1.2 = true
      · rw [if_pos hk]
        show (lpacket nx L s d).2.1.H ++ _ = _
        rw [e]
      · rw [if_neg hk] at h ⊢
        rw [h2 _ _ h, e]
    · rw [if_neg hl] at h ⊢
      exact h2 _ _ h
/-- what a run that tells has told. -/
theorem lrun_told (s : LS) (d : RD T) : ∀ k, (∀ i, i < k → lok nx L s d i = true) → (lrun nx L k s d).1.H = s.H ++ lbytes nx L s d k
  | 0, _ => by show s.H = s.H ++ []; rw [List.append_nil]
  | k + 1, h => by
    have h1 := lnext_tells nx L (lrun nx L k s d).1 (lrun nx L k s d).2 (h k (by omega))
    have h2 := lrun_told s d k (fun i hi => h i (by omega))
    show (lnext nx L (lrun nx L k s d).1 (lrun nx L k s d).2).2.1.H = _
    rw [h1, h2, lbytes_snoc, List.append_assoc]
    rfl
theorem lrun_copy (d : RD T) : ∀ (k : Nat) (s : LS), s.bad = false → s.ended = false → k ≤ s.left → lrun nx L k s d = ({ s with left := s.left - k, place := s.place + k, H := copyH L.n k s.H (s.rep 0) }, d) ∧ ∀ i, i < k → lok nx L s d i = true
  | 0, s, _, _, _ => ⟨rfl, fun i hi => absurd hi (by omega)⟩
  | k + 1, s, hb, he, hk => by
    have h1 : lnext nx L s d = ((backH s.H L.n (s.rep 0), true), { s with left := s.left - 1, place := s.place + 1, H := s.H ++ [backH s.H L.n (s.rep 0)] }, d) := by
      unfold lnext
      rw [if_neg (by rw [hb, he]; decide), if_neg (by omega)]
      unfold lnext2
      rw [if_neg (by omega)]
    obtain ⟨i1, i2⟩ := lrun_copy d k { s with left := s.left - 1, place := s.place + 1, H := s.H ++ [backH s.H L.n (s.rep 0)] } hb he (by show k ≤ s.left - 1; omega)
    refine ⟨?_, ?_⟩
    · rw [lrun_head, h1, i1]
      show (({ s with left := s.left - 1 - k, place := s.place + 1 + k, H := copyH L.n k (s.H ++ [backH s.H L.n (s.rep 0)]) (s.rep 0) } : LS), d) = (({ s with left := s.left - (k + 1), place := s.place + (k + 1), H := copyH L.n k (s.H ++ [backH s.H L.n (s.rep 0)]) (s.rep 0) } : LS), d)
      rw [show s.left - 1 - k = s.left - (k + 1) by omega, show s.place + 1 + k = s.place + (k + 1) by omega]
    · intro i hi
      cases i with
      | zero =>
        show (lnext nx L s d).1.2 = true
        rw [h1]
      | succ i =>
        rw [lok_head, h1]
        exact i2 i (by omega)
theorem lpacket_left {s : LS} {d : RD T} (hB : s.left = 0) (h : (lpacket nx L s d).2.1.left ≠ 0) : (lpacket nx L s d).1.2 = false ∧ (lpacket nx L s d).2.1.bad = false ∧ (lpacket nx L s d).2.1.ended = false ∧ (lpacket nx L s d).2.2.bad = false ∧ (lbit nx s.P d (16 * s.st + s.place % 2 ^ s.pb)).1 ≠ 0 := by
  unfold lpacket at h ⊢
  dsimp only at h ⊢
  by_cases h0 : (lbit nx s.P d (16 * s.st + s.place % 2 ^ s.pb)).1 = 0
  · rw [if_pos h0] at h
    exact absurd hB h
  · rw [if_neg h0] at h ⊢
    split at h
    · rename_i h1
      rw [if_pos h1]
      have g := lpEnd_good _ _ _ h
      exact ⟨rfl, by rw [g.1], by rw [g.1]; exact g.2.2.2.1, g.2.2.1, h0⟩
    · rename_i h1
      rw [if_neg h1]
      split at h
      · rename_i h2
        rw [if_pos h2]
        have g := lpEnd_good _ _ _ h
        exact ⟨rfl, by rw [g.1], by rw [g.1]; exact g.2.2.2.1, g.2.2.1, h0⟩
      · rename_i h2
        rw [if_neg h2]
        have g := lpEnd_good _ _ _ h
        exact ⟨rfl, by rw [g.1], by rw [g.1]; exact g.2.2.2.1, g.2.2.1, h0⟩
theorem lpacket_lit {s : LS} {d : RD T} (h : (lpacket nx L s d).1.2 = true) : (lpacket nx L s d).2.2.bad = false ∧ (lpacket nx L s d).2.1.bad = false ∧ (lpacket nx L s d).2.1.ended = s.ended ∧ (lpacket nx L s d).2.1.left = s.left := by
  unfold lpacket at h ⊢
  dsimp only at h ⊢
  by_cases h0 : (lbit nx s.P d (16 * s.st + s.place % 2 ^ s.pb)).1 = 0
  · rw [if_pos h0] at h ⊢
    have h' := h
    dsimp only at h' ⊢
    have h2 : (llit nx L { s with P := (lbit nx s.P d (16 * s.st + s.place % 2 ^ s.pb)).2.1 } (lbit nx s.P d (16 * s.st + s.place % 2 ^ s.pb)).2.2).2.2.bad = false := by simpa using h'
    exact ⟨h2, h2, rfl, rfl⟩
  · rw [if_neg h0] at h
    split at h
    · cases h
    · split at h <;> cases h
theorem lrun_pk {s : LS} {d : RD T} (hB : Betw s) (hl : (lpacket nx L s d).2.1.left ≠ 0) (k : Nat) : lrun nx L (k + 1) s d = lrun nx L (k + 1) (lpacket nx L s d).2.1 (lpacket nx L s d).2.2 ∧ lok nx L s d k = lok nx L (lpacket nx L s d).2.1 (lpacket nx L s d).2.2 k := by
  obtain ⟨g1, g2, g3, g4, _⟩ := lpacket_left nx L hB.left hl
  have hN : lnext nx L s d = lnext nx L (lpacket nx L s d).2.1 (lpacket nx L s d).2.2 := by
    obtain ⟨r, hr⟩ : ∃ r, r = lpacket nx L s d := ⟨_, rfl⟩
    rw [← hr] at g1 g2 g3 hl ⊢
    have e1 : lnext nx L s d = lnext2 L r.2.1 r.2.2 := by
      unfold lnext
      rw [if_neg (by rw [hB.bad, hB.ended]; decide), if_pos hB.left, ← hr, if_neg (by rw [g1]; decide)]
    have e2 : lnext nx L r.2.1 r.2.2 = lnext2 L r.2.1 r.2.2 := by
      unfold lnext
      rw [if_neg (by rw [g2, g3]; decide), if_neg hl]
    rw [e1, e2]
  refine ⟨by rw [lrun_head, lrun_head, hN], ?_⟩
  cases k with
  | zero =>
    show (lnext nx L s d).1.2 = (lnext nx L (lpacket nx L s d).2.1 (lpacket nx L s d).2.2).1.2
    rw [← hN]
  | succ k => rw [lok_head, lok_head, hN]
end
section
variable (a : Option Addr) (n cap : Nat) (f : Nat → Int) (lo gd : Nat)
theorem ringUp_self {N dict : Nat} (h : N = dict) (M : Nat) : RingUp N dict M := by
  intro m d _
  rw [h]
  omega
theorem kpacket_stops {L : LL} {s : LS} (c : RD Nat) (p : PkV) (hn : L.n = s.dict) (hN : 0 < s.dict) (hB : Betw s) (h1 : (lpacket (feedNx f n) L s c).1.2 = false) (hl : (lpacket (feedNx f n) L s c).2.1.left = 0) : kstops (kpacket (cdrD a n cap f lo gd) (bare s) c p) := by
  have hr : RingOk L.n s := (ringUp_self hn s.H.length).ok (Nat.le_refl _)
  by_cases h0 : (lbit (feedNx f n) s.P c (16 * s.st + s.place % 2 ^ s.pb)).1 = 0
  · exact kpacket_litBad a n cap f lo gd c p hr hB.place h0 h1
  · by_cases h2 : (lbit (feedNx f n) (lbit (feedNx f n) s.P c (16 * s.st + s.place % 2 ^ s.pb)).2.1 (lbit (feedNx f n) s.P c (16 * s.st + s.place % 2 ^ s.pb)).2.2 (192 + s.st)).1 = 0
    · exact kpacket_farBad a n cap f lo gd c p hr hB.place hB.bad hB.ended h0 h2 hl
    · exact kpacket_againBad a n cap f lo gd c p hr (by rw [hn]; exact hN) hB.place hB.bad hB.ended h0 h2 hl
theorem kpacket_copies {L : LL} {s : LS} (c : RD Nat) (p : PkV) (hn : L.n = s.dict) (hB : Betw s) (hl : (lpacket (feedNx f n) L s c).2.1.left ≠ 0) :
    kpacket (cdrD a n cap f lo gd) (bare s) c p = (bare { (lpacket (feedNx f n) L s c).2.1 with H := copyH L.n (lpacket (feedNx f n) L s c).2.1.left s.H ((lpacket (feedNx f n) L s c).2.1.rep 0) }, (lpacket (feedNx f n) L s c).2.2, (lpacket (feedNx f n) L s c).2.1.left) := by
  obtain ⟨_, _, _, _, h0⟩ := lpacket_left (feedNx f n) L hB.left hl
  by_cases h2 : (lbit (feedNx f n) (lbit (feedNx f n) s.P c (16 * s.st + s.place % 2 ^ s.pb)).2.1 (lbit (feedNx f n) s.P c (16 * s.st + s.place % 2 ^ s.pb)).2.2 (192 + s.st)).1 = 0
  · exact kpacket_far a n cap f lo gd c p (ringUp_self hn _) hB.place hB.bad hB.ended h0 h2 hl (Nat.le_refl _)
  · exact kpacket_again a n cap f lo gd c p (ringUp_self hn _) hB.place hB.bad h0 h2 hl (Nat.le_refl _)
/-- the document's packets beside the program's run. -/
theorem kgo_run {L : LL} (p : PkV) (size : Nat) : ∀ (k : Nat) (s : LS) (c : RD Nat), Betw s → L.n = s.dict → 0 < s.dict → size - s.H.length ≤ k → s.H.length ≤ size →
    (∃ s' c', kgo (cdrD a n cap f lo gd) p size k (bare s) c = some (bare s', c') ∧ lrun (feedNx f n) L (size - s.H.length) s c = (s', c') ∧ (∀ i, i < size - s.H.length → lok (feedNx f n) L s c i = true) ∧ Betw s' ∧ s'.H.length = size) ∨
    (kgo (cdrD a n cap f lo gd) p size k (bare s) c = none ∧ ((∃ i, i < size - s.H.length ∧ lok (feedNx f n) L s c i = false) ∨ (lrun (feedNx f n) L (size - s.H.length) s c).1.left ≠ 0)) := by
  intro k
  induction k with
  | zero =>
    intro s c hB hn hN hk hs
    have h0 : size - s.H.length = 0 := by omega
    rw [h0]
    exact .inl ⟨s, c, rfl, rfl, fun i hi => absurd hi (by omega), hB, by omega⟩
  | succ k ih =>
    intro s c hB hn hN hk hs
    by_cases h : size ≤ s.H.length
    · have h0 : size - s.H.length = 0 := by omega
      rw [h0]
      refine .inl ⟨s, c, ?_, rfl, fun i hi => absurd hi (by omega), hB, by omega⟩
      unfold kgo
      rw [if_pos (show size ≤ (bare s).H.length from h)]
    · have hb' : ¬ size ≤ (bare s).H.length := h
      obtain ⟨m, hm⟩ : ∃ m, size - s.H.length = m + 1 := ⟨size - s.H.length - 1, by omega⟩
      rw [hm]
      by_cases h1 : (lpacket (feedNx f n) L s c).1.2 = true
      · have e := kpacket_lit a n cap f lo gd c p ((ringUp_self hn s.H.length).ok (Nat.le_refl _)) hB.place hB.bad h1
        obtain ⟨g1, g2, g3, g4⟩ := lpacket_lit (feedNx f n) L h1
        have hsame := lpacket_same (feedNx f n) L s c
        have hN2 : lnext (feedNx f n) L s c = (((((lpacket (feedNx f n) L s c).1.1 : Nat) : Int), true), lputS (lpacket (feedNx f n) L s c).2.1 (((lpacket (feedNx f n) L s c).1.1 : Nat) : Int), (lpacket (feedNx f n) L s c).2.2) := by
          unfold lnext
          rw [if_neg (by rw [hB.bad, hB.ended]; decide), if_pos hB.left, if_pos h1]
        obtain ⟨r, hr⟩ : ∃ r, r = lpacket (feedNx f n) L s c := ⟨_, rfl⟩
        rw [← hr] at e g1 g2 g3 g4 hsame hN2
        obtain ⟨s1, hs1⟩ : ∃ x, x = lputS r.2.1 (r.1.1 : Nat) := ⟨_, rfl⟩
        have hH1 : s1.H = s.H ++ [((r.1.1 : Nat) : Int)] := by rw [hs1, ← hsame.H]; rfl
        have hbs : bare { r.2.1 with H := s.H ++ [((r.1.1 : Nat) : Int)] } = bare s1 := by
          rw [hs1, ← hsame.H]
          rfl
        rw [hbs] at e
        rw [← hs1] at hN2
        have hlen1 : s1.H.length = s.H.length + 1 := by rw [hH1]; simp
        have hB1 : Betw s1 := ⟨by rw [hs1]; exact g4.trans hB.left, by rw [hlen1, ← hB.place, ← hsame.place, hs1]; rfl, by rw [hs1]; exact g2, by rw [hs1]; exact g3.trans hB.ended⟩
        have hd1 : s1.dict = s.dict := by rw [hs1]; exact hsame.dict
        have hstep : kgo (cdrD a n cap f lo gd) p size (k + 1) (bare s) c = kgo (cdrD a n cap f lo gd) p size k (bare s1) r.2.2 := by
          show (if size ≤ (bare s).H.length then _ else _) = _
          rw [if_neg hb', e]
          dsimp only
          rw [if_neg]
          rintro (q | q)
          · have e1 : (bare s1).bad = false := hB1.bad
            have e2 : (bare s1).ended = false := hB1.ended
            have e3 : (cdrD a n cap f lo gd).bad r.2.2 = false := g1
            rw [e1, e2, e3] at q
            cases q
          · have q' : size < s1.H.length := q
            omega
        rw [hstep, lrun_head, hN2]
        have hm1 : size - s1.H.length = m := by omega
        have hI := ih s1 r.2.2 hB1 (hn.trans hd1.symm) (by rw [hd1]; exact hN) (by omega) (by omega)
        rw [hm1] at hI
        have hlok0 : lok (feedNx f n) L s c 0 = true := by show (lnext (feedNx f n) L s c).1.2 = true; rw [hN2]
        rcases hI with ⟨s', c', i1, i2, i3, i4, i5⟩ | ⟨i1, i2⟩
        · refine .inl ⟨s', c', i1, i2, ?_, i4, i5⟩
          intro i hi
          cases i with
          | zero => exact hlok0
          | succ i => rw [lok_head, hN2]; exact i3 i (by omega)
        · refine .inr ⟨i1, ?_⟩
          rcases i2 with ⟨i, hi, q⟩ | q
          · exact .inl ⟨i + 1, by omega, by rw [lok_head, hN2]; exact q⟩
          · exact .inr q
      · have h1' : (lpacket (feedNx f n) L s c).1.2 = false := by simpa using h1
        by_cases hl : (lpacket (feedNx f n) L s c).2.1.left = 0
        · have hst := kpacket_stops a n cap f lo gd c p hn hN hB h1' hl
          refine .inr ⟨?_, .inl ⟨0, by omega, ?_⟩⟩
          · show (if size ≤ (bare s).H.length then _ else _) = _
            rw [if_neg hb', if_pos]
            left
            have hst' : (kpacket (cdrD a n cap f lo gd) (bare s) c p).1.bad = true ∨ (kpacket (cdrD a n cap f lo gd) (bare s) c p).1.ended = true ∨ (cdrD a n cap f lo gd).bad (kpacket (cdrD a n cap f lo gd) (bare s) c p).2.1 = true := hst
            rcases hst' with q | q | q
            · rw [q]; simp
            · rw [q]; simp
            · rw [q]; simp
          · show (lnext (feedNx f n) L s c).1.2 = false
            unfold lnext
            rw [if_neg (by rw [hB.bad, hB.ended]; decide), if_pos hB.left, if_neg h1]
            unfold lnext2
            rw [if_pos hl]
        · have e := kpacket_copies a n cap f lo gd c p hn hB hl
          obtain ⟨g1, g2, g3, g4, _⟩ := lpacket_left (feedNx f n) L hB.left hl
          have hsame := lpacket_same (feedNx f n) L s c
          have hpk := fun j => lrun_pk (feedNx f n) L hB hl j
          obtain ⟨r, hr⟩ : ∃ r, r = lpacket (feedNx f n) L s c := ⟨_, rfl⟩
          rw [← hr] at e g1 g2 g3 g4 hsame hl
          simp only [← hr] at hpk
          obtain ⟨q, hq⟩ : ∃ q, r.2.1.left = q + 1 := ⟨r.2.1.left - 1, by omega⟩
          by_cases ho : s.H.length + r.2.1.left ≤ size
          · obtain ⟨c1, c2⟩ := lrun_copy (feedNx f n) L r.2.2 r.2.1.left r.2.1 g2 g3 (Nat.le_refl _)
            obtain ⟨s1, hs1⟩ : ∃ x : LS, x = { r.2.1 with left := r.2.1.left - r.2.1.left, place := r.2.1.place + r.2.1.left, H := copyH L.n r.2.1.left r.2.1.H (r.2.1.rep 0) } := ⟨_, rfl⟩
            rw [← hs1] at c1
            have hlen1 : s1.H.length = s.H.length + r.2.1.left := by rw [hs1, hsame.H]; exact copyH_len _ _ _ _
            have hbs : bare { r.2.1 with H := copyH L.n r.2.1.left s.H (r.2.1.rep 0) } = bare s1 := by
              rw [hs1, hsame.H]
              rfl
            rw [hbs] at e
            have hB1 : Betw s1 := ⟨by rw [hs1]; exact Nat.sub_self _, by rw [hlen1, ← hB.place, ← hsame.place, hs1], by rw [hs1]; exact g2, by rw [hs1]; exact g3⟩
            have hd1 : s1.dict = s.dict := by rw [hs1]; exact hsame.dict
            have hstep : kgo (cdrD a n cap f lo gd) p size (k + 1) (bare s) c = kgo (cdrD a n cap f lo gd) p size k (bare s1) r.2.2 := by
              show (if size ≤ (bare s).H.length then _ else _) = _
              rw [if_neg hb', e]
              dsimp only
              rw [if_neg]
              rintro (q | q)
              · have e1 : (bare s1).bad = false := hB1.bad
                have e2 : (bare s1).ended = false := hB1.ended
                have e3 : (cdrD a n cap f lo gd).bad r.2.2 = false := g4
                rw [e1, e2, e3] at q
                cases q
              · have q' : size < s1.H.length := q
                omega
            have hrq : lrun (feedNx f n) L r.2.1.left s c = (s1, r.2.2) := by
              have := (hpk q).1
              rw [← hq] at this
              rw [this]
              exact c1
            have hlq : ∀ i, i < r.2.1.left → lok (feedNx f n) L s c i = true := fun i hi => by rw [(hpk i).2]; exact c2 i hi
            obtain ⟨m2, hm2⟩ : ∃ m2, m2 = size - s1.H.length := ⟨_, rfl⟩
            have hmm : m + 1 = r.2.1.left + m2 := by omega
            rw [hstep, hmm, lrun_add, hrq]
            have hI := ih s1 r.2.2 hB1 (hn.trans hd1.symm) (by rw [hd1]; exact hN) (by omega) (by omega)
            rw [← hm2] at hI
            rcases hI with ⟨s', c', i1, i2, i3, i4, i5⟩ | ⟨i1, i2⟩
            · refine .inl ⟨s', c', i1, i2, ?_, i4, i5⟩
              intro i hi
              by_cases hi2 : i < r.2.1.left
              · exact hlq i hi2
              · rw [show i = r.2.1.left + (i - r.2.1.left) by omega, lok_add, hrq]
                exact i3 _ (by omega)
            · refine .inr ⟨i1, ?_⟩
              rcases i2 with ⟨i, hi, q9⟩ | q9
              · exact .inl ⟨r.2.1.left + i, by omega, by rw [lok_add, hrq]; exact q9⟩
              · exact .inr q9
          · refine .inr ⟨?_, .inr ?_⟩
            · show (if size ≤ (bare s).H.length then _ else _) = _
              rw [if_neg hb', if_pos]
              right
              rw [e]
              show size < (copyH L.n r.2.1.left s.H (r.2.1.rep 0)).length
              rw [copyH_len]
              omega
            · rw [(hpk m).1]
              obtain ⟨c1, _⟩ := lrun_copy (feedNx f n) L r.2.2 (m + 1) r.2.1 g2 g3 (by omega)
              rw [c1]
              show r.2.1.left - (m + 1) ≠ 0
              omega
end
end Go.Proofs.Ytjnegcambbeblaa

/- The document's decoder, plain: the end mark. -/
namespace Go.Proofs.Ytjnegcambbeblaa
open Go.RowKit

theorem kcopy_ended : ∀ (k i : Nat) (s : LS), (kcopy k i s).1.ended = s.ended
  | 0, _, _ => rfl
  | k + 1, i, s => by
    unfold kcopy
    split
    · exact kcopy_ended k (i + 1) _
    · rfl
theorem kend_ended {C : Type} (K : Cdr C) (m : LS × C × Nat) : (kend K m).1.ended = m.1.ended := by
  have key : ∀ (s : LS) (k : Nat), (kend2 s k).1.ended = s.ended := by
    intro s k
    unfold kend2
    split
    · rfl
    · exact kcopy_ended k 0 s
  unfold kend
  dsimp only
  rw [key]
  split <;> rfl
theorem kpacket2_ended {C : Type} (K : Cdr C) (s : LS) (c : C) (sp : Nat) (p : PkV) (k : Nat) (hk : k ≠ 1) : (kpacket2 K s c sp p k).1.ended = s.ended := by
  unfold kpacket2
  split
  · unfold klitP
    split <;> rfl
  · rw [kend_ended]
    unfold kmid
    rw [if_neg hk]
    split <;> rfl
theorem lpEnd_ended {S : Type} (L : LL) (s : LS) (d : RD S) : (lpEnd L s d).ended = s.ended := by
  unfold lpEnd
  split
  · rfl
  · split <;> rfl
theorem lagain_ended {S : Type} (nx : S → Int × Bool × S) (s : LS) (d : RD S) (sp : Nat) : (lagain nx s d sp).2.1.ended = s.ended := by
  unfold lagain
  split
  · rfl
  · rfl
section
variable (a : Option Addr) (n cap : Nat) (f : Nat → Int) (lo gd : Nat)
theorem kpacket_ends {L : LL} {s : LS} (c : RD Nat) (p : PkV) (hB : Betw s) :
    ((kpacket (cdrD a n cap f lo gd) (bare s) c p).1.ended = true → (kpacket (cdrD a n cap f lo gd) (bare s) c p).2.1.bad = false → (lpacket (feedNx f n) L s c).2.1.ended = true ∧ (lpacket (feedNx f n) L s c).2.2.bad = false) ∧
    ((lpacket (feedNx f n) L s c).2.1.ended = true → (lpacket (feedNx f n) L s c).2.2.bad = false → (kpacket (cdrD a n cap f lo gd) (bare s) c p).1.ended = true ∧ (kpacket (cdrD a n cap f lo gd) (bare s) c p).1.bad = false ∧ (kpacket (cdrD a n cap f lo gd) (bare s) c p).2.1 = (lpacket (feedNx f n) L s c).2.2 ∧ (kpacket (cdrD a n cap f lo gd) (bare s) c p).1.H = s.H ∧ (lpacket (feedNx f n) L s c).2.1.bad = false ∧ (lpacket (feedNx f n) L s c).2.1.left = 0) := by
  have he : s.ended = false := hB.ended
  by_cases h0 : (lbit (feedNx f n) s.P c (16 * s.st + s.place % 2 ^ s.pb)).1 = 0
  · have hk : kkind (cdrD a n cap f lo gd) (bare s) c (s.place % 2 ^ s.pb) p.kind = ((0, false), (lbit (feedNx f n) s.P c (16 * s.st + s.place % 2 ^ s.pb)).2) := by
      unfold kkind kkind0
      rw [kbit_D]
      exact if_pos h0
    have e1 : (kpacket (cdrD a n cap f lo gd) (bare s) c p).1.ended = false := by
      unfold kpacket
      rw [show (bare s).H.length % 2 ^ (bare s).pb = s.place % 2 ^ s.pb by rw [hB.place]; rfl, hk, kpacket2_ended _ _ _ _ _ _ (by show (0 : Nat) ≠ 1; decide)]
      exact he
    have e2 : (lpacket (feedNx f n) L s c).2.1.ended = false := by
      unfold lpacket
      dsimp only
      rw [if_pos h0]
      exact he
    rw [e1, e2]
    exact ⟨(fun h => by cases h), (fun h => by cases h)⟩
  · have h0' : ¬ (lbit (feedNx f n) (bare s).P c (16 * (bare s).st + s.place % 2 ^ s.pb)).1 = 0 := h0
    by_cases h1 : (lbit (feedNx f n) (lbit (feedNx f n) s.P c (16 * s.st + s.place % 2 ^ s.pb)).2.1 (lbit (feedNx f n) s.P c (16 * s.st + s.place % 2 ^ s.pb)).2.2 (192 + s.st)).1 = 0
    · obtain ⟨r1, hr1⟩ : ∃ r, r = lbit (feedNx f n) (lbit (feedNx f n) s.P c (16 * s.st + s.place % 2 ^ s.pb)).2.1 (lbit (feedNx f n) s.P c (16 * s.st + s.place % 2 ^ s.pb)).2.2 (192 + s.st) := ⟨_, rfl⟩
      obtain ⟨F, hF⟩ : ∃ F, F = lfresh (feedNx f n) { s with P := r1.2.1 } r1.2.2 (s.place % 2 ^ s.pb) := ⟨_, rfl⟩
      have hpk : lpacket (feedNx f n) L s c = ((0, false), lpEnd L { F.2.1 with left := F.1 } F.2.2, F.2.2) := by
        unfold lpacket
        dsimp only
        rw [if_neg h0, if_pos h1, hF, hr1]
      rw [hpk]
      dsimp only
      rw [lpEnd_ended]
      dsimp only
      have hk : kkind (cdrD a n cap f lo gd) (bare s) c (s.place % 2 ^ s.pb) p.kind = ((1, false), r1.2) := by
        unfold kkind kkind0
        rw [kbit_D, if_neg h0']
        unfold kkind1
        rw [kbit_D, hr1]
        exact if_pos h1
      unfold kpacket
      rw [show (bare s).H.length % 2 ^ (bare s).pb = s.place % 2 ^ s.pb by rw [hB.place]; rfl, hk]
      obtain ⟨S, hS⟩ : ∃ S : LS, S = { bare s with P := r1.2.1, bad := (bare s).bad || false } := ⟨_, rfl⟩
      obtain ⟨R, hR⟩ : ∃ R, R = kpacket2 (cdrD a n cap f lo gd) { bare s with P := r1.2.1, bad := (bare s).bad || false } r1.2.2 (s.place % 2 ^ s.pb) p 1 := ⟨_, rfl⟩
      dsimp only
      rw [← hR]
      rw [← hS] at hR
      unfold kpacket2 at hR
      rw [if_neg (by decide)] at hR
      unfold kmid at hR
      rw [if_pos rfl] at hR
      have hSF : lfresh (feedNx f n) S r1.2.2 (s.place % 2 ^ s.pb) = (F.1, { F.2.1 with place := 0, left := 0, bad := (s.bad || false) }, F.2.2) := by
        rw [hS, hF]
        rfl
      obtain ⟨m, hm⟩ : ∃ m, m = kmid1 (cdrD a n cap f lo gd) S (s.place % 2 ^ s.pb) p.kind p.dist (klen (cdrD a n cap f lo gd) S.P r1.2.2 819 (s.place % 2 ^ s.pb) (if p.kind = 7 then 0 else p.len - 2)) := ⟨_, rfl⟩
      rw [← hm] at hR
      have hR1 : R.2.1 = m.2.1 := by rw [hR]; rfl
      cases hg : F.2.2.bad with
      | true =>
        refine ⟨fun _ h => ?_, fun _ h => by cases h⟩
        have hmb : m.2.1.bad = true := by
          rw [hm]
          exact kmid1_bad a n cap f lo gd S { s with P := r1.2.1 } (by rw [hS]) r1.2.2 _ _ _ _ (by rw [← hF]; exact hg)
        rw [hR1, hmb] at h
        cases h
      | false =>
        have hD := kmid1_D a n cap f lo gd S r1.2.2 (s.place % 2 ^ s.pb) p.kind (if p.kind = 7 then 0 else p.len - 2) p.dist (by rw [hS]; exact he) (by rw [hSF]; exact hg) m hm
        rw [hSF] at hD
        obtain ⟨d1, d2, _⟩ := hD
        have hRe : R.1.ended = F.2.1.ended := by rw [hR, kend_ended, d1]
        refine ⟨fun h _ => ⟨by rw [← hRe]; exact h, rfl⟩, fun h _ => ?_⟩
        have hme : m.1.ended = true := by rw [d1]; exact h
        have hFH : F.2.1.H = s.H := by rw [hF]; rfl
        have hFb : F.2.1.bad = false := by rw [hF]; exact hB.bad
        have hRm : R = (m.1, m.2.1, 0) := by
          rw [hR]
          unfold kend
          have e : (if (cdrD a n cap f lo gd).bad m.2.1 = true then { m.1 with bad := true } else m.1) = m.1 := if_neg (by show ¬ m.2.1.bad = true; rw [d2]; show ¬ F.2.2.bad = true; rw [hg]; decide)
          rw [e]
          unfold kend2
          rw [if_pos (by rw [hme]; simp)]
        refine ⟨by rw [hRe]; exact h, by rw [hRm, d1]; show (s.bad || false) = false; rw [hB.bad]; rfl, by rw [hR1, d2], by rw [hRm, d1]; exact hFH, ?_, ?_⟩
        · unfold lpEnd
          rw [if_pos (by show ((F.2.1.bad || F.2.2.bad) || F.2.1.ended) = true; rw [h]; simp)]
          show (F.2.1.bad || F.2.2.bad) = false
          rw [hFb, hg]
          rfl
        · unfold lpEnd
          rw [if_pos (by show ((F.2.1.bad || F.2.2.bad) || F.2.1.ended) = true; rw [h]; simp)]
    · have h1' : ¬ (lbit (feedNx f n) (lbit (feedNx f n) (bare s).P c (16 * (bare s).st + s.place % 2 ^ s.pb)).2.1 (lbit (feedNx f n) (bare s).P c (16 * (bare s).st + s.place % 2 ^ s.pb)).2.2 (192 + (bare s).st)).1 = 0 := h1
      have hk : (kkind (cdrD a n cap f lo gd) (bare s) c (s.place % 2 ^ s.pb) p.kind).1.1 ≠ 1 := by
        unfold kkind kkind0
        rw [kbit_D, if_neg h0']
        unfold kkind1
        rw [kbit_D, if_neg h1']
        split
        · show (6 : Nat) ≠ 1; decide
        · show (kpick2 (cdrD a n cap f lo gd) _ _ _ _).1 ≠ 1
          unfold kpick2
          split
          · unfold kpick3
            show (if _ then 6 else 2) ≠ 1
            split <;> decide
          · unfold kpick4
            split
            · show (3 : Nat) ≠ 1; decide
            · unfold kpick5
              show (if _ then 4 else 5) ≠ 1
              split <;> decide
      have e1 : (kpacket (cdrD a n cap f lo gd) (bare s) c p).1.ended = false := by
        unfold kpacket
        rw [show (bare s).H.length % 2 ^ (bare s).pb = s.place % 2 ^ s.pb by rw [hB.place]; rfl, kpacket2_ended _ _ _ _ _ _ hk]
        exact he
      have e2 : (lpacket (feedNx f n) L s c).2.1.ended = false := by
        unfold lpacket
        dsimp only
        rw [if_neg h0, if_neg h1]
        split
        · rw [lpEnd_ended]; exact he
        · rw [lpEnd_ended]
          exact (lagain_ended _ _ _ _).trans he
      rw [e1, e2]
      exact ⟨(fun h => by cases h), (fun h => by cases h)⟩
end
end Go.Proofs.Ytjnegcambbeblaa

/- LzmaCoded, plain: a packet that fits, coded, is whole. -/
namespace Go.Proofs.Ytjnegcambbeblaa
open Go.RowKit

/-- what the document's Fits tells. -/
def kfit (s : LS) (p : PkV) : Bool :=
  if s.ended = true then false
  else if p.kind = 0 ∨ p.kind = 7 then true
  else if p.kind = 6 then (backD s (s.rep 0)).2
  else if p.len < 2 ∨ 273 < p.len then false
  else if p.kind = 1 then (backD s p.dist).2
  else if 2 ≤ p.kind ∧ p.kind ≤ 5 then (backD s (s.rep (p.kind - 2).toNat)).2
  else false
theorem backD_iff {s : LS} {d : Nat} : (backD s d).2 = true ↔ d < s.H.length ∧ d < s.dict := by
  unfold backD
  split
  · rename_i h
    refine ⟨fun e => (by cases e), fun e => ?_⟩
    omega
  · rename_i h
    refine ⟨fun _ => by omega, fun _ => rfl⟩
theorem kcopy_good : ∀ (k i : Nat) (s : LS), (backD s (s.rep 0)).2 = true → s.bad = false → (kcopy k i s).1.bad = false ∧ (kcopy k i s).1.H.length = s.H.length + k
  | 0, _, _, _, hb => ⟨hb, rfl⟩
  | k + 1, i, s, h, hb => by
    unfold kcopy
    rw [if_pos h]
    have h' := backD_iff.1 h
    obtain ⟨g1, g2⟩ := kcopy_good k (i + 1) { s with H := s.H ++ [(backD s (s.rep 0)).1] } (backD_iff.2 (by
      show s.rep 0 < (s.H ++ [(backD s (s.rep 0)).1]).length ∧ s.rep 0 < s.dict
      rw [List.length_append]
      omega)) hb
    refine ⟨g1, ?_⟩
    rw [g2]
    show (s.H ++ [(backD s (s.rep 0)).1]).length + k = _
    rw [List.length_append]
    show s.H.length + 1 + k = _
    omega
theorem gEnd_good {s : LS} {many : Nat} (hb : s.bad = false) (he : s.ended = false) (h : (backD s (s.rep 0)).2 = true) : (gEnd s many false).1.bad = false ∧ (gEnd s many false).1.ended = false ∧ (gEnd s many false).1.H.length = s.H.length + many := by
  have e : kend2 (if false = true then { s with bad := true } else s) many = kcopy many 0 s := by
    rw [if_neg (by decide)]
    unfold kend2
    rw [if_neg (by rw [hb, he]; decide)]
  obtain ⟨g1, g2⟩ := kcopy_good many 0 s h hb
  unfold gEnd
  rw [e]
  exact ⟨g1, (kcopy_ended many 0 s).trans he, g2⟩
/-- what a packet that fits comes to. -/
structure Whole (s : LS) (p : PkV) (x : LS) : Prop where
  bad : x.bad = false
  ended : x.ended = decide (p.kind = 7)
  more : p.kind ≠ 7 → s.H.length < x.H.length ∧ (x.H.length : Int) ≤ s.H.length + max 1 p.len ∧ (p.kind = 0 ∨ p.kind = 6 → x.H.length = s.H.length + 1)
  last : p.kind = 7 → x.H = s.H
theorem pk2_whole {C : Type} {K : Cdr C} (hE : Echo K) (s : LS) (sp : Nat) (p : PkV) (P : Nat → Int) (c : C) (hb : s.bad = false) (he : s.ended = false) (hf : kfit s p = true) (hd : s.H.length ≤ 4294967295) :
    Whole s p (pk2F K s sp p (if p.kind = 7 then 1 else p.kind.toNat) P c).1.1 := by
  unfold kfit at hf
  rw [if_neg (by rw [he]; decide)] at hf
  by_cases h0 : p.kind = 0
  · rw [if_neg (by omega), h0]
    show Whole s p (pk2F K s sp p 0 P c).1.1
    rw [pk2_lit, hE.good]
    unfold gLit
    rw [if_neg (by decide)]
    refine ⟨hb, ?_, fun _ => ?_, fun h => by omega⟩
    · show s.ended = _
      rw [he, h0]
      rfl
    · show s.H.length < (s.H ++ [_]).length ∧ (((s.H ++ [_]).length : Nat) : Int) ≤ _ ∧ (_ → (s.H ++ [_]).length = s.H.length + 1)
      rw [List.length_append]
      show s.H.length < s.H.length + 1 ∧ ((s.H.length + 1 : Nat) : Int) ≤ s.H.length + max 1 p.len ∧ (_ → s.H.length + 1 = s.H.length + 1)
      exact ⟨by omega, by omega, fun _ => rfl⟩
  · by_cases h7 : p.kind = 7
    · rw [if_pos h7, pk2_far K s sp p P c _ rfl _ rfl, hE.good]
      unfold gFar
      dsimp only
      rw [kdist_echo hE _ _ _ _ (by rw [if_pos h7]; decide), if_pos h7]
      have e : ∀ (z : LS) many, z.ended = true → (gEnd z many false).1 = z.noP := by
        intro z many h1
        have e2 : (if false = true then ({ z with bad := true } : LS) else z) = z := if_neg (by decide)
        unfold gEnd
        rw [e2]
        unfold kend2
        rw [if_pos (by rw [h1]; simp)]
      rw [e { s with st := afterL s.st 7 10, rep := updN (shiftL s.rep 3) 0 4294967295, ended := decide (4294967295 = 4294967295) && !false } _ (by show (decide (4294967295 = 4294967295) && !false) = true; decide)]
      exact ⟨hb, by rw [h7]; rfl, fun h => absurd h7 h, fun _ => rfl⟩
    · rw [if_neg h7]
      rw [if_neg (by omega)] at hf
      by_cases h6 : p.kind = 6
      · rw [if_pos h6] at hf
        rw [h6]
        show Whole s p (pk2F K s sp p 6 P c).1.1
        rw [pk2_one, hE.good]
        dsimp only
        obtain ⟨g1, g2, g3⟩ := gEnd_good (s := { s with st := afterL s.st 9 11 }) (many := 1) hb he hf
        exact ⟨g1, by rw [g2, h6]; rfl, fun _ => by rw [g3]; show s.H.length < s.H.length + 1 ∧ ((s.H.length + 1 : Nat) : Int) ≤ s.H.length + max 1 p.len ∧ (_ → s.H.length + 1 = s.H.length + 1); exact ⟨by omega, by omega, fun _ => rfl⟩, fun h => absurd h h7⟩
      · rw [if_neg h6] at hf
        by_cases hl : p.len < 2 ∨ 273 < p.len
        · rw [if_pos hl] at hf; cases hf
        · rw [if_neg hl] at hf
          obtain ⟨l, hl2⟩ : ∃ l : Nat, p.len - 2 = (l : Int) := ⟨(p.len - 2).toNat, by omega⟩
          by_cases h1 : p.kind = 1
          · rw [if_pos h1] at hf
            rw [h1]
            show Whole s p (pk2F K s sp p 1 P c).1.1
            have hbk := backD_iff.1 hf
            rw [pk2_far K s sp p P c _ rfl _ rfl, hE.good]
            unfold gFar
            dsimp only
            rw [kdist_echo hE _ _ _ _ (by rw [if_neg h7]; omega), if_neg h7, if_neg h7, hl2, klen_echo hE _ _ _ _ _ (by omega)]
            obtain ⟨g1, g2, g3⟩ := gEnd_good (s := { s with st := afterL s.st 7 10, rep := updN (shiftL s.rep 3) 0 p.dist, ended := decide (p.dist = 4294967295) && !false }) (many := l + 2) hb (by
              show (decide (p.dist = 4294967295) && !false) = false
              rw [decide_eq_false (by omega)]
              rfl) (backD_iff.2 (by
              show updN (shiftL s.rep 3) 0 p.dist 0 < s.H.length ∧ updN (shiftL s.rep 3) 0 p.dist 0 < s.dict
              exact hbk))
            exact ⟨g1, by rw [g2, h1]; rfl, fun _ => by rw [g3]; show s.H.length < s.H.length + (l + 2) ∧ ((s.H.length + (l + 2) : Nat) : Int) ≤ s.H.length + max 1 p.len ∧ (p.kind = 0 ∨ p.kind = 6 → s.H.length + (l + 2) = s.H.length + 1); exact ⟨by omega, by omega, fun h => by omega⟩, fun h => absurd h h7⟩
          · rw [if_neg h1] at hf
            by_cases h25 : 2 ≤ p.kind ∧ p.kind ≤ 5
            · rw [if_pos h25] at hf
              have hbk := backD_iff.1 hf
              rw [pk2_again K s sp p p.kind.toNat (by omega) (by omega) (by omega) P c _ rfl, hE.good]
              dsimp only
              rw [hl2, klen_echo hE _ _ _ _ _ (by omega)]
              have ej : (p.kind - 2).toNat = p.kind.toNat - 2 := by omega
              rw [ej] at hbk
              obtain ⟨g1, g2, g3⟩ := gEnd_good (s := { s with st := afterL s.st 8 11, rep := updN (shiftL s.rep (p.kind.toNat - 2)) 0 (s.rep (p.kind.toNat - 2)) }) (many := l + 2) hb he (backD_iff.2 hbk)
              exact ⟨g1, by rw [g2]; simp [h7], fun _ => by rw [g3]; show s.H.length < s.H.length + (l + 2) ∧ ((s.H.length + (l + 2) : Nat) : Int) ≤ s.H.length + max 1 p.len ∧ (p.kind = 0 ∨ p.kind = 6 → s.H.length + (l + 2) = s.H.length + 1); exact ⟨by omega, by omega, fun h => by omega⟩, fun h => absurd h h7⟩
            · rw [if_neg h25] at hf; cases hf
theorem kpacket_pk {C : Type} (K : Cdr C) (s : LS) (c : C) (p : PkV) : (kpacket K s c p).1.noP = (pk2F K { s with bad := s.bad || (kkind K s c (s.H.length % 2 ^ s.pb) p.kind).1.2 } (s.H.length % 2 ^ s.pb) p (kkind K s c (s.H.length % 2 ^ s.pb) p.kind).1.1 (kkind K s c (s.H.length % 2 ^ s.pb) p.kind).2.1 (kkind K s c (s.H.length % 2 ^ s.pb) p.kind).2.2).1.1 := rfl
/-- a packet that fits. -/
theorem kpacket_whole {C : Type} {K : Cdr C} (hE : Echo K) (s : LS) (c : C) (p : PkV) (hb : s.bad = false) (he : s.ended = false) (hk0 : 0 ≤ p.kind) (hk7 : p.kind ≤ 7) (hf : kfit s p = true) (hd : s.H.length ≤ 4294967295) : Whole s p (kpacket K s c p).1 := by
  have hH : 2 ≤ p.kind → p.kind ≤ 6 → s.H.length ≠ 0 := by
    intro h2 h6 h0
    unfold kfit at hf
    rw [if_neg (by rw [he]; decide), if_neg (by omega)] at hf
    by_cases q6 : p.kind = 6
    · rw [if_pos q6] at hf
      have := backD_iff.1 hf
      omega
    · rw [if_neg q6] at hf
      split at hf
      · cases hf
      · rw [if_neg (by omega), if_pos ⟨h2, by omega⟩] at hf
        have := backD_iff.1 hf
        omega
  have hkk := kkind_echo hE s c (s.H.length % 2 ^ s.pb) p.kind hk0 hk7 hH
  have h := kpacket_pk K s c p
  rw [hkk] at h
  dsimp only at h
  have e : ({ s with bad := s.bad || false } : LS) = s := by
    cases s
    simp
  rw [e] at h
  have hw := pk2_whole hE s (s.H.length % 2 ^ s.pb) p (kkind K s c (s.H.length % 2 ^ s.pb) p.kind).2.1 (kkind K s c (s.H.length % 2 ^ s.pb) p.kind).2.2 hb he hf hd
  rw [← h] at hw
  exact ⟨hw.bad, hw.ended, hw.more, hw.last⟩
theorem noP_ext {s t : LS} (h : s.noP = t.noP) (hP : s.P = t.P) : s = t := by
  cases s
  cases t
  simp only [LS.noP, LS.mk.injEq] at h hP ⊢
  simp_all
end Go.Proofs.Ytjnegcambbeblaa

/- The document's Fits. -/
namespace Go.Proofs.Ytjnegcambbeblaa
open Go.RowKit

set_option maxRecDepth 100000 in
set_option maxHeartbeats 3200000 in
theorem kfits_any {U : Nat → Prop} {C : Type} {K : Cdr C} (hK : K.Ok) (g gp np cap : Nat) (s : LS) (c : C) (p : PkV) (w : World) (h : KIs K U g gp np cap w s c) (hd : p.dist < 4294967296) (hlen : s.H.length ≤ 60000) :
    Calls Try.prog 50 #[.pointer (some ⟨g, 0, none⟩), .agg #[.int .i64 p.kind, .int .u8 p.byte, .int .i64 p.len, .int .u32 p.dist]] w fun e w' => e = .returned (.bool (kfit s p)) ∧ Fr Non w w' := by
  obtain ⟨kind, byte, len, dist⟩ := p
  dsimp only at hd
  obtain ⟨R, hR⟩ : ∃ R, R = kfit s ⟨kind, byte, len, dist⟩ := ⟨_, rfl⟩
  rw [← hR]
  obtain ⟨W, hW⟩ : ∃ W, W = w.alloc (.cells #[.int .i64 kind, .int .u8 byte, .int .i64 len, .int .u32 dist] 29) := ⟨_, rfl⟩
  have hfw : Fr Non w W := by rw [hW]; exact (Fr.refl Non w).alloc _
  have hb : W.heap[w.heap.size]? = some (.cells #[.int .i64 kind, .int .u8 byte, .int .i64 len, .int .u32 dist] 29) := by rw [hW]; exact blk_new w _
  obtain ⟨bx, hbx⟩ : ∃ b, b = w.heap.size := ⟨_, rfl⟩
  rw [← hbx] at hb
  have b0 := blk_cell hb (j := 0) (v := .int .i64 kind) rfl
  have b2 := blk_cell hb (j := 2) (v := .int .i64 len) rfl
  have b3 := blk_cell hb (j := 3) (v := .int .u32 dist) rfl
  have h1 := h.any hK hfw
  have HB := hid (fun (W' : World) (hW' : Fr Non W W') (d : Nat) (hd : d < 4294967296) => (show Calls Try.prog 75 #[.pointer (some ⟨g, 0, none⟩), .int .u32 d] W' (fun e w' => e = .returned (.tuple #[.int .u8 (backD s d).1, .bool (backD s d).2]) ∧ ∃ m, w' = W'.drewN m) from kback_any g gp np cap s c d W' (h1.any hK hW') hd hlen))
  obtain ⟨A, v, hv⟩ := h1
  have hrep := hv.ok.rep
  obtain ⟨r0, hr0⟩ : ∃ r, r = s.rep 0 := ⟨_, rfl⟩
  obtain ⟨r1, hr1⟩ : ∃ r, r = s.rep 1 := ⟨_, rfl⟩
  obtain ⟨r2, hr2⟩ : ∃ r, r = s.rep 2 := ⟨_, rfl⟩
  obtain ⟨r3, hr3⟩ : ∃ r, r = s.rep 3 := ⟨_, rfl⟩
  obtain ⟨ee, hee⟩ : ∃ b, b = s.ended := ⟨_, rfl⟩
  have c9 := hv.cellC 9 (x := .int .u32 r0) (by rw [hr0]; rfl)
  have c10 := hv.cellC 10 (x := .int .u32 r1) (by rw [hr1]; rfl)
  have c11 := hv.cellC 11 (x := .int .u32 r2) (by rw [hr2]; rfl)
  have c12 := hv.cellC 12 (x := .int .u32 r3) (by rw [hr3]; rfl)
  have c13 := hv.cellC 13 (x := .bool ee) (by rw [hee]; rfl)
  have HREP := hid (show r0 < 4294967296 ∧ r1 < 4294967296 ∧ r2 < 4294967296 ∧ r3 < 4294967296 by rw [hr0, hr1, hr2, hr3]; exact ⟨hrep 0 (by decide), hrep 1 (by decide), hrep 2 (by decide), hrep 3 (by decide)⟩)
  have HRR := hid (And.intro hr0 (And.intro hr1 (And.intro hr2 hr3)))
  have HEE := hid hee
  have HR := hid hR
  have FW := hid hfw
  have HW := hid hW
  have HBX := hid hbx
  have HD := hid hd
  clear h hv hrep hr0 hr1 hr2 hr3 hee hR hW hfw hb hbx hd
  have EQ := hid (show R = (if ee = true then false else if kind = 0 ∨ kind = 7 then true else if kind = 6 then (backD s r0).2 else if len < 2 ∨ 273 < len then false else if kind = 1 then (backD s dist).2 else if 2 ≤ kind ∧ kind ≤ 5 then (backD s (s.rep (kind - 2).toNat)).2 else false) by rw [HR.out, HEE.out, HRR.out.1]; rfl)
  clear HR
  show Calls Try.prog 50 #[.pointer (some ⟨g, 0, none⟩), .agg #[.int .i64 kind, .int .u8 byte, .int .i64 len, .int .u32 dist]] w _
  go_enter Try.func50, Try.ntmps50
  go_upto_region 1 with fail
  rw [← HW.out, ← HBX.out]
  cases ee with
  | true =>
    have HQ := hid (show R = false by rw [EQ.out, if_pos rfl])
    go_wp2_with fail
    go_ret
    exact ⟨(by rw [HQ.out]; rfl), FW.out⟩
  | false =>
    by_cases h0 : kind = 0
    · subst h0
      have HQ := hid (show R = true by rw [EQ.out]; rfl)
      clear EQ
      go_wp2_with fail
      go_ret
      exact ⟨(by rw [HQ.out]; rfl), FW.out⟩
    · by_cases h7 : kind = 7
      · subst h7
        have HQ := hid (show R = true by rw [EQ.out]; rfl)
        clear EQ
        go_wp2_with fail
        go_ret
        exact ⟨(by rw [HQ.out]; rfl), FW.out⟩
      · by_cases h6 : kind = 6
        · subst h6
          have HQ := hid (show R = (backD s r0).2 by rw [EQ.out]; rfl)
          have HC := hid (HB.out W (Fr.refl _ _) r0 HREP.out.1)
          clear EQ h0 h7
          go_wp2_with fail
          refine HC.out.mono ?_
          rintro e w1 ⟨rfl, m, rfl⟩
          go_wp2_with fail
          go_ret
          exact ⟨(by rw [HQ.out]; rfl), FW.out.trans ((Fr.refl Non W).drewN m)⟩
        · have k0 : (kind == 0) = false := by simpa using h0
          have k7 : (kind == 7) = false := by simpa using h7
          have k6 : (kind == 6) = false := by simpa using h6
          have n0 : (kind != 0) = true := by simpa using h0
          have n7 : (kind != 7) = true := by simpa using h7
          have n6 : (kind != 6) = true := by simpa using h6
          by_cases hl1 : len < 2
          · have HQ := hid (show R = false by rw [EQ.out, if_neg (by decide), if_neg (by omega), if_neg h6, if_pos (.inl hl1)])
            clear EQ
            go_wp2_with fail
            go_ret
            exact ⟨(by rw [HQ.out]; rfl), FW.out⟩
          · by_cases hl2 : 273 < len
            · have HQ := hid (show R = false by rw [EQ.out, if_neg (by decide), if_neg (by omega), if_neg h6, if_pos (.inr hl2)])
              clear EQ
              go_wp2_with fail
              go_ret
              exact ⟨(by rw [HQ.out]; rfl), FW.out⟩
            · by_cases h1 : kind = 1
              · subst h1
                have HQ := hid (show R = (backD s dist).2 by rw [EQ.out, if_neg (by decide), if_neg (by decide), if_neg (by decide), if_neg (by omega), if_pos rfl])
                have HC := hid (HB.out W (Fr.refl _ _) dist HD.out)
                clear EQ h0 h7 h6 k0 k7 k6 n0 n7 n6
                go_wp2_with fail
                refine HC.out.mono ?_
                rintro e w1 ⟨rfl, m, rfl⟩
                go_wp2_with fail
                go_ret
                exact ⟨(by rw [HQ.out]; rfl), FW.out.trans ((Fr.refl Non W).drewN m)⟩
              · have k1 : (kind == 1) = false := by simpa using h1
                have hway : kind = 2 ∨ kind = 3 ∨ kind = 4 ∨ kind = 5 ∨ (¬ kind = 2 ∧ ¬ kind = 3 ∧ ¬ kind = 4 ∧ ¬ kind = 5) := by omega
                rcases hway with rfl | rfl | rfl | rfl | ⟨h2, h3, h4, h5⟩
                · have HQ := hid (show R = (backD s r0).2 by rw [EQ.out, if_neg (by decide), if_neg (by decide), if_neg (by decide), if_neg (by omega), if_neg (by decide), if_pos (by decide), HRR.out.1]; rfl)
                  clear EQ h0 h7 h6 k0 k7 k6 n0 n7 n6 h1 k1
                  go_upto_region 14 with fail
                  go_quiet ((go_at_call 75; exact Calls.quiet_of (HB.out _ (by first | exact Fr.refl _ _ | exact (Fr.refl Non W).drewN _) r0 HREP.out.1)))
                  go_wp2_with fail
                  go_ret
                  exact ⟨(by rw [HQ.out]; rfl), FW.out.trans ((Fr.refl Non W).drewN _)⟩
                · have HQ := hid (show R = (backD s r1).2 by rw [EQ.out, if_neg (by decide), if_neg (by decide), if_neg (by decide), if_neg (by omega), if_neg (by decide), if_pos (by decide), HRR.out.2.1]; rfl)
                  clear EQ h0 h7 h6 k0 k7 k6 n0 n7 n6 h1 k1
                  go_upto_region 14 with fail
                  go_quiet ((go_at_call 75; exact Calls.quiet_of (HB.out _ (by first | exact Fr.refl _ _ | exact (Fr.refl Non W).drewN _) r1 HREP.out.2.1)))
                  go_wp2_with fail
                  go_ret
                  exact ⟨(by rw [HQ.out]; rfl), FW.out.trans ((Fr.refl Non W).drewN _)⟩
                · have HQ := hid (show R = (backD s r2).2 by rw [EQ.out, if_neg (by decide), if_neg (by decide), if_neg (by decide), if_neg (by omega), if_neg (by decide), if_pos (by decide), HRR.out.2.2.1]; rfl)
                  clear EQ h0 h7 h6 k0 k7 k6 n0 n7 n6 h1 k1
                  go_upto_region 14 with fail
                  go_quiet ((go_at_call 75; exact Calls.quiet_of (HB.out _ (by first | exact Fr.refl _ _ | exact (Fr.refl Non W).drewN _) r2 HREP.out.2.2.1)))
                  go_wp2_with fail
                  go_ret
                  exact ⟨(by rw [HQ.out]; rfl), FW.out.trans ((Fr.refl Non W).drewN _)⟩
                · have HQ := hid (show R = (backD s r3).2 by rw [EQ.out, if_neg (by decide), if_neg (by decide), if_neg (by decide), if_neg (by omega), if_neg (by decide), if_pos (by decide), HRR.out.2.2.2]; rfl)
                  clear EQ h0 h7 h6 k0 k7 k6 n0 n7 n6 h1 k1
                  go_upto_region 14 with fail
                  go_quiet ((go_at_call 75; exact Calls.quiet_of (HB.out _ (by first | exact Fr.refl _ _ | exact (Fr.refl Non W).drewN _) r3 HREP.out.2.2.2)))
                  go_wp2_with fail
                  go_ret
                  exact ⟨(by rw [HQ.out]; rfl), FW.out.trans ((Fr.refl Non W).drewN _)⟩
                · have HQ := hid (show R = false by rw [EQ.out, if_neg (by decide), if_neg (by omega), if_neg h6, if_neg (by omega), if_neg h1, if_neg (by omega)])
                  have k2 : (kind == 2) = false := by simpa using h2
                  have k3 : (kind == 3) = false := by simpa using h3
                  have k4 : (kind == 4) = false := by simpa using h4
                  have k5 : (kind == 5) = false := by simpa using h5
                  clear EQ
                  go_wp2_with fail
                  go_ret
                  exact ⟨(by rw [HQ.out]; rfl), FW.out⟩
end Go.Proofs.Ytjnegcambbeblaa

/- The document's walk through LZMA: a byte is told. -/
namespace Go.Proofs.Ytjnegcambbeblaa
open Go.RowKit

theorem KV.grow {C : Type} {K : Cdr C} {U A : Nat → Prop} {g gp np cap : Nat} {v v' : Value} {w w1 w2 : World} {s : LS} {c : C} {b : Int} (hK : K.Ok) (h : KV K U A g gp np cap v w s c) (hf : Fr Non w w1) (ho : Own w2 0 .u8 5 v' (s.H ++ [b])) (hg : w1.grownBy w2 v.ownBlock) (hv : v'.ownBlock = v.ownBlock ∨ v'.ownBlock = some w1.heap.size) (hb0 : 0 ≤ b) (hb1 : b < 256) :
    KV K U (fun k => A k ∨ (w.heap.size ≤ k ∧ k < (w2.setCell ⟨g, 7, none⟩ v').heap.size)) g gp np cap v' (w2.setCell ⟨g, 7, none⟩ v') { s with H := s.H ++ [b] } c ∧ Fr (KF K U) w (w2.setCell ⟨g, 7, none⟩ v') := by
  have hup := h.up hK
  have F2 : Fr (fun k => v.ownBlock = some k) w w2 := (hf.mono (fun _ _ e => e.elim)).grown hg (fun k hk _ => hk)
  have hng : ¬ v.ownBlock = some g := fun e => (h.sep g e).1 rfl
  have hngp : ¬ v.ownBlock = some gp := fun e => (h.sep gp e).2.1 rfl
  have hvn : ∀ k, v'.ownBlock = some k → v.ownBlock = some k ∨ w.heap.size ≤ k := by
    intro k hk
    rcases hv with e | e
    · exact .inl (e ▸ hk)
    · rw [e] at hk
      injection hk with hk
      exact .inr (by rw [← hk]; exact hf.size)
  have hne : ∀ k, v'.ownBlock = some k → k ≠ g ∧ k ≠ gp := by
    intro k hk
    rcases hvn k hk with e | e
    · exact ⟨(h.sep k e).1, (h.sep k e).2.1⟩
    · have := hup.2.1; have := hup.2.2.2.1; exact ⟨by omega, by omega⟩
  have F3 : Fr (fun k => v.ownBlock = some k ∨ k = g) w (w2.setCell ⟨g, 7, none⟩ v') := (F2.mono (fun _ _ e => .inl e)).then ((Fr.refl (fun k => k = g) _).setOne _ _) (fun _ _ e => .inr e)
  have hsz : (w2.setCell ⟨g, 7, none⟩ v').heap.size = w2.heap.size := by simp
  refine ⟨⟨?_, ?_, ?_, ?_, h.ne, .inl h.ag, .inl h.ap, ?_, ?_, ?_⟩, ?_⟩
  · exact blk_set (i := 7) (F2.blk h.at_ hng)
  · exact (h.row.fr F2 (fun k hk => by
      have e : gp = k := by simpa [Value.ownBlock] using hk
      rw [← e]; exact hngp)).fr ((Fr.refl (fun k => k = g) _).setOne _ _) (fun k hk e => by
      have e2 : gp = k := by simpa [Value.ownBlock] using hk
      exact h.ne (by rw [e2]; exact e.symm))
  · exact ho.fr ((Fr.refl (fun k => k = g) _).setOne _ _) (fun k hk => (hne k hk).1)
  · intro k hk
    refine ⟨(hne k hk).1, (hne k hk).2, ?_⟩
    rcases hvn k hk with e | e
    · exact .inl (h.sep k e).2.2
    · exact .inr ⟨e, by rw [hsz]; exact (ho.block k hk).2⟩
  · exact hK.more _ _ _ _ _ h.co F3 (fun k _ e => by
      rcases e with e | e
      · exact (h.sep k e).2.2
      · rw [e]; exact h.ag)
  · refine ⟨h.ok.pr, h.ok.st, h.ok.rep, h.ok.lc, h.ok.lp, h.ok.pb, h.ok.room, h.ok.few, h.ok.dict, fun x hx => ?_⟩
    rcases List.mem_append.1 hx with e | e
    · exact h.ok.by_ x e
    · rw [List.mem_singleton.1 e]; exact ⟨hb0, hb1⟩
  · intro k hk
    refine ⟨.inl (h.un k hk).1, (h.un k hk).2.1, (h.un k hk).2.2.1, fun e => ?_⟩
    rcases hvn k e with e2 | e2
    · exact (h.un k hk).2.2.2 e2
    · have := (hK.old _ _ _ _ h.co (h.un k hk).1).2; omega
  · exact F3.mono (fun k _ e => by
      rcases e with e | e
      · exact (hup.2.2.2.2 k e).1
      · rw [e]; exact hup.1)
/-- whether what decodes is bad, as the walk asks for it. -/
theorem kdv_none {C : Type} {K : Cdr C} (h : K.gd = none) : K.dv = .pointer none := by unfold Cdr.dv; rw [h]
theorem kdv_some {C : Type} {K : Cdr C} {gd : Nat} (h : K.gd = some gd) : K.dv = .pointer (some ⟨gd, 0, none⟩) := by unfold Cdr.dv; rw [h]
end Go.Proofs.Ytjnegcambbeblaa

/- ref04.Fresh: a row of probabilities that begin. -/
namespace Go.Proofs.Ytjnegcambbeblaa
open Go.RowKit

def RFreshPost (w : World) (n : Nat) (e : Ending) (w' : World) : Prop :=
  ∃ v, e = .returned v ∧ Own w' w.heap.size .u16 40 v (List.replicate n 1024) ∧ Fr Non w w'
theorem info_u16r : (Try.prog.info? 40).map (fun i => (i.zero, i.size, i.bytes)) = some (some (.int .u16 0), 1, 2) := by kernel_rfl
set_option maxRecDepth 100000 in
set_option maxHeartbeats 2000000 in
theorem rfresh_any (n : Nat) (w : World) (hn : n ≤ 65536) :
    Calls Try.prog 74 #[.int .i64 n] w (RFreshPost w n) := by
  go_enter Try.func74, Try.ntmps74
  go_wp2_with fail
  go_loopw [3, 4] (fun pv iv wr => ∃ k : Nat, k ≤ n ∧ iv = .int .i64 k ∧ Own wr w.heap.size .u16 40 pv (List.replicate k 1024) ∧ Fr Non w wr) (fun _ iv _ => n - (intOf iv).toNat)
  case atStart => exact ⟨0, Nat.zero_le _, rfl, Own.nil _ _ _ _, Fr.refl _ _⟩
  case round =>
    obtain ⟨k, hk, rfl, hown, hfr⟩ := hrel
    have HO := hid hown
    have HF := hid hfr
    clear hown hfr
    by_cases hlt : k < n
    · have hsz := HF.out.size
      go_wp2_with (refine opAppend1 (some 12) rfl rfl (.tmp 10) (.tmp 11) 82 rfl w.heap.size .u16 40 2 Try.underlying82 info_u16r _ _ rfl (by exact Own.alloc HO.out _) _ _ _ rfl (by exact cell_new1 _ _ _) (by decide) (by rw [List.length_replicate]; omega) (by simp; omega) ?_; intro v3 w3 hown3 hg3; have HO3 := hid hown3; have HF3 := hid (Fr.grown (HF.out.alloc _) hg3 (fun i hi hlt => absurd (HO.out.block i hi).1 (by omega))); clear hown3 hg3)
      go_roundw
      case rel => exact ⟨k + 1, by omega, by go_num, by rw [List.replicate_succ']; exact HO3.out, HF3.out⟩
      case measure => simp [intOf]; omega
    · have e : k = n := by omega
      subst e
      go_wp2_with fail
      go_ret
      exact ⟨u3, rfl, HO.out, HF.out⟩
end Go.Proofs.Ytjnegcambbeblaa

/- The document's walk through LZMA: New; whether the decoder is through. -/
namespace Go.Proofs.Ytjnegcambbeblaa
open Go.RowKit

/-- the decoder has read all its bytes, and is done. -/
def kleft (n : Nat) (c : RD Nat) : Bool := !c.bad && (decide (c.code = 0) && decide (c.src = n))
set_option maxRecDepth 100000 in
set_option maxHeartbeats 1600000 in
theorem kleft_any {U : Nat → Prop} (a : Option Addr) (n capd : Nat) (f : Nat → Int) (lo gd : Nat) (g gp np cap : Nat) (s : LS) (c : RD Nat) (w : World) (h : KIs (cdrD a n capd f lo gd) U g gp np cap w s c) (hn : n ≤ 30000) :
    Calls Try.prog 64 #[.pointer (some ⟨g, 0, none⟩)] w fun e w' => e = .returned (.bool (kleft n c)) ∧ Fr Non w w' := by
  obtain ⟨A, v, h⟩ := h
  have c4 := h.cellC 4 (x := .pointer (some ⟨gd, 0, none⟩)) rfl
  obtain ⟨hr, _, _⟩ := h.co
  obtain ⟨src, rng, code, bad⟩ := c
  have d0 := blk_cell hr.at_ (j := 0) (v := .slice a n capd) rfl
  have d1 := blk_cell hr.at_ (j := 1) (v := .int .i64 src) rfl
  have d3 := blk_cell hr.at_ (j := 3) (v := .int .u64 code) rfl
  have d4 := blk_cell hr.at_ (j := 4) (v := .bool bad) rfl
  have hsrc : src ≤ n := hr.src
  clear h hr
  unfold kleft
  dsimp only
  cases bad with
  | true =>
    go_enter Try.func64, Try.ntmps64
    go_wp2_with fail
    go_quiet (fail)
    go_wp2_with fail
    go_ret
    exact ⟨rfl, (Fr.refl _ _).drewN _⟩
  | false =>
    by_cases hc : code = 0
    · subst hc
      by_cases hs : src = n
      · subst hs
        rw [decide_eq_true rfl, decide_eq_true rfl]
        go_enter Try.func64, Try.ntmps64
        go_wp2_with fail
        go_quiet (fail)
        go_wp2_with fail
        go_ret
        exact ⟨rfl, (Fr.refl _ _).drewN _⟩
      · rw [decide_eq_true rfl, decide_eq_false hs]
        have hs' : ((src : Int) == (n : Int)) = false := by simp; omega
        clear hs
        go_enter Try.func64, Try.ntmps64
        go_wp2_with fail
        go_quiet (fail)
        go_wp2_with fail
        go_ret
        exact ⟨rfl, (Fr.refl _ _).drewN _⟩
    · rw [decide_eq_false hc]
      have hc' : (code == 0) = false := by simpa using hc
      have hc2 : decide (code = 0) = false := by simpa using hc
      clear hc
      go_enter Try.func64, Try.ntmps64
      go_wp2_with fail
      go_quiet (fail)
      go_wp2_with fail
      go_ret
      exact ⟨rfl, (Fr.refl _ _).drewN _⟩
end Go.Proofs.Ytjnegcambbeblaa
