/- Texts of this proof, one behind the other. -/
import Derived.Test.YtjnegcambbeblaaMg16
import Derived.Test.YtjnegcambbeblaaMg09
import Derived.Test.YtjnegcambbeblaaKzXQ

/- The document's walk over its decoder, plain: bad packets of elder distances. -/
namespace Go.Proofs.Ytjnegcambbeblaa
open Go.RowKit

section
variable (a : Option Addr) (n cap : Nat) (f : Nat → Int) (lo gd : Nat)
theorem kpacket_againBad {L : LL} {s : LS} (c : RD Nat) (p : PkV) (hr : RingOk L.n s) (hN : 0 < L.n) (hp : s.place = s.H.length) (hb : s.bad = false) (he : s.ended = false)
    (h0 : (lbit (feedNx f n) s.P c (16 * s.st + s.place % 2 ^ s.pb)).1 ≠ 0) (h1 : (lbit (feedNx f n) (lbit (feedNx f n) s.P c (16 * s.st + s.place % 2 ^ s.pb)).2.1 (lbit (feedNx f n) s.P c (16 * s.st + s.place % 2 ^ s.pb)).2.2 (192 + s.st)).1 ≠ 0)
    (ht : (lpacket (feedNx f n) L s c).2.1.left = 0) : kstops (kpacket (cdrD a n cap f lo gd) (bare s) c p) := by
  obtain ⟨r1, hr1⟩ : ∃ r, r = lbit (feedNx f n) (lbit (feedNx f n) s.P c (16 * s.st + s.place % 2 ^ s.pb)).2.1 (lbit (feedNx f n) s.P c (16 * s.st + s.place % 2 ^ s.pb)).2.2 (192 + s.st) := ⟨_, rfl⟩
  have hr1' : (lbit (feedNx f n) (lbit (feedNx f n) (bare s).P c (16 * (bare s).st + s.place % 2 ^ s.pb)).2.1 (lbit (feedNx f n) (bare s).P c (16 * (bare s).st + s.place % 2 ^ s.pb)).2.2 (192 + (bare s).st)) = r1 := hr1.symm
  have h0' : ¬ (lbit (feedNx f n) (bare s).P c (16 * (bare s).st + s.place % 2 ^ s.pb)).1 = 0 := h0
  have h1' : ¬ (lbit (feedNx f n) (lbit (feedNx f n) (bare s).P c (16 * (bare s).st + s.place % 2 ^ s.pb)).2.1 (lbit (feedNx f n) (bare s).P c (16 * (bare s).st + s.place % 2 ^ s.pb)).2.2 (192 + (bare s).st)).1 = 0 := h1
  unfold kpacket
  rw [show (bare s).H.length % 2 ^ (bare s).pb = s.place % 2 ^ s.pb by rw [hp]; rfl]
  by_cases hmin : min s.H.length L.n = 0
  · have hH : s.H.length = 0 := by omega
    have hk : kkind (cdrD a n cap f lo gd) (bare s) c (s.place % 2 ^ s.pb) p.kind = ((6, true), r1.2) := by
      unfold kkind kkind0
      rw [kbit_D, if_neg h0']
      unfold kkind1
      rw [kbit_D, if_neg h1', if_pos (show (bare s).H.length = 0 from hH), hr1']
    rw [hk]
    show kstops (kpacket2 (cdrD a n cap f lo gd) { bare s with P := r1.2.1, bad := (bare s).bad || true } r1.2.2 (s.place % 2 ^ s.pb) p 6)
    unfold kpacket2
    rw [if_neg (by decide)]
    unfold kmid
    rw [if_neg (by decide), if_pos rfl]
    refine kend_stops a n cap f lo gd (N := L.n) _ (.inr (.inl ?_))
    show ((bare s).bad || true) = true
    simp
  · obtain ⟨F, hF⟩ : ∃ F, F = lagain (feedNx f n) { s with P := r1.2.1 } r1.2.2 (s.place % 2 ^ s.pb) := ⟨_, rfl⟩
    have hpk : lpacket (feedNx f n) L s c = ((0, false), lpEnd L { F.2.1 with left := F.1 } F.2.2, F.2.2) := by
      unfold lpacket
      dsimp only
      rw [if_neg h0, if_neg h1, if_neg hmin, hF, hr1]
    rw [hpk] at ht
    dsimp only at ht
    obtain ⟨Q, hQ⟩ : ∃ Q, Q = lagPick (feedNx f n) r1.2.1 r1.2.2 s.st (s.place % 2 ^ s.pb) := ⟨_, rfl⟩
    have hk : kkind (cdrD a n cap f lo gd) (bare s) c (s.place % 2 ^ s.pb) p.kind = ((pickN Q.1, false), Q.2) := by
      unfold kkind kkind0
      rw [kbit_D, if_neg h0']
      unfold kkind1
      rw [kbit_D, if_neg h1', if_neg (show ¬ (bare s).H.length = 0 by show ¬ s.H.length = 0; omega)]
      obtain ⟨q1, q2⟩ := kpick_D a n cap f lo gd r1.2.1 r1.2.2 s.st (s.place % 2 ^ s.pb) p.kind (chz (p.kind == 2 || p.kind == 6))
      rw [← hQ] at q1 q2
      rw [hr1']
      show ((_, false), _) = _
      rw [show (bare s).st = s.st from rfl, q1, q2]
    rw [hk]
    obtain ⟨S, hS⟩ : ∃ S : LS, S = { bare s with P := Q.2.1, bad := (bare s).bad || false } := ⟨_, rfl⟩
    show kstops (kpacket2 (cdrD a n cap f lo gd) { bare s with P := Q.2.1, bad := (bare s).bad || false } Q.2.2 (s.place % 2 ^ s.pb) p (pickN Q.1))
    rw [← hS]
    have hFH : F.2.1.H = s.H ∧ F.2.1.dict = s.dict ∧ F.2.1.bad = s.bad ∧ F.2.1.ended = s.ended ∧ F.1 ≠ 0 := by
      have e := lagain_H (feedNx f n) { s with P := r1.2.1 } r1.2.2 (s.place % 2 ^ s.pb)
      rw [hF]
      refine ⟨e, ?_⟩
      unfold lagain
      split
      · exact ⟨rfl, rfl, rfl, by show (1 : Nat) ≠ 0; decide⟩
      · exact ⟨rfl, rfl, rfl, by show _ + 2 ≠ 0; omega⟩
    unfold kpacket2
    cases hq : Q.1 with
    | none =>
      rw [show pickN none = 6 from rfl, if_neg (by decide)]
      unfold kmid
      rw [if_neg (by decide), if_pos rfl]
      have hFe : F = (1, { s with P := Q.2.1, st := nextL s.st 9 11 }, Q.2.2) := by
        rw [hF, hQ]
        unfold lagain
        dsimp only
        rw [← hQ, hq]
      refine kend_stops a n cap f lo gd (N := L.n) _ ?_
      dsimp only
      by_cases hg : Q.2.2.bad = true
      · exact .inl hg
      · have hg' : F.2.2.bad = false := by rw [hFe]; simpa using hg
        unfold lpEnd at ht
        rw [if_neg (by show ¬ ((F.2.1.bad || F.2.2.bad) || F.2.1.ended) = true; rw [hFH.2.2.1, hb, hg', hFH.2.2.2.1, he]; decide)] at ht
        by_cases hd : F.2.1.dict ≤ F.2.1.rep 0 ∨ ¬ F.2.1.rep 0 < min F.2.1.H.length L.n
        · refine .inr (.inr (.inr ⟨?_, by decide, ?_⟩))
          · rw [hS]; exact hr
          · rw [hS]
            rw [hFe] at hd
            exact hd
        · rw [if_neg hd] at ht
          exact absurd ht hFH.2.2.2.2
    | some k =>
      have hk3 := pick_le (feedNx f n) r1.2.1 r1.2.2 s.st (s.place % 2 ^ s.pb) k (by rw [← hQ]; exact hq)
      rw [show pickN (some k) = k + 2 from rfl, if_neg (by omega)]
      unfold kmid
      rw [if_neg (by omega), if_neg (by omega), show k + 2 - 2 = k by omega]
      have hFe : F = lagEnd (feedNx f n) { s with P := Q.2.1, rep := if k = 0 then s.rep else rotL s.rep k } Q.2.2 (s.place % 2 ^ s.pb) := by
        rw [hF, hQ]
        unfold lagain
        dsimp only
        rw [← hQ, hq]
      have hSF : lagEnd (feedNx f n) { S with rep := if k = 0 then S.rep else rotL S.rep k } Q.2.2 (s.place % 2 ^ s.pb) = (F.1, { F.2.1 with place := 0, left := 0, bad := (s.bad || false) }, F.2.2) := by
        rw [hS, hFe]
        rfl
      cases hg : F.2.2.bad with
      | true =>
        refine kend_stops a n cap f lo gd (N := L.n) _ (.inl ?_)
        show (klen (cdrD a n cap f lo gd) S.P Q.2.2 1333 (s.place % 2 ^ s.pb) (p.len - 2)).2.2.bad = true
        rw [(klen_D a n cap f lo gd S.P Q.2.2 1333 (s.place % 2 ^ s.pb) (p.len - 2)).1]
        have e : (ltell (feedNx f n) S.P Q.2.2 1333 (s.place % 2 ^ s.pb)).2.2 = F.2.2 := by rw [hS, hFe]; rfl
        rw [e]
        exact hg
      | false =>
        rw [kmid2_D a n cap f lo gd S Q.2.2 (s.place % 2 ^ s.pb) k (p.len - 2) (by rw [hSF]; exact hg), hSF]
        refine kend_stops a n cap f lo gd (N := L.n) _ ?_
        dsimp only
        unfold lpEnd at ht
        rw [if_neg (by show ¬ ((F.2.1.bad || F.2.2.bad) || F.2.1.ended) = true; rw [hFH.2.2.1, hb, hg, hFH.2.2.2.1, he]; decide)] at ht
        by_cases hd : F.2.1.dict ≤ F.2.1.rep 0 ∨ ¬ F.2.1.rep 0 < min F.2.1.H.length L.n
        · refine .inr (.inr (.inr ⟨?_, hFH.2.2.2.2, hd⟩))
          intro d
          show d < min F.2.1.H.length L.n ↔ (d < F.2.1.H.length ∧ d < F.2.1.dict)
          rw [hFH.1, hFH.2.1]
          exact hr d
        · rw [if_neg hd] at ht
          exact absurd ht hFH.2.2.2.2
end
end Go.Proofs.Ytjnegcambbeblaa

/- The document's decoder, plain: packets until there is enough. -/
namespace Go.Proofs.Ytjnegcambbeblaa
open Go.RowKit

/-- the document's packets until there are so many bytes: the state, the coder; or nothing. -/
def kgo {C : Type} (K : Cdr C) (p : PkV) (size : Nat) : Nat → LS → C → Option (LS × C)
  | 0, s, c => some (s, c)
  | k + 1, s, c =>
    if size ≤ s.H.length then some (s, c)
    else if ((kpacket K s c p).1.bad || (kpacket K s c p).1.ended || K.bad (kpacket K s c p).2.1) = true ∨ size < (kpacket K s c p).1.H.length then none
    else kgo K p size k (kpacket K s c p).1 (kpacket K s c p).2.1
/-- between two packets. -/
structure Betw (s : LS) : Prop where
  left : s.left = 0
  place : s.place = s.H.length
  bad : s.bad = false
  ended : s.ended = false
section
variable {T : Type} (nx : T → Int × Bool × T) (L : LL)
theorem lrun_head (s : LS) (d : RD T) : ∀ k, lrun nx L (k + 1) s d = lrun nx L k (lnext nx L s d).2.1 (lnext nx L s d).2.2
  | 0 => rfl
  | k + 1 => by
    show (lnext nx L (lrun nx L (k + 1) s d).1 (lrun nx L (k + 1) s d).2).2 = (lnext nx L (lrun nx L k _ _).1 (lrun nx L k _ _).2).2
    rw [lrun_head s d k]
theorem lok_head (s : LS) (d : RD T) (k : Nat) : lok nx L s d (k + 1) = lok nx L (lnext nx L s d).2.1 (lnext nx L s d).2.2 k := by
  unfold lok
  rw [lrun_head]
theorem lrun_add (s : LS) (d : RD T) (i : Nat) : ∀ j, lrun nx L (i + j) s d = lrun nx L j (lrun nx L i s d).1 (lrun nx L i s d).2
  | 0 => rfl
  | j + 1 => by
    show (lnext nx L (lrun nx L (i + j) s d).1 (lrun nx L (i + j) s d).2).2 = (lnext nx L (lrun nx L j _ _).1 (lrun nx L j _ _).2).2
    rw [lrun_add s d i j]
theorem lok_add (s : LS) (d : RD T) (i j : Nat) : lok nx L s d (i + j) = lok nx L (lrun nx L i s d).1 (lrun nx L i s d).2 j := by
  unfold lok
  rw [lrun_add]
theorem lnext_tells (s : LS) (d : RD T) (h : (lnext nx L s d).1.2 = true) : (lnext nx L s d).2.1.H = s.H ++ [(lnext nx L s d).1.1] := by
  have h2 : ∀ (s : LS) (d : RD T), (lnext2 L s d).1.2 = true → (lnext2 L s d).2.1.H = s.H ++ [(lnext2 L s d).1.1] := by
    intro s d h
    unfold lnext2 at h ⊢
    split
    · rename_i h0; rw [if_pos h0] at h; cases h
    · rfl
  have e := (lpacket_same nx L s d).H
  unfold lnext at h ⊢
  by_cases h0 : s.bad = true ∨ s.ended = true
  · rw [if_pos h0] at h; cases h
  · rw [if_neg h0] at h ⊢
    by_cases hl : s.left = 0
    · rw [if_pos hl] at h ⊢
      by_cases hk : (lpacket nx L s d).1.2 = true
      · rw [if_pos hk]
        show (lpacket nx L s d).2.1.H ++ _ = _
        rw [e]
      · rw [if_neg hk] at h ⊢
        rw [h2 _ _ h, e]
    · rw [if_neg hl] at h ⊢
      exact h2 _ _ h
/-- what a run that tells has told. -/
theorem lrun_told (s : LS) (d : RD T) : ∀ k, (∀ i, i < k → lok nx L s d i = true) → (lrun nx L k s d).1.H = s.H ++ lbytes nx L s d k
  | 0, _ => by show s.H = s.H ++ []; rw [List.append_nil]
  | k + 1, h => by
    have h1 := lnext_tells nx L (lrun nx L k s d).1 (lrun nx L k s d).2 (h k (by omega))
    have h2 := lrun_told s d k (fun i hi => h i (by omega))
    show (lnext nx L (lrun nx L k s d).1 (lrun nx L k s d).2).2.1.H = _
    rw [h1, h2, lbytes_snoc, List.append_assoc]
    rfl
theorem lrun_copy (d : RD T) : ∀ (k : Nat) (s : LS), s.bad = false → s.ended = false → k ≤ s.left → lrun nx L k s d = ({ s with left := s.left - k, place := s.place + k, H := copyH L.n k s.H (s.rep 0) }, d) ∧ ∀ i, i < k → lok nx L s d i = true
  | 0, s, _, _, _ => ⟨rfl, fun i hi => absurd hi (by omega)⟩
  | k + 1, s, hb, he, hk => by
    have h1 : lnext nx L s d = ((backH s.H L.n (s.rep 0), true), { s with left := s.left - 1, place := s.place + 1, H := s.H ++ [backH s.H L.n (s.rep 0)] }, d) := by
      unfold lnext
      rw [if_neg (by rw [hb, he]; decide), if_neg (by omega)]
      unfold lnext2
      rw [if_neg (by omega)]
    obtain ⟨i1, i2⟩ := lrun_copy d k { s with left := s.left - 1, place := s.place + 1, H := s.H ++ [backH s.H L.n (s.rep 0)] } hb he (by show k ≤ s.left - 1; omega)
    refine ⟨?_, ?_⟩
    · rw [lrun_head, h1, i1]
      show (({ s with left := s.left - 1 - k, place := s.place + 1 + k, H := copyH L.n k (s.H ++ [backH s.H L.n (s.rep 0)]) (s.rep 0) } : LS), d) = (({ s with left := s.left - (k + 1), place := s.place + (k + 1), H := copyH L.n k (s.H ++ [backH s.H L.n (s.rep 0)]) (s.rep 0) } : LS), d)
      rw [show s.left - 1 - k = s.left - (k + 1) by omega, show s.place + 1 + k = s.place + (k + 1) by omega]
    · intro i hi
      cases i with
      | zero =>
        show (lnext nx L s d).1.2 = true
        rw [h1]
      | succ i =>
        rw [lok_head, h1]
        exact i2 i (by omega)
theorem lpacket_left {s : LS} {d : RD T} (hB : s.left = 0) (h : (lpacket nx L s d).2.1.left ≠ 0) : (lpacket nx L s d).1.2 = false ∧ (lpacket nx L s d).2.1.bad = false ∧ (lpacket nx L s d).2.1.ended = false ∧ (lpacket nx L s d).2.2.bad = false ∧ (lbit nx s.P d (16 * s.st + s.place % 2 ^ s.pb)).1 ≠ 0 := by
  unfold lpacket at h ⊢
  dsimp only at h ⊢
  by_cases h0 : (lbit nx s.P d (16 * s.st + s.place % 2 ^ s.pb)).1 = 0
  · rw [if_pos h0] at h
    exact absurd hB h
  · rw [if_neg h0] at h ⊢
    split at h
    · rename_i h1
      rw [if_pos h1]
      have g := lpEnd_good _ _ _ h
      exact ⟨rfl, by rw [g.1], by rw [g.1]; exact g.2.2.2.1, g.2.2.1, h0⟩
    · rename_i h1
      rw [if_neg h1]
      split at h
      · rename_i h2
        rw [if_pos h2]
        have g := lpEnd_good _ _ _ h
        exact ⟨rfl, by rw [g.1], by rw [g.1]; exact g.2.2.2.1, g.2.2.1, h0⟩
      · rename_i h2
        rw [if_neg h2]
        have g := lpEnd_good _ _ _ h
        exact ⟨rfl, by rw [g.1], by rw [g.1]; exact g.2.2.2.1, g.2.2.1, h0⟩
theorem lpacket_lit {s : LS} {d : RD T} (h : (lpacket nx L s d).1.2 = true) : (lpacket nx L s d).2.2.bad = false ∧ (lpacket nx L s d).2.1.bad = false ∧ (lpacket nx L s d).2.1.ended = s.ended ∧ (lpacket nx L s d).2.1.left = s.left := by
  unfold lpacket at h ⊢
  dsimp only at h ⊢
  by_cases h0 : (lbit nx s.P d (16 * s.st + s.place % 2 ^ s.pb)).1 = 0
  · rw [if_pos h0] at h ⊢
    have h' := h
    dsimp only at h' ⊢
    have h2 : (llit nx L { s with P := (lbit nx s.P d (16 * s.st + s.place % 2 ^ s.pb)).2.1 } (lbit nx s.P d (16 * s.st + s.place % 2 ^ s.pb)).2.2).2.2.bad = false := by simpa using h'
    exact ⟨h2, h2, rfl, rfl⟩
  · rw [if_neg h0] at h
    split at h
    · cases h
    · split at h <;> cases h
theorem lrun_pk {s : LS} {d : RD T} (hB : Betw s) (hl : (lpacket nx L s d).2.1.left ≠ 0) (k : Nat) : lrun nx L (k + 1) s d = lrun nx L (k + 1) (lpacket nx L s d).2.1 (lpacket nx L s d).2.2 ∧ lok nx L s d k = lok nx L (lpacket nx L s d).2.1 (lpacket nx L s d).2.2 k := by
  obtain ⟨g1, g2, g3, g4, _⟩ := lpacket_left nx L hB.left hl
  have hN : lnext nx L s d = lnext nx L (lpacket nx L s d).2.1 (lpacket nx L s d).2.2 := by
    obtain ⟨r, hr⟩ : ∃ r, r = lpacket nx L s d := ⟨_, rfl⟩
    rw [← hr] at g1 g2 g3 hl ⊢
    have e1 : lnext nx L s d = lnext2 L r.2.1 r.2.2 := by
      unfold lnext
      rw [if_neg (by rw [hB.bad, hB.ended]; decide), if_pos hB.left, ← hr, if_neg (by rw [g1]; decide)]
    have e2 : lnext nx L r.2.1 r.2.2 = lnext2 L r.2.1 r.2.2 := by
      unfold lnext
      rw [if_neg (by rw [g2, g3]; decide), if_neg hl]
    rw [e1, e2]
  refine ⟨by rw [lrun_head, lrun_head, hN], ?_⟩
  cases k with
  | zero =>
    show (lnext nx L s d).1.2 = (lnext nx L (lpacket nx L s d).2.1 (lpacket nx L s d).2.2).1.2
    rw [← hN]
  | succ k => rw [lok_head, lok_head, hN]
end
section
variable (a : Option Addr) (n cap : Nat) (f : Nat → Int) (lo gd : Nat)
theorem ringUp_self {N dict : Nat} (h : N = dict) (M : Nat) : RingUp N dict M := by
  intro m d _
  rw [h]
  omega
theorem kpacket_stops {L : LL} {s : LS} (c : RD Nat) (p : PkV) (hn : L.n = s.dict) (hN : 0 < s.dict) (hB : Betw s) (h1 : (lpacket (feedNx f n) L s c).1.2 = false) (hl : (lpacket (feedNx f n) L s c).2.1.left = 0) : kstops (kpacket (cdrD a n cap f lo gd) (bare s) c p) := by
  have hr : RingOk L.n s := (ringUp_self hn s.H.length).ok (Nat.le_refl _)
  by_cases h0 : (lbit (feedNx f n) s.P c (16 * s.st + s.place % 2 ^ s.pb)).1 = 0
  · exact kpacket_litBad a n cap f lo gd c p hr hB.place h0 h1
  · by_cases h2 : (lbit (feedNx f n) (lbit (feedNx f n) s.P c (16 * s.st + s.place % 2 ^ s.pb)).2.1 (lbit (feedNx f n) s.P c (16 * s.st + s.place % 2 ^ s.pb)).2.2 (192 + s.st)).1 = 0
    · exact kpacket_farBad a n cap f lo gd c p hr hB.place hB.bad hB.ended h0 h2 hl
    · exact kpacket_againBad a n cap f lo gd c p hr (by rw [hn]; exact hN) hB.place hB.bad hB.ended h0 h2 hl
theorem kpacket_copies {L : LL} {s : LS} (c : RD Nat) (p : PkV) (hn : L.n = s.dict) (hB : Betw s) (hl : (lpacket (feedNx f n) L s c).2.1.left ≠ 0) :
    kpacket (cdrD a n cap f lo gd) (bare s) c p = (bare { (lpacket (feedNx f n) L s c).2.1 with H := copyH L.n (lpacket (feedNx f n) L s c).2.1.left s.H ((lpacket (feedNx f n) L s c).2.1.rep 0) }, (lpacket (feedNx f n) L s c).2.2, (lpacket (feedNx f n) L s c).2.1.left) := by
  obtain ⟨_, _, _, _, h0⟩ := lpacket_left (feedNx f n) L hB.left hl
  by_cases h2 : (lbit (feedNx f n) (lbit (feedNx f n) s.P c (16 * s.st + s.place % 2 ^ s.pb)).2.1 (lbit (feedNx f n) s.P c (16 * s.st + s.place % 2 ^ s.pb)).2.2 (192 + s.st)).1 = 0
  · exact kpacket_far a n cap f lo gd c p (ringUp_self hn _) hB.place hB.bad hB.ended h0 h2 hl (Nat.le_refl _)
  · exact kpacket_again a n cap f lo gd c p (ringUp_self hn _) hB.place hB.bad h0 h2 hl (Nat.le_refl _)
/-- the document's packets beside the program's run. -/
theorem kgo_run {L : LL} (p : PkV) (size : Nat) : ∀ (k : Nat) (s : LS) (c : RD Nat), Betw s → L.n = s.dict → 0 < s.dict → size - s.H.length ≤ k → s.H.length ≤ size →
    (∃ s' c', kgo (cdrD a n cap f lo gd) p size k (bare s) c = some (bare s', c') ∧ lrun (feedNx f n) L (size - s.H.length) s c = (s', c') ∧ (∀ i, i < size - s.H.length → lok (feedNx f n) L s c i = true) ∧ Betw s' ∧ s'.H.length = size) ∨
    (kgo (cdrD a n cap f lo gd) p size k (bare s) c = none ∧ ((∃ i, i < size - s.H.length ∧ lok (feedNx f n) L s c i = false) ∨ (lrun (feedNx f n) L (size - s.H.length) s c).1.left ≠ 0)) := by
  intro k
  induction k with
  | zero =>
    intro s c hB hn hN hk hs
    have h0 : size - s.H.length = 0 := by omega
    rw [h0]
    exact .inl ⟨s, c, rfl, rfl, fun i hi => absurd hi (by omega), hB, by omega⟩
  | succ k ih =>
    intro s c hB hn hN hk hs
    by_cases h : size ≤ s.H.length
    · have h0 : size - s.H.length = 0 := by omega
      rw [h0]
      refine .inl ⟨s, c, ?_, rfl, fun i hi => absurd hi (by omega), hB, by omega⟩
      unfold kgo
      rw [if_pos (show size ≤ (bare s).H.length from h)]
    · have hb' : ¬ size ≤ (bare s).H.length := h
      obtain ⟨m, hm⟩ : ∃ m, size - s.H.length = m + 1 := ⟨size - s.H.length - 1, by omega⟩
      rw [hm]
      by_cases h1 : (lpacket (feedNx f n) L s c).1.2 = true
      · have e := kpacket_lit a n cap f lo gd c p ((ringUp_self hn s.H.length).ok (Nat.le_refl _)) hB.place hB.bad h1
        obtain ⟨g1, g2, g3, g4⟩ := lpacket_lit (feedNx f n) L h1
        have hsame := lpacket_same (feedNx f n) L s c
        have hN2 : lnext (feedNx f n) L s c = (((((lpacket (feedNx f n) L s c).1.1 : Nat) : Int), true), lputS (lpacket (feedNx f n) L s c).2.1 (((lpacket (feedNx f n) L s c).1.1 : Nat) : Int), (lpacket (feedNx f n) L s c).2.2) := by
          unfold lnext
          rw [if_neg (by rw [hB.bad, hB.ended]; decide), if_pos hB.left, if_pos h1]
        obtain ⟨r, hr⟩ : ∃ r, r = lpacket (feedNx f n) L s c := ⟨_, rfl⟩
        rw [← hr] at e g1 g2 g3 g4 hsame hN2
        obtain ⟨s1, hs1⟩ : ∃ x, x = lputS r.2.1 (r.1.1 : Nat) := ⟨_, rfl⟩
        have hH1 : s1.H = s.H ++ [((r.1.1 : Nat) : Int)] := by rw [hs1, ← hsame.H]; rfl
        have hbs : bare { r.2.1 with H := s.H ++ [((r.1.1 : Nat) : Int)] } = bare s1 := by
          rw [hs1, ← hsame.H]
          rfl
        rw [hbs] at e
        rw [← hs1] at hN2
        have hlen1 : s1.H.length = s.H.length + 1 := by rw [hH1]; simp
        have hB1 : Betw s1 := ⟨by rw [hs1]; exact g4.trans hB.left, by rw [hlen1, ← hB.place, ← hsame.place, hs1]; rfl, by rw [hs1]; exact g2, by rw [hs1]; exact g3.trans hB.ended⟩
        have hd1 : s1.dict = s.dict := by rw [hs1]; exact hsame.dict
        have hstep : kgo (cdrD a n cap f lo gd) p size (k + 1) (bare s) c = kgo (cdrD a n cap f lo gd) p size k (bare s1) r.2.2 := by
          show (if size ≤ (bare s).H.length then _ else _) = _
          rw [if_neg hb', e]
          dsimp only
          rw [if_neg]
          rintro (q | q)
          · have e1 : (bare s1).bad = false := hB1.bad
            have e2 : (bare s1).ended = false := hB1.ended
            have e3 : (cdrD a n cap f lo gd).bad r.2.2 = false := g1
            rw [e1, e2, e3] at q
            cases q
          · have q' : size < s1.H.length := q
            omega
        rw [hstep, lrun_head, hN2]
        have hm1 : size - s1.H.length = m := by omega
        have hI := ih s1 r.2.2 hB1 (hn.trans hd1.symm) (by rw [hd1]; exact hN) (by omega) (by omega)
        rw [hm1] at hI
        have hlok0 : lok (feedNx f n) L s c 0 = true := by show (lnext (feedNx f n) L s c).1.2 = true; rw [hN2]
        rcases hI with ⟨s', c', i1, i2, i3, i4, i5⟩ | ⟨i1, i2⟩
        · refine .inl ⟨s', c', i1, i2, ?_, i4, i5⟩
          intro i hi
          cases i with
          | zero => exact hlok0
          | succ i => rw [lok_head, hN2]; exact i3 i (by omega)
        · refine .inr ⟨i1, ?_⟩
          rcases i2 with ⟨i, hi, q⟩ | q
          · exact .inl ⟨i + 1, by omega, by rw [lok_head, hN2]; exact q⟩
          · exact .inr q
      · have h1' : (lpacket (feedNx f n) L s c).1.2 = false := by simpa using h1
        by_cases hl : (lpacket (feedNx f n) L s c).2.1.left = 0
        · have hst := kpacket_stops a n cap f lo gd c p hn hN hB h1' hl
          refine .inr ⟨?_, .inl ⟨0, by omega, ?_⟩⟩
          · show (if size ≤ (bare s).H.length then _ else _) = _
            rw [if_neg hb', if_pos]
            left
            have hst' : (kpacket (cdrD a n cap f lo gd) (bare s) c p).1.bad = true ∨ (kpacket (cdrD a n cap f lo gd) (bare s) c p).1.ended = true ∨ (cdrD a n cap f lo gd).bad (kpacket (cdrD a n cap f lo gd) (bare s) c p).2.1 = true := hst
            rcases hst' with q | q | q
            · rw [q]; simp
            · rw [q]; simp
            · rw [q]; simp
          · show (lnext (feedNx f n) L s c).1.2 = false
            unfold lnext
            rw [if_neg (by rw [hB.bad, hB.ended]; decide), if_pos hB.left, if_neg h1]
            unfold lnext2
            rw [if_pos hl]
        · have e := kpacket_copies a n cap f lo gd c p hn hB hl
          obtain ⟨g1, g2, g3, g4, _⟩ := lpacket_left (feedNx f n) L hB.left hl
          have hsame := lpacket_same (feedNx f n) L s c
          have hpk := fun j => lrun_pk (feedNx f n) L hB hl j
          obtain ⟨r, hr⟩ : ∃ r, r = lpacket (feedNx f n) L s c := ⟨_, rfl⟩
          rw [← hr] at e g1 g2 g3 g4 hsame hl
          simp only [← hr] at hpk
          obtain ⟨q, hq⟩ : ∃ q, r.2.1.left = q + 1 := ⟨r.2.1.left - 1, by omega⟩
          by_cases ho : s.H.length + r.2.1.left ≤ size
          · obtain ⟨c1, c2⟩ := lrun_copy (feedNx f n) L r.2.2 r.2.1.left r.2.1 g2 g3 (Nat.le_refl _)
            obtain ⟨s1, hs1⟩ : ∃ x : LS, x = { r.2.1 with left := r.2.1.left - r.2.1.left, place := r.2.1.place + r.2.1.left, H := copyH L.n r.2.1.left r.2.1.H (r.2.1.rep 0) } := ⟨_, rfl⟩
            rw [← hs1] at c1
            have hlen1 : s1.H.length = s.H.length + r.2.1.left := by rw [hs1, hsame.H]; exact copyH_len _ _ _ _
            have hbs : bare { r.2.1 with H := copyH L.n r.2.1.left s.H (r.2.1.rep 0) } = bare s1 := by
              rw [hs1, hsame.H]
              rfl
            rw [hbs] at e
            have hB1 : Betw s1 := ⟨by rw [hs1]; exact Nat.sub_self _, by rw [hlen1, ← hB.place, ← hsame.place, hs1], by rw [hs1]; exact g2, by rw [hs1]; exact g3⟩
            have hd1 : s1.dict = s.dict := by rw [hs1]; exact hsame.dict
            have hstep : kgo (cdrD a n cap f lo gd) p size (k + 1) (bare s) c = kgo (cdrD a n cap f lo gd) p size k (bare s1) r.2.2 := by
              show (if size ≤ (bare s).H.length then _ else _) = _
              rw [if_neg hb', e]
              dsimp only
              rw [if_neg]
              rintro (q | q)
              · have e1 : (bare s1).bad = false := hB1.bad
                have e2 : (bare s1).ended = false := hB1.ended
                have e3 : (cdrD a n cap f lo gd).bad r.2.2 = false := g4
                rw [e1, e2, e3] at q
                cases q
              · have q' : size < s1.H.length := q
                omega
            have hrq : lrun (feedNx f n) L r.2.1.left s c = (s1, r.2.2) := by
              have := (hpk q).1
              rw [← hq] at this
              rw [this]
              exact c1
            have hlq : ∀ i, i < r.2.1.left → lok (feedNx f n) L s c i = true := fun i hi => by rw [(hpk i).2]; exact c2 i hi
            obtain ⟨m2, hm2⟩ : ∃ m2, m2 = size - s1.H.length := ⟨_, rfl⟩
            have hmm : m + 1 = r.2.1.left + m2 := by omega
            rw [hstep, hmm, lrun_add, hrq]
            have hI := ih s1 r.2.2 hB1 (hn.trans hd1.symm) (by rw [hd1]; exact hN) (by omega) (by omega)
            rw [← hm2] at hI
            rcases hI with ⟨s', c', i1, i2, i3, i4, i5⟩ | ⟨i1, i2⟩
            · refine .inl ⟨s', c', i1, i2, ?_, i4, i5⟩
              intro i hi
              by_cases hi2 : i < r.2.1.left
              · exact hlq i hi2
              · rw [show i = r.2.1.left + (i - r.2.1.left) by omega, lok_add, hrq]
                exact i3 _ (by omega)
            · refine .inr ⟨i1, ?_⟩
              rcases i2 with ⟨i, hi, q9⟩ | q9
              · exact .inl ⟨r.2.1.left + i, by omega, by rw [lok_add, hrq]; exact q9⟩
              · exact .inr q9
          · refine .inr ⟨?_, .inr ?_⟩
            · show (if size ≤ (bare s).H.length then _ else _) = _
              rw [if_neg hb', if_pos]
              right
              rw [e]
              show size < (copyH L.n r.2.1.left s.H (r.2.1.rep 0)).length
              rw [copyH_len]
              omega
            · rw [(hpk m).1]
              obtain ⟨c1, _⟩ := lrun_copy (feedNx f n) L r.2.2 (m + 1) r.2.1 g2 g3 (by omega)
              rw [c1]
              show r.2.1.left - (m + 1) ≠ 0
              omega
end
end Go.Proofs.Ytjnegcambbeblaa

/- The document's decoder, plain: the end mark. -/
namespace Go.Proofs.Ytjnegcambbeblaa
open Go.RowKit

theorem kcopy_ended : ∀ (k i : Nat) (s : LS), (kcopy k i s).1.ended = s.ended
  | 0, _, _ => rfl
  | k + 1, i, s => by
    unfold kcopy
    split
    · exact kcopy_ended k (i + 1) _
    · rfl
theorem kend_ended {C : Type} (K : Cdr C) (m : LS × C × Nat) : (kend K m).1.ended = m.1.ended := by
  have key : ∀ (s : LS) (k : Nat), (kend2 s k).1.ended = s.ended := by
    intro s k
    unfold kend2
    split
    · rfl
    · exact kcopy_ended k 0 s
  unfold kend
  dsimp only
  rw [key]
  split <;> rfl
theorem kpacket2_ended {C : Type} (K : Cdr C) (s : LS) (c : C) (sp : Nat) (p : PkV) (k : Nat) (hk : k ≠ 1) : (kpacket2 K s c sp p k).1.ended = s.ended := by
  unfold kpacket2
  split
  · unfold klitP
    split <;> rfl
  · rw [kend_ended]
    unfold kmid
    rw [if_neg hk]
    split <;> rfl
theorem lpEnd_ended {S : Type} (L : LL) (s : LS) (d : RD S) : (lpEnd L s d).ended = s.ended := by
  unfold lpEnd
  split
  · rfl
  · split <;> rfl
theorem lagain_ended {S : Type} (nx : S → Int × Bool × S) (s : LS) (d : RD S) (sp : Nat) : (lagain nx s d sp).2.1.ended = s.ended := by
  unfold lagain
  split
  · rfl
  · rfl
section
variable (a : Option Addr) (n cap : Nat) (f : Nat → Int) (lo gd : Nat)
theorem kpacket_ends {L : LL} {s : LS} (c : RD Nat) (p : PkV) (hB : Betw s) :
    ((kpacket (cdrD a n cap f lo gd) (bare s) c p).1.ended = true → (kpacket (cdrD a n cap f lo gd) (bare s) c p).2.1.bad = false → (lpacket (feedNx f n) L s c).2.1.ended = true ∧ (lpacket (feedNx f n) L s c).2.2.bad = false) ∧
    ((lpacket (feedNx f n) L s c).2.1.ended = true → (lpacket (feedNx f n) L s c).2.2.bad = false → (kpacket (cdrD a n cap f lo gd) (bare s) c p).1.ended = true ∧ (kpacket (cdrD a n cap f lo gd) (bare s) c p).1.bad = false ∧ (kpacket (cdrD a n cap f lo gd) (bare s) c p).2.1 = (lpacket (feedNx f n) L s c).2.2 ∧ (kpacket (cdrD a n cap f lo gd) (bare s) c p).1.H = s.H ∧ (lpacket (feedNx f n) L s c).2.1.bad = false ∧ (lpacket (feedNx f n) L s c).2.1.left = 0) := by
  have he : s.ended = false := hB.ended
  by_cases h0 : (lbit (feedNx f n) s.P c (16 * s.st + s.place % 2 ^ s.pb)).1 = 0
  · have hk : kkind (cdrD a n cap f lo gd) (bare s) c (s.place % 2 ^ s.pb) p.kind = ((0, false), (lbit (feedNx f n) s.P c (16 * s.st + s.place % 2 ^ s.pb)).2) := by
      unfold kkind kkind0
      rw [kbit_D]
      exact if_pos h0
    have e1 : (kpacket (cdrD a n cap f lo gd) (bare s) c p).1.ended = false := by
      unfold kpacket
      rw [show (bare s).H.length % 2 ^ (bare s).pb = s.place % 2 ^ s.pb by rw [hB.place]; rfl, hk, kpacket2_ended _ _ _ _ _ _ (by show (0 : Nat) ≠ 1; decide)]
      exact he
    have e2 : (lpacket (feedNx f n) L s c).2.1.ended = false := by
      unfold lpacket
      dsimp only
      rw [if_pos h0]
      exact he
    rw [e1, e2]
    exact ⟨(fun h => by cases h), (fun h => by cases h)⟩
  · have h0' : ¬ (lbit (feedNx f n) (bare s).P c (16 * (bare s).st + s.place % 2 ^ s.pb)).1 = 0 := h0
    by_cases h1 : (lbit (feedNx f n) (lbit (feedNx f n) s.P c (16 * s.st + s.place % 2 ^ s.pb)).2.1 (lbit (feedNx f n) s.P c (16 * s.st + s.place % 2 ^ s.pb)).2.2 (192 + s.st)).1 = 0
    · obtain ⟨r1, hr1⟩ : ∃ r, r = lbit (feedNx f n) (lbit (feedNx f n) s.P c (16 * s.st + s.place % 2 ^ s.pb)).2.1 (lbit (feedNx f n) s.P c (16 * s.st + s.place % 2 ^ s.pb)).2.2 (192 + s.st) := ⟨_, rfl⟩
      obtain ⟨F, hF⟩ : ∃ F, F = lfresh (feedNx f n) { s with P := r1.2.1 } r1.2.2 (s.place % 2 ^ s.pb) := ⟨_, rfl⟩
      have hpk : lpacket (feedNx f n) L s c = ((0, false), lpEnd L { F.2.1 with left := F.1 } F.2.2, F.2.2) := by
        unfold lpacket
        dsimp only
        rw [if_neg h0, if_pos h1, hF, hr1]
      rw [hpk]
      dsimp only
      rw [lpEnd_ended]
      dsimp only
      have hk : kkind (cdrD a n cap f lo gd) (bare s) c (s.place % 2 ^ s.pb) p.kind = ((1, false), r1.2) := by
        unfold kkind kkind0
        rw [kbit_D, if_neg h0']
        unfold kkind1
        rw [kbit_D, hr1]
        exact if_pos h1
      unfold kpacket
      rw [show (bare s).H.length % 2 ^ (bare s).pb = s.place % 2 ^ s.pb by rw [hB.place]; rfl, hk]
      obtain ⟨S, hS⟩ : ∃ S : LS, S = { bare s with P := r1.2.1, bad := (bare s).bad || false } := ⟨_, rfl⟩
      obtain ⟨R, hR⟩ : ∃ R, R = kpacket2 (cdrD a n cap f lo gd) { bare s with P := r1.2.1, bad := (bare s).bad || false } r1.2.2 (s.place % 2 ^ s.pb) p 1 := ⟨_, rfl⟩
      dsimp only
      rw [← hR]
      rw [← hS] at hR
      unfold kpacket2 at hR
      rw [if_neg (by decide)] at hR
      unfold kmid at hR
      rw [if_pos rfl] at hR
      have hSF : lfresh (feedNx f n) S r1.2.2 (s.place % 2 ^ s.pb) = (F.1, { F.2.1 with place := 0, left := 0, bad := (s.bad || false) }, F.2.2) := by
        rw [hS, hF]
        rfl
      obtain ⟨m, hm⟩ : ∃ m, m = kmid1 (cdrD a n cap f lo gd) S (s.place % 2 ^ s.pb) p.kind p.dist (klen (cdrD a n cap f lo gd) S.P r1.2.2 819 (s.place % 2 ^ s.pb) (if p.kind = 7 then 0 else p.len - 2)) := ⟨_, rfl⟩
      rw [← hm] at hR
      have hR1 : R.2.1 = m.2.1 := by rw [hR]; rfl
      cases hg : F.2.2.bad with
      | true =>
        refine ⟨fun _ h => ?_, fun _ h => by cases h⟩
        have hmb : m.2.1.bad = true := by
          rw [hm]
          exact kmid1_bad a n cap f lo gd S { s with P := r1.2.1 } (by rw [hS]) r1.2.2 _ _ _ _ (by rw [← hF]; exact hg)
        rw [hR1, hmb] at h
        cases h
      | false =>
        have hD := kmid1_D a n cap f lo gd S r1.2.2 (s.place % 2 ^ s.pb) p.kind (if p.kind = 7 then 0 else p.len - 2) p.dist (by rw [hS]; exact he) (by rw [hSF]; exact hg) m hm
        rw [hSF] at hD
        obtain ⟨d1, d2, _⟩ := hD
        have hRe : R.1.ended = F.2.1.ended := by rw [hR, kend_ended, d1]
        refine ⟨fun h _ => ⟨by rw [← hRe]; exact h, rfl⟩, fun h _ => ?_⟩
        have hme : m.1.ended = true := by rw [d1]; exact h
        have hFH : F.2.1.H = s.H := by rw [hF]; rfl
        have hFb : F.2.1.bad = false := by rw [hF]; exact hB.bad
        have hRm : R = (m.1, m.2.1, 0) := by
          rw [hR]
          unfold kend
          have e : (if (cdrD a n cap f lo gd).bad m.2.1 = true then { m.1 with bad := true } else m.1) = m.1 := if_neg (by show ¬ m.2.1.bad = true; rw [d2]; show ¬ F.2.2.bad = true; rw [hg]; decide)
          rw [e]
          unfold kend2
          rw [if_pos (by rw [hme]; simp)]
        refine ⟨by rw [hRe]; exact h, by rw [hRm, d1]; show (s.bad || false) = false; rw [hB.bad]; rfl, by rw [hR1, d2], by rw [hRm, d1]; exact hFH, ?_, ?_⟩
        · unfold lpEnd
          rw [if_pos (by show ((F.2.1.bad || F.2.2.bad) || F.2.1.ended) = true; rw [h]; simp)]
          show (F.2.1.bad || F.2.2.bad) = false
          rw [hFb, hg]
          rfl
        · unfold lpEnd
          rw [if_pos (by show ((F.2.1.bad || F.2.2.bad) || F.2.1.ended) = true; rw [h]; simp)]
    · have h1' : ¬ (lbit (feedNx f n) (lbit (feedNx f n) (bare s).P c (16 * (bare s).st + s.place % 2 ^ s.pb)).2.1 (lbit (feedNx f n) (bare s).P c (16 * (bare s).st + s.place % 2 ^ s.pb)).2.2 (192 + (bare s).st)).1 = 0 := h1
      have hk : (kkind (cdrD a n cap f lo gd) (bare s) c (s.place % 2 ^ s.pb) p.kind).1.1 ≠ 1 := by
        unfold kkind kkind0
        rw [kbit_D, if_neg h0']
        unfold kkind1
        rw [kbit_D, if_neg h1']
        split
        · show (6 : Nat) ≠ 1; decide
        · show (kpick2 (cdrD a n cap f lo gd) _ _ _ _).1 ≠ 1
          unfold kpick2
          split
          · unfold kpick3
            show (if _ then 6 else 2) ≠ 1
            split <;> decide
          · unfold kpick4
            split
            · show (3 : Nat) ≠ 1; decide
            · unfold kpick5
              show (if _ then 4 else 5) ≠ 1
              split <;> decide
      have e1 : (kpacket (cdrD a n cap f lo gd) (bare s) c p).1.ended = false := by
        unfold kpacket
        rw [show (bare s).H.length % 2 ^ (bare s).pb = s.place % 2 ^ s.pb by rw [hB.place]; rfl, kpacket2_ended _ _ _ _ _ _ hk]
        exact he
      have e2 : (lpacket (feedNx f n) L s c).2.1.ended = false := by
        unfold lpacket
        dsimp only
        rw [if_neg h0, if_neg h1]
        split
        · rw [lpEnd_ended]; exact he
        · rw [lpEnd_ended]
          exact (lagain_ended _ _ _ _).trans he
      rw [e1, e2]
      exact ⟨(fun h => by cases h), (fun h => by cases h)⟩
end
end Go.Proofs.Ytjnegcambbeblaa

/- plain: decoders over two sources, of which the other one answers as the one does wherever that one has a byte: what the one tells without being bad, the other one tells. -/
namespace Go.Proofs.Ytjnegcambbeblaa
open Go.RowKit

structure SimS {A B : Type} (R : A → B → Prop) (na : A → Int × Bool × A) (nb : B → Int × Bool × B) : Prop where
  go : ∀ a b, R a b → (na a).2.1 = true → (nb b).1 = (na a).1 ∧ (nb b).2.1 = true ∧ R (na a).2.2 (nb b).2.2
def Sim1 {A B : Type} (R : A → B → Prop) (d : RD A) (d' : RD B) : Prop := R d.src d'.src ∧ d'.rng = d.rng ∧ d'.code = d.code ∧ d'.bad = d.bad
section
variable {A B : Type} {R : A → B → Prop} {na : A → Int × Bool × A} {nb : B → Int × Bool × B}
theorem next_sim (hs : SimS R na nb) {d : RD A} {d' : RD B} (h : Sim1 R d d') (hb : (d.next na).2.bad = false) : (d'.next nb).1 = (d.next na).1 ∧ Sim1 R (d.next na).2 (d'.next nb).2 := by
  obtain ⟨h1, h2, h3, h4⟩ := h
  unfold RD.next at hb ⊢
  by_cases hd : d.bad = true
  · rw [if_pos hd] at hb
    rw [hd] at hb; cases hb
  · rw [if_neg hd] at hb ⊢
    rw [if_neg (by rw [h4]; exact hd)]
    have ho : (na d.src).2.1 = true := by
      have e : (!(na d.src).2.1) = false := hb
      cases hq : (na d.src).2.1
      · rw [hq] at e; cases e
      · rfl
    obtain ⟨g1, g2, g3⟩ := hs.go _ _ h1 ho
    exact ⟨g1, g3, h2, h3, by show (!(nb d'.src).2.1) = !(na d.src).2.1; rw [g2, ho]⟩
theorem level_sim (hs : SimS R na nb) {d : RD A} {d' : RD B} (h : Sim1 R d d') (hb : (d.level na).bad = false) : Sim1 R (d.level na) (d'.level nb) := by
  have h0 := h
  obtain ⟨h1, h2, h3, h4⟩ := h
  by_cases hr : d.rng < 16777216
  · rw [RD.level_lt na d hr] at hb ⊢
    rw [RD.level_lt nb d' (by rw [h2]; exact hr)]
    obtain ⟨g1, g2, g3, g4, g5⟩ := next_sim hs h0 hb
    exact ⟨g2, by show d'.rng * 256 = d.rng * 256; rw [h2], by show d'.code * 256 % 4294967296 + _ = d.code * 256 % 4294967296 + _; rw [h3, g1], g5⟩
  · rw [RD.level_ge na d hr]
    rw [RD.level_ge nb d' (by rw [h2]; exact hr)]
    exact h0
theorem level_bad (d : RD A) (h : d.bad = true) : (d.level na).bad = true := by
  unfold RD.level RD.next
  rw [if_pos h]
  split
  · exact h
  · exact h
theorem bit_sim (hs : SimS R na nb) {d : RD A} {d' : RD B} (p : Int) (h : Sim1 R d d') (hb : (d.bit na p).2.2.bad = false) : (d'.bit nb p).1 = (d.bit na p).1 ∧ (d'.bit nb p).2.1 = (d.bit na p).2.1 ∧ Sim1 R (d.bit na p).2.2 (d'.bit nb p).2.2 := by
  obtain ⟨h1, h2, h3, h4⟩ := h
  unfold RD.bit at hb ⊢
  by_cases hd : d.bad = true
  · rw [if_pos hd] at hb
    rw [hd] at hb; cases hb
  · rw [if_neg hd] at hb ⊢
    rw [if_neg (by rw [h4]; exact hd)]
    by_cases hc : d.code < d.rng / 2048 * p
    · rw [if_pos hc] at hb ⊢
      rw [if_pos (by rw [h2, h3]; exact hc)]
      refine ⟨rfl, rfl, level_sim hs (d := ⟨d.src, d.rng / 2048 * p, d.code, d.bad⟩) ⟨h1, ?_, h3, h4⟩ hb⟩
      show d'.rng / 2048 * p = d.rng / 2048 * p
      rw [h2]
    · rw [if_neg hc] at hb ⊢
      rw [if_neg (by rw [h2, h3]; exact hc)]
      have hl := level_sim hs (d := ⟨d.src, d.rng - d.rng / 2048 * p, d.code - d.rng / 2048 * p, d.bad⟩) (d' := ⟨d'.src, d'.rng - d'.rng / 2048 * p, d'.code - d'.rng / 2048 * p, d'.bad⟩) ⟨h1, by show d'.rng - d'.rng / 2048 * p = d.rng - d.rng / 2048 * p; rw [h2], by show d'.code - d'.rng / 2048 * p = d.code - d.rng / 2048 * p; rw [h2, h3], h4⟩ hb
      have hb' : (RD.level na ⟨d.src, d.rng - d.rng / 2048 * p, d.code - d.rng / 2048 * p, d.bad⟩).bad = false := hb
      refine ⟨?_, rfl, hl⟩
      rw [if_neg (by rw [hl.2.2.2, hb']; decide), if_neg (by rw [hb']; decide)]
/-- functions of probabilities and a decoder, over the one and the other source. -/
structure N3 (R : A → B → Prop) (FA : (Nat → Int) → RD A → Nat × (Nat → Int) × RD A) (FB : (Nat → Int) → RD B → Nat × (Nat → Int) × RD B) : Prop where
  fol : ∀ P d d', Sim1 R d d' → (FA P d).2.2.bad = false → (FB P d').1 = (FA P d).1 ∧ (FB P d').2.1 = (FA P d).2.1 ∧ Sim1 R (FA P d).2.2 (FB P d').2.2
  stk : ∀ P d, d.bad = true → (FA P d).2.2.bad = true
theorem N3.good {FA : (Nat → Int) → RD A → Nat × (Nat → Int) × RD A} {FB : (Nat → Int) → RD B → Nat × (Nat → Int) × RD B} (h : N3 R FA FB) {P : Nat → Int} {d : RD A} (hb : (FA P d).2.2.bad = false) : d.bad = false := by
  cases hd : d.bad
  · rfl
  · rw [h.stk P d hd] at hb; cases hb
theorem N3.bind {FA : (Nat → Int) → RD A → Nat × (Nat → Int) × RD A} {FB : (Nat → Int) → RD B → Nat × (Nat → Int) × RD B} {GA : Nat → (Nat → Int) → RD A → Nat × (Nat → Int) × RD A} {GB : Nat → (Nat → Int) → RD B → Nat × (Nat → Int) × RD B}
    (h : N3 R FA FB) (k : ∀ x, N3 R (GA x) (GB x)) : N3 R (fun P d => GA (FA P d).1 (FA P d).2.1 (FA P d).2.2) (fun P d => GB (FB P d).1 (FB P d).2.1 (FB P d).2.2) where
  fol P d d' hd hb := by
    have h1 := (k (FA P d).1).good hb
    obtain ⟨g1, g2, g3⟩ := h.fol P d d' hd h1
    try dsimp only at hb ⊢
    rw [g1, g2]
    exact (k (FA P d).1).fol _ _ _ g3 hb
  stk P d hd := (k _).stk _ _ (h.stk P d hd)
theorem N3.pure (x : Nat) : N3 (A := A) (B := B) R (fun P d => (x, P, d)) (fun P d => (x, P, d)) := ⟨fun _ _ _ h _ => ⟨rfl, rfl, h⟩, fun _ _ h => h⟩
theorem N3.map {FA : (Nat → Int) → RD A → Nat × (Nat → Int) × RD A} {FB : (Nat → Int) → RD B → Nat × (Nat → Int) × RD B} (f : Nat → Nat) (h : N3 R FA FB) : N3 R (fun P d => (f (FA P d).1, (FA P d).2)) (fun P d => (f (FB P d).1, (FB P d).2)) :=
  ⟨fun P d d' hd hb => by obtain ⟨g1, g2, g3⟩ := h.fol P d d' hd hb; exact ⟨by dsimp only; rw [g1], g2, g3⟩, h.stk⟩
theorem bit_n (hs : SimS R na nb) (k : Nat) : N3 R (fun P d => lbit na P d k) (fun P d => lbit nb P d k) where
  fol P d d' hd hb := by
    obtain ⟨g1, g2, g3⟩ := bit_sim hs (P k) hd hb
    refine ⟨g1, ?_, g3⟩
    show upd P k (d'.bit nb (P k)).2.1 = upd P k (d.bit na (P k)).2.1
    rw [g2]
  stk P d hd := by
    show (d.bit na (P k)).2.2.bad = true
    rw [bit_bad na d _ hd]; exact hd
theorem treeGo_n (hs : SimS R na nb) : ∀ (k m : Nat), N3 R (fun q d => RD.treeGo na k d q m) (fun q d => RD.treeGo nb k d q m)
  | 0, m => N3.pure m
  | k + 1, m => N3.bind (bit_n hs m) (GA := fun x q d => RD.treeGo na k d q (2 * m + x)) (GB := fun x q d => RD.treeGo nb k d q (2 * m + x)) (fun x => treeGo_n hs k (2 * m + x))
theorem revGo_n (hs : SimS R na nb) : ∀ (k i m out : Nat), N3 R (fun q d => RD.revGo na k i d q m out) (fun q d => RD.revGo nb k i d q m out)
  | 0, _, _, out => N3.pure out
  | k + 1, i, m, out => N3.bind (bit_n hs m) (GA := fun x q d => RD.revGo na k (i + 1) d q (2 * m + x) (out + x * 2 ^ i)) (GB := fun x q d => RD.revGo nb k (i + 1) d q (2 * m + x) (out + x * 2 ^ i)) (fun x => revGo_n hs k (i + 1) (2 * m + x) (out + x * 2 ^ i))
theorem tree_n (hs : SimS R na nb) (k B' : Nat) : N3 R (fun P d => ltree na P d k B') (fun P d => ltree nb P d k B') where
  fol P d d' hd hb := by
    have hb' : (RD.treeGo na B' d (fun j => P (k + j)) 1).2.2.bad = false := hb
    obtain ⟨g1, g2, g3⟩ := (treeGo_n hs B' 1).fol (fun j => P (k + j)) d d' hd hb'
    refine ⟨?_, ?_, g3⟩
    · show (if (RD.treeGo nb B' d' (fun j => P (k + j)) 1).2.2.bad = true then 0 else _) = (if (RD.treeGo na B' d (fun j => P (k + j)) 1).2.2.bad = true then 0 else _)
      rw [g3.2.2.2, g1]
    · show spliceQ P k (2 ^ B') (RD.treeGo nb B' d' (fun j => P (k + j)) 1).2.1 = spliceQ P k (2 ^ B') (RD.treeGo na B' d (fun j => P (k + j)) 1).2.1
      rw [g2]
  stk P d hd := by
    show (RD.treeGo na B' d (fun j => P (k + j)) 1).2.2.bad = true
    rw [treeGo_bad na B' d _ 1 hd]; exact hd
theorem rev_n (hs : SimS R na nb) (k B' : Nat) : N3 R (fun P d => lrev na P d k B') (fun P d => lrev nb P d k B') where
  fol P d d' hd hb := by
    have hb' : (RD.revGo na B' 0 d (fun j => P (k + j)) 1 0).2.2.bad = false := hb
    obtain ⟨g1, g2, g3⟩ := (revGo_n hs B' 0 1 0).fol (fun j => P (k + j)) d d' hd hb'
    refine ⟨?_, ?_, g3⟩
    · show (if (RD.revGo nb B' 0 d' (fun j => P (k + j)) 1 0).2.2.bad = true then 0 else _) = (if (RD.revGo na B' 0 d (fun j => P (k + j)) 1 0).2.2.bad = true then 0 else _)
      rw [g3.2.2.2, g1]
    · show spliceQ P k (2 ^ B') (RD.revGo nb B' 0 d' (fun j => P (k + j)) 1 0).2.1 = spliceQ P k (2 ^ B') (RD.revGo na B' 0 d (fun j => P (k + j)) 1 0).2.1
      rw [g2]
  stk P d hd := by
    show (RD.revGo na B' 0 d (fun j => P (k + j)) 1 0).2.2.bad = true
    rw [revGo_bad na B' 0 d _ 1 0 hd]; exact hd
theorem str1_sim (hs : SimS R na nb) {d : RD A} {d' : RD B} (h : Sim1 R d d') (hb : (d.str1 na).2.bad = false) : (d'.str1 nb).1 = (d.str1 na).1 ∧ Sim1 R (d.str1 na).2 (d'.str1 nb).2 := by
  obtain ⟨h1, h2, h3, h4⟩ := h
  unfold RD.str1 at hb ⊢
  by_cases hc : d.rng / 2 ≤ d.code
  · rw [if_pos hc] at hb ⊢
    rw [if_pos (by rw [h2, h3]; exact hc)]
    exact ⟨rfl, level_sim hs (d := ⟨d.src, d.rng / 2, d.code - d.rng / 2, decide (d.rng / 2 ≤ d.code - d.rng / 2)⟩) ⟨h1, by show d'.rng / 2 = d.rng / 2; rw [h2], by show d'.code - d'.rng / 2 = d.code - d.rng / 2; rw [h2, h3], by show decide _ = decide _; rw [h2, h3]⟩ hb⟩
  · rw [if_neg hc] at hb ⊢
    rw [if_neg (by rw [h2, h3]; exact hc)]
    exact ⟨rfl, level_sim hs (d := ⟨d.src, d.rng / 2, d.code, false⟩) ⟨h1, by show d'.rng / 2 = d.rng / 2; rw [h2], h3, rfl⟩ hb⟩
theorem strGo_sim (hs : SimS R na nb) : ∀ (k : Nat) (d : RD A) (d' : RD B) (out : Nat), Sim1 R d d' → (RD.strGo na k d out).2.bad = false → (RD.strGo nb k d' out).1 = (RD.strGo na k d out).1 ∧ Sim1 R (RD.strGo na k d out).2 (RD.strGo nb k d' out).2
  | 0, d, d', out, h, _ => ⟨rfl, h⟩
  | k + 1, d, d', out, h, hb => by
    have hd : d.bad = false := by
      cases hd : d.bad
      · rfl
      · rw [strGo_bad na _ d out hd] at hb; rw [hd] at hb; cases hb
    rw [strGo_good na k d out hd] at hb ⊢
    rw [strGo_good nb k d' out (by rw [h.2.2.2]; exact hd)]
    have h1 : (d.str1 na).2.bad = false := by
      cases hq : (d.str1 na).2.bad
      · rfl
      · rw [strGo_bad na k _ _ hq] at hb; rw [hq] at hb; cases hb
    obtain ⟨g1, g2⟩ := str1_sim hs h h1
    rw [g1]
    exact strGo_sim hs k _ _ _ g2 hb
theorem str_n (hs : SimS R na nb) (k : Nat) : N3 R (fun P d => ((d.str na k).1, P, (d.str na k).2)) (fun P d => ((d.str nb k).1, P, (d.str nb k).2)) where
  fol P d d' hd hb := by
    have hb' : (RD.strGo na k d 0).2.bad = false := hb
    obtain ⟨g1, g2⟩ := strGo_sim hs k d d' 0 hd hb'
    refine ⟨?_, rfl, g2⟩
    show (if (RD.strGo nb k d' 0).2.bad = true then 0 else _) = (if (RD.strGo na k d 0).2.bad = true then 0 else _)
    rw [g2.2.2.2, g1]
  stk P d hd := by
    show (RD.strGo na k d 0).2.bad = true
    rw [strGo_bad na k d 0 hd]; exact hd
theorem tell_n (hs : SimS R na nb) (b sp : Nat) : N3 R (fun P d => ltell na P d b sp) (fun P d => ltell nb P d b sp) :=
  N3.bind (bit_n hs b)
    (GA := fun x P d => if x = 0 then ltree na P d (b + 2 + 8 * sp) 3 else if (lbit na P d (b + 1)).1 = 0 then (8 + (ltree na (lbit na P d (b + 1)).2.1 (lbit na P d (b + 1)).2.2 (b + 130 + 8 * sp) 3).1, (ltree na (lbit na P d (b + 1)).2.1 (lbit na P d (b + 1)).2.2 (b + 130 + 8 * sp) 3).2) else (16 + (ltree na (lbit na P d (b + 1)).2.1 (lbit na P d (b + 1)).2.2 (b + 258) 8).1, (ltree na (lbit na P d (b + 1)).2.1 (lbit na P d (b + 1)).2.2 (b + 258) 8).2))
    (GB := fun x P d => if x = 0 then ltree nb P d (b + 2 + 8 * sp) 3 else if (lbit nb P d (b + 1)).1 = 0 then (8 + (ltree nb (lbit nb P d (b + 1)).2.1 (lbit nb P d (b + 1)).2.2 (b + 130 + 8 * sp) 3).1, (ltree nb (lbit nb P d (b + 1)).2.1 (lbit nb P d (b + 1)).2.2 (b + 130 + 8 * sp) 3).2) else (16 + (ltree nb (lbit nb P d (b + 1)).2.1 (lbit nb P d (b + 1)).2.2 (b + 258) 8).1, (ltree nb (lbit nb P d (b + 1)).2.1 (lbit nb P d (b + 1)).2.2 (b + 258) 8).2))
    (fun x => by
      by_cases hx : x = 0
      · simp only [if_pos hx]; exact tree_n hs _ _
      · simp only [if_neg hx]
        exact N3.bind (bit_n hs (b + 1))
          (GA := fun y P d => if y = 0 then (8 + (ltree na P d (b + 130 + 8 * sp) 3).1, (ltree na P d (b + 130 + 8 * sp) 3).2) else (16 + (ltree na P d (b + 258) 8).1, (ltree na P d (b + 258) 8).2))
          (GB := fun y P d => if y = 0 then (8 + (ltree nb P d (b + 130 + 8 * sp) 3).1, (ltree nb P d (b + 130 + 8 * sp) 3).2) else (16 + (ltree nb P d (b + 258) 8).1, (ltree nb P d (b + 258) 8).2))
          (fun y => by
            by_cases hy : y = 0
            · simp only [if_pos hy]; exact N3.map (8 + ·) (tree_n hs _ _)
            · simp only [if_neg hy]; exact N3.map (16 + ·) (tree_n hs _ _)))
theorem dist_n (hs : SimS R na nb) (l : Nat) : N3 R (fun P d => ldist na P d l) (fun P d => ldist nb P d l) :=
  N3.bind (tree_n hs (432 + 64 * min l 3) 6) (GA := fun x P d => ldist2 na P d x) (GB := fun x P d => ldist2 nb P d x) (fun x => by
    unfold ldist2
    by_cases h4 : x < 4
    · simp only [if_pos h4]; exact N3.pure x
    · simp only [if_neg h4]
      by_cases h14 : x < 14
      · simp only [if_pos h14]; exact N3.map (slotB x + ·) (rev_n hs _ _)
      · simp only [if_neg h14]
        exact N3.bind (str_n hs (slotN x - 4)) (GA := fun y P d => (slotB x + 16 * y + (lrev na P d 803 4).1, (lrev na P d 803 4).2)) (GB := fun y P d => (slotB x + 16 * y + (lrev nb P d 803 4).1, (lrev nb P d 803 4).2)) (fun y => N3.map (slotB x + 16 * y + ·) (rev_n hs _ _)))
theorem litGo_n (hs : SimS R na nb) (k0 o : Nat) : ∀ (i : Nat) (b : Bool) (m : Nat), N3 R (fun P d => litGo na k0 i b o m P d) (fun P d => litGo nb k0 i b o m P d)
  | 0, b, m => by unfold litGo; exact N3.pure m
  | i + 1, true, m => by
    unfold litGo
    exact N3.bind (bit_n hs (k0 + 256 * (1 + o / 2 ^ i % 2) + m)) (GA := fun x P d => litGo na k0 i (x == o / 2 ^ i % 2) o (2 * m + x) P d) (GB := fun x P d => litGo nb k0 i (x == o / 2 ^ i % 2) o (2 * m + x) P d) (fun x => litGo_n hs k0 o i _ _)
  | i + 1, false, m => by
    unfold litGo
    exact N3.bind (bit_n hs (k0 + m)) (GA := fun x P d => litGo na k0 i false o (2 * m + x) P d) (GB := fun x P d => litGo nb k0 i false o (2 * m + x) P d) (fun x => litGo_n hs k0 o i _ _)
/-! ### packets -/
/-- what a function that turns a decoder's state does over the one source and the other. -/
def Fol3 {V : Type} (R : A → B → Prop) (r : V × LS × RD A) (r' : V × LS × RD B) : Prop := r.2.2.bad = false → r'.1 = r.1 ∧ r'.2.1 = r.2.1 ∧ Sim1 R r.2.2 r'.2.2
theorem fresh_sim (hs : SimS R na nb) (s : LS) (sp : Nat) {d : RD A} {d' : RD B} (h : Sim1 R d d') : Fol3 R (lfresh na s d sp) (lfresh nb s d' sp) := by
  intro hb
  have hN := N3.bind (tell_n hs 819 sp) (GA := fun l P d => ldist na P d l) (GB := fun l P d => ldist nb P d l) (fun l => dist_n hs l)
  have hb' : (ldist na (ltell na s.P d 819 sp).2.1 (ltell na s.P d 819 sp).2.2 (ltell na s.P d 819 sp).1).2.2.bad = false := hb
  obtain ⟨g1, g2, g3⟩ := hN.fol s.P d d' h hb'
  try dsimp only at g1 g2 g3
  obtain ⟨k1, k2, k3⟩ := (tell_n hs 819 sp).fol s.P d d' h ((dist_n hs _).good hb')
  unfold lfresh
  try dsimp only
  rw [g1, g2, g3.2.2.2, k1]
  rw [k1] at g3
  exact ⟨rfl, rfl, g3⟩
theorem fresh_stk (hs : SimS R na nb) (s : LS) (sp : Nat) (d : RD A) (h : d.bad = true) : (lfresh na s d sp).2.2.bad = true :=
  (dist_n hs _).stk _ _ ((tell_n hs 819 sp).stk s.P d h)
theorem pick_sim (hs : SimS R na nb) (P : Nat → Int) (st sp : Nat) {d : RD A} {d' : RD B} (h : Sim1 R d d') (hb : (lagPick na P d st sp).2.2.bad = false) : (lagPick nb P d' st sp).1 = (lagPick na P d st sp).1 ∧ (lagPick nb P d' st sp).2.1 = (lagPick na P d st sp).2.1 ∧ Sim1 R (lagPick na P d st sp).2.2 (lagPick nb P d' st sp).2.2 := by
  have B0 := bit_n hs (204 + st)
  have h0 : (lbit na P d (204 + st)).2.2.bad = false := by
    unfold lagPick at hb
    split at hb
    · exact (bit_n hs _).good hb
    · split at hb
      · exact (bit_n hs _).good hb
      · exact (bit_n hs _).good ((bit_n hs _).good hb)
  obtain ⟨g1, g2, g3⟩ := B0.fol P d d' h h0
  try dsimp only at g1 g2 g3
  unfold lagPick at hb ⊢
  rw [g1, g2]
  by_cases hx : (lbit na P d (204 + st)).1 = 0
  · rw [if_pos hx] at hb ⊢
    rw [if_pos hx]
    obtain ⟨k1, k2, k3⟩ := (bit_n hs (240 + 16 * st + sp)).fol _ _ _ g3 hb
    try dsimp only at k1 k2 k3 ⊢
    rw [k1, k2]
    exact ⟨rfl, rfl, k3⟩
  · rw [if_neg hx] at hb ⊢
    rw [if_neg hx]
    have h1 : (lbit na (lbit na P d (204 + st)).2.1 (lbit na P d (204 + st)).2.2 (216 + st)).2.2.bad = false := by
      split at hb
      · exact hb
      · exact (bit_n hs _).good hb
    obtain ⟨k1, k2, k3⟩ := (bit_n hs (216 + st)).fol _ _ _ g3 h1
    try dsimp only at k1 k2 k3
    rw [k1, k2]
    by_cases hy : (lbit na (lbit na P d (204 + st)).2.1 (lbit na P d (204 + st)).2.2 (216 + st)).1 = 0
    · rw [if_pos hy, if_pos hy]
      exact ⟨rfl, k2, k3⟩
    · rw [if_neg hy] at hb ⊢
      rw [if_neg hy]
      obtain ⟨m1, m2, m3⟩ := (bit_n hs (228 + st)).fol _ _ _ k3 hb
      try dsimp only at m1 m2 m3 ⊢
      rw [m1, m2]
      exact ⟨rfl, rfl, m3⟩
theorem pick_stk (hs : SimS R na nb) (P : Nat → Int) (st sp : Nat) (d : RD A) (h : d.bad = true) : (lagPick na P d st sp).2.2.bad = true := by
  unfold lagPick
  split
  · exact (bit_n hs _).stk _ _ ((bit_n hs _).stk _ _ h)
  · split
    · exact (bit_n hs _).stk _ _ ((bit_n hs _).stk _ _ h)
    · exact (bit_n hs _).stk _ _ ((bit_n hs _).stk _ _ ((bit_n hs _).stk _ _ h))
theorem lagEnd_sim (hs : SimS R na nb) (s : LS) (sp : Nat) {d : RD A} {d' : RD B} (h : Sim1 R d d') : Fol3 R (lagEnd na s d sp) (lagEnd nb s d' sp) := by
  intro hb
  obtain ⟨g1, g2, g3⟩ := (tell_n hs 1333 sp).fol s.P d d' h hb
  try dsimp only at g1 g2 g3
  unfold lagEnd
  rw [g1, g2]
  exact ⟨rfl, rfl, g3⟩
theorem again_sim (hs : SimS R na nb) (s : LS) (sp : Nat) {d : RD A} {d' : RD B} (h : Sim1 R d d') : Fol3 R (lagain na s d sp) (lagain nb s d' sp) := by
  intro hb
  have h0 : (lagPick na s.P d s.st sp).2.2.bad = false := by
    unfold lagain at hb
    split at hb
    · exact hb
    · exact (tell_n hs 1333 sp).good hb
  obtain ⟨g1, g2, g3⟩ := pick_sim hs s.P s.st sp h h0
  unfold lagain at hb ⊢
  rw [g1, g2]
  cases hk : (lagPick na s.P d s.st sp).1 with
  | none => exact ⟨rfl, rfl, g3⟩
  | some k =>
    rw [hk] at hb
    exact lagEnd_sim hs _ sp g3 hb
theorem again_stk (hs : SimS R na nb) (s : LS) (sp : Nat) (d : RD A) (h : d.bad = true) : (lagain na s d sp).2.2.bad = true := by
  unfold lagain
  split
  · exact pick_stk hs _ _ _ _ h
  · exact (tell_n hs 1333 sp).stk _ _ (pick_stk hs _ _ _ _ h)
theorem lpEnd_bad {S : Type} (L : LL) (s : LS) (d : RD S) (h : d.bad = true) : (lpEnd L s d).bad = true := by
  unfold lpEnd
  rw [if_pos (by rw [h]; simp)]
  show (s.bad || d.bad) = true
  rw [h]; simp
theorem lpEnd_eq (L : LL) (s : LS) (d : RD A) (d' : RD B) (h : d'.bad = d.bad) : lpEnd L s d' = lpEnd L s d := by
  unfold lpEnd
  rw [h]
theorem llit_n (hs : SimS R na nb) (L : LL) (s : LS) (P : Nat → Int) {d : RD A} {d' : RD B} (h : Sim1 R d d') (hb : (llit na L { s with P := P } d).2.2.bad = false) :
    (llit nb L { s with P := P } d').1 = (llit na L { s with P := P } d).1 ∧ (llit nb L { s with P := P } d').2.1 = (llit na L { s with P := P } d).2.1 ∧ Sim1 R (llit na L { s with P := P } d).2.2 (llit nb L { s with P := P } d').2.2 :=
  (litGo_n hs (1847 + s.row L) (backH s.H L.n (s.rep 0)).toNat 8 (decide (7 ≤ s.st)) 1).fol P d d' h hb
theorem bad_not {b : Bool} (h1 : b = false) (h2 : b = true) : False := by rw [h1] at h2; cases h2
/-- a packet that leaves a decoder that is not bad. -/
theorem packet_sim (hs : SimS R na nb) (L : LL) (s : LS) {d : RD A} {d' : RD B} (h : Sim1 R d d') (hb : (lpacket na L s d).2.2.bad = false) :
    (lpacket nb L s d').1 = (lpacket na L s d).1 ∧ (lpacket nb L s d').2.1 = (lpacket na L s d).2.1 ∧ Sim1 R (lpacket na L s d).2.2 (lpacket nb L s d').2.2 := by
  have h0 : (lbit na s.P d (16 * s.st + s.place % 2 ^ s.pb)).2.2.bad = false := by
    unfold lpacket at hb
    try dsimp only at hb
    split at hb
    · exact (litGo_n hs (1847 + s.row L) (backH s.H L.n (s.rep 0)).toNat 8 (decide (7 ≤ s.st)) 1).good hb
    · split at hb
      · cases hq : (lbit na s.P d (16 * s.st + s.place % 2 ^ s.pb)).2.2.bad
        · rfl
        · exact (bad_not hb (fresh_stk hs _ _ _ ((bit_n hs (192 + s.st)).stk _ _ hq))).elim
      · split at hb
        · exact (bit_n hs _).good hb
        · cases hq : (lbit na s.P d (16 * s.st + s.place % 2 ^ s.pb)).2.2.bad
          · rfl
          · exact (bad_not hb (again_stk hs _ _ _ ((bit_n hs (192 + s.st)).stk _ _ hq))).elim
  obtain ⟨g1, g2, g3⟩ := (bit_n hs (16 * s.st + s.place % 2 ^ s.pb)).fol s.P d d' h h0
  try dsimp only at g1 g2 g3
  unfold lpacket at hb ⊢
  try dsimp only at hb ⊢
  rw [g1, g2]
  by_cases hx : (lbit na s.P d (16 * s.st + s.place % 2 ^ s.pb)).1 = 0
  · rw [if_pos hx] at hb ⊢
    rw [if_pos hx]
    obtain ⟨k1, k2, k3⟩ := llit_n hs L s _ g3 hb
    try dsimp only
    rw [k1, k2, k3.2.2.2]
    exact ⟨rfl, rfl, k3⟩
  · rw [if_neg hx] at hb ⊢
    rw [if_neg hx]
    have h1 : (lbit na (lbit na s.P d (16 * s.st + s.place % 2 ^ s.pb)).2.1 (lbit na s.P d (16 * s.st + s.place % 2 ^ s.pb)).2.2 (192 + s.st)).2.2.bad = false := by
      cases hq : (lbit na (lbit na s.P d (16 * s.st + s.place % 2 ^ s.pb)).2.1 (lbit na s.P d (16 * s.st + s.place % 2 ^ s.pb)).2.2 (192 + s.st)).2.2.bad
      · rfl
      · split at hb
        · exact (bad_not hb (fresh_stk hs _ _ _ hq)).elim
        · split at hb
          · exact absurd (hq.symm.trans hb) (by decide)
          · exact (bad_not hb (again_stk hs _ _ _ hq)).elim
    obtain ⟨k1, k2, k3⟩ := (bit_n hs (192 + s.st)).fol _ _ _ g3 h1
    try dsimp only at k1 k2 k3
    rw [k1, k2]
    by_cases hy : (lbit na (lbit na s.P d (16 * s.st + s.place % 2 ^ s.pb)).2.1 (lbit na s.P d (16 * s.st + s.place % 2 ^ s.pb)).2.2 (192 + s.st)).1 = 0
    · rw [if_pos hy] at hb ⊢
      rw [if_pos hy]
      obtain ⟨m1, m2, m3⟩ := fresh_sim hs { s with P := (lbit na (lbit na s.P d (16 * s.st + s.place % 2 ^ s.pb)).2.1 (lbit na s.P d (16 * s.st + s.place % 2 ^ s.pb)).2.2 (192 + s.st)).2.1 } (s.place % 2 ^ s.pb) k3 hb
      refine ⟨rfl, ?_, m3⟩
      try dsimp only
      rw [m1, m2]
      exact lpEnd_eq L _ _ _ m3.2.2.2
    · rw [if_neg hy] at hb ⊢
      rw [if_neg hy]
      by_cases hc : min s.H.length L.n = 0
      · rw [if_pos hc] at hb ⊢
        rw [if_pos hc]
        refine ⟨rfl, ?_, k3⟩
        dsimp only
        exact lpEnd_eq L _ _ _ k3.2.2.2
      · rw [if_neg hc] at hb ⊢
        rw [if_neg hc]
        obtain ⟨m1, m2, m3⟩ := again_sim hs { s with P := (lbit na (lbit na s.P d (16 * s.st + s.place % 2 ^ s.pb)).2.1 (lbit na s.P d (16 * s.st + s.place % 2 ^ s.pb)).2.2 (192 + s.st)).2.1 } (s.place % 2 ^ s.pb) k3 hb
        refine ⟨rfl, ?_, m3⟩
        try dsimp only
        rw [m1, m2]
        exact lpEnd_eq L _ _ _ m3.2.2.2
end
end Go.Proofs.Ytjnegcambbeblaa

/- plain: two decoders' runs, over two sources. -/
namespace Go.Proofs.Ytjnegcambbeblaa
open Go.RowKit
section
variable {A B : Type} {R : A → B → Prop} {na : A → Int × Bool × A} {nb : B → Int × Bool × B}
theorem packet_stk (hs : SimS R na nb) (L : LL) (s : LS) (d : RD A) (h : d.bad = true) : (lpacket na L s d).2.2.bad = true := by
  unfold lpacket
  dsimp only
  split
  · exact (litGo_n hs (1847 + s.row L) (backH s.H L.n (s.rep 0)).toNat 8 (decide (7 ≤ s.st)) 1).stk _ _ ((bit_n hs _).stk _ _ h)
  · split
    · exact fresh_stk hs _ _ _ ((bit_n hs _).stk _ _ ((bit_n hs _).stk _ _ h))
    · split
      · exact (bit_n hs _).stk _ _ ((bit_n hs _).stk _ _ h)
      · exact again_stk hs _ _ _ ((bit_n hs _).stk _ _ ((bit_n hs _).stk _ _ h))
theorem lpEnd_left {S : Type} (L : LL) (s : LS) (d : RD S) (h : d.bad = true) : (lpEnd L s d).left = 0 := by
  unfold lpEnd
  rw [if_pos (by rw [h]; simp)]
/-- a packet behind which the decoder is bad tells nothing. -/
theorem packet_bad (L : LL) (s : LS) (d : RD A) (hl : s.left = 0) (h : (lpacket na L s d).2.2.bad = true) : (lpacket na L s d).1.2 = false ∧ (lpacket na L s d).2.1.left = 0 ∧ (lpacket na L s d).2.1.bad = true := by
  unfold lpacket at h ⊢
  dsimp only at h ⊢
  split at h
  · rename_i h0
    rw [if_pos h0]
    exact ⟨by show (!_) = false; rw [h]; rfl, hl, h⟩
  · rename_i h0
    rw [if_neg h0]
    split at h
    · rename_i h1
      rw [if_pos h1]
      exact ⟨rfl, lpEnd_left _ _ _ h, lpEnd_bad _ _ _ h⟩
    · rename_i h1
      rw [if_neg h1]
      split at h
      · rename_i h2
        rw [if_pos h2]
        exact ⟨rfl, lpEnd_left _ _ _ h, lpEnd_bad _ _ _ h⟩
      · rename_i h2
        rw [if_neg h2]
        exact ⟨rfl, lpEnd_left _ _ _ h, lpEnd_bad _ _ _ h⟩
theorem lnext_no {S : Type} (nx : S → Int × Bool × S) (L : LL) (s : LS) (d : RD S) (h : (lnext nx L s d).1.2 = false) : (lnext nx L s d).1.1 = 0 := by
  have h2 : ∀ (s : LS) (d : RD S), (lnext2 L s d).1.2 = false → (lnext2 L s d).1.1 = 0 := by
    intro s d h
    unfold lnext2 at h ⊢
    split
    · rfl
    · rename_i h0; rw [if_neg h0] at h; cases h
  unfold lnext at h ⊢
  split
  · rfl
  · rename_i h0
    rw [if_neg h0] at h
    split
    · rename_i h1
      rw [if_pos h1] at h
      split
      · rename_i h3; rw [if_pos h3] at h; cases h
      · rename_i h3; rw [if_neg h3] at h; exact h2 _ _ h
    · rename_i h1
      rw [if_neg h1] at h
      exact h2 _ _ h
theorem lnext2_fol (L : LL) (s : LS) (d : RD A) (d' : RD B) : (lnext2 L s d').1 = (lnext2 L s d).1 ∧ (lnext2 L s d').2.1 = (lnext2 L s d).2.1 ∧ (lnext2 L s d').2.2 = d' ∧ (lnext2 L s d).2.2 = d := by
  unfold lnext2
  split <;> exact ⟨rfl, rfl, rfl, rfl⟩
theorem lnext_sim (hs : SimS R na nb) (L : LL) (s : LS) {d : RD A} {d' : RD B} (h : d.bad = false → Sim1 R d d') (ho : (lnext na L s d).1.2 = true) :
    (lnext nb L s d').1 = (lnext na L s d).1 ∧ (lnext nb L s d').2.1 = (lnext na L s d).2.1 ∧ ((lnext na L s d).2.2.bad = false → Sim1 R (lnext na L s d).2.2 (lnext nb L s d').2.2) := by
  unfold lnext at ho ⊢
  by_cases h0 : s.bad = true ∨ s.ended = true
  · rw [if_pos h0] at ho; cases ho
  · rw [if_neg h0] at ho ⊢
    rw [if_neg h0]
    by_cases hl : s.left = 0
    · rw [if_pos hl] at ho ⊢
      rw [if_pos hl]
      have hb : (lpacket na L s d).2.2.bad = false := by
        cases hq : (lpacket na L s d).2.2.bad
        · rfl
        · obtain ⟨g1, g2, _⟩ := packet_bad L s d hl hq
          rw [if_neg (by rw [g1]; decide)] at ho
          unfold lnext2 at ho
          rw [if_pos g2] at ho
          cases ho
      have hd : d.bad = false := by
        cases hq : d.bad
        · rfl
        · exact (bad_not hb (packet_stk hs L s d hq)).elim
      obtain ⟨g1, g2, g3⟩ := packet_sim hs L s (h hd) hb
      rw [g1, g2]
      by_cases hk : (lpacket na L s d).1.2 = true
      · rw [if_pos hk, if_pos hk]
        exact ⟨rfl, rfl, fun _ => g3⟩
      · rw [if_neg hk, if_neg hk]
        obtain ⟨k1, k2, k3, k4⟩ := lnext2_fol L (lpacket na L s d).2.1 (lpacket na L s d).2.2 (lpacket nb L s d').2.2
        exact ⟨k1, k2, fun _ => by rw [k3, k4]; exact g3⟩
    · rw [if_neg hl] at ho ⊢
      rw [if_neg hl]
      obtain ⟨k1, k2, k3, k4⟩ := lnext2_fol L s d d'
      exact ⟨k1, k2, fun hb => by rw [k3, k4]; rw [k4] at hb; exact h hb⟩
theorem first_sim (hs : SimS R na nb) {a : A} {b : B} (h : R a b) (hb : (RD.first na a).bad = false) : Sim1 R (RD.first na a) (RD.first nb b) := by
  have hs0 : Sim1 R (⟨a, 4294967295, 0, false⟩ : RD A) (⟨b, 4294967295, 0, false⟩ : RD B) := ⟨h, rfl, rfl, rfl⟩
  unfold RD.first at hb ⊢
  by_cases h0 : (RD.next na ⟨a, 4294967295, 0, false⟩).1 = 0
  · rw [if_pos h0] at hb ⊢
    obtain ⟨g1, g2⟩ := next_sim hs hs0 hb
    rw [if_pos (by rw [g1]; exact h0)]
    exact g2
  · rw [if_neg h0] at hb; cases hb
theorem next_stk (d : RD A) (h : d.bad = true) : (d.next na).2.bad = true := by
  unfold RD.next
  rw [if_pos h]; exact h
theorem four_bad : ∀ (k : Nat) (d : RD A), d.bad = true → (RD.four na k d).bad = true
  | 0, _, h => h
  | k + 1, d, h => by
    unfold RD.four
    exact four_bad k _ (next_stk d h)
theorem four_sim (hs : SimS R na nb) : ∀ (k : Nat) (d : RD A) (d' : RD B), Sim1 R d d' → (RD.four na k d).bad = false → Sim1 R (RD.four na k d) (RD.four nb k d')
  | 0, d, d', h, _ => h
  | k + 1, d, d', h, hb => by
    unfold RD.four at hb ⊢
    have h1 : (d.next na).2.bad = false := by
      cases hq : (d.next na).2.bad
      · rfl
      · exact (bad_not hb (four_bad k _ hq)).elim
    obtain ⟨g1, g2, g3, g4, g5⟩ := next_sim hs h h1
    obtain ⟨_, h2, h3, h4⟩ := h
    refine four_sim hs k _ _ ⟨g2, h2, ?_, g5⟩ hb
    show d'.code * 256 % 4294967296 + _ = d.code * 256 % 4294967296 + _
    rw [h3, g1]
theorem new_sim (hs : SimS R na nb) {a : A} {b : B} (h : R a b) (hb : (RD.new na a).bad = false) : Sim1 R (RD.new na a) (RD.new nb b) := by
  have h1 : (RD.four na 4 (RD.first na a)).bad = false := by
    have e : ((RD.four na 4 (RD.first na a)).bad || decide ((RD.four na 4 (RD.first na a)).rng ≤ (RD.four na 4 (RD.first na a)).code)) = false := hb
    exact (Bool.or_eq_false_iff.1 e).1
  have h2 : (RD.first na a).bad = false := by
    cases hq : (RD.first na a).bad
    · rfl
    · exact (bad_not h1 (four_bad 4 _ hq)).elim
  obtain ⟨g1, g2, g3, g4⟩ := four_sim hs 4 _ _ (first_sim hs h h2) h1
  refine ⟨g1, g2, g3, ?_⟩
  show (_ || decide _) = (_ || decide _)
  rw [g2, g3, g4]
/-- two runs: as long as the one tells, the other tells the same. -/
theorem lrun_sim (hs : SimS R na nb) (L : LL) (s : LS) {d : RD A} {d' : RD B} (h : d.bad = false → Sim1 R d d') : ∀ k, (∀ i, i < k → lok na L s d i = true) →
    (lrun nb L k s d').1 = (lrun na L k s d).1 ∧ ((lrun na L k s d).2.bad = false → Sim1 R (lrun na L k s d).2 (lrun nb L k s d').2)
  | 0, _ => ⟨rfl, h⟩
  | k + 1, ho => by
    obtain ⟨g1, g2⟩ := lrun_sim hs L s h k (fun i hi => ho i (by omega))
    have h1 := lnext_sim hs L (lrun na L k s d).1 g2 (ho k (by omega))
    obtain ⟨k1, k2, k3⟩ := h1
    show (lnext nb L (lrun nb L k s d').1 (lrun nb L k s d').2).2.1 = _ ∧ _
    rw [g1]
    exact ⟨k2, fun hb => by
      show Sim1 R _ (lnext nb L (lrun nb L k s d').1 (lrun nb L k s d').2).2.2
      rw [g1]
      exact k3 hb⟩
theorem lok_sim (hs : SimS R na nb) (L : LL) (s : LS) {d : RD A} {d' : RD B} (h : d.bad = false → Sim1 R d d') (k : Nat) (ho : ∀ i, i < k + 1 → lok na L s d i = true) : lok nb L s d' k = true ∧ lbyte nb L s d' k = lbyte na L s d k := by
  obtain ⟨g1, g2⟩ := lrun_sim hs L s h k (fun i hi => ho i (by omega))
  obtain ⟨k1, k2, k3⟩ := lnext_sim hs L (lrun na L k s d).1 g2 (ho k (by omega))
  have hk := ho k (by omega)
  unfold lok at hk
  unfold lok lbyte
  rw [g1, k1]
  exact ⟨hk, rfl⟩
end
end Go.Proofs.Ytjnegcambbeblaa

/- The document's walk through LZMA: a byte is told. -/
namespace Go.Proofs.Ytjnegcambbeblaa
open Go.RowKit

theorem KV.grow {C : Type} {K : Cdr C} {U A : Nat → Prop} {g gp np cap : Nat} {v v' : Value} {w w1 w2 : World} {s : LS} {c : C} {b : Int} (hK : K.Ok) (h : KV K U A g gp np cap v w s c) (hf : Fr Non w w1) (ho : Own w2 0 .u8 5 v' (s.H ++ [b])) (hg : w1.grownBy w2 v.ownBlock) (hv : v'.ownBlock = v.ownBlock ∨ v'.ownBlock = some w1.heap.size) (hb0 : 0 ≤ b) (hb1 : b < 256) :
    KV K U (fun k => A k ∨ (w.heap.size ≤ k ∧ k < (w2.setCell ⟨g, 7, none⟩ v').heap.size)) g gp np cap v' (w2.setCell ⟨g, 7, none⟩ v') { s with H := s.H ++ [b] } c ∧ Fr (KF K U) w (w2.setCell ⟨g, 7, none⟩ v') := by
  have hup := h.up hK
  have F2 : Fr (fun k => v.ownBlock = some k) w w2 := (hf.mono (fun _ _ e => e.elim)).grown hg (fun k hk _ => hk)
  have hng : ¬ v.ownBlock = some g := fun e => (h.sep g e).1 rfl
  have hngp : ¬ v.ownBlock = some gp := fun e => (h.sep gp e).2.1 rfl
  have hvn : ∀ k, v'.ownBlock = some k → v.ownBlock = some k ∨ w.heap.size ≤ k := by
    intro k hk
    rcases hv with e | e
    · exact .inl (e ▸ hk)
    · rw [e] at hk
      injection hk with hk
      exact .inr (by rw [← hk]; exact hf.size)
  have hne : ∀ k, v'.ownBlock = some k → k ≠ g ∧ k ≠ gp := by
    intro k hk
    rcases hvn k hk with e | e
    · exact ⟨(h.sep k e).1, (h.sep k e).2.1⟩
    · have := hup.2.1; have := hup.2.2.2.1; exact ⟨by omega, by omega⟩
  have F3 : Fr (fun k => v.ownBlock = some k ∨ k = g) w (w2.setCell ⟨g, 7, none⟩ v') := (F2.mono (fun _ _ e => .inl e)).then ((Fr.refl (fun k => k = g) _).setOne _ _) (fun _ _ e => .inr e)
  have hsz : (w2.setCell ⟨g, 7, none⟩ v').heap.size = w2.heap.size := by simp
  refine ⟨⟨?_, ?_, ?_, ?_, h.ne, .inl h.ag, .inl h.ap, ?_, ?_, ?_⟩, ?_⟩
  · exact blk_set (i := 7) (F2.blk h.at_ hng)
  · exact (h.row.fr F2 (fun k hk => by
      have e : gp = k := by simpa [Value.ownBlock] using hk
      rw [← e]; exact hngp)).fr ((Fr.refl (fun k => k = g) _).setOne _ _) (fun k hk e => by
      have e2 : gp = k := by simpa [Value.ownBlock] using hk
      exact h.ne (by rw [e2]; exact e.symm))
  · exact ho.fr ((Fr.refl (fun k => k = g) _).setOne _ _) (fun k hk => (hne k hk).1)
  · intro k hk
    refine ⟨(hne k hk).1, (hne k hk).2, ?_⟩
    rcases hvn k hk with e | e
    · exact .inl (h.sep k e).2.2
    · exact .inr ⟨e, by rw [hsz]; exact (ho.block k hk).2⟩
  · exact hK.more _ _ _ _ _ h.co F3 (fun k _ e => by
      rcases e with e | e
      · exact (h.sep k e).2.2
      · rw [e]; exact h.ag)
  · refine ⟨h.ok.pr, h.ok.st, h.ok.rep, h.ok.lc, h.ok.lp, h.ok.pb, h.ok.room, h.ok.few, h.ok.dict, fun x hx => ?_⟩
    rcases List.mem_append.1 hx with e | e
    · exact h.ok.by_ x e
    · rw [List.mem_singleton.1 e]; exact ⟨hb0, hb1⟩
  · intro k hk
    refine ⟨.inl (h.un k hk).1, (h.un k hk).2.1, (h.un k hk).2.2.1, fun e => ?_⟩
    rcases hvn k e with e2 | e2
    · exact (h.un k hk).2.2.2 e2
    · have := (hK.old _ _ _ _ h.co (h.un k hk).1).2; omega
  · exact F3.mono (fun k _ e => by
      rcases e with e | e
      · exact (hup.2.2.2.2 k e).1
      · rw [e]; exact hup.1)
/-- whether what decodes is bad, as the walk asks for it. -/
theorem kdv_none {C : Type} {K : Cdr C} (h : K.gd = none) : K.dv = .pointer none := by unfold Cdr.dv; rw [h]
theorem kdv_some {C : Type} {K : Cdr C} {gd : Nat} (h : K.gd = some gd) : K.dv = .pointer (some ⟨gd, 0, none⟩) := by unfold Cdr.dv; rw [h]
end Go.Proofs.Ytjnegcambbeblaa
