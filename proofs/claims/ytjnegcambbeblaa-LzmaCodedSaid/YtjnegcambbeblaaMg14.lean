/- Texts of this proof, one behind the other. -/
import Derived.Test.YtjnegcambbeblaaMg13
import Derived.Test.YtjnegcambbeblaaMg09
import Derived.Test.YtjnegcambbeblaaMg05
import Derived.Lib.SmallJoins
import Derived.ProofKit
import Derived.OpenShut

/- lzma: the document's Probs; light; New of a setting that may not be; a decoder that has not begun. -/
namespace Go.Proofs.Ytjnegcambbeblaa
open Go.RowKit

set_option maxRecDepth 100000 in
set_option maxHeartbeats 800000 in
theorem rprobs_any (p : Lset) (w : World) : Calls Try.prog 27 #[p.val] w fun e w' => e = .returned (.int .i64 (p.probs : Nat)) ∧ Fr Non w w' := by
  have HV := hid (show p.val = .agg #[.int .i64 p.lc, .int .i64 p.lp, .int .i64 p.pb, .int .i64 p.dict] from rfl)
  obtain ⟨R, hR⟩ : ∃ R, R = p.probs := ⟨_, rfl⟩
  rw [← hR]
  have HR := hid hR
  clear hR
  rw [HV.out]
  go_enter Try.func27, Try.ntmps27
  go_upto_region 1 with fail
  go_wp2_with (refine wpList_load_row rfl 23 _ rfl w.heap.size rfl 23 #[.int .i64 p.lc, .int .i64 p.lp, .int .i64 p.pb, .int .i64 p.dict] (0, 0) _ (by exact blk_new w _) Try.underlying23 rfl (by kernel_rfl) ?_)
  rw [← HV.out]
  refine (rmay_any p _).mono ?_
  rintro e w1 ⟨rfl, hf1⟩
  have hb := hf1.blk (blk_new w (.cells #[.int .i64 p.lc, .int .i64 p.lp, .int .i64 p.pb, .int .i64 p.dict] 23)) id
  have F1 := hid (((Fr.refl Non w).alloc _).trans hf1)
  have HB := hid hb
  have k0 := blk_cell hb (j := 0) (v := .int .i64 p.lc) rfl
  have k1 := blk_cell hb (j := 1) (v := .int .i64 p.lp) rfl
  clear hf1 hb
  cases hm : p.may with
  | false =>
    have h : R = 0 := by rw [HR.out]; unfold Lset.probs; rw [if_neg (by rw [hm]; decide)]
    subst h
    clear hm
    go_wp2_with fail
    go_ret
    exact ⟨rfl, F1.out⟩
  | true =>
    have hM := Lset.may_iff.1 hm
    have h : R = 1847 + 768 * 2 ^ (p.lc + p.lp).toNat := by rw [HR.out]; unfold Lset.probs; rw [if_pos hm]
    obtain ⟨K, hK⟩ : ∃ K, K = (p.lc + p.lp).toNat := ⟨_, rfl⟩
    have hKi : p.lc + p.lp = (K : Int) := by have := hM.lc0; have := hM.lp0; omega
    have hK12 : K ≤ 12 := by have := hM.lc1; have := hM.lp1; omega
    have hw : IntKind.i64.wrap (p.lc + p.lp) = (K : Int) := by rw [hKi, IntKind.wrap_i64]; omega
    rw [← hK] at h
    have HRK := hid h
    have HKI := hid hKi
    obtain ⟨m1, m2, m3, m4, m5, m6, m7, m8⟩ := hM
    clear hm h hK m5 m6 m7 m8 hKi hw
    go_wp2_with fail
    go_loopw [3, 4] (fun n i wr => ∃ k : Nat, k ≤ K ∧ i = .int .i64 k ∧ n = .int .i64 ((768 * 2 ^ k : Nat) : Int) ∧ wr = w1) (fun n i _ => K - (intOf i).toNat)
    case atStart => exact ⟨0, Nat.zero_le _, rfl, rfl, rfl⟩
    case round =>
      obtain ⟨k, hk, rfl, rfl, rfl⟩ := hrel
      have hpow : 2 ^ k ≤ 4096 := Nat.pow_le_pow_right (by decide) (by omega : k ≤ 12)
      obtain ⟨X, hX⟩ : ∃ X, X = 768 * 2 ^ k := ⟨_, rfl⟩
      have hXi : (X : Int) ≤ 3145728 := by omega
      have hX0 : (0 : Int) ≤ (X : Int) := by omega
      rw [← hX]
      have HX := hid hX
      clear hX hpow
      by_cases hlt : k < K
      · have hl : (k : Int) < p.lc + p.lp := by have := HKI.out; omega
        go_wp2_with fail
        go_roundw
        case rel => exact ⟨k + 1, by omega, by go_num, by
          congr 1
          rw [Nat.pow_succ]
          have := HX.out
          omega, by first | rfl | trivial⟩
        case measure => simp [intOf]; omega
      · have e : k = K := by omega
        subst e
        have hl : ¬ (k : Int) < p.lc + p.lp := by have := HKI.out; omega
        go_wp2_with fail
        go_ret
        exact ⟨by rw [show ((R : Nat) : Int) = 1847 + (X : Int) by have := HX.out; have := HRK.out; omega]; rfl, F1.out⟩
set_option maxRecDepth 100000 in
theorem light_any (p : Lset) (w : World) : Calls Try.prog 15 #[p.val] w fun e w' => e = .returned (.bool (!p.may || decide (p.lc + p.lp ≤ 6))) ∧ Fr Non w w' := by
  have HV := hid (show p.val = .agg #[.int .i64 p.lc, .int .i64 p.lp, .int .i64 p.pb, .int .i64 p.dict] from rfl)
  obtain ⟨R, hR⟩ : ∃ R, R = (!p.may || decide (p.lc + p.lp ≤ 6)) := ⟨_, rfl⟩
  rw [← hR]
  have HR := hid hR
  clear hR
  rw [HV.out]
  go_enter Try.func15, Try.ntmps15
  go_upto_region 1 with fail
  go_wp2_with (refine wpList_load_row rfl 23 _ rfl w.heap.size rfl 23 #[.int .i64 p.lc, .int .i64 p.lp, .int .i64 p.pb, .int .i64 p.dict] (0, 0) _ (by exact blk_new w _) Try.underlying23 rfl (by kernel_rfl) ?_)
  rw [← HV.out]
  refine (rmay_any p _).mono ?_
  rintro e w1 ⟨rfl, hf1⟩
  have hb := hf1.blk (blk_new w (.cells #[.int .i64 p.lc, .int .i64 p.lp, .int .i64 p.pb, .int .i64 p.dict] 23)) id
  have F1 := hid (((Fr.refl Non w).alloc _).trans hf1)
  have k0 := blk_cell hb (j := 0) (v := .int .i64 p.lc) rfl
  have k1 := blk_cell hb (j := 1) (v := .int .i64 p.lp) rfl
  clear hf1 hb
  cases hm : p.may with
  | false =>
    have h : R = true := by rw [HR.out, hm]; rfl
    subst h
    clear hm
    go_wp2_with fail
    go_ret
    exact ⟨rfl, F1.out⟩
  | true =>
    have HR2 := hid (show R = decide (p.lc + p.lp ≤ 6) by rw [HR.out, hm]; rfl)
    have hM := Lset.may_iff.1 hm
    obtain ⟨m1, m2, m3, m4, m5, m6, m7, m8⟩ := hM
    clear hm m5 m6 m7 m8
    have hw : IntKind.i64.wrap (p.lc + p.lp) = p.lc + p.lp := by rw [IntKind.wrap_i64]; omega
    by_cases h6 : p.lc + p.lp ≤ 6
    · go_wp2_with fail
      go_ret
      exact ⟨by rw [HR2.out, decide_eq_true h6]; rfl, F1.out⟩
    · go_wp2_with fail
      go_ret
      exact ⟨by rw [HR2.out]; rfl, F1.out⟩
set_option maxRecDepth 100000 in
theorem lnew_not (p : Lset) (x : Int) (v : Value) (w : World) (h : p.may = false) : Calls Try.prog 20 #[p.val, .int .i64 x, v] w fun e w' => e = .returned (.tuple #[.pointer none, .int .i64 11]) ∧ Fr Non w w' := by
  have HV := hid (show p.val = .agg #[.int .i64 p.lc, .int .i64 p.lp, .int .i64 p.pb, .int .i64 p.dict] from rfl)
  rw [HV.out]
  have HM := hid h
  clear h
  go_enter Try.func20, Try.ntmps20
  go_upto_region 1 with fail
  go_wp2_with (refine wpList_load_row rfl 23 _ rfl w.heap.size rfl 23 #[.int .i64 p.lc, .int .i64 p.lp, .int .i64 p.pb, .int .i64 p.dict] (0, 0) _ (by exact blk_new w _) Try.underlying23 rfl (by kernel_rfl) ?_)
  rw [← HV.out]
  refine (lmay_any p _).mono ?_
  rintro e w1 ⟨rfl, hf1⟩
  rw [HM.out]
  have F1 := hid (((Fr.refl Non w).alloc _).trans hf1)
  clear hf1
  go_wp2_with fail
  go_ret2
  exact ⟨rfl, F1.out⟩
theorem lnext_nil (g : Nat) (w : World) (h : w.cell? ⟨g, 8, none⟩ = some (.pointer none)) : Calls Try.prog 23 #[.pointer (some ⟨g, 0, none⟩)] w fun e w' => e = .returned (.tuple #[.int .u8 0, .bool false]) ∧ w = w' := by
  go_enter Try.func23, Try.ntmps23
  go_wp2_with fail
  go_ret2
  exact ⟨rfl, rfl⟩
theorem lwhole_nil (g : Nat) (w : World) (h : w.cell? ⟨g, 8, none⟩ = some (.pointer none)) : Calls Try.prog 29 #[.pointer (some ⟨g, 0, none⟩)] w fun e w' => e = .returned (.bool false) ∧ w = w' := by
  go_enter Try.func29, Try.ntmps29
  go_wp2_with fail
  go_ret
  exact ⟨rfl, rfl⟩
theorem lfinish_nil (g : Nat) (w : World) (h : w.cell? ⟨g, 8, none⟩ = some (.pointer none)) : Calls Try.prog 30 #[.pointer (some ⟨g, 0, none⟩)] w fun e w' => e = .returned (.bool false) ∧ w = w' := by
  go_enter Try.func30, Try.ntmps30
  go_wp2_with fail
  go_ret
  exact ⟨rfl, rfl⟩
end Go.Proofs.Ytjnegcambbeblaa

/- plain: decoders over two sources, of which the other one answers as the one does wherever that one has a byte: what the one tells without being bad, the other one tells. -/
namespace Go.Proofs.Ytjnegcambbeblaa
open Go.RowKit

structure SimS {A B : Type} (R : A → B → Prop) (na : A → Int × Bool × A) (nb : B → Int × Bool × B) : Prop where
  go : ∀ a b, R a b → (na a).2.1 = true → (nb b).1 = (na a).1 ∧ (nb b).2.1 = true ∧ R (na a).2.2 (nb b).2.2
def Sim1 {A B : Type} (R : A → B → Prop) (d : RD A) (d' : RD B) : Prop := R d.src d'.src ∧ d'.rng = d.rng ∧ d'.code = d.code ∧ d'.bad = d.bad
section
variable {A B : Type} {R : A → B → Prop} {na : A → Int × Bool × A} {nb : B → Int × Bool × B}
theorem next_sim (hs : SimS R na nb) {d : RD A} {d' : RD B} (h : Sim1 R d d') (hb : (d.next na).2.bad = false) : (d'.next nb).1 = (d.next na).1 ∧ Sim1 R (d.next na).2 (d'.next nb).2 := by
  obtain ⟨h1, h2, h3, h4⟩ := h
  unfold RD.next at hb ⊢
  by_cases hd : d.bad = true
  · rw [if_pos hd] at hb
    rw [hd] at hb; cases hb
  · rw [if_neg hd] at hb ⊢
    rw [if_neg (by rw [h4]; exact hd)]
    have ho : (na d.src).2.1 = true := by
      have e : (!(na d.src).2.1) = false := hb
      cases hq : (na d.src).2.1
      · rw [hq] at e; cases e
      · rfl
    obtain ⟨g1, g2, g3⟩ := hs.go _ _ h1 ho
    exact ⟨g1, g3, h2, h3, by show (!(nb d'.src).2.1) = !(na d.src).2.1; rw [g2, ho]⟩
theorem level_sim (hs : SimS R na nb) {d : RD A} {d' : RD B} (h : Sim1 R d d') (hb : (d.level na).bad = false) : Sim1 R (d.level na) (d'.level nb) := by
  have h0 := h
  obtain ⟨h1, h2, h3, h4⟩ := h
  by_cases hr : d.rng < 16777216
  · rw [RD.level_lt na d hr] at hb ⊢
    rw [RD.level_lt nb d' (by rw [h2]; exact hr)]
    obtain ⟨g1, g2, g3, g4, g5⟩ := next_sim hs h0 hb
    exact ⟨g2, by show d'.rng * 256 = d.rng * 256; rw [h2], by show d'.code * 256 % 4294967296 + _ = d.code * 256 % 4294967296 + _; rw [h3, g1], g5⟩
  · rw [RD.level_ge na d hr]
    rw [RD.level_ge nb d' (by rw [h2]; exact hr)]
    exact h0
theorem level_bad (d : RD A) (h : d.bad = true) : (d.level na).bad = true := by
  unfold RD.level RD.next
  rw [if_pos h]
  split
  · exact h
  · exact h
theorem bit_sim (hs : SimS R na nb) {d : RD A} {d' : RD B} (p : Int) (h : Sim1 R d d') (hb : (d.bit na p).2.2.bad = false) : (d'.bit nb p).1 = (d.bit na p).1 ∧ (d'.bit nb p).2.1 = (d.bit na p).2.1 ∧ Sim1 R (d.bit na p).2.2 (d'.bit nb p).2.2 := by
  obtain ⟨h1, h2, h3, h4⟩ := h
  unfold RD.bit at hb ⊢
  by_cases hd : d.bad = true
  · rw [if_pos hd] at hb
    rw [hd] at hb; cases hb
  · rw [if_neg hd] at hb ⊢
    rw [if_neg (by rw [h4]; exact hd)]
    by_cases hc : d.code < d.rng / 2048 * p
    · rw [if_pos hc] at hb ⊢
      rw [if_pos (by rw [h2, h3]; exact hc)]
      refine ⟨rfl, rfl, level_sim hs (d := ⟨d.src, d.rng / 2048 * p, d.code, d.bad⟩) ⟨h1, ?_, h3, h4⟩ hb⟩
      show d'.rng / 2048 * p = d.rng / 2048 * p
      rw [h2]
    · rw [if_neg hc] at hb ⊢
      rw [if_neg (by rw [h2, h3]; exact hc)]
      have hl := level_sim hs (d := ⟨d.src, d.rng - d.rng / 2048 * p, d.code - d.rng / 2048 * p, d.bad⟩) (d' := ⟨d'.src, d'.rng - d'.rng / 2048 * p, d'.code - d'.rng / 2048 * p, d'.bad⟩) ⟨h1, by show d'.rng - d'.rng / 2048 * p = d.rng - d.rng / 2048 * p; rw [h2], by show d'.code - d'.rng / 2048 * p = d.code - d.rng / 2048 * p; rw [h2, h3], h4⟩ hb
      have hb' : (RD.level na ⟨d.src, d.rng - d.rng / 2048 * p, d.code - d.rng / 2048 * p, d.bad⟩).bad = false := hb
      refine ⟨?_, rfl, hl⟩
      rw [if_neg (by rw [hl.2.2.2, hb']; decide), if_neg (by rw [hb']; decide)]
/-- functions of probabilities and a decoder, over the one and the other source. -/
structure N3 (R : A → B → Prop) (FA : (Nat → Int) → RD A → Nat × (Nat → Int) × RD A) (FB : (Nat → Int) → RD B → Nat × (Nat → Int) × RD B) : Prop where
  fol : ∀ P d d', Sim1 R d d' → (FA P d).2.2.bad = false → (FB P d').1 = (FA P d).1 ∧ (FB P d').2.1 = (FA P d).2.1 ∧ Sim1 R (FA P d).2.2 (FB P d').2.2
  stk : ∀ P d, d.bad = true → (FA P d).2.2.bad = true
theorem N3.good {FA : (Nat → Int) → RD A → Nat × (Nat → Int) × RD A} {FB : (Nat → Int) → RD B → Nat × (Nat → Int) × RD B} (h : N3 R FA FB) {P : Nat → Int} {d : RD A} (hb : (FA P d).2.2.bad = false) : d.bad = false := by
  cases hd : d.bad
  · rfl
  · rw [h.stk P d hd] at hb; cases hb
theorem N3.bind {FA : (Nat → Int) → RD A → Nat × (Nat → Int) × RD A} {FB : (Nat → Int) → RD B → Nat × (Nat → Int) × RD B} {GA : Nat → (Nat → Int) → RD A → Nat × (Nat → Int) × RD A} {GB : Nat → (Nat → Int) → RD B → Nat × (Nat → Int) × RD B}
    (h : N3 R FA FB) (k : ∀ x, N3 R (GA x) (GB x)) : N3 R (fun P d => GA (FA P d).1 (FA P d).2.1 (FA P d).2.2) (fun P d => GB (FB P d).1 (FB P d).2.1 (FB P d).2.2) where
  fol P d d' hd hb := by
    have h1 := (k (FA P d).1).good hb
    obtain ⟨g1, g2, g3⟩ := h.fol P d d' hd h1
    try dsimp only at hb ⊢
    rw [g1, g2]
    exact (k (FA P d).1).fol _ _ _ g3 hb
  stk P d hd := (k _).stk _ _ (h.stk P d hd)
theorem N3.pure (x : Nat) : N3 (A := A) (B := B) R (fun P d => (x, P, d)) (fun P d => (x, P, d)) := ⟨fun _ _ _ h _ => ⟨rfl, rfl, h⟩, fun _ _ h => h⟩
theorem N3.map {FA : (Nat → Int) → RD A → Nat × (Nat → Int) × RD A} {FB : (Nat → Int) → RD B → Nat × (Nat → Int) × RD B} (f : Nat → Nat) (h : N3 R FA FB) : N3 R (fun P d => (f (FA P d).1, (FA P d).2)) (fun P d => (f (FB P d).1, (FB P d).2)) :=
  ⟨fun P d d' hd hb => by obtain ⟨g1, g2, g3⟩ := h.fol P d d' hd hb; exact ⟨by dsimp only; rw [g1], g2, g3⟩, h.stk⟩
theorem bit_n (hs : SimS R na nb) (k : Nat) : N3 R (fun P d => lbit na P d k) (fun P d => lbit nb P d k) where
  fol P d d' hd hb := by
    obtain ⟨g1, g2, g3⟩ := bit_sim hs (P k) hd hb
    refine ⟨g1, ?_, g3⟩
    show upd P k (d'.bit nb (P k)).2.1 = upd P k (d.bit na (P k)).2.1
    rw [g2]
  stk P d hd := by
    show (d.bit na (P k)).2.2.bad = true
    rw [bit_bad na d _ hd]; exact hd
theorem treeGo_n (hs : SimS R na nb) : ∀ (k m : Nat), N3 R (fun q d => RD.treeGo na k d q m) (fun q d => RD.treeGo nb k d q m)
  | 0, m => N3.pure m
  | k + 1, m => N3.bind (bit_n hs m) (GA := fun x q d => RD.treeGo na k d q (2 * m + x)) (GB := fun x q d => RD.treeGo nb k d q (2 * m + x)) (fun x => treeGo_n hs k (2 * m + x))
theorem revGo_n (hs : SimS R na nb) : ∀ (k i m out : Nat), N3 R (fun q d => RD.revGo na k i d q m out) (fun q d => RD.revGo nb k i d q m out)
  | 0, _, _, out => N3.pure out
  | k + 1, i, m, out => N3.bind (bit_n hs m) (GA := fun x q d => RD.revGo na k (i + 1) d q (2 * m + x) (out + x * 2 ^ i)) (GB := fun x q d => RD.revGo nb k (i + 1) d q (2 * m + x) (out + x * 2 ^ i)) (fun x => revGo_n hs k (i + 1) (2 * m + x) (out + x * 2 ^ i))
theorem tree_n (hs : SimS R na nb) (k B' : Nat) : N3 R (fun P d => ltree na P d k B') (fun P d => ltree nb P d k B') where
  fol P d d' hd hb := by
    have hb' : (RD.treeGo na B' d (fun j => P (k + j)) 1).2.2.bad = false := hb
    obtain ⟨g1, g2, g3⟩ := (treeGo_n hs B' 1).fol (fun j => P (k + j)) d d' hd hb'
    refine ⟨?_, ?_, g3⟩
    · show (if (RD.treeGo nb B' d' (fun j => P (k + j)) 1).2.2.bad = true then 0 else _) = (if (RD.treeGo na B' d (fun j => P (k + j)) 1).2.2.bad = true then 0 else _)
      rw [g3.2.2.2, g1]
    · show spliceQ P k (2 ^ B') (RD.treeGo nb B' d' (fun j => P (k + j)) 1).2.1 = spliceQ P k (2 ^ B') (RD.treeGo na B' d (fun j => P (k + j)) 1).2.1
      rw [g2]
  stk P d hd := by
    show (RD.treeGo na B' d (fun j => P (k + j)) 1).2.2.bad = true
    rw [treeGo_bad na B' d _ 1 hd]; exact hd
theorem rev_n (hs : SimS R na nb) (k B' : Nat) : N3 R (fun P d => lrev na P d k B') (fun P d => lrev nb P d k B') where
  fol P d d' hd hb := by
    have hb' : (RD.revGo na B' 0 d (fun j => P (k + j)) 1 0).2.2.bad = false := hb
    obtain ⟨g1, g2, g3⟩ := (revGo_n hs B' 0 1 0).fol (fun j => P (k + j)) d d' hd hb'
    refine ⟨?_, ?_, g3⟩
    · show (if (RD.revGo nb B' 0 d' (fun j => P (k + j)) 1 0).2.2.bad = true then 0 else _) = (if (RD.revGo na B' 0 d (fun j => P (k + j)) 1 0).2.2.bad = true then 0 else _)
      rw [g3.2.2.2, g1]
    · show spliceQ P k (2 ^ B') (RD.revGo nb B' 0 d' (fun j => P (k + j)) 1 0).2.1 = spliceQ P k (2 ^ B') (RD.revGo na B' 0 d (fun j => P (k + j)) 1 0).2.1
      rw [g2]
  stk P d hd := by
    show (RD.revGo na B' 0 d (fun j => P (k + j)) 1 0).2.2.bad = true
    rw [revGo_bad na B' 0 d _ 1 0 hd]; exact hd
theorem str1_sim (hs : SimS R na nb) {d : RD A} {d' : RD B} (h : Sim1 R d d') (hb : (d.str1 na).2.bad = false) : (d'.str1 nb).1 = (d.str1 na).1 ∧ Sim1 R (d.str1 na).2 (d'.str1 nb).2 := by
  obtain ⟨h1, h2, h3, h4⟩ := h
  unfold RD.str1 at hb ⊢
  by_cases hc : d.rng / 2 ≤ d.code
  · rw [if_pos hc] at hb ⊢
    rw [if_pos (by rw [h2, h3]; exact hc)]
    exact ⟨rfl, level_sim hs (d := ⟨d.src, d.rng / 2, d.code - d.rng / 2, decide (d.rng / 2 ≤ d.code - d.rng / 2)⟩) ⟨h1, by show d'.rng / 2 = d.rng / 2; rw [h2], by show d'.code - d'.rng / 2 = d.code - d.rng / 2; rw [h2, h3], by show decide _ = decide _; rw [h2, h3]⟩ hb⟩
  · rw [if_neg hc] at hb ⊢
    rw [if_neg (by rw [h2, h3]; exact hc)]
    exact ⟨rfl, level_sim hs (d := ⟨d.src, d.rng / 2, d.code, false⟩) ⟨h1, by show d'.rng / 2 = d.rng / 2; rw [h2], h3, rfl⟩ hb⟩
theorem strGo_sim (hs : SimS R na nb) : ∀ (k : Nat) (d : RD A) (d' : RD B) (out : Nat), Sim1 R d d' → (RD.strGo na k d out).2.bad = false → (RD.strGo nb k d' out).1 = (RD.strGo na k d out).1 ∧ Sim1 R (RD.strGo na k d out).2 (RD.strGo nb k d' out).2
  | 0, d, d', out, h, _ => ⟨rfl, h⟩
  | k + 1, d, d', out, h, hb => by
    have hd : d.bad = false := by
      cases hd : d.bad
      · rfl
      · rw [strGo_bad na _ d out hd] at hb; rw [hd] at hb; cases hb
    rw [strGo_good na k d out hd] at hb ⊢
    rw [strGo_good nb k d' out (by rw [h.2.2.2]; exact hd)]
    have h1 : (d.str1 na).2.bad = false := by
      cases hq : (d.str1 na).2.bad
      · rfl
      · rw [strGo_bad na k _ _ hq] at hb; rw [hq] at hb; cases hb
    obtain ⟨g1, g2⟩ := str1_sim hs h h1
    rw [g1]
    exact strGo_sim hs k _ _ _ g2 hb
theorem str_n (hs : SimS R na nb) (k : Nat) : N3 R (fun P d => ((d.str na k).1, P, (d.str na k).2)) (fun P d => ((d.str nb k).1, P, (d.str nb k).2)) where
  fol P d d' hd hb := by
    have hb' : (RD.strGo na k d 0).2.bad = false := hb
    obtain ⟨g1, g2⟩ := strGo_sim hs k d d' 0 hd hb'
    refine ⟨?_, rfl, g2⟩
    show (if (RD.strGo nb k d' 0).2.bad = true then 0 else _) = (if (RD.strGo na k d 0).2.bad = true then 0 else _)
    rw [g2.2.2.2, g1]
  stk P d hd := by
    show (RD.strGo na k d 0).2.bad = true
    rw [strGo_bad na k d 0 hd]; exact hd
theorem tell_n (hs : SimS R na nb) (b sp : Nat) : N3 R (fun P d => ltell na P d b sp) (fun P d => ltell nb P d b sp) :=
  N3.bind (bit_n hs b)
    (GA := fun x P d => if x = 0 then ltree na P d (b + 2 + 8 * sp) 3 else if (lbit na P d (b + 1)).1 = 0 then (8 + (ltree na (lbit na P d (b + 1)).2.1 (lbit na P d (b + 1)).2.2 (b + 130 + 8 * sp) 3).1, (ltree na (lbit na P d (b + 1)).2.1 (lbit na P d (b + 1)).2.2 (b + 130 + 8 * sp) 3).2) else (16 + (ltree na (lbit na P d (b + 1)).2.1 (lbit na P d (b + 1)).2.2 (b + 258) 8).1, (ltree na (lbit na P d (b + 1)).2.1 (lbit na P d (b + 1)).2.2 (b + 258) 8).2))
    (GB := fun x P d => if x = 0 then ltree nb P d (b + 2 + 8 * sp) 3 else if (lbit nb P d (b + 1)).1 = 0 then (8 + (ltree nb (lbit nb P d (b + 1)).2.1 (lbit nb P d (b + 1)).2.2 (b + 130 + 8 * sp) 3).1, (ltree nb (lbit nb P d (b + 1)).2.1 (lbit nb P d (b + 1)).2.2 (b + 130 + 8 * sp) 3).2) else (16 + (ltree nb (lbit nb P d (b + 1)).2.1 (lbit nb P d (b + 1)).2.2 (b + 258) 8).1, (ltree nb (lbit nb P d (b + 1)).2.1 (lbit nb P d (b + 1)).2.2 (b + 258) 8).2))
    (fun x => by
      by_cases hx : x = 0
      · simp only [if_pos hx]; exact tree_n hs _ _
      · simp only [if_neg hx]
        exact N3.bind (bit_n hs (b + 1))
          (GA := fun y P d => if y = 0 then (8 + (ltree na P d (b + 130 + 8 * sp) 3).1, (ltree na P d (b + 130 + 8 * sp) 3).2) else (16 + (ltree na P d (b + 258) 8).1, (ltree na P d (b + 258) 8).2))
          (GB := fun y P d => if y = 0 then (8 + (ltree nb P d (b + 130 + 8 * sp) 3).1, (ltree nb P d (b + 130 + 8 * sp) 3).2) else (16 + (ltree nb P d (b + 258) 8).1, (ltree nb P d (b + 258) 8).2))
          (fun y => by
            by_cases hy : y = 0
            · simp only [if_pos hy]; exact N3.map (8 + ·) (tree_n hs _ _)
            · simp only [if_neg hy]; exact N3.map (16 + ·) (tree_n hs _ _)))
theorem dist_n (hs : SimS R na nb) (l : Nat) : N3 R (fun P d => ldist na P d l) (fun P d => ldist nb P d l) :=
  N3.bind (tree_n hs (432 + 64 * min l 3) 6) (GA := fun x P d => ldist2 na P d x) (GB := fun x P d => ldist2 nb P d x) (fun x => by
    unfold ldist2
    by_cases h4 : x < 4
    · simp only [if_pos h4]; exact N3.pure x
    · simp only [if_neg h4]
      by_cases h14 : x < 14
      · simp only [if_pos h14]; exact N3.map (slotB x + ·) (rev_n hs _ _)
      · simp only [if_neg h14]
        exact N3.bind (str_n hs (slotN x - 4)) (GA := fun y P d => (slotB x + 16 * y + (lrev na P d 803 4).1, (lrev na P d 803 4).2)) (GB := fun y P d => (slotB x + 16 * y + (lrev nb P d 803 4).1, (lrev nb P d 803 4).2)) (fun y => N3.map (slotB x + 16 * y + ·) (rev_n hs _ _)))
theorem litGo_n (hs : SimS R na nb) (k0 o : Nat) : ∀ (i : Nat) (b : Bool) (m : Nat), N3 R (fun P d => litGo na k0 i b o m P d) (fun P d => litGo nb k0 i b o m P d)
  | 0, b, m => by unfold litGo; exact N3.pure m
  | i + 1, true, m => by
    unfold litGo
    exact N3.bind (bit_n hs (k0 + 256 * (1 + o / 2 ^ i % 2) + m)) (GA := fun x P d => litGo na k0 i (x == o / 2 ^ i % 2) o (2 * m + x) P d) (GB := fun x P d => litGo nb k0 i (x == o / 2 ^ i % 2) o (2 * m + x) P d) (fun x => litGo_n hs k0 o i _ _)
  | i + 1, false, m => by
    unfold litGo
    exact N3.bind (bit_n hs (k0 + m)) (GA := fun x P d => litGo na k0 i false o (2 * m + x) P d) (GB := fun x P d => litGo nb k0 i false o (2 * m + x) P d) (fun x => litGo_n hs k0 o i _ _)
/-! ### packets -/
/-- what a function that turns a decoder's state does over the one source and the other. -/
def Fol3 {V : Type} (R : A → B → Prop) (r : V × LS × RD A) (r' : V × LS × RD B) : Prop := r.2.2.bad = false → r'.1 = r.1 ∧ r'.2.1 = r.2.1 ∧ Sim1 R r.2.2 r'.2.2
theorem fresh_sim (hs : SimS R na nb) (s : LS) (sp : Nat) {d : RD A} {d' : RD B} (h : Sim1 R d d') : Fol3 R (lfresh na s d sp) (lfresh nb s d' sp) := by
  intro hb
  have hN := N3.bind (tell_n hs 819 sp) (GA := fun l P d => ldist na P d l) (GB := fun l P d => ldist nb P d l) (fun l => dist_n hs l)
  have hb' : (ldist na (ltell na s.P d 819 sp).2.1 (ltell na s.P d 819 sp).2.2 (ltell na s.P d 819 sp).1).2.2.bad = false := hb
  obtain ⟨g1, g2, g3⟩ := hN.fol s.P d d' h hb'
  try dsimp only at g1 g2 g3
  obtain ⟨k1, k2, k3⟩ := (tell_n hs 819 sp).fol s.P d d' h ((dist_n hs _).good hb')
  unfold lfresh
  try dsimp only
  rw [g1, g2, g3.2.2.2, k1]
  rw [k1] at g3
  exact ⟨rfl, rfl, g3⟩
theorem fresh_stk (hs : SimS R na nb) (s : LS) (sp : Nat) (d : RD A) (h : d.bad = true) : (lfresh na s d sp).2.2.bad = true :=
  (dist_n hs _).stk _ _ ((tell_n hs 819 sp).stk s.P d h)
theorem pick_sim (hs : SimS R na nb) (P : Nat → Int) (st sp : Nat) {d : RD A} {d' : RD B} (h : Sim1 R d d') (hb : (lagPick na P d st sp).2.2.bad = false) : (lagPick nb P d' st sp).1 = (lagPick na P d st sp).1 ∧ (lagPick nb P d' st sp).2.1 = (lagPick na P d st sp).2.1 ∧ Sim1 R (lagPick na P d st sp).2.2 (lagPick nb P d' st sp).2.2 := by
  have B0 := bit_n hs (204 + st)
  have h0 : (lbit na P d (204 + st)).2.2.bad = false := by
    unfold lagPick at hb
    split at hb
    · exact (bit_n hs _).good hb
    · split at hb
      · exact (bit_n hs _).good hb
      · exact (bit_n hs _).good ((bit_n hs _).good hb)
  obtain ⟨g1, g2, g3⟩ := B0.fol P d d' h h0
  try dsimp only at g1 g2 g3
  unfold lagPick at hb ⊢
  rw [g1, g2]
  by_cases hx : (lbit na P d (204 + st)).1 = 0
  · rw [if_pos hx] at hb ⊢
    rw [if_pos hx]
    obtain ⟨k1, k2, k3⟩ := (bit_n hs (240 + 16 * st + sp)).fol _ _ _ g3 hb
    try dsimp only at k1 k2 k3 ⊢
    rw [k1, k2]
    exact ⟨rfl, rfl, k3⟩
  · rw [if_neg hx] at hb ⊢
    rw [if_neg hx]
    have h1 : (lbit na (lbit na P d (204 + st)).2.1 (lbit na P d (204 + st)).2.2 (216 + st)).2.2.bad = false := by
      split at hb
      · exact hb
      · exact (bit_n hs _).good hb
    obtain ⟨k1, k2, k3⟩ := (bit_n hs (216 + st)).fol _ _ _ g3 h1
    try dsimp only at k1 k2 k3
    rw [k1, k2]
    by_cases hy : (lbit na (lbit na P d (204 + st)).2.1 (lbit na P d (204 + st)).2.2 (216 + st)).1 = 0
    · rw [if_pos hy, if_pos hy]
      exact ⟨rfl, k2, k3⟩
    · rw [if_neg hy] at hb ⊢
      rw [if_neg hy]
      obtain ⟨m1, m2, m3⟩ := (bit_n hs (228 + st)).fol _ _ _ k3 hb
      try dsimp only at m1 m2 m3 ⊢
      rw [m1, m2]
      exact ⟨rfl, rfl, m3⟩
theorem pick_stk (hs : SimS R na nb) (P : Nat → Int) (st sp : Nat) (d : RD A) (h : d.bad = true) : (lagPick na P d st sp).2.2.bad = true := by
  unfold lagPick
  split
  · exact (bit_n hs _).stk _ _ ((bit_n hs _).stk _ _ h)
  · split
    · exact (bit_n hs _).stk _ _ ((bit_n hs _).stk _ _ h)
    · exact (bit_n hs _).stk _ _ ((bit_n hs _).stk _ _ ((bit_n hs _).stk _ _ h))
theorem lagEnd_sim (hs : SimS R na nb) (s : LS) (sp : Nat) {d : RD A} {d' : RD B} (h : Sim1 R d d') : Fol3 R (lagEnd na s d sp) (lagEnd nb s d' sp) := by
  intro hb
  obtain ⟨g1, g2, g3⟩ := (tell_n hs 1333 sp).fol s.P d d' h hb
  try dsimp only at g1 g2 g3
  unfold lagEnd
  rw [g1, g2]
  exact ⟨rfl, rfl, g3⟩
theorem again_sim (hs : SimS R na nb) (s : LS) (sp : Nat) {d : RD A} {d' : RD B} (h : Sim1 R d d') : Fol3 R (lagain na s d sp) (lagain nb s d' sp) := by
  intro hb
  have h0 : (lagPick na s.P d s.st sp).2.2.bad = false := by
    unfold lagain at hb
    split at hb
    · exact hb
    · exact (tell_n hs 1333 sp).good hb
  obtain ⟨g1, g2, g3⟩ := pick_sim hs s.P s.st sp h h0
  unfold lagain at hb ⊢
  rw [g1, g2]
  cases hk : (lagPick na s.P d s.st sp).1 with
  | none => exact ⟨rfl, rfl, g3⟩
  | some k =>
    rw [hk] at hb
    exact lagEnd_sim hs _ sp g3 hb
theorem again_stk (hs : SimS R na nb) (s : LS) (sp : Nat) (d : RD A) (h : d.bad = true) : (lagain na s d sp).2.2.bad = true := by
  unfold lagain
  split
  · exact pick_stk hs _ _ _ _ h
  · exact (tell_n hs 1333 sp).stk _ _ (pick_stk hs _ _ _ _ h)
theorem lpEnd_bad {S : Type} (L : LL) (s : LS) (d : RD S) (h : d.bad = true) : (lpEnd L s d).bad = true := by
  unfold lpEnd
  rw [if_pos (by rw [h]; simp)]
  show (s.bad || d.bad) = true
  rw [h]; simp
theorem lpEnd_eq (L : LL) (s : LS) (d : RD A) (d' : RD B) (h : d'.bad = d.bad) : lpEnd L s d' = lpEnd L s d := by
  unfold lpEnd
  rw [h]
theorem llit_n (hs : SimS R na nb) (L : LL) (s : LS) (P : Nat → Int) {d : RD A} {d' : RD B} (h : Sim1 R d d') (hb : (llit na L { s with P := P } d).2.2.bad = false) :
    (llit nb L { s with P := P } d').1 = (llit na L { s with P := P } d).1 ∧ (llit nb L { s with P := P } d').2.1 = (llit na L { s with P := P } d).2.1 ∧ Sim1 R (llit na L { s with P := P } d).2.2 (llit nb L { s with P := P } d').2.2 :=
  (litGo_n hs (1847 + s.row L) (backH s.H L.n (s.rep 0)).toNat 8 (decide (7 ≤ s.st)) 1).fol P d d' h hb
theorem bad_not {b : Bool} (h1 : b = false) (h2 : b = true) : False := by rw [h1] at h2; cases h2
/-- a packet that leaves a decoder that is not bad. -/
theorem packet_sim (hs : SimS R na nb) (L : LL) (s : LS) {d : RD A} {d' : RD B} (h : Sim1 R d d') (hb : (lpacket na L s d).2.2.bad = false) :
    (lpacket nb L s d').1 = (lpacket na L s d).1 ∧ (lpacket nb L s d').2.1 = (lpacket na L s d).2.1 ∧ Sim1 R (lpacket na L s d).2.2 (lpacket nb L s d').2.2 := by
  have h0 : (lbit na s.P d (16 * s.st + s.place % 2 ^ s.pb)).2.2.bad = false := by
    unfold lpacket at hb
    try dsimp only at hb
    split at hb
    · exact (litGo_n hs (1847 + s.row L) (backH s.H L.n (s.rep 0)).toNat 8 (decide (7 ≤ s.st)) 1).good hb
    · split at hb
      · cases hq : (lbit na s.P d (16 * s.st + s.place % 2 ^ s.pb)).2.2.bad
        · rfl
        · exact (bad_not hb (fresh_stk hs _ _ _ ((bit_n hs (192 + s.st)).stk _ _ hq))).elim
      · split at hb
        · exact (bit_n hs _).good hb
        · cases hq : (lbit na s.P d (16 * s.st + s.place % 2 ^ s.pb)).2.2.bad
          · rfl
          · exact (bad_not hb (again_stk hs _ _ _ ((bit_n hs (192 + s.st)).stk _ _ hq))).elim
  obtain ⟨g1, g2, g3⟩ := (bit_n hs (16 * s.st + s.place % 2 ^ s.pb)).fol s.P d d' h h0
  try dsimp only at g1 g2 g3
  unfold lpacket at hb ⊢
  try dsimp only at hb ⊢
  rw [g1, g2]
  by_cases hx : (lbit na s.P d (16 * s.st + s.place % 2 ^ s.pb)).1 = 0
  · rw [if_pos hx] at hb ⊢
    rw [if_pos hx]
    obtain ⟨k1, k2, k3⟩ := llit_n hs L s _ g3 hb
    try dsimp only
    rw [k1, k2, k3.2.2.2]
    exact ⟨rfl, rfl, k3⟩
  · rw [if_neg hx] at hb ⊢
    rw [if_neg hx]
    have h1 : (lbit na (lbit na s.P d (16 * s.st + s.place % 2 ^ s.pb)).2.1 (lbit na s.P d (16 * s.st + s.place % 2 ^ s.pb)).2.2 (192 + s.st)).2.2.bad = false := by
      cases hq : (lbit na (lbit na s.P d (16 * s.st + s.place % 2 ^ s.pb)).2.1 (lbit na s.P d (16 * s.st + s.place % 2 ^ s.pb)).2.2 (192 + s.st)).2.2.bad
      · rfl
      · split at hb
        · exact (bad_not hb (fresh_stk hs _ _ _ hq)).elim
        · split at hb
          · exact absurd (hq.symm.trans hb) (by decide)
          · exact (bad_not hb (again_stk hs _ _ _ hq)).elim
    obtain ⟨k1, k2, k3⟩ := (bit_n hs (192 + s.st)).fol _ _ _ g3 h1
    try dsimp only at k1 k2 k3
    rw [k1, k2]
    by_cases hy : (lbit na (lbit na s.P d (16 * s.st + s.place % 2 ^ s.pb)).2.1 (lbit na s.P d (16 * s.st + s.place % 2 ^ s.pb)).2.2 (192 + s.st)).1 = 0
    · rw [if_pos hy] at hb ⊢
      rw [if_pos hy]
      obtain ⟨m1, m2, m3⟩ := fresh_sim hs { s with P := (lbit na (lbit na s.P d (16 * s.st + s.place % 2 ^ s.pb)).2.1 (lbit na s.P d (16 * s.st + s.place % 2 ^ s.pb)).2.2 (192 + s.st)).2.1 } (s.place % 2 ^ s.pb) k3 hb
      refine ⟨rfl, ?_, m3⟩
      try dsimp only
      rw [m1, m2]
      exact lpEnd_eq L _ _ _ m3.2.2.2
    · rw [if_neg hy] at hb ⊢
      rw [if_neg hy]
      by_cases hc : min s.H.length L.n = 0
      · rw [if_pos hc] at hb ⊢
        rw [if_pos hc]
        refine ⟨rfl, ?_, k3⟩
        dsimp only
        exact lpEnd_eq L _ _ _ k3.2.2.2
      · rw [if_neg hc] at hb ⊢
        rw [if_neg hc]
        obtain ⟨m1, m2, m3⟩ := again_sim hs { s with P := (lbit na (lbit na s.P d (16 * s.st + s.place % 2 ^ s.pb)).2.1 (lbit na s.P d (16 * s.st + s.place % 2 ^ s.pb)).2.2 (192 + s.st)).2.1 } (s.place % 2 ^ s.pb) k3 hb
        refine ⟨rfl, ?_, m3⟩
        try dsimp only
        rw [m1, m2]
        exact lpEnd_eq L _ _ _ m3.2.2.2
end
end Go.Proofs.Ytjnegcambbeblaa

/- plain: two decoders' runs, over two sources. -/
namespace Go.Proofs.Ytjnegcambbeblaa
open Go.RowKit
section
variable {A B : Type} {R : A → B → Prop} {na : A → Int × Bool × A} {nb : B → Int × Bool × B}
theorem packet_stk (hs : SimS R na nb) (L : LL) (s : LS) (d : RD A) (h : d.bad = true) : (lpacket na L s d).2.2.bad = true := by
  unfold lpacket
  dsimp only
  split
  · exact (litGo_n hs (1847 + s.row L) (backH s.H L.n (s.rep 0)).toNat 8 (decide (7 ≤ s.st)) 1).stk _ _ ((bit_n hs _).stk _ _ h)
  · split
    · exact fresh_stk hs _ _ _ ((bit_n hs _).stk _ _ ((bit_n hs _).stk _ _ h))
    · split
      · exact (bit_n hs _).stk _ _ ((bit_n hs _).stk _ _ h)
      · exact again_stk hs _ _ _ ((bit_n hs _).stk _ _ ((bit_n hs _).stk _ _ h))
theorem lpEnd_left {S : Type} (L : LL) (s : LS) (d : RD S) (h : d.bad = true) : (lpEnd L s d).left = 0 := by
  unfold lpEnd
  rw [if_pos (by rw [h]; simp)]
/-- a packet behind which the decoder is bad tells nothing. -/
theorem packet_bad (L : LL) (s : LS) (d : RD A) (hl : s.left = 0) (h : (lpacket na L s d).2.2.bad = true) : (lpacket na L s d).1.2 = false ∧ (lpacket na L s d).2.1.left = 0 ∧ (lpacket na L s d).2.1.bad = true := by
  unfold lpacket at h ⊢
  dsimp only at h ⊢
  split at h
  · rename_i h0
    rw [if_pos h0]
    exact ⟨by show (!_) = false; rw [h]; rfl, hl, h⟩
  · rename_i h0
    rw [if_neg h0]
    split at h
    · rename_i h1
      rw [if_pos h1]
      exact ⟨rfl, lpEnd_left _ _ _ h, lpEnd_bad _ _ _ h⟩
    · rename_i h1
      rw [if_neg h1]
      split at h
      · rename_i h2
        rw [if_pos h2]
        exact ⟨rfl, lpEnd_left _ _ _ h, lpEnd_bad _ _ _ h⟩
      · rename_i h2
        rw [if_neg h2]
        exact ⟨rfl, lpEnd_left _ _ _ h, lpEnd_bad _ _ _ h⟩
theorem lnext_no {S : Type} (nx : S → Int × Bool × S) (L : LL) (s : LS) (d : RD S) (h : (lnext nx L s d).1.2 = false) : (lnext nx L s d).1.1 = 0 := by
  have h2 : ∀ (s : LS) (d : RD S), (lnext2 L s d).1.2 = false → (lnext2 L s d).1.1 = 0 := by
    intro s d h
    unfold lnext2 at h ⊢
    split
    · rfl
    · rename_i h0; rw [if_neg h0] at h; cases h
  unfold lnext at h ⊢
  split
  · rfl
  · rename_i h0
    rw [if_neg h0] at h
    split
    · rename_i h1
      rw [if_pos h1] at h
      split
      · rename_i h3; rw [if_pos h3] at h; cases h
      · rename_i h3; rw [if_neg h3] at h; exact h2 _ _ h
    · rename_i h1
      rw [if_neg h1] at h
      exact h2 _ _ h
theorem lnext2_fol (L : LL) (s : LS) (d : RD A) (d' : RD B) : (lnext2 L s d').1 = (lnext2 L s d).1 ∧ (lnext2 L s d').2.1 = (lnext2 L s d).2.1 ∧ (lnext2 L s d').2.2 = d' ∧ (lnext2 L s d).2.2 = d := by
  unfold lnext2
  split <;> exact ⟨rfl, rfl, rfl, rfl⟩
theorem lnext_sim (hs : SimS R na nb) (L : LL) (s : LS) {d : RD A} {d' : RD B} (h : d.bad = false → Sim1 R d d') (ho : (lnext na L s d).1.2 = true) :
    (lnext nb L s d').1 = (lnext na L s d).1 ∧ (lnext nb L s d').2.1 = (lnext na L s d).2.1 ∧ ((lnext na L s d).2.2.bad = false → Sim1 R (lnext na L s d).2.2 (lnext nb L s d').2.2) := by
  unfold lnext at ho ⊢
  by_cases h0 : s.bad = true ∨ s.ended = true
  · rw [if_pos h0] at ho; cases ho
  · rw [if_neg h0] at ho ⊢
    rw [if_neg h0]
    by_cases hl : s.left = 0
    · rw [if_pos hl] at ho ⊢
      rw [if_pos hl]
      have hb : (lpacket na L s d).2.2.bad = false := by
        cases hq : (lpacket na L s d).2.2.bad
        · rfl
        · obtain ⟨g1, g2, _⟩ := packet_bad L s d hl hq
          rw [if_neg (by rw [g1]; decide)] at ho
          unfold lnext2 at ho
          rw [if_pos g2] at ho
          cases ho
      have hd : d.bad = false := by
        cases hq : d.bad
        · rfl
        · exact (bad_not hb (packet_stk hs L s d hq)).elim
      obtain ⟨g1, g2, g3⟩ := packet_sim hs L s (h hd) hb
      rw [g1, g2]
      by_cases hk : (lpacket na L s d).1.2 = true
      · rw [if_pos hk, if_pos hk]
        exact ⟨rfl, rfl, fun _ => g3⟩
      · rw [if_neg hk, if_neg hk]
        obtain ⟨k1, k2, k3, k4⟩ := lnext2_fol L (lpacket na L s d).2.1 (lpacket na L s d).2.2 (lpacket nb L s d').2.2
        exact ⟨k1, k2, fun _ => by rw [k3, k4]; exact g3⟩
    · rw [if_neg hl] at ho ⊢
      rw [if_neg hl]
      obtain ⟨k1, k2, k3, k4⟩ := lnext2_fol L s d d'
      exact ⟨k1, k2, fun hb => by rw [k3, k4]; rw [k4] at hb; exact h hb⟩
theorem first_sim (hs : SimS R na nb) {a : A} {b : B} (h : R a b) (hb : (RD.first na a).bad = false) : Sim1 R (RD.first na a) (RD.first nb b) := by
  have hs0 : Sim1 R (⟨a, 4294967295, 0, false⟩ : RD A) (⟨b, 4294967295, 0, false⟩ : RD B) := ⟨h, rfl, rfl, rfl⟩
  unfold RD.first at hb ⊢
  by_cases h0 : (RD.next na ⟨a, 4294967295, 0, false⟩).1 = 0
  · rw [if_pos h0] at hb ⊢
    obtain ⟨g1, g2⟩ := next_sim hs hs0 hb
    rw [if_pos (by rw [g1]; exact h0)]
    exact g2
  · rw [if_neg h0] at hb; cases hb
theorem next_stk (d : RD A) (h : d.bad = true) : (d.next na).2.bad = true := by
  unfold RD.next
  rw [if_pos h]; exact h
theorem four_bad : ∀ (k : Nat) (d : RD A), d.bad = true → (RD.four na k d).bad = true
  | 0, _, h => h
  | k + 1, d, h => by
    unfold RD.four
    exact four_bad k _ (next_stk d h)
theorem four_sim (hs : SimS R na nb) : ∀ (k : Nat) (d : RD A) (d' : RD B), Sim1 R d d' → (RD.four na k d).bad = false → Sim1 R (RD.four na k d) (RD.four nb k d')
  | 0, d, d', h, _ => h
  | k + 1, d, d', h, hb => by
    unfold RD.four at hb ⊢
    have h1 : (d.next na).2.bad = false := by
      cases hq : (d.next na).2.bad
      · rfl
      · exact (bad_not hb (four_bad k _ hq)).elim
    obtain ⟨g1, g2, g3, g4, g5⟩ := next_sim hs h h1
    obtain ⟨_, h2, h3, h4⟩ := h
    refine four_sim hs k _ _ ⟨g2, h2, ?_, g5⟩ hb
    show d'.code * 256 % 4294967296 + _ = d.code * 256 % 4294967296 + _
    rw [h3, g1]
theorem new_sim (hs : SimS R na nb) {a : A} {b : B} (h : R a b) (hb : (RD.new na a).bad = false) : Sim1 R (RD.new na a) (RD.new nb b) := by
  have h1 : (RD.four na 4 (RD.first na a)).bad = false := by
    have e : ((RD.four na 4 (RD.first na a)).bad || decide ((RD.four na 4 (RD.first na a)).rng ≤ (RD.four na 4 (RD.first na a)).code)) = false := hb
    exact (Bool.or_eq_false_iff.1 e).1
  have h2 : (RD.first na a).bad = false := by
    cases hq : (RD.first na a).bad
    · rfl
    · exact (bad_not h1 (four_bad 4 _ hq)).elim
  obtain ⟨g1, g2, g3, g4⟩ := four_sim hs 4 _ _ (first_sim hs h h2) h1
  refine ⟨g1, g2, g3, ?_⟩
  show (_ || decide _) = (_ || decide _)
  rw [g2, g3, g4]
/-- two runs: as long as the one tells, the other tells the same. -/
theorem lrun_sim (hs : SimS R na nb) (L : LL) (s : LS) {d : RD A} {d' : RD B} (h : d.bad = false → Sim1 R d d') : ∀ k, (∀ i, i < k → lok na L s d i = true) →
    (lrun nb L k s d').1 = (lrun na L k s d).1 ∧ ((lrun na L k s d).2.bad = false → Sim1 R (lrun na L k s d).2 (lrun nb L k s d').2)
  | 0, _ => ⟨rfl, h⟩
  | k + 1, ho => by
    obtain ⟨g1, g2⟩ := lrun_sim hs L s h k (fun i hi => ho i (by omega))
    have h1 := lnext_sim hs L (lrun na L k s d).1 g2 (ho k (by omega))
    obtain ⟨k1, k2, k3⟩ := h1
    show (lnext nb L (lrun nb L k s d').1 (lrun nb L k s d').2).2.1 = _ ∧ _
    rw [g1]
    exact ⟨k2, fun hb => by
      show Sim1 R _ (lnext nb L (lrun nb L k s d').1 (lrun nb L k s d').2).2.2
      rw [g1]
      exact k3 hb⟩
theorem lok_sim (hs : SimS R na nb) (L : LL) (s : LS) {d : RD A} {d' : RD B} (h : d.bad = false → Sim1 R d d') (k : Nat) (ho : ∀ i, i < k + 1 → lok na L s d i = true) : lok nb L s d' k = true ∧ lbyte nb L s d' k = lbyte na L s d k := by
  obtain ⟨g1, g2⟩ := lrun_sim hs L s h k (fun i hi => ho i (by omega))
  obtain ⟨k1, k2, k3⟩ := lnext_sim hs L (lrun na L k s d).1 g2 (ho k (by omega))
  have hk := ho k (by omega)
  unfold lok at hk
  unfold lok lbyte
  rw [g1, k1]
  exact ⟨hk, rfl⟩
end
end Go.Proofs.Ytjnegcambbeblaa

/- A setting of LZMA that came in, opened. -/
namespace Go.Proofs.Ytjnegcambbeblaa
open Go.Joins Go.ChangeShapes Go.WideShapes Go.Deep Go.RowKit

theorem lset_cells : Try.prog.cellsOf 23 = 4 := by kernel_rfl
theorem lint_cells : Try.prog.cellsOf 3 = 1 := by kernel_rfl
set_option maxRecDepth 100000 in
theorem lset_open {H : Type} {enc : TypeId × Value → H} {w : World} {held : Bool} {r : Go.Reach} {b0 : Nat} {v : Value} {d : DataW H} {p : List MemPlace}
    (hv : Value.okWide Try.prog w r b0 23 v) (h : DataW.Trod enc Try.prog w 0 (fun _ => true) held 23 v d p) : ∃ q : Lset, v = q.val ∧ q.wf := by
  obtain ⟨cs, rfl, hsz⟩ := okWide_struct Try.underlying23 hv
  obtain ⟨l⟩ := cs
  match l, hsz.trans lset_cells with
  | [c0, c1, c2, c3], _ =>
    obtain ⟨fuel, hf⟩ := h
    obtain ⟨xs, n, _, hx, _, hlen, hg⟩ := DataW.trod_struct Try.underlying23 hf
    match xs, hlen with
    | [y0, y1, y2, y3], _ =>
      have t0 := hg 0 _ rfl
      have t1 := hg 1 _ rfl
      have t2 := hg 2 _ rfl
      have t3 := hg 3 _ rfl
      simp [Value.cells, lint_cells] at t0 t1 t2 t3
      obtain ⟨x0, e0, _, b0⟩ := DataW.trod_int Try.underlying3 t0
      obtain ⟨x1, e1, _, b1⟩ := DataW.trod_int Try.underlying3 t1
      obtain ⟨x2, e2, _, b2⟩ := DataW.trod_int Try.underlying3 t2
      obtain ⟨x3, e3, _, b3⟩ := DataW.trod_int Try.underlying3 t3
      simp only [List.cons.injEq, and_true] at e0 e1 e2 e3
      subst e0 e1 e2 e3
      exact ⟨⟨x0, x1, x2, x3⟩, rfl, wf_i64 b0, wf_i64 b1, wf_i64 b2, wf_i64 b3⟩
end Go.Proofs.Ytjnegcambbeblaa

/- LzmaFront's walk. -/
namespace Go.Proofs.Ytjnegcambbeblaa
open Go.RowKit

/-- lzma.New with a meter that is enough. -/
def LNewM (p : Lset) (x : Int) (W : World) (e : Ending) (w' : World) : Prop :=
  ∃ L : LL, e = .returned (.tuple #[.pointer (some ⟨L.gd, 0, none⟩), .int .i64 0]) ∧ Fr Non W w' ∧ LIs L (.pointer none) (.pointer none) w' (lstart p) ∧ L.n = wsize (min p.dict x) ∧ ∀ k, L.foot k → W.heap.size ≤ k ∧ k < w'.heap.size
theorem Lset.Light.need_le {p : Lset} (h : p.Light) : p.need ≤ 200000 := by
  have h1 := h.nl_le
  have h2 : p.probs = 1847 + p.nl := by unfold Lset.probs Lset.nl; rw [if_pos (Lset.may_iff.2 h.may)]
  unfold Lset.need
  omega
theorem lnew_much (p : Lset) (hp : p.Light) (x : Int) (hx : x ≤ 1048576) (hx0 : 0 ≤ x) (gm : Nat) (W w : World) (hW : Fr Non W w) (hg : W.heap.size ≤ gm) (hm : MAt w gm MUCH) :
    Calls Try.prog 20 #[.agg #[.int .i64 p.lc, .int .i64 p.lp, .int .i64 p.pb, .int .i64 p.dict], .int .i64 x, .pointer (some ⟨gm, 0, none⟩)] w (LNewM p x W) := by
  have hM := much_mem (a := p.need) (b := wsize (min p.dict x)) hp.need_le (by unfold wsize; omega)
  refine (show Calls Try.prog 20 #[p.val, .int .i64 x, .pointer (some ⟨gm, 0, none⟩)] w _ from lnew_any gm MUCH p x w hm MUCH_ok hp hx (by omega)).mono ?_
  intro e w' hq
  rcases hq with ⟨_, _, hno, _⟩ | ⟨_, _, L, rfl, hf1, hm1, hl1, hLgm, hLn, hLnl, hLf⟩
  · exact absurd hM hno
  · exact ⟨L, rfl, hW.then hf1 (fun i hi e => by have e' : i = gm := e; omega), hl1, hLn, fun k hk => ⟨Nat.le_trans hW.size (hLf k hk).1, (hLf k hk).2⟩⟩
theorem front_sim (f g : Nat → Int) (n m : Nat) (hnm : n ≤ m) (hfg : ∀ i, i < n → f i = g i) : SimS Eq (anx (feedNx f n)) (anx (feedNx g m)) where
  go a b hab h := by
    subst hab
    unfold anx ahNx at h ⊢
    by_cases hf : a.full = true
    · rw [if_pos hf, if_pos hf]; exact ⟨rfl, rfl, rfl⟩
    · rw [if_neg hf] at h
      rw [if_neg hf, if_neg hf]
      unfold feedNx at h ⊢
      by_cases hl : a.s < n
      · rw [if_pos hl, if_pos (by omega), hfg _ hl]
        exact ⟨rfl, rfl, rfl⟩
      · rw [if_neg hl] at h; cases h
set_option maxRecDepth 100000 in
set_option maxHeartbeats 800000 in
theorem lzmaFront_walk (a : Option Addr) (n cap : Nat) (f : Nat → Int) (p : Lset) (sz : Int) (w : World) (hnc : n ≤ cap) (hcm : cap ≤ 9223372036854775807) (hnil : a = none → cap = 0) (hr : RowIn w.heap.size .u8 w a n f) (hf : ∀ i, i < n → 0 ≤ f i ∧ f i < 256) (hz : 0 ≤ sz ∧ sz < 65536) :
    Calls Try.prog 4 #[.slice a n cap, p.val, .int .u16 sz] w fun e w' => e = .returned (.bool true) ∧ Fr Non w w' := by
  have HV := hid (show p.val = .agg #[.int .i64 p.lc, .int .i64 p.lp, .int .i64 p.pb, .int .i64 p.dict] from rfl)
  rw [HV.out]
  have HR := hid hr
  have Hf := hid hf
  have HNIL := hid hnil
  have HNC := hid hnc
  have HZ := hid hz
  have hn63 : (n : Int) ≤ 9223372036854775807 := by omega
  clear hr hf hnil hnc hz hcm
  go_enter Try.func4, Try.ntmps4
  go_wp2_with fail
  refine (awake08_any _).mono ?_
  rintro e w1 ⟨rfl, hf1⟩
  have hb1 := hf1.blk (blk_new w (.cells #[.int .i64 p.lc, .int .i64 p.lp, .int .i64 p.pb, .int .i64 p.dict] 23)) id
  have F1 := hid (((Fr.refl Non w).alloc _).trans hf1)
  have HB1 := hid hb1
  clear hf1 hb1
  by_cases hlong : 16384 < n
  · have hl : (16384 : Int) < (n : Int) := by omega
    clear hlong
    go_wp2_with fail
    go_ret
    exact ⟨rfl, F1.out⟩
  have hl : ¬ (16384 : Int) < (n : Int) := by omega
  have HN := hid (show n ≤ 16384 by omega)
  clear hlong
  have k0 := blk_cell HB1.out (j := 0) (v := .int .i64 p.lc) rfl
  have k1 := blk_cell HB1.out (j := 1) (v := .int .i64 p.lp) rfl
  have k2 := blk_cell HB1.out (j := 2) (v := .int .i64 p.pb) rfl
  have k3 := blk_cell HB1.out (j := 3) (v := .int .i64 p.dict) rfl
  cases hmay : p.may with
  | false =>
    have HMY := hid hmay
    clear hmay
    go_wp2_with fail
    refine (show Calls Try.prog 14 #[.agg #[.int .i64 p.lc, .int .i64 p.lp, .int .i64 p.pb, .int .i64 p.dict]] _ _ from rmay_any p _).mono ?_
    rintro e w2 ⟨rfl, hf2⟩
    rw [HMY.out]
    have F2 := hid (F1.out.trans hf2)
    clear hf2
    go_wp2_with fail
    go_ret
    exact ⟨rfl, F2.out⟩
  | true =>
    have HMY := hid hmay
    clear hmay
    go_wp2_with fail
    refine (show Calls Try.prog 14 #[.agg #[.int .i64 p.lc, .int .i64 p.lp, .int .i64 p.pb, .int .i64 p.dict]] _ _ from rmay_any p _).mono ?_
    rintro e w2 ⟨rfl, hf2⟩
    rw [HMY.out]
    have F2 := hid (F1.out.trans hf2)
    have hb2 := hf2.blk HB1.out id
    have HB2 := hid hb2
    clear hf2 hb2 k0 k1 k2 k3
    have k0 := blk_cell HB2.out (j := 0) (v := .int .i64 p.lc) rfl
    have k1 := blk_cell HB2.out (j := 1) (v := .int .i64 p.lp) rfl
    have k2 := blk_cell HB2.out (j := 2) (v := .int .i64 p.pb) rfl
    have k3 := blk_cell HB2.out (j := 3) (v := .int .i64 p.dict) rfl
    go_wp2_with fail
    refine (show Calls Try.prog 15 #[.agg #[.int .i64 p.lc, .int .i64 p.lp, .int .i64 p.pb, .int .i64 p.dict]] _ _ from light_any p _).mono ?_
    rintro e w3 ⟨rfl, hf3⟩
    rw [HMY.out]
    have F3 := hid (F2.out.trans hf3)
    have hb3 := hf3.blk HB2.out id
    have HB3 := hid hb3
    clear hf3 hb3 k0 k1 k2 k3
    have k0 := blk_cell HB3.out (j := 0) (v := .int .i64 p.lc) rfl
    have k1 := blk_cell HB3.out (j := 1) (v := .int .i64 p.lp) rfl
    have k2 := blk_cell HB3.out (j := 2) (v := .int .i64 p.pb) rfl
    have k3 := blk_cell HB3.out (j := 3) (v := .int .i64 p.dict) rfl
    obtain ⟨li, hli⟩ : ∃ li, li = (!true || decide (p.lc + p.lp ≤ 6)) := ⟨_, rfl⟩
    rw [← hli]
    have HLI := hid hli
    clear hli
    cases li with
    | false =>
      go_wp2_with fail
      go_ret
      exact ⟨rfl, F3.out⟩
    | true =>
      have HP := hid (show p.Light from ⟨Lset.may_iff.1 HMY.out, of_decide_eq_true HLI.out.symm⟩)
      obtain ⟨x, hx⟩ : ∃ x : Int, x = sz % 5000 := ⟨_, rfl⟩
      have hx0 : 0 ≤ x := by have := HZ.out.1; omega
      have hx5 : x ≤ 1048576 := by omega
      have HX9 := hid (show x < 5000 by omega)
      have hc1 : IntKind.i64.wrap sz = sz := by have := HZ.out; rw [IntKind.wrap_i64]; omega
      go_upto_region 6 with fail
      rw [show sz.tmod 5000 = x by rw [Int.tmod_eq_emod_of_nonneg HZ.out.1]; exact hx.symm]
      clear hx hc1
      go_cut [8, 9] (fun v q wx => q = .int .i64 0 ∧ ∃ L : LL, v = .pointer (some ⟨L.gd, 0, none⟩) ∧ Fr Non w3 wx ∧ LIs L (.pointer none) (.pointer none) wx (lstart p) ∧ L.n = wsize (min p.dict x) ∧ ∀ k, L.foot k → w3.heap.size ≤ k ∧ k < wx.heap.size)
      case first =>
        go_region_held3 (fun wx => wx.cell? ⟨w.heap.size, 0, none⟩ = some (.int .i64 p.lc) ∧ wx.cell? ⟨w.heap.size, 1, none⟩ = some (.int .i64 p.lp) ∧ wx.cell? ⟨w.heap.size, 2, none⟩ = some (.int .i64 p.pb) ∧ wx.cell? ⟨w.heap.size, 3, none⟩ = some (.int .i64 p.dict)) (first | (show World.cell? wn _ = _ ∧ _; exact ⟨hWn.cell k0 id, hWn.cell k1 id, hWn.cell k2 id, hWn.cell k3 id⟩) | exact ⟨Fr.cell (S := Non) (w := w3) (by repeat (first | exact Fr.refl _ _ | refine Fr.drew ?_ | refine Fr.trans ?_ (by assumption))) k0 id, Fr.cell (S := Non) (w := w3) (by repeat (first | exact Fr.refl _ _ | refine Fr.drew ?_ | refine Fr.trans ?_ (by assumption))) k1 id, Fr.cell (S := Non) (w := w3) (by repeat (first | exact Fr.refl _ _ | refine Fr.drew ?_ | refine Fr.trans ?_ (by assumption))) k2 id, Fr.cell (S := Non) (w := w3) (by repeat (first | exact Fr.refl _ _ | refine Fr.drew ?_ | refine Fr.trans ?_ (by assumption))) k3 id⟩) (first
          | (go_at_call 18; refine (much_any _).mono ?_; rintro e wm ⟨gm, rfl, hgm, hfm, hmm⟩; have hgW : w3.heap.size ≤ gm := Nat.le_trans (Fr.size (S := Non) (by repeat (first | exact Fr.refl _ _ | refine Fr.drew ?_ | refine Fr.trans ?_ (by assumption)))) hgm)
          | (go_at_call 20; refine (lnew_much p HP.out x hx5 hx0 gm w3 _ (by repeat (first | exact Fr.refl _ _ | refine Fr.drew ?_ | refine Fr.trans ?_ (by assumption))) hgW (by exact hmm)).mono ?_; rintro e wn ⟨L, rfl, hWn, hL1, hL2, hL3⟩))
        all_goals
          have HW := hid hWn
          have HL1 := hid hL1
          have HL2 := hid hL2
          have HL3 := hid hL3
          clear hWn hL1 hL2 hL3 hfm hmm hgm hgW k0 k1 k2 k3
          go_wp2_with fail
          go_meet
          exact ⟨rfl, L, rfl, HW.out, HL1.out, HL2.out, HL3.out⟩
      case rest =>
        obtain ⟨rfl, L, rfl, hf4, hl4, hn4, hft4⟩ := hcut
        obtain ⟨w4, hw4⟩ : ∃ w4, w4 = wc := ⟨_, rfl⟩
        rw [← hw4] at hf4 hl4 hft4 ⊢
        have hb4 := hf4.blk HB3.out id
        have F4 := hid (F3.out.trans hf4)
        have HB4 := hid hb4
        have hs34 := hf4.size
        have HL4 := hid hl4
        have HN4 := hid hn4
        have HFT4 := hid hft4
        clear hf4 hl4 hn4 hft4 hb4 hw4 k0 k1 k2 k3
        have k0 := blk_cell HB4.out (j := 0) (v := .int .i64 p.lc) rfl
        have k1 := blk_cell HB4.out (j := 1) (v := .int .i64 p.lp) rfl
        have k2 := blk_cell HB4.out (j := 2) (v := .int .i64 p.pb) rfl
        have k3 := blk_cell HB4.out (j := 3) (v := .int .i64 p.dict) rfl
        go_upto_region 7 with fail
        go_cut [10, 11] (fun v q wx => q = .int .i64 0 ∧ ∃ L : LL, v = .pointer (some ⟨L.gd, 0, none⟩) ∧ Fr Non w4 wx ∧ LIs L (.pointer none) (.pointer none) wx (lstart p) ∧ L.n = wsize (min p.dict x) ∧ ∀ k, L.foot k → w4.heap.size ≤ k ∧ k < wx.heap.size)
        case first =>
          go_region_held3 (fun wx => wx.cell? ⟨w.heap.size, 0, none⟩ = some (.int .i64 p.lc) ∧ wx.cell? ⟨w.heap.size, 1, none⟩ = some (.int .i64 p.lp) ∧ wx.cell? ⟨w.heap.size, 2, none⟩ = some (.int .i64 p.pb) ∧ wx.cell? ⟨w.heap.size, 3, none⟩ = some (.int .i64 p.dict)) (first | (show World.cell? wn _ = _ ∧ _; exact ⟨hWn.cell k0 id, hWn.cell k1 id, hWn.cell k2 id, hWn.cell k3 id⟩) | exact ⟨Fr.cell (S := Non) (w := w4) (by repeat (first | exact Fr.refl _ _ | refine Fr.drew ?_ | refine Fr.trans ?_ (by assumption))) k0 id, Fr.cell (S := Non) (w := w4) (by repeat (first | exact Fr.refl _ _ | refine Fr.drew ?_ | refine Fr.trans ?_ (by assumption))) k1 id, Fr.cell (S := Non) (w := w4) (by repeat (first | exact Fr.refl _ _ | refine Fr.drew ?_ | refine Fr.trans ?_ (by assumption))) k2 id, Fr.cell (S := Non) (w := w4) (by repeat (first | exact Fr.refl _ _ | refine Fr.drew ?_ | refine Fr.trans ?_ (by assumption))) k3 id⟩) (first
            | (go_at_call 18; refine (much_any _).mono ?_; rintro e wm ⟨gm, rfl, hgm, hfm, hmm⟩; have hgW : w4.heap.size ≤ gm := Nat.le_trans (Fr.size (S := Non) (by repeat (first | exact Fr.refl _ _ | refine Fr.drew ?_ | refine Fr.trans ?_ (by assumption)))) hgm)
            | (go_at_call 20; refine (lnew_much p HP.out x hx5 hx0 gm w4 _ (by repeat (first | exact Fr.refl _ _ | refine Fr.drew ?_ | refine Fr.trans ?_ (by assumption))) hgW (by exact hmm)).mono ?_; rintro e wn ⟨K, rfl, hWn, hL1, hL2, hL3⟩))
          all_goals
            have HW := hid hWn
            have HL1 := hid hL1
            have HL2 := hid hL2
            have HL3 := hid hL3
            clear hWn hL1 hL2 hL3 hfm hmm hgm hgW k0 k1 k2 k3
            go_wp2_with fail
            go_meet
            exact ⟨rfl, K, rfl, HW.out, HL1.out, HL2.out, HL3.out⟩
        case rest =>
          obtain ⟨rfl, K, rfl, hf5, hl5, hn5, hft5⟩ := hcut
          obtain ⟨w5, hw5⟩ : ∃ w5, w5 = wc := ⟨_, rfl⟩
          rw [← hw5] at hf5 hl5 hft5 ⊢
          have F5 := hid (F4.out.trans hf5)
          have hs45 := hf5.size
          have HL5 := hid (HL4.out.keep hf5 (fun _ _ e => e))
          have HK5 := hid hl5
          have HNK := hid hn5
          have HFTK := hid hft5
          clear hf5 hl5 hn5 hft5 hw5 k0 k1 k2 k3
          go_wp2_with fail
          have hs03 : w.heap.size < w3.heap.size := blk_lt HB3.out
          refine (newFeed_any a n cap f w5 (by have := HN.out; omega) HNC.out HNIL.out (by exact (HR.out.fr F5.out (fun _ _ e => e)).mono F5.out.size)).mono ?_
          intro e w6 hq
          obtain ⟨fg, fa, fc, rfl, hf6, hi6, hl6⟩ := feedNew_q _ _ _ Hf.out (by have := HN.out; omega) _ _ hq
          obtain ⟨t, ht⟩ : ∃ t, t = feed fg fa n fc f Hf.out := ⟨_, rfl⟩
          have HT := hid (show Value.iface 45 (.pointer (some ⟨fg, 0, none⟩)) = Value.iface t.ty t.val from by rw [ht]; rfl)
          have HTN := hid (show t.nx = feedNx f n from by rw [ht]; rfl)
          rw [← ht] at hi6 hl6
          have HI6 := hid hi6
          have HFE := hid hl6
          have F6 := hid (F5.out.trans hf6)
          have HL6 := hid (HL5.out.keep hf6 (fun _ _ e => e))
          have HK6 := hid (HK5.out.keep hf6 (fun _ _ e => e))
          have hs56 := hf6.size
          clear hq hf6 hi6 hl6 ht
          go_wp2_with fail
          rw [HT.out]
          refine (lbegin_any L t _ _ _ 0 w6 HL6.out HI6.out (fun k hk => (HFE.out k hk).2) (fun k hk e => by have := (HFT4.out k hk).2; have := (HFE.out k e).1; omega)).mono ?_
          rintro e w7 ⟨ga, gr, rfl, hf7, hon7, hga0, hga1, hgr0, hgr1⟩
          rw [HTN.out] at hon7
          have hs67 := hf7.size
          have HFL := hid (show ∀ k, LFt L t ga gr k → (w3.heap.size ≤ k ∧ k < w4.heap.size) ∨ (w5.heap.size ≤ k ∧ k < w7.heap.size) from by
            rintro k (e | e | e | e)
            · exact .inl (HFT4.out k e)
            · have e' : k = gr := e; omega
            · have e' : k = ga := e; omega
            · have := HFE.out k e; omega)
          have F7 := hid (F6.out.then hf7 (fun k hk e => by
            rcases e with e | e
            · have := HFT4.out L.gd (.inl rfl); omega
            · have := HFE.out k e; omega))
          have HK7 := hid (HK6.out.keep hf7 (fun k hk e => by
            have h1 := HFTK.out k hk
            rcases e with e | e
            · have := HFT4.out L.gd (.inl rfl); omega
            · have := HFE.out k e; omega))
          have ON7 := hid hon7
          have HR7 := hid ((HR.out.fr F7.out (fun _ _ e => e)).mono F7.out.size)
          clear hf7 hon7 hga0 hga1 hgr0 hgr1
          go_wp2_with (first
            | (refine opAppendRow (some 71) rfl rfl (.tmp 69) (.tmp 70) 30 rfl w7.heap.size .u8 5 1 Try.underlying30 Try.info_u8q (.slice (some ⟨w7.heap.size, 0, none⟩) 0 0) [] rfl (Own.empty _ _ .u8 5 (Nat.le_refl _)) w7.heap.size a n cap f rfl HNIL.out HNC.out (HR7.out.fr ((Fr.refl Non _).alloc _) (fun _ _ => id)) (by decide) (by simp; have := HN.out; omega) (by simp) ?_; intro v8 w8 hown8 hg8; have F8 := clone_fr hg8; have s8 := F8.size)
            | (refine opAppendRow (some 73) rfl rfl (.tmp 71) (.tmp 72) 30 rfl w7.heap.size .u8 5 1 Try.underlying30 Try.info_u8q v8 _ rfl (by exact hown8.alloc _) (w8.heap.size + 1) (some ⟨w8.heap.size, 0, none⟩) 3 3 (fun i => [1, 2, 3].getD i 0) rfl (fun e => by cases e) (Nat.le_refl _) (.inr ⟨_, 0, rfl, by omega, fun i hi => blk_cell (blk_new _ _) (by
                rw [Nat.zero_add]
                match i, hi with
                | 0, _ => rfl
                | 1, _ => rfl
                | 2, _ => rfl)⟩) (by decide) (by simp; have := HN.out; omega) (by simp; omega) ?_; intro v9 w9 hown9 hg9))
          obtain ⟨gg, hgg⟩ : ∃ gg : Nat → Int, gg = fun i => ([] ++ (List.range n).map f ++ (List.range 3).map (fun i => [1, 2, 3].getD i 0)).getD i 0 := ⟨_, rfl⟩
          obtain ⟨ao, co, rfl, hlo, hcz, hro, hao⟩ := hown9.rowO
          have hlen : ([] ++ (List.range n).map f ++ (List.range 3).map (fun i => ([1, 2, 3] : List Int).getD i 0)).length = n + 3 := by simp
          rw [hlen] at hlo hro ⊢
          rw [← hgg] at hro
          have hg1 : ∀ i, i < n → f i = gg i := by
            intro i hi
            rw [hgg]
            simp [List.getD, List.getElem?_append, hi]
          have hg2 : ∀ i, i < n + 3 → 0 ≤ gg i ∧ gg i < 256 := by
            intro i hi
            by_cases h : i < n
            · rw [← hg1 i h]; exact Hf.out i h
            · have e : gg i = ([1, 2, 3] : List Int).getD (i - n) 0 := by
                rw [hgg]
                simp [List.getD, List.getElem?_append, h, show i - n < 3 by omega]
              rw [e]
              have h3 : i - n < 3 := by omega
              match i - n, h3 with
              | 0, _ => exact ⟨by decide, by decide⟩
              | 1, _ => exact ⟨by decide, by decide⟩
              | 2, _ => exact ⟨by decide, by decide⟩
          have hf79 : Fr Non w7 w9 := (F8.alloc _).grown hg9 (fun i hi hlt => absurd (hown8.block i hi).1 (by omega))
          have hs79 := hf79.size
          have F9 := hid (F7.out.trans hf79)
          have ON9 := hid (ON7.out.any hf79)
          have HK9 := hid (HK7.out.keep hf79 (fun _ _ e => e))
          have HRO := hid hro
          have HG1 := hid hg1
          have HG2 := hid hg2
          have HCZ := hid hcz
          have HLO := hid hlo
          clear hown9 hg9 hown8 hg8 F8 s8 hgg hlen hao hro hg1 hg2 hf79 hcz hlo
          refine (newFeed_any ao (n + 3) co gg w9 (by have := HN.out; omega) HLO.out HCZ.out HRO.out).mono ?_
          intro e w10 hq
          obtain ⟨fg2, fa2, fc2, rfl, hf10, hi10, hl10⟩ := feedNew_q _ _ _ HG2.out (by have := HN.out; omega) _ _ hq
          obtain ⟨t2, ht2⟩ : ∃ t2, t2 = feed fg2 fa2 (n + 3) fc2 gg HG2.out := ⟨_, rfl⟩
          have HT2 := hid (show Value.iface 45 (.pointer (some ⟨fg2, 0, none⟩)) = Value.iface t2.ty t2.val from by rw [ht2]; rfl)
          have HTN2 := hid (show t2.nx = feedNx gg (n + 3) from by rw [ht2]; rfl)
          rw [← ht2] at hi10 hl10
          have HI10 := hid hi10
          have HFE2 := hid hl10
          have F10 := hid (F9.out.trans hf10)
          have ON10 := hid (ON9.out.any hf10)
          have HK10 := hid (HK9.out.keep hf10 (fun _ _ e => e))
          have hs910 := hf10.size
          clear hq hf10 hi10 hl10 ht2
          go_wp2_with fail
          rw [HT2.out]
          refine (lbegin_any K t2 _ _ _ 0 w10 HK10.out HI10.out (fun k hk => (HFE2.out k hk).2) (fun k hk e => by have := (HFTK.out k hk).2; have := (HFE2.out k e).1; omega)).mono ?_
          rintro e w11 ⟨ga2, gr2, rfl, hf11, hon11, hga0, hga1, hgr0, hgr1⟩
          rw [HTN2.out] at hon11
          have hs1011 := hf11.size
          have HFK := hid (show ∀ k, LFt K t2 ga2 gr2 k → (w4.heap.size ≤ k ∧ k < w5.heap.size) ∨ (w7.heap.size ≤ k ∧ k < w11.heap.size) from by
            rintro k (e | e | e | e)
            · exact .inl (HFTK.out k e)
            · have e' : k = gr2 := e; omega
            · have e' : k = ga2 := e; omega
            · have := HFE2.out k e; omega)
          have F11 := hid (F10.out.then hf11 (fun k hk e => by
            rcases e with e | e
            · have := HFTK.out K.gd (.inl rfl); omega
            · have := HFE2.out k e; omega))
          have ON11 := hid (ON10.out.keep hf11 (fun k hk e => by
            have h1 := HFL.out k hk
            rcases e with e | e
            · have := HFTK.out K.gd (.inl rfl); omega
            · have := HFE2.out k e; omega))
          have OK11 := hid hon11
          clear hf11 hon11 hga0 hga1 hgr0 hgr1
          obtain ⟨X, hX⟩ : ∃ X : Nat, X = x.toNat := ⟨_, rfl⟩
          have hXi : x = (X : Int) := by omega
          have HXX := hid hXi
          have hX5 : X ≤ 5000 := by have := HX9.out; omega
          have HKN := hid (show K.n = L.n by rw [HNK.out, HN4.out])
          obtain ⟨s0, hs0⟩ : ∃ s, s = lstart p := ⟨_, rfl⟩
          obtain ⟨d0, hd0⟩ : ∃ d, d = RD.new (anx (feedNx f n)) ⟨0, 0, false⟩ := ⟨_, rfl⟩
          obtain ⟨e0, he0⟩ : ∃ d, d = RD.new (anx (feedNx gg (n + 3))) ⟨0, 0, false⟩ := ⟨_, rfl⟩
          have HSIM := hid (front_sim f gg n (n + 3) (by omega) HG1.out)
          have HD0 := hid (show d0.bad = false → Sim1 Eq d0 e0 from fun h => by rw [hd0] at h ⊢; rw [he0]; exact new_sim HSIM.out rfl h)
          rw [← hs0, ← hd0] at ON11
          rw [← hs0, ← he0] at OK11
          have HFITL := hid (lrun_fit (anx (feedNx f n)) L s0 d0 (by rw [hs0]; exact lstart_fit p L))
          have HFITK := hid (lrun_fit (anx (feedNx gg (n + 3))) K s0 e0 (by rw [hs0]; exact lstart_fit p K))
          have HPLL := hid (lrun_place (anx (feedNx f n)) L s0 d0)
          have HPLK := hid (lrun_place (anx (feedNx gg (n + 3))) K s0 e0)
          have HPL0 := hid (show s0.place = 0 by rw [hs0]; rfl)
          clear hs0 hd0 he0 hX hXi
          go_wp2_with fail
          go_loopw [12] (fun v wr => ∃ k, k ≤ X ∧ v = .int .i64 ((k : Nat) : Int) ∧ (∀ i, i < k → lok (anx (feedNx f n)) L s0 d0 i = true) ∧ LOn L t ga gr wr (lrun (anx (feedNx f n)) L k s0 d0).1 (lrun (anx (feedNx f n)) L k s0 d0).2 ∧ LOn K t2 ga2 gr2 wr (lrun (anx (feedNx gg (n + 3))) K k s0 e0).1 (lrun (anx (feedNx gg (n + 3))) K k s0 e0).2 ∧ Fr Non w wr) (fun v _ => X - (intOf v).toNat)
          case atStart => exact ⟨0, Nat.zero_le _, rfl, (fun i hi => by omega), ON11.out, OK11.out, F11.out⟩
          case round =>
            obtain ⟨k, hk, rfl, hks, hon, hok, hfr⟩ := hrel
            have HKS := hid hks
            have HON := hid hon
            have HOK := hid hok
            have HFR := hid hfr
            have C1 := lnext_any L t ga gr _ _ wr hon (by have := HPLL.out k; have := HPL0.out; omega) (HFITL.out k)
            rw [ahead_nx, HTN.out] at C1
            have C1 := hid C1
            clear hks hon hok hfr
            by_cases hlt : k < X
            · have hlx : (k : Int) < x := by have := HXX.out; omega
              obtain ⟨ok, hok⟩ : ∃ ok, ok = lok (anx (feedNx f n)) L s0 d0 k := ⟨_, rfl⟩
              obtain ⟨b, hb⟩ : ∃ b, b = lbyte (anx (feedNx f n)) L s0 d0 k := ⟨_, rfl⟩
              have HLX := hid hlx
              have HOKE := hid hok
              have HBE := hid hb
              go_wp2_with fail
              refine C1.out.mono ?_
              rintro e w12 ⟨rfl, hf12, hon12⟩
              rw [show (lnext (anx (feedNx f n)) L (lrun (anx (feedNx f n)) L k s0 d0).1 (lrun (anx (feedNx f n)) L k s0 d0).2).1.2 = ok from hok.symm, show (lnext (anx (feedNx f n)) L (lrun (anx (feedNx f n)) L k s0 d0).1 (lrun (anx (feedNx f n)) L k s0 d0).2).1.1 = b from hb.symm]
              have ON12 := hid (show LOn L t ga gr w12 (lrun (anx (feedNx f n)) L (k + 1) s0 d0).1 (lrun (anx (feedNx f n)) L (k + 1) s0 d0).2 from hon12)
              have F12 := hid (HFR.out.then hf12 (fun i hi e => by have := HFL.out i e; omega))
              have OK12 := hid (HOK.out.keep hf12 (fun i hi e => by have := HFL.out i e; have := HFK.out i hi; omega))
              clear hf12 hon12 hok hb C1
              cases ok with
              | false =>
                have hb0 : b = 0 := by rw [HBE.out]; exact lnext_no _ _ _ _ HOKE.out.symm
                subst hb0
                go_wp2_with fail
                go_ret
                exact ⟨rfl, F12.out⟩
              | true =>
                have HKS' := hid (show ∀ i, i < k + 1 → lok (anx (feedNx f n)) L s0 d0 i = true from fun i hi => by
                  by_cases e : i = k
                  · rw [e]; exact HOKE.out.symm
                  · exact HKS.out i (by omega))
                have h2 := lok_sim HSIM.out L s0 HD0.out k HKS'.out
                rw [lok_of (anx (feedNx gg (n + 3))) L, lbyte_of (anx (feedNx gg (n + 3))) L, ← HKN.out, ← lok_of, ← lbyte_of, ← HBE.out] at h2
                have H2 := hid h2
                have C2 := lnext_any K t2 ga2 gr2 _ _ w12 OK12.out (by have := HPLK.out k; have := HPL0.out; omega) (HFITK.out k)
                rw [ahead_nx, HTN2.out] at C2
                have C2 := hid C2
                clear h2
                go_wp2_with fail
                refine C2.out.mono ?_
                rintro e w13 ⟨rfl, hf13, hon13⟩
                rw [show (lnext (anx (feedNx gg (n + 3))) K (lrun (anx (feedNx gg (n + 3))) K k s0 e0).1 (lrun (anx (feedNx gg (n + 3))) K k s0 e0).2).1.2 = true from H2.out.1, show (lnext (anx (feedNx gg (n + 3))) K (lrun (anx (feedNx gg (n + 3))) K k s0 e0).1 (lrun (anx (feedNx gg (n + 3))) K k s0 e0).2).1.1 = b from H2.out.2]
                have OK13 := hid (show LOn K t2 ga2 gr2 w13 (lrun (anx (feedNx gg (n + 3))) K (k + 1) s0 e0).1 (lrun (anx (feedNx gg (n + 3))) K (k + 1) s0 e0).2 from hon13)
                have F13 := hid (F12.out.then hf13 (fun i hi e => by have := HFK.out i e; omega))
                have ON13 := hid (ON12.out.keep hf13 (fun i hi e => by have := HFK.out i e; have := HFL.out i hi; omega))
                clear hf13 hon13 C2
                go_wp2_with fail
                go_roundw
                case rel => exact ⟨k + 1, by omega, by go_num, HKS'.out, ON13.out, OK13.out, F13.out⟩
                case measure => simp [intOf]; omega
            · have hlx : ¬ (k : Int) < x := by have := HXX.out; omega
              go_wp2_with fail
              go_ret
              exact ⟨rfl, HFR.out⟩
end Go.Proofs.Ytjnegcambbeblaa
