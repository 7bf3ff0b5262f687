/- Texts of this proof, one behind the other. -/
import Derived.Test.YtjnegcambbeblaaMg05
import Derived.Deep.CutBlock
import Derived.BigQuiet
import Derived.OwnWalk
import Derived.Laws.IdiomCopy
import Derived.Deep.RegionLaw

/- lzma: a length. -/
namespace Go.Proofs.Ytjnegcambbeblaa
open Go.RowKit

def ltell {S : Type} (nx : S → Int × Bool × S) (P : Nat → Int) (d : RD S) (b sp : Nat) : Nat × (Nat → Int) × RD S :=
  if (lbit nx P d b).1 = 0 then ltree nx (lbit nx P d b).2.1 (lbit nx P d b).2.2 (b + 2 + 8 * sp) 3
  else if (lbit nx (lbit nx P d b).2.1 (lbit nx P d b).2.2 (b + 1)).1 = 0 then
    (8 + (ltree nx (lbit nx (lbit nx P d b).2.1 (lbit nx P d b).2.2 (b + 1)).2.1 (lbit nx (lbit nx P d b).2.1 (lbit nx P d b).2.2 (b + 1)).2.2 (b + 130 + 8 * sp) 3).1,
      (ltree nx (lbit nx (lbit nx P d b).2.1 (lbit nx P d b).2.2 (b + 1)).2.1 (lbit nx (lbit nx P d b).2.1 (lbit nx P d b).2.2 (b + 1)).2.2 (b + 130 + 8 * sp) 3).2)
  else
    (16 + (ltree nx (lbit nx (lbit nx P d b).2.1 (lbit nx P d b).2.2 (b + 1)).2.1 (lbit nx (lbit nx P d b).2.1 (lbit nx P d b).2.2 (b + 1)).2.2 (b + 258) 8).1,
      (ltree nx (lbit nx (lbit nx P d b).2.1 (lbit nx P d b).2.2 (b + 1)).2.1 (lbit nx (lbit nx P d b).2.1 (lbit nx P d b).2.2 (b + 1)).2.2 (b + 258) 8).2)
theorem ltree_lt {S : Type} (nx : S → Int × Bool × S) (P : Nat → Int) (d : RD S) (k B : Nat) : (ltree nx P d k B).1 < 2 ^ B := tree_lt nx B d _
theorem lrev_lt {S : Type} (nx : S → Int × Bool × S) (P : Nat → Int) (d : RD S) (k B : Nat) : (lrev nx P d k B).1 < 2 ^ B := rev_lt nx B d _
theorem LOPost.then {S : Type} {L : LL} {t : Sour S} {ga gr : Nat} {v : Value} {s : LS} {d : RD (AhS S)} {w w1 : World} {e : Ending} {w' : World} (hf : Fr (LFt L t ga gr) w w1) (h : LOPost L t ga gr v s d w1 e w') : LOPost L t ga gr v s d w e w' := ⟨h.1, hf.trans h.2.1, h.2.2⟩
theorem sgL_hi {k : Nat} (h : 432 ≤ k) : sgL k = k := by
  unfold sgL
  rw [if_neg (by omega), if_neg (by omega), if_neg (by omega)]
theorem rowL_hi {k n : Nat} (h : 432 ≤ k) (ht : k + n ≤ 1847) (hn : 0 < n) : RowL k n := ⟨ht, hn, fun j _ => by rw [sgL_hi (by omega), sgL_hi h]⟩
theorem lbit_le {S : Type} (nx : S → Int × Bool × S) (P : Nat → Int) (d : RD S) (k : Nat) : (lbit nx P d k).1 ≤ 1 := bit_le nx d (P k)
set_option maxRecDepth 100000 in
theorem ltell_any {S : Type} (L : LL) (t : Sour S) (ga gr : Nat) (s : LS) (d : RD (AhS S)) (b sp : Nat) (w : World) (h : LOn L t ga gr w s d) (hb0 : 432 ≤ b) (hb1 : b ≤ 1333) (hs : sp < 16) :
    Calls Try.prog 116 #[.pointer (some ⟨L.gd, 9 + b, none⟩), .pointer (some ⟨gr, 0, none⟩), .int .i64 sp] w
      (LOPost L t ga gr (.int .i64 ((ltell (ahead t ga).nx s.P d b sp).1 : Nat)) { s with P := (ltell (ahead t ga).nx s.P d b sp).2.1 } (ltell (ahead t ga).nx s.P d b sp).2.2 w) := by
  have hs0 : (0 : Int) ≤ (sp : Int) := by omega
  have hs1 : (sp : Int) < 16 := by omega
  have H := hid h
  clear h
  unfold ltell
  have C1 := hid (lbitP L t ga gr s d b (9 + b) w H.out (by omega) (by rw [sgL_hi hb0]))
  have L1 := lbit_le (ahead t ga).nx s.P d b
  generalize lbit (ahead t ga).nx s.P d b = r1 at C1 L1 ⊢
  obtain ⟨x1, P1, d1⟩ := r1
  dsimp only at C1 L1 ⊢
  by_cases hx1 : x1 = 0
  · rw [if_pos hx1]
    subst hx1
    go_enter Try.func116, Try.ntmps116
    go_wp2_with fail
    refine C1.out.mono ?_
    rintro e w1 ⟨rfl, hf1, h1⟩
    have HF := hid hf1
    have H1 := hid h1
    clear hf1 h1 C1
    go_wp2_with fail
    refine (ltreeP L t ga gr _ _ (b + 2 + 8 * sp) _ 3 _ _ _ H1.out (rowL_hi (by omega) (by omega) (by decide)) (by rw [sgL_hi (by omega)]; omega) (by decide) (by decide) (by decide)).mono ?_
    rintro e w2 ⟨rfl, hf2, h2⟩
    have HF2 := hid hf2
    have H2 := hid h2
    clear hf2 h2
    go_wp2_with fail
    go_ret
    exact ⟨rfl, HF.out.trans HF2.out, H2.out⟩
  · rw [if_neg hx1]
    have e1 : x1 = 1 := by omega
    subst e1
    have C2 := hid (fun w1 (h1 : LOn L t ga gr w1 { s with P := P1 } d1) => lbitP L t ga gr { s with P := P1 } d1 (b + 1) (9 + b + 1) w1 h1 (by omega) (by rw [sgL_hi (by omega)]; omega))
    have L2 := lbit_le (ahead t ga).nx P1 d1 (b + 1)
    dsimp only at C2
    generalize lbit (ahead t ga).nx P1 d1 (b + 1) = r2 at C2 L2 ⊢
    obtain ⟨x2, P2, d2⟩ := r2
    dsimp only at C2 L2 ⊢
    by_cases hx2 : x2 = 0
    · rw [if_pos hx2]
      subst hx2
      have L3 := ltree_lt (ahead t ga).nx P2 d2 (b + 130 + 8 * sp) 3
      have C3 := hid (fun w2 (h2 : LOn L t ga gr w2 { s with P := P2 } d2) => ltreeP L t ga gr { s with P := P2 } d2 (b + 130 + 8 * sp) (9 + b + 130 + sp * 8) 3 8 8 w2 h2 (rowL_hi (by omega) (by omega) (by decide)) (by rw [sgL_hi (by omega)]; omega) (by decide) (by decide) (by decide))
      dsimp only at C3
      generalize ltree (ahead t ga).nx P2 d2 (b + 130 + 8 * sp) 3 = r3 at C3 L3 ⊢
      obtain ⟨x3, P3, d3⟩ := r3
      dsimp only at C3 L3 ⊢
      have L3' : (x3 : Int) < 8 := by omega
      have L3'' : (0 : Int) ≤ (x3 : Int) := by omega
      go_enter Try.func116, Try.ntmps116
      go_wp2_with fail
      refine C1.out.mono ?_
      rintro e w1 ⟨rfl, hf1, h1⟩
      have HF := hid hf1
      have H1 := hid h1
      clear hf1 h1 C1
      go_wp2_with fail
      refine (C2.out _ H1.out).mono ?_
      rintro e w2 ⟨rfl, hf2, h2⟩
      have HF2 := hid hf2
      have H2 := hid h2
      clear hf2 h2 C2
      go_wp2_with fail
      refine (C3.out _ H2.out).mono ?_
      rintro e w3 ⟨rfl, hf3, h3⟩
      have HF3 := hid hf3
      have H3 := hid h3
      clear hf3 h3 C3
      go_wp2_with fail
      go_ret
      exact ⟨by first | rfl | (congr 1; push_cast; omega), (HF.out.trans HF2.out).trans HF3.out, H3.out⟩
    · rw [if_neg hx2]
      have e2 : x2 = 1 := by omega
      subst e2
      have L3 := ltree_lt (ahead t ga).nx P2 d2 (b + 258) 8
      have C3 := hid (fun w2 (h2 : LOn L t ga gr w2 { s with P := P2 } d2) => ltreeP L t ga gr { s with P := P2 } d2 (b + 258) (9 + b + 258) 8 256 256 w2 h2 (rowL_hi (by omega) (by omega) (by decide)) (by rw [sgL_hi (by omega)]; omega) (by decide) (by decide) (by decide))
      dsimp only at C3
      generalize ltree (ahead t ga).nx P2 d2 (b + 258) 8 = r3 at C3 L3 ⊢
      obtain ⟨x3, P3, d3⟩ := r3
      dsimp only at C3 L3 ⊢
      have L3' : (x3 : Int) < 256 := by omega
      have L3'' : (0 : Int) ≤ (x3 : Int) := by omega
      go_enter Try.func116, Try.ntmps116
      go_wp2_with fail
      refine C1.out.mono ?_
      rintro e w1 ⟨rfl, hf1, h1⟩
      have HF := hid hf1
      have H1 := hid h1
      clear hf1 h1 C1
      go_wp2_with fail
      refine (C2.out _ H1.out).mono ?_
      rintro e w2 ⟨rfl, hf2, h2⟩
      have HF2 := hid hf2
      have H2 := hid h2
      clear hf2 h2 C2
      go_wp2_with fail
      refine (C3.out _ H2.out).mono ?_
      rintro e w3 ⟨rfl, hf3, h3⟩
      have HF3 := hid hf3
      have H3 := hid h3
      clear hf3 h3 C3
      go_wp2_with fail
      go_ret
      exact ⟨by first | rfl | (congr 1; push_cast; omega), (HF.out.trans HF2.out).trans HF3.out, H3.out⟩
end Go.Proofs.Ytjnegcambbeblaa

/- lzma: a literal, plain. -/
namespace Go.Proofs.Ytjnegcambbeblaa
open Go.RowKit

theorem i64_and_nat (a b : Nat) (ha : a < 9223372036854775808) (hb : b < 9223372036854775808) : bits .and .i64 (a : Int) (b : Int) = ((a &&& b : Nat) : Int) := by
  have hx : a &&& b < 2 ^ 63 := Nat.and_lt_two_pow _ (by omega)
  show IntKind.i64.wrap ((BitVec.ofInt 64 (a : Int) &&& BitVec.ofInt 64 (b : Int)).toNat : Int) = _
  rw [BitVec.toNat_and, ofInt_i64 a (by omega), ofInt_i64 b (by omega), IntKind.wrap_i64]
  omega
theorem w64_nat (a : Nat) (h : a < 9223372036854775808) : wrap64 (a : Int) = (a : Int) := IntWalk.wrap64_in _ ⟨by omega, by omega⟩
theorem and_mask (a k : Nat) (ha : a < 9223372036854775808) (hk : k ≤ 30) : bits .and .i64 (a : Int) (wrap64 (wrap64 (2 ^ k) - 1)) = ((a % 2 ^ k : Nat) : Int) := by
  have hp : 2 ^ k ≤ 2 ^ 30 := Nat.pow_le_pow_right (by decide) hk
  have h0 : 0 < 2 ^ k := Nat.pow_pos (by decide)
  have e : (2 : Int) ^ k = ((2 ^ k : Nat) : Int) := by simp
  have e2 : ((2 ^ k : Nat) : Int) - 1 = ((2 ^ k - 1 : Nat) : Int) := by omega
  rw [e, w64_nat _ (by omega), e2, w64_nat _ (by omega), i64_and_nat _ _ ha (by omega), Nat.and_two_pow_sub_one_eq_mod]
/-- the literals' row. -/
def litAt (place lc lp : Nat) (v : Int) : Nat := (place % 2 ^ lp) * 2 ^ lc + v.toNat / 2 ^ (8 - lc)
theorem litAt_lt {place lc lp : Nat} {v : Int} (hlc : lc ≤ 8) (h0 : 0 ≤ v) (h1 : v < 256) : litAt place lc lp v < 2 ^ (lc + lp) := by
  unfold litAt
  have h2 : v.toNat / 2 ^ (8 - lc) < 2 ^ lc := by
    rw [Nat.div_lt_iff_lt_mul (Nat.pow_pos (by decide)), ← Nat.pow_add, show lc + (8 - lc) = 8 by omega]
    omega
  have h3 : place % 2 ^ lp < 2 ^ lp := Nat.mod_lt _ (Nat.pow_pos (by decide))
  have h4 : (place % 2 ^ lp + 1) * 2 ^ lc ≤ 2 ^ lp * 2 ^ lc := Nat.mul_le_mul_right _ h3
  rw [Nat.add_mul, Nat.one_mul] at h4
  rw [Nat.add_comm lc, Nat.pow_add]
  omega
theorem litAt_go {place lc lp : Nat} {v : Int} (hlc : lc ≤ 8) (hlp : lp ≤ 4) (hp : place ≤ 1000000) (h0 : 0 ≤ v) (h1 : v < 256) :
    wrap64 (wrap64 (bits BinOp.and IntKind.i64 (place : Int) (wrap64 (wrap64 (2 ^ lp) - 1)) * 2 ^ lc) + v / 2 ^ (8 - lc)) = ((litAt place lc lp v : Nat) : Int) := by
  have hl := litAt_lt (place := place) (lp := lp) hlc h0 h1
  have hp2 : 2 ^ (lc + lp) ≤ 2 ^ 12 := Nat.pow_le_pow_right (by decide) (by omega)
  unfold litAt at hl ⊢
  rw [and_mask _ _ (by omega) (by omega)]
  have e1 : ((place % 2 ^ lp : Nat) : Int) * 2 ^ lc = ((place % 2 ^ lp * 2 ^ lc : Nat) : Int) := by simp
  have e2 : v / 2 ^ (8 - lc) = ((v.toNat / 2 ^ (8 - lc) : Nat) : Int) := by
    have : v = (v.toNat : Int) := by omega
    rw [this]
    simp
  rw [e1, e2]
  generalize place % 2 ^ lp * 2 ^ lc = A at hl ⊢
  generalize v.toNat / 2 ^ (8 - lc) = B at hl ⊢
  rw [w64_nat A (by omega)]
  have e3 : (A : Int) + (B : Int) = ((A + B : Nat) : Int) := by omega
  rw [e3, w64_nat _ (by omega)]
def litGo {S : Type} (nx : S → Int × Bool × S) (k0 : Nat) : Nat → Bool → Nat → Nat → (Nat → Int) → RD S → Nat × (Nat → Int) × RD S
  | 0, _, _, m, P, d => (m, P, d)
  | i + 1, true, o, m, P, d => litGo nx k0 i ((lbit nx P d (k0 + 256 * (1 + o / 2 ^ i % 2) + m)).1 == o / 2 ^ i % 2) o (2 * m + (lbit nx P d (k0 + 256 * (1 + o / 2 ^ i % 2) + m)).1) (lbit nx P d (k0 + 256 * (1 + o / 2 ^ i % 2) + m)).2.1 (lbit nx P d (k0 + 256 * (1 + o / 2 ^ i % 2) + m)).2.2
  | i + 1, false, o, m, P, d => litGo nx k0 i false o (2 * m + (lbit nx P d (k0 + m)).1) (lbit nx P d (k0 + m)).2.1 (lbit nx P d (k0 + m)).2.2
theorem litGo_rng {S : Type} (nx : S → Int × Bool × S) (k0 : Nat) : ∀ (i : Nat) (b : Bool) (o m : Nat) (P : Nat → Int) (d : RD S), m * 2 ^ i ≤ (litGo nx k0 i b o m P d).1 ∧ (litGo nx k0 i b o m P d).1 < (m + 1) * 2 ^ i
  | 0, b, o, m, P, d => by unfold litGo; simp
  | i + 1, b, o, m, P, d => by
    have key : ∀ (x : Nat) (b' : Bool) (P' : Nat → Int) (d' : RD S), x ≤ 1 → m * 2 ^ (i + 1) ≤ (litGo nx k0 i b' o (2 * m + x) P' d').1 ∧ (litGo nx k0 i b' o (2 * m + x) P' d').1 < (m + 1) * 2 ^ (i + 1) := by
      intro x b' P' d' hx
      have h := litGo_rng nx k0 i b' o (2 * m + x) P' d'
      have e1 : m * 2 ^ (i + 1) = (2 * m) * 2 ^ i := by rw [Nat.pow_succ, Nat.mul_comm (2 ^ i) 2, ← Nat.mul_assoc, Nat.mul_comm m 2]
      have e2 : (m + 1) * 2 ^ (i + 1) = (2 * m + 2) * 2 ^ i := by rw [Nat.pow_succ, Nat.mul_comm (2 ^ i) 2, ← Nat.mul_assoc]; congr 1; omega
      rw [e1, e2]
      exact ⟨Nat.le_trans (Nat.mul_le_mul_right _ (by omega)) h.1, Nat.lt_of_lt_of_le h.2 (Nat.mul_le_mul_right _ (by omega))⟩
    cases b with
    | true => unfold litGo; exact key _ _ _ _ (lbit_le _ _ _ _)
    | false => unfold litGo; exact key _ _ _ _ (lbit_le _ _ _ _)
theorem litGo_pr {S : Type} (nx : S → Int × Bool × S) (k0 n : Nat) (hn : k0 + 768 ≤ n) : ∀ (i : Nat) (b : Bool) (o m : Nat) (P : Nat → Int) (d : RD S), Pr P n → (m + 1) * 2 ^ i ≤ 512 → Pr (litGo nx k0 i b o m P d).2.1 n
  | 0, b, o, m, P, d, h, hm => by unfold litGo; exact h
  | i + 1, b, o, m, P, d, h, hm => by
    have h2 : (m + 1) * 2 * 2 ^ i ≤ 512 := by rw [Nat.mul_assoc, Nat.mul_comm 2, ← Nat.pow_succ]; exact hm
    have h3 : (m + 1) * 2 * 1 ≤ (m + 1) * 2 * 2 ^ i := Nat.mul_le_mul_left _ (Nat.pow_pos (by decide))
    have hb : ∀ k, (lbit nx P d k).1 ≤ 1 := fun k => lbit_le _ _ _ _
    have h4 : ∀ x, x ≤ 1 → (2 * m + x + 1) * 2 ^ i ≤ 512 := fun x hx => Nat.le_trans (Nat.mul_le_mul_right _ (by omega)) h2
    cases b with
    | true => unfold litGo; exact litGo_pr nx k0 n hn i _ _ _ _ _ (lbit_pr _ h _ (by have : o / 2 ^ i % 2 < 2 := Nat.mod_lt _ (by decide); omega)) (h4 _ (hb _))
    | false => unfold litGo; exact litGo_pr nx k0 n hn i _ _ _ _ _ (lbit_pr _ h _ (by omega)) (h4 _ (hb _))
def LS.row (L : LL) (s : LS) : Nat := 768 * litAt s.place s.lc s.lp (backH s.H L.n 0)
theorem LS.Ok.row {L : LL} {s : LS} (h : s.Ok L) : s.row L + 768 ≤ L.nl := by
  have hb := backH_by h.by_ L.n 0
  have h1 := litAt_lt (place := s.place) (lp := s.lp) h.lc hb.1 hb.2
  have h2 := h.nl
  unfold LS.row
  omega
def llit {S : Type} (nx : S → Int × Bool × S) (L : LL) (s : LS) (d : RD S) : Nat × (Nat → Int) × RD S := litGo nx (1847 + s.row L) 8 (decide (7 ≤ s.st)) (backH s.H L.n (s.rep 0)).toNat 1 s.P d
def stL (st : Nat) : Nat := if st < 4 then 0 else if st < 10 then st - 3 else st - 6
theorem top_bit (o j : Nat) (ho : o < 256) (hj : j ≤ 7) : bits BinOp.and IntKind.i64 (((o * 2 ^ j : Nat) : Int) / 128) 1 = ((o / 2 ^ (7 - j) % 2 : Nat) : Int) := by
  have e : o * 2 ^ j / 128 = o / 2 ^ (7 - j) := by
    have : 128 = 2 ^ (7 - j) * 2 ^ j := by rw [← Nat.pow_add, show 7 - j + j = 7 by omega]
    rw [this, Nat.mul_div_mul_right _ _ (Nat.pow_pos (by decide))]
  have e2 : ((o * 2 ^ j : Nat) : Int) / 128 = ((o / 2 ^ (7 - j) : Nat) : Int) := by rw [← e]; omega
  have hlt : o / 2 ^ (7 - j) ≤ o := Nat.div_le_self _ _
  rw [e2, show (1 : Int) = ((1 : Nat) : Int) from rfl, i64_and_nat _ _ (by omega) (by decide), nat_mask1]
theorem wrap_in (n : Int) (h0 : 0 ≤ n) (h1 : n < 1048576) : IntKind.i64.wrap n = n := by rw [IntKind.wrap_i64]; omega
theorem lit_idx (x m : Nat) (hx : x ≤ 1) (hm : m < 256) : IntKind.i64.wrap (IntKind.i64.wrap (IntKind.i64.wrap (1 + (x : Int)) * 256) + (m : Int)) = ((256 * (1 + x) + m : Nat) : Int) := by
  rw [wrap_in (1 + (x : Int)) (by omega) (by omega), wrap_in ((1 + (x : Int)) * 256) (by omega) (by omega), wrap_in _ (by omega) (by omega)]
  omega
end Go.Proofs.Ytjnegcambbeblaa

/- lzma: a literal. -/
namespace Go.Proofs.Ytjnegcambbeblaa
open Go.RowKit

theorem LOn.st_ {S : Type} {L : LL} {t : Sour S} {ga gr : Nat} {w : World} {s : LS} {d : RD (AhS S)} (h : LOn L t ga gr w s d) {x : Nat} (hx : x < 12) :
    LOn L t ga gr (w.setCell ⟨L.gd, 1857, none⟩ (.int .i64 x)) { s with st := x } d :=
  h.own ((Fr.refl _ _).setOne _ _) (T := fun k => k = L.gd) (fun _ e => .inl e) (h.is_.setT (i := 1) (s' := { s with st := x }) rfl rfl rfl rfl ⟨h.is_.ok.pr, hx, h.is_.ok.rep, h.is_.ok.by_, h.is_.ok.lc, h.is_.ok.lp, h.is_.ok.pb, h.is_.ok.nl, h.is_.ok.dict, h.is_.ok.left⟩)
structure LitMid {S : Type} (L : LL) (t : Sour S) (ga gr : Nat) (s : LS) (d : RD (AhS S)) (w : World) (b : Bool) (j m : Nat) (P1 : Nat → Int) (d1 : RD (AhS S)) (wx : World) : Prop where
  top : j ≤ 8
  lo : 2 ^ j ≤ m
  hi : m < 2 ^ (j + 1)
  go : litGo (ahead t ga).nx (1847 + s.row L) (8 - j) b (backH s.H L.n (s.rep 0)).toNat m P1 d1 = llit (ahead t ga).nx L s d
  fr : Fr (LFt L t ga gr) w wx
  on : LOn L t ga gr wx { s with P := P1 } d1
theorem pow_lt8 {j m : Nat} (h : 2 ^ j ≤ m) (hm : m < 256) : j < 8 := by
  rcases Nat.lt_or_ge j 8 with h1 | h1
  · exact h1
  · have : 2 ^ 8 ≤ 2 ^ j := Nat.pow_le_pow_right (by decide) h1
    omega
theorem LitMid.any {S : Type} {L : LL} {t : Sour S} {ga gr : Nat} {s : LS} {d : RD (AhS S)} {w : World} {b : Bool} {j m : Nat} {P1 : Nat → Int} {d1 : RD (AhS S)} {wx wy : World}
    (h : LitMid L t ga gr s d w b j m P1 d1 wx) (hf : Fr Non wx wy) : LitMid L t ga gr s d w b j m P1 d1 wy := ⟨h.top, h.lo, h.hi, h.go, h.fr.trans (hf.mono (fun _ _ e => e.elim)), h.on.any hf⟩
/-- one bit more, with the matched byte's. -/
theorem LitMid.step {S : Type} {L : LL} {t : Sour S} {ga gr : Nat} {s : LS} {d : RD (AhS S)} {w : World} {b : Bool} {j m : Nat} {P1 : Nat → Int} {d1 : RD (AhS S)} {wx wy : World} {o x r : Nat} {P2 : Nat → Int} {d2 : RD (AhS S)} {b' : Bool}
    (h : LitMid L t ga gr s d w b j m P1 d1 wx) (hj : j < 8) (ho : o = (backH s.H L.n (s.rep 0)).toNat) (hx : x = o / 2 ^ (7 - j) % 2) (k : Nat)
    (hk : k = 1847 + s.row L + (if b = true then 256 * (1 + x) else 0) + m) (hr : lbit (ahead t ga).nx P1 d1 k = (r, P2, d2)) (hb : b' = (b && (r == x)))
    (hf : Fr (LFt L t ga gr) wx wy) (hon : LOn L t ga gr wy { s with P := P2 } d2) : LitMid L t ga gr s d w b' (j + 1) (2 * m + r) P2 d2 wy := by
  have hr1 : r ≤ 1 := by have := lbit_le (ahead t ga).nx P1 d1 k; rw [hr] at this; exact this
  refine ⟨by omega, by have := h.lo; rw [Nat.pow_succ]; omega, by have := h.hi; rw [Nat.pow_succ] at this ⊢; omega, ?_, h.fr.trans hf, hon⟩
  rw [← h.go, ← ho]
  have e : 8 - j = (8 - (j + 1)) + 1 := by omega
  have e2 : 8 - (j + 1) = 7 - j := by omega
  rw [e, e2]
  cases b with
  | false =>
    rw [hb]
    conv => rhs; unfold litGo
    have hk' : k = 1847 + s.row L + m := by rw [hk]; rfl
    rw [hk'] at hr
    rw [hr]
    rfl
  | true =>
    rw [hb]
    conv => rhs; unfold litGo
    have hk' : k = 1847 + s.row L + 256 * (1 + o / 2 ^ (7 - j) % 2) + m := by rw [hk, ← hx]; rfl
    rw [hk'] at hr
    rw [hr, ← hx]
    rfl
theorem LitMid.full {S : Type} {L : LL} {t : Sour S} {ga gr : Nat} {s : LS} {d : RD (AhS S)} {w : World} {b b' : Bool} {j m : Nat} {P1 : Nat → Int} {d1 : RD (AhS S)} {wx : World}
    (h : LitMid L t ga gr s d w b j m P1 d1 wx) (hm : ¬ m < 256) : j = 8 ∧ LitMid L t ga gr s d w b' j m P1 d1 wx := by
  have hj : j = 8 := by
    have h1 := h.hi
    have h2 := h.top
    rcases Nat.lt_or_ge j 8 with h3 | h3
    · have : 2 ^ (j + 1) ≤ 2 ^ 8 := Nat.pow_le_pow_right (by decide) (by omega)
      omega
    · omega
  refine ⟨hj, h.top, h.lo, h.hi, ?_, h.fr, h.on⟩
  have := h.go
  subst hj
  exact this
set_option maxRecDepth 100000 in
set_option maxHeartbeats 2000000 in
theorem llit_any {S : Type} (L : LL) (t : Sour S) (ga gr : Nat) (s : LS) (d : RD (AhS S)) (w : World) (h : LOn L t ga gr w s d) (hp : s.place ≤ 1000000) :
    Calls Try.prog 88 #[.pointer (some ⟨L.gd, 0, none⟩)] w
      (LOPost L t ga gr (.int .u8 (((llit (ahead t ga).nx L s d).1 % 256 : Nat) : Int)) { s with P := (llit (ahead t ga).nx L s d).2.1, st := stL s.st } (llit (ahead t ga).nx L s d).2.2 w) := by
  have k0 := h.is_.headC 0 (v := .int .i64 s.lc) (by decide) rfl
  have k1 := h.is_.headC 1 (v := .int .i64 s.lp) (by decide) rfl
  have k6 := h.is_.headC 6 (v := .pointer (some ⟨L.gw, 0, none⟩)) (by decide) rfl
  have k8 := h.is_.headC 8 (v := .pointer (some ⟨gr, 0, none⟩)) (by decide) rfl
  have t0 := h.is_.tailC 0 (v := .slice (some ⟨L.gl, 0, none⟩) L.nl L.nl) rfl
  have t1 := h.is_.tailC 1 (v := .int .i64 s.st) rfl
  have t2 := h.is_.tailC 2 (v := .int .u32 (s.rep 0)) rfl
  have t6 := h.is_.tailC 6 (v := .int .i64 s.place) rfl
  have hb := backH_by h.is_.ok.by_ L.n 0
  have hlc : (s.lc : Int) ≤ 8 := by have := h.is_.ok.lc; omega
  have hlp : (s.lp : Int) ≤ 4 := by have := h.is_.ok.lp; omega
  have hlc0 : (0 : Int) ≤ s.lc := by omega
  have hlp0 : (0 : Int) ≤ s.lp := by omega
  have hpl : (s.place : Int) ≤ 1000000 := by omega
  have hpl0 : (0 : Int) ≤ s.place := by omega
  have HA := hid (litAt_go (place := s.place) h.is_.ok.lc h.is_.ok.lp hp hb.1 hb.2)
  have HR := hid h.is_.ok.row
  have hnl := h.is_.big
  have hnl0 : (L.nl : Int) ≤ 49152 := by omega
  obtain ⟨A, hA⟩ : ∃ A, A = litAt s.place s.lc s.lp (backH s.H L.n 0) := ⟨_, rfl⟩
  have hrow : s.row L = 768 * A := by unfold LS.row; rw [hA]
  have hA1 : 768 * A + 768 ≤ L.nl := by have := HR.out; rw [hrow] at this; exact this
  have hA2 : 768 * (A : Int) + 768 ≤ (L.nl : Int) := by omega
  have hA0 : (0 : Int) ≤ (A : Int) := by omega
  have hA3 : ¬ (L.nl = 768 * A) := by omega
  rw [← hA] at HA
  have HROW := hid hrow
  have H := hid h
  clear h hp hA hrow
  go_enter Try.func88, Try.ntmps88
  go_upto_region 1 with fail
  go_quiet ((go_at_call 95; exact Calls.quiet_of (wat_any L.gw L.gn L.gm L.n s.H 0 _ (by exact H.out.is_.win.keep ((Fr.refl Non _).drewN _) (fun e => e) (fun e => e)))))
  go_upto_region 2 with fail
  go_cut [4] (fun a4 wx => a4 = .int .i64 A ∧ Fr Non w wx)
  case first =>
    go_quiet (fail)
    go_wp2_with fail
    go_meet
    exact ⟨by rw [HA.out], ((Fr.refl Non w).drewN _).drewN _⟩
  case rest =>
    obtain ⟨h4, hf0⟩ := hcut
    subst h4
    obtain ⟨wq, hwq⟩ : ∃ wq, wq = wc := ⟨_, rfl⟩
    rw [← hwq] at hf0 ⊢
    clear hwq
    have h := H.out.any hf0
    have k6 := h.is_.headC 6 (v := .pointer (some ⟨L.gw, 0, none⟩)) (by decide) rfl
    have t0 := h.is_.tailC 0 (v := .slice (some ⟨L.gl, 0, none⟩) L.nl L.nl) rfl
    have t1 := h.is_.tailC 1 (v := .int .i64 s.st) rfl
    have t2 := h.is_.tailC 2 (v := .int .u32 (s.rep 0)) rfl
    have HF0 := hid hf0
    have H1 := hid h
    clear hf0 h
    obtain ⟨o, ho⟩ : ∃ o, o = (backH s.H L.n (s.rep 0)).toNat := ⟨_, rfl⟩
    have hbo := backH_by H.out.is_.ok.by_ L.n (s.rep 0)
    have hob : backH s.H L.n (s.rep 0) = (o : Int) := by omega
    have ho2 : o < 256 := by omega
    have HO := hid ho
    have HOB := hid hob
    clear ho hob hbo
    have M0 := hid (show LitMid L t ga gr s d w (decide (7 ≤ s.st)) 0 1 s.P d wq from ⟨by omega, by decide, by decide, rfl, HF0.out.mono (fun _ _ e => e.elim), H1.out⟩)
    have hrp0 : IntKind.i64.wrap ((s.rep 0 : Nat) : Int) = ((s.rep 0 : Nat) : Int) := by have := H1.out.is_.ok.rep 0 (by decide); rw [IntKind.wrap_i64]; omega
    go_upto_if 60 with fail
    rw [show 768 * A + 768 - 768 * A = 768 by omega]
    obtain ⟨bb, hbb⟩ : ∃ bb, bb = decide ((7 : Int) ≤ (s.st : Int)) := ⟨_, rfl⟩
    have hbb2 : decide (7 ≤ s.st) = bb := by rw [hbb]; congr 1; apply propext; omega
    rw [hbb2] at M0
    rw [← hbb]
    clear hbb hbb2 t1
    go_cut [6] (fun a6 wx => ∃ (j m : Nat) (P1 : Nat → Int) (d1 : RD (AhS S)), a6 = .int .i64 m ∧ LitMid L t ga gr s d w false j m P1 d1 wx)
    case first =>
      cases bb with
      | true =>
        go_upto_region 5 with fail
        go_quiet ((go_at_call 95; exact Calls.quiet_of (wat_any L.gw L.gn L.gm L.n s.H (s.rep 0) _ (by exact H1.out.is_.win.keep ((Fr.refl Non _).drewN _) (fun e => e) (fun e => e)))))
        rw [HOB.out]
        go_wp2_with fail
        go_loopw [6, 7] (fun a6 a7 wr => ∃ (j m : Nat) (P1 : Nat → Int) (d1 : RD (AhS S)), a6 = .int .i64 m ∧ a7 = .int .i64 (o * 2 ^ j : Nat) ∧ LitMid L t ga gr s d w true j m P1 d1 wr) (fun a6 _ _ => 512 - (intOf a6).toNat)
        case atStart => exact ⟨0, 1, s.P, d, rfl, by rw [w64_nat o (by omega)]; simp, M0.out.any ((Fr.refl Non _).drewN _)⟩
        case round =>
          obtain ⟨j, m, P1, d1, rfl, rfl, hm⟩ := hrel
          have HM := hid hm
          clear hm
          by_cases hlt : m < 256
          · have hlt' : (m : Int) < 256 := by omega
            have hj := pow_lt8 HM.out.lo hlt
            have hm1 : 1 ≤ m := Nat.le_trans (Nat.pow_pos (by decide)) HM.out.lo
            obtain ⟨x, hx⟩ : ∃ x, x = o / 2 ^ (7 - j) % 2 := ⟨_, rfl⟩
            have hx1 : x ≤ 1 := by have : o / 2 ^ (7 - j) % 2 < 2 := Nat.mod_lt _ (by decide); omega
            have hx1' : (x : Int) ≤ 1 := by omega
            have hx0 : (0 : Int) ≤ (x : Int) := by omega
            have HTB := hid (top_bit o j ho2 (by omega))
            rw [← hx] at HTB
            have k8 := HM.out.on.is_.headC 8 (v := .pointer (some ⟨gr, 0, none⟩)) (by decide) rfl
            obtain ⟨y, hy⟩ : ∃ y, y = o * 2 ^ j := ⟨_, rfl⟩
            have hy2 : y ≤ 65536 := by rw [hy]; have : 2 ^ j ≤ 2 ^ 8 := Nat.pow_le_pow_right (by decide) (by omega); exact Nat.le_trans (Nat.mul_le_mul (show o ≤ 256 by omega) this) (by decide)
            rw [← hy] at HTB ⊢
            have hy2' : (y : Int) ≤ 65536 := by omega
            have hy0 : (0 : Int) ≤ (y : Int) := by omega
            have HX := hid hx
            have HY := hid hy
            have HJ := hid hj
            clear hx hy hj hy2
            go_upto_region 8 with fail
            rw [HTB.out]
            go_upto_region 9 with fail
            obtain ⟨q, hq⟩ : ∃ q, q = 256 * (1 + x) + m := ⟨_, rfl⟩
            have hidx := lit_idx x m hx1 hlt
            rw [← hq] at hidx
            have hq7 : q < 768 := by omega
            have hq7' : (q : Int) < 768 := by omega
            have hq0 : (0 : Int) ≤ (q : Int) := by omega
            have HQ := hid hq
            have HIN := hid (show 768 * A + q < L.nl by omega)
            have CB := hid (fun w1 (h1 : LOn L t ga gr w1 { s with P := P1 } d1) => lbitL L t ga gr { s with P := P1 } d1 (768 * A + q) (768 * A + q) w1 h1 HIN.out rfl)
            dsimp only at CB
            obtain ⟨rr, hrr⟩ : ∃ rr, rr = lbit (ahead t ga).nx P1 d1 (1847 + (768 * A + q)) := ⟨_, rfl⟩
            obtain ⟨r, P2, d2⟩ := rr
            have hr1 : r ≤ 1 := by have := lbit_le (ahead t ga).nx P1 d1 (1847 + (768 * A + q)); rw [← hrr] at this; exact this
            rw [← hrr] at CB
            dsimp only at CB
            have HRR := hid hrr
            clear hrr hq
            go_cut [9] (fun a9 wx => a9 = .int .i64 r ∧ Fr (LFt L t ga gr) wr wx ∧ LOn L t ga gr wx { s with P := P2 } d2)
            case first =>
              go_region_with (go_at_call 87; refine (CB.out _ (by exact HM.out.on.any ((Fr.refl Non _).drew))).mono ?_; rintro e w1 ⟨rfl, hf1, h1⟩; have HF1 := hid hf1; have HO1 := hid h1; clear hf1 h1)
              simp only [List.getElem_toArray, List.getElem_cons_zero, List.getElem_cons_succ, Act.put, List.setIfInBounds_toArray, List.set_cons_zero, List.set_cons_succ]
              go_wp2_with fail
              go_meet
              exact ⟨rfl, (Fr.refl _ _).drew.trans HF1.out, HO1.out⟩
            case rest =>
              obtain ⟨h9, hf1, ho1⟩ := hcut
              subst h9
              have HM2 := hid (HM.out.step (b' := (true && (r == x))) HJ.out HO.out HX.out (1847 + (768 * A + q)) (by rw [HROW.out, HQ.out, if_pos rfl]; omega) HRR.out.symm rfl hf1 ho1)
              have HOR := hid (or_bit m r hr1 (by omega))
              clear hf1 ho1
              by_cases hrx : r = x
              · subst hrx
                rw [beq_self_eq_true] at HM2
                go_wp2_with fail
                go_roundw
                case rel =>
                  exact ⟨j + 1, 2 * m + r, P2, d2, by rw [HOR.out], by rw [HY.out]; congr 1; push_cast; rw [Int.pow_succ, Int.mul_assoc], HM2.out⟩
                case measure => rw [HOR.out]; simp [intOf]; omega
              · rw [beq_false_of_ne hrx] at HM2
                have hrx1 : ¬ ((r : Int) = (x : Int)) := by omega
                go_wp2_with fail
                go_meet
                exact ⟨j + 1, 2 * m + r, P2, d2, by rw [HOR.out], HM2.out⟩
          · have hlt' : ¬ (m : Int) < 256 := by omega
            go_wp2_with fail
            go_meet
            exact ⟨j, m, P1, d1, rfl, (HM.out.full hlt).2⟩
      | false =>
        go_wp2_with fail
        go_meet
        exact ⟨0, 1, s.P, d, rfl, M0.out⟩
    case rest =>
      obtain ⟨j, m, P1, d1, h6, hm⟩ := hcut
      subst h6
      go_upto_block 2 with fail
      go_cut [6] (fun a6 wx => ∃ (m : Nat) (P1 : Nat → Int) (d1 : RD (AhS S)), a6 = .int .i64 m ∧ LitMid L t ga gr s d w false 8 m P1 d1 wx)
      case first =>
        have M1 := hid hm
        clear hm
        go_wp2_with fail
        go_loopw [6] (fun a6 wr => ∃ (j m : Nat) (P1 : Nat → Int) (d1 : RD (AhS S)), a6 = .int .i64 m ∧ LitMid L t ga gr s d w false j m P1 d1 wr) (fun a6 _ => 512 - (intOf a6).toNat)
        case atStart => exact ⟨j, m, P1, d1, rfl, M1.out⟩
        case round =>
          obtain ⟨j, m, P1, d1, rfl, hm⟩ := hrel
          have HM := hid hm
          clear hm
          by_cases hlt : m < 256
          · have hlt' : (m : Int) < 256 := by omega
            have hj := pow_lt8 HM.out.lo hlt
            have hm1 : 1 ≤ m := Nat.le_trans (Nat.pow_pos (by decide)) HM.out.lo
            have k8 := HM.out.on.is_.headC 8 (v := .pointer (some ⟨gr, 0, none⟩)) (by decide) rfl
            have HJ := hid hj
            have HIN := hid (show 768 * A + m < L.nl by omega)
            have CB := hid (fun w1 (h1 : LOn L t ga gr w1 { s with P := P1 } d1) => lbitL L t ga gr { s with P := P1 } d1 (768 * A + m) (768 * A + m) w1 h1 HIN.out rfl)
            dsimp only at CB
            obtain ⟨rr, hrr⟩ : ∃ rr, rr = lbit (ahead t ga).nx P1 d1 (1847 + (768 * A + m)) := ⟨_, rfl⟩
            obtain ⟨r, P2, d2⟩ := rr
            have hr1 : r ≤ 1 := by have := lbit_le (ahead t ga).nx P1 d1 (1847 + (768 * A + m)); rw [← hrr] at this; exact this
            rw [← hrr] at CB
            dsimp only at CB
            have HRR := hid hrr
            have hm2 : IntKind.i64.wrap ((m : Int) * 2) = (m : Int) * 2 := wrap_in _ (by omega) (by omega)
            have HOR := hid (or_bit m r hr1 (by omega))
            clear hrr hj
            go_upto_region 13 with fail
            go_region_with (go_at_call 87; refine (CB.out _ (by exact HM.out.on.any ((Fr.refl Non _).drew))).mono ?_; rintro e w1 ⟨rfl, hf1, h1⟩; have HF1 := hid hf1; have HO1 := hid h1; clear hf1 h1)
            all_goals
              simp only [List.getElem_toArray, List.getElem_cons_zero, List.getElem_cons_succ, Act.put, List.setIfInBounds_toArray, List.set_cons_zero, List.set_cons_succ]
              have HM2 := hid (HM.out.step (b' := (false && (r == 0))) (x := _) HJ.out rfl rfl (1847 + (768 * A + m)) (by rw [HROW.out, if_neg (by decide)]; omega) HRR.out.symm rfl ((Fr.refl _ _).drew.trans HF1.out) HO1.out)
              go_wp2_with fail
              go_roundw
              case rel => exact ⟨j + 1, 2 * m + r, P2, d2, by rw [HOR.out], HM2.out⟩
              case measure => rw [HOR.out]; simp [intOf]; omega
          · have hlt' : ¬ (m : Int) < 256 := by omega
            obtain ⟨e8, HM8⟩ := HM.out.full (b' := false) hlt
            subst e8
            have HM9 := hid HM8
            clear HM8
            go_wp2_with fail
            go_meet
            exact ⟨m, P1, d1, rfl, HM9.out⟩
      case rest =>
        clear hm
        obtain ⟨m, P1, d1, h6, hm⟩ := hcut
        subst h6
        have hst : s.st < 12 := hm.on.is_.ok.st
        have t1 := hm.on.is_.tailC 1 (v := .int .i64 s.st) rfl
        have z1 := blk_frozen hm.on.is_.at_ (1856 + 1)
        have hgo := hm.go
        have hr := hm.lo
        have hr2 := hm.hi
        have hon := hm.on
        have hfr := hm.fr
        have HGO := hid hgo
        have HON := hid hon
        have HFR := hid hfr
        clear hgo hon hfr hm hr hr2
        have hfin : ∀ x, x < 12 → x = stL s.st → LOPost L t ga gr (.int .u8 (((llit (ahead t ga).nx L s d).1 % 256 : Nat) : Int)) { s with P := (llit (ahead t ga).nx L s d).2.1, st := stL s.st } (llit (ahead t ga).nx L s d).2.2 w (.returned (.int .u8 ((m % 256 : Nat) : Int))) (wc.setCell ⟨L.gd, 1857, none⟩ (.int .i64 (x : Int))) := by
          intro x hx e
          have e1 : llit (ahead t ga).nx L s d = (m, P1, d1) := HGO.out.symm
          rw [e1]
          refine ⟨rfl, HFR.out.trans ((Fr.refl (LFt L t ga gr) _).setCell (p := ⟨L.gd, 1857, none⟩) (fun _ => .inl (.inl rfl)) _), ?_⟩
          have := HON.out.st_ hx
          rw [e] at this ⊢
          exact this
        have HFIN := hid hfin
        clear hfin
        by_cases h4 : s.st < 4
        · have h4' : (s.st : Int) < 4 := by omega
          have hs : stL s.st = 0 := by unfold stL; rw [if_pos h4]
          have HS := hid hs
          clear hs
          go_wp2_with fail
          go_ret
          exact HFIN.out 0 (by decide) HS.out.symm
        · have h4' : ¬ (s.st : Int) < 4 := by omega
          by_cases h10 : s.st < 10
          · have h10' : (s.st : Int) < 10 := by omega
            have hs : stL s.st = s.st - 3 := by unfold stL; rw [if_neg h4, if_pos h10]
            have HS := hid hs
            have he : ((s.st : Int) - 3) = ((s.st - 3 : Nat) : Int) := by omega
            have HE := hid he
            clear hs he
            go_wp2_with fail
            go_ret
            rw [HE.out]
            exact HFIN.out (s.st - 3) (by omega) HS.out.symm
          · have h10' : ¬ (s.st : Int) < 10 := by omega
            have hs : stL s.st = s.st - 6 := by unfold stL; rw [if_neg h4, if_neg h10]
            have HS := hid hs
            have he : ((s.st : Int) - 6) = ((s.st - 6 : Nat) : Int) := by omega
            have HE := hid he
            have hst' : (s.st : Int) < 12 := by omega
            clear hs he
            go_wp2_with fail
            go_ret
            rw [HE.out]
            exact HFIN.out (s.st - 6) (by omega) HS.out.symm
end Go.Proofs.Ytjnegcambbeblaa

/- lzma: next, distance. -/
namespace Go.Proofs.Ytjnegcambbeblaa
open Go.RowKit

def nextL (st y o : Nat) : Nat := if st < 7 then y else o
theorem lnextS_any {S : Type} (L : LL) (t : Sour S) (ga gr : Nat) (s : LS) (d : RD (AhS S)) (y o : Nat) (w : World) (h : LOn L t ga gr w s d) (hy : y < 12) (ho : o < 12) :
    Calls Try.prog 117 #[.pointer (some ⟨L.gd, 0, none⟩), .int .i64 y, .int .i64 o] w (LOPost L t ga gr (.tuple #[]) { s with st := nextL s.st y o } d w) := by
  have t1 := h.is_.tailC 1 (v := .int .i64 s.st) rfl
  have z1 := blk_frozen h.is_.at_ (1856 + 1)
  have hfin : ∀ x, x < 12 → x = nextL s.st y o → LOPost L t ga gr (.tuple #[]) { s with st := nextL s.st y o } d w (.returned (.tuple #[])) (w.setCell ⟨L.gd, 1857, none⟩ (.int .i64 (x : Int))) := by
    intro x hx e
    refine ⟨rfl, (Fr.refl (LFt L t ga gr) _).setCell (p := ⟨L.gd, 1857, none⟩) (fun _ => .inl (.inl rfl)) _, ?_⟩
    have := h.st_ hx
    rw [e] at this ⊢
    exact this
  have HFIN := hid hfin
  clear hfin h
  by_cases h7 : s.st < 7
  · have h7' : (s.st : Int) < 7 := by omega
    have HS := hid (show y = nextL s.st y o by unfold nextL; rw [if_pos h7])
    go_enter Try.func117, Try.ntmps117
    go_wp2_with fail
    go_end0
    exact HFIN.out y hy HS.out
  · have h7' : ¬ (s.st : Int) < 7 := by omega
    have HS := hid (show o = nextL s.st y o by unfold nextL; rw [if_neg h7])
    go_enter Try.func117, Try.ntmps117
    go_wp2_with fail
    go_end0
    exact HFIN.out o ho HS.out
theorem lstrP {S : Type} (L : LL) (t : Sour S) (ga gr : Nat) (s : LS) (d : RD (AhS S)) (B : Nat) (w : World) (h : LOn L t ga gr w s d) (hB : B ≤ 32) :
    Calls Try.prog 129 #[.pointer (some ⟨gr, 0, none⟩), .int .i64 B] w (LOPost L t ga gr (.int .u32 ((d.str (ahead t ga).nx B).1 : Nat)) s (d.str (ahead t ga).nx B).2 w) := by
  refine (dstr_any (ahead t ga) gr B d w h.dec hB).mono ?_
  rintro e w' ⟨rfl, hf, hd⟩
  exact ⟨rfl, hf.mono (fun _ _ e => .inr e), h.is_.keep hf (fun k hk e => h.ap k hk e), hd, h.ap⟩
theorem strGo_lt' {S : Type} (nx : S → Int × Bool × S) : ∀ (k j : Nat) (d : RD S) (out : Nat), out < 2 ^ j → (RD.strGo nx k d out).1 < 2 ^ (j + k)
  | 0, j, d, out, h => by simpa [RD.strGo] using h
  | k + 1, j, d, out, h => by
    unfold RD.strGo
    split
    · exact Nat.lt_of_lt_of_le h (Nat.pow_le_pow_right (by decide) (by omega))
    · have hb : (d.str1 nx).1 ≤ 1 := by unfold RD.str1; split <;> simp
      have := strGo_lt' nx k (j + 1) (d.str1 nx).2 (2 * out + (d.str1 nx).1) (by rw [Nat.pow_succ]; omega)
      rw [show j + (k + 1) = j + 1 + k by omega]
      exact this
theorem str_lt' {S : Type} (nx : S → Int × Bool × S) (k : Nat) (d : RD S) : (d.str nx k).1 < 2 ^ k := by
  unfold RD.str
  have := strGo_lt' nx k 0 d 0 (by decide)
  rw [Nat.zero_add] at this
  dsimp only
  split
  · exact Nat.pow_pos (by decide)
  · exact this
def slotN (sl : Nat) : Nat := sl / 2 - 1
def slotB (sl : Nat) : Nat := (2 + sl % 2) * 2 ^ slotN sl
def ldist2 {S : Type} (nx : S → Int × Bool × S) (P : Nat → Int) (d : RD S) (sl : Nat) : Nat × (Nat → Int) × RD S :=
  if sl < 4 then (sl, P, d)
  else if sl < 14 then (slotB sl + (lrev nx P d (688 + (slotB sl - sl)) (slotN sl)).1, (lrev nx P d (688 + (slotB sl - sl)) (slotN sl)).2)
  else (slotB sl + 16 * (d.str nx (slotN sl - 4)).1 + (lrev nx P (d.str nx (slotN sl - 4)).2 803 4).1, (lrev nx P (d.str nx (slotN sl - 4)).2 803 4).2)
def ldist {S : Type} (nx : S → Int × Bool × S) (P : Nat → Int) (d : RD S) (l : Nat) : Nat × (Nat → Int) × RD S :=
  ldist2 nx (ltree nx P d (432 + 64 * min l 3) 6).2.1 (ltree nx P d (432 + 64 * min l 3) 6).2.2 (ltree nx P d (432 + 64 * min l 3) 6).1
theorem slot_few {sl : Nat} (h4 : 4 ≤ sl) (h : sl < 14) : sl ≤ slotB sl ∧ slotB sl - sl + 2 ^ slotN sl ≤ 115 ∧ slotN sl ≤ 5 ∧ slotB sl < 128 ∧ 1 ≤ slotN sl := by
  unfold slotB slotN
  have : sl = 4 ∨ sl = 5 ∨ sl = 6 ∨ sl = 7 ∨ sl = 8 ∨ sl = 9 ∨ sl = 10 ∨ sl = 11 ∨ sl = 12 ∨ sl = 13 := by omega
  rcases this with rfl | rfl | rfl | rfl | rfl | rfl | rfl | rfl | rfl | rfl <;> decide
theorem slot_many {sl : Nat} (h4 : 4 ≤ sl) (h : sl < 64) : 1 ≤ slotN sl ∧ slotN sl ≤ 30 ∧ slotB sl + 2 ^ slotN sl ≤ 4294967296 := by
  unfold slotB slotN
  have h1 : sl / 2 - 1 ≤ 30 := by omega
  have h2 : 2 ^ (sl / 2 - 1) ≤ 2 ^ 30 := Nat.pow_le_pow_right (by decide) h1
  have h3 : (2 + sl % 2) * 2 ^ (sl / 2 - 1) ≤ 3 * 2 ^ (sl / 2 - 1) := Nat.mul_le_mul_right _ (by omega)
  refine ⟨by omega, h1, ?_⟩
  generalize 2 ^ (sl / 2 - 1) = X at *
  generalize (2 + sl % 2) * X = Y at *
  omega
theorem slot_n {sl : Nat} (h : 4 ≤ sl) : ((sl : Int) / 2 - 1) = ((slotN sl : Nat) : Int) := by unfold slotN; omega
theorem slot_b {sl : Nat} (h4 : 4 ≤ sl) (h : sl < 64) : bits BinOp.or IntKind.i64 2 (bits BinOp.and IntKind.i64 (sl : Int) 1) % 4294967296 * 2 ^ slotN sl % 4294967296 = ((slotB sl : Nat) : Int) := by
  have hm := slot_many h4 h
  rw [show (1 : Int) = ((1 : Nat) : Int) from rfl, i64_and_nat _ _ (by omega) (by decide), nat_mask1, show (2 : Int) = ((2 : Nat) : Int) from rfl, i64_or_nat _ _ (by decide) (by omega)]
  have e : 2 ||| sl % 2 = 2 + sl % 2 := by
    rcases Nat.mod_two_eq_zero_or_one sl with e | e <;> (rw [e]; decide)
  rw [e]
  have e2 : (((2 + sl % 2 : Nat) : Int) % 4294967296) = ((2 + sl % 2 : Nat) : Int) := by omega
  have e3 : ((2 + sl % 2 : Nat) : Int) * ((2 : Nat) : Int) ^ slotN sl = ((slotB sl : Nat) : Int) := by unfold slotB; push_cast; rfl
  rw [e2, e3]
  have : 0 < 2 ^ slotN sl := Nat.pow_pos (by decide)
  omega
set_option maxRecDepth 100000 in
set_option maxHeartbeats 800000 in
theorem ldist_any {S : Type} (L : LL) (t : Sour S) (ga gr : Nat) (s : LS) (d : RD (AhS S)) (l : Nat) (w : World) (h : LOn L t ga gr w s d) (hl : l ≤ 1000) :
    Calls Try.prog 118 #[.pointer (some ⟨L.gd, 0, none⟩), .int .i64 l] w
      (LOPost L t ga gr (.int .u32 ((ldist (ahead t ga).nx s.P d l).1 : Nat)) { s with P := (ldist (ahead t ga).nx s.P d l).2.1 } (ldist (ahead t ga).nx s.P d l).2.2 w) := by
  have k8 := h.is_.headC 8 (v := .pointer (some ⟨gr, 0, none⟩)) (by decide) rfl
  have hl0 : (0 : Int) ≤ (l : Int) := by omega
  have hl1 : (l : Int) ≤ 1000 := by omega
  obtain ⟨j, hj⟩ : ∃ j, j = min l 3 := ⟨_, rfl⟩
  have hj3 : j ≤ 3 := by omega
  have hj' : (j : Int) ≤ 3 := by omega
  have hj0 : (0 : Int) ≤ (j : Int) := by omega
  have HMIN := hid (show min (l : Int) 3 = (j : Int) by omega)
  unfold ldist
  rw [← hj]
  have L1 := ltree_lt (ahead t ga).nx s.P d (432 + 64 * j) 6
  have C1 := hid (fun w1 (h1 : LOn L t ga gr w1 s d) => ltreeP L t ga gr s d (432 + 64 * j) (441 + j * 64) 6 64 64 w1 h1 (rowL_hi (by omega) (by omega) (by decide)) (by rw [sgL_hi (by omega)]; omega) (by decide) (by decide) (by decide))
  generalize ltree (ahead t ga).nx s.P d (432 + 64 * j) 6 = r1 at C1 L1 ⊢
  obtain ⟨sl, P1, d1⟩ := r1
  dsimp only at C1 L1 ⊢
  have H := hid h
  have HJ := hid hj
  clear h hj
  go_enter Try.func118, Try.ntmps118
  go_upto_region 1 with fail
  go_cut [5] (fun a5 wx => a5 = .int .i64 sl ∧ Fr (LFt L t ga gr) w wx ∧ LOn L t ga gr wx { s with P := P1 } d1)
  case first =>
    by_cases hl3 : l < 3
    · have hl3' : (l : Int) < 3 := by omega
      have hl4 : (l : Int) ≤ 3 := by omega
      have hl5 : ¬ (3 : Int) < (l : Int) := by omega
      obtain rfl : l = j := by have := HJ.out; omega
      go_region_with (first | (go_at_call 127; refine (C1.out _ (by exact H.out.any ((Fr.refl Non _).drew))).mono ?_; rintro e w1 ⟨rfl, hf1, h1⟩; have HF1 := hid hf1; have HO1 := hid h1; clear hf1 h1))
      all_goals
        simp only [List.getElem_toArray, List.getElem_cons_zero, List.getElem_cons_succ, Act.put, List.setIfInBounds_toArray, List.set_cons_zero, List.set_cons_succ]
        go_wp2_with fail
        go_meet
        exact ⟨rfl, (Fr.refl _ _).drew.trans HF1.out, HO1.out⟩
    · have hl3' : ¬ (l : Int) < 3 := by omega
      have hl4 : (3 : Int) ≤ (l : Int) := by omega
      obtain rfl : j = 3 := by have := HJ.out; omega
      by_cases hl6 : l = 3
      · subst hl6
        go_region_with (first | (go_at_call 127; refine (C1.out _ (by exact H.out.any ((Fr.refl Non _).drew))).mono ?_; rintro e w1 ⟨rfl, hf1, h1⟩; have HF1 := hid hf1; have HO1 := hid h1; clear hf1 h1))
        all_goals
          simp only [List.getElem_toArray, List.getElem_cons_zero, List.getElem_cons_succ, Act.put, List.setIfInBounds_toArray, List.set_cons_zero, List.set_cons_succ]
          go_wp2_with fail
          go_meet
          exact ⟨rfl, (Fr.refl _ _).drew.trans HF1.out, HO1.out⟩
      · have hl7 : ¬ (l : Int) ≤ 3 := by omega
        have hl8 : (3 : Int) < (l : Int) := by omega
        go_region_with (first | (go_at_call 127; refine (C1.out _ (by exact H.out.any ((Fr.refl Non _).drew))).mono ?_; rintro e w1 ⟨rfl, hf1, h1⟩; have HF1 := hid hf1; have HO1 := hid h1; clear hf1 h1))
        all_goals
          simp only [List.getElem_toArray, List.getElem_cons_zero, List.getElem_cons_succ, Act.put, List.setIfInBounds_toArray, List.set_cons_zero, List.set_cons_succ]
          go_wp2_with fail
          go_meet
          exact ⟨rfl, (Fr.refl _ _).drew.trans HF1.out, HO1.out⟩
  case rest =>
    obtain ⟨h5, hf1, ho1⟩ := hcut
    subst h5
    obtain ⟨wq, hwq⟩ : ∃ wq, wq = wc := ⟨_, rfl⟩
    rw [← hwq] at hf1 ho1 ⊢
    clear hwq k8 C1
    have k8 := ho1.is_.headC 8 (v := .pointer (some ⟨gr, 0, none⟩)) (by decide) rfl
    have HF := hid hf1
    have HO := hid ho1
    have hsl : (sl : Int) < 64 := by omega
    have hsl0 : (0 : Int) ≤ (sl : Int) := by omega
    clear hf1 ho1
    by_cases h4 : sl < 4
    · have h4' : (sl : Int) < 4 := by omega
      have HE := hid (show ldist2 (ahead t ga).nx P1 d1 sl = (sl, P1, d1) by unfold ldist2; rw [if_pos h4])
      go_wp2_with fail
      go_ret
      rw [HE.out]
      exact ⟨rfl, HF.out, HO.out⟩
    · have h4' : ¬ (sl : Int) < 4 := by omega
      go_upto_region 4 with fail
      go_cut [6] (fun a6 wx => a6 = .int .i64 (slotN sl) ∧ wx = wq)
      case first =>
        go_wp2_with fail
        go_meet
        exact ⟨by rw [slot_n (by omega)], rfl⟩
      case rest =>
        obtain ⟨h6, hwq⟩ := hcut
        subst h6
        rw [hwq]
        clear hwq
        have hN := slot_many (sl := sl) (by omega) (by omega)
        obtain ⟨n, hn⟩ : ∃ n, n = slotN sl := ⟨_, rfl⟩
        obtain ⟨B, hB⟩ : ∃ B, B = slotB sl := ⟨_, rfl⟩
        rw [← hn] at hN ⊢
        rw [← hB] at hN
        have hn1 : (n : Int) ≤ 30 := by omega
        have hn0 : (0 : Int) ≤ (n : Int) := by omega
        have HN := hid hN
        have HNN := hid hn
        have HBB := hid hB
        clear hN hn hB
        go_upto_region 5 with fail
        go_cut [7] (fun a7 wx => a7 = .int .u32 B ∧ wx = wq)
        case first =>
          go_wp2_with fail
          go_meet
          exact ⟨by rw [HNN.out, HBB.out, slot_b (by omega) (by omega)], rfl⟩
        case rest =>
          obtain ⟨h7, hwq⟩ := hcut
          subst h7
          rw [hwq]
          clear hwq
          by_cases h14 : sl < 14
          · have h14' : (sl : Int) < 14 := by omega
            have hF := slot_few (sl := sl) (by omega) h14
            rw [← HBB.out, ← HNN.out] at hF
            obtain ⟨e, he⟩ : ∃ e, e = B - sl := ⟨_, rfl⟩
            have hp2 : 2 ≤ 2 ^ n := by
              have : 2 ^ 1 ≤ 2 ^ n := Nat.pow_le_pow_right (by decide) hF.2.2.2.2
              omega
            have he1 : e < 115 := by omega
            have he2 : ¬ (115 = e) := by omega
            have he3 : (e : Int) < 115 := by omega
            have he4 : (e : Int) ≤ 115 := by omega
            have he5 : e ≤ 115 := by omega
            have he0 : (0 : Int) ≤ (e : Int) := by omega
            have hB1 : (B : Int) < 128 := by omega
            have hB0 : (0 : Int) ≤ (B : Int) := by omega
            have hBw : IntKind.i64.wrap (B : Int) = (B : Int) := wrap_in _ (by omega) (by omega)
            have hew : IntKind.i64.wrap ((B : Int) - (sl : Int)) = (e : Int) := by rw [wrap_in _ (by omega) (by omega)]; omega
            have hn5 : (n : Int) ≤ 5 := by omega
            have HF5 := hid hF
            have HE5 := hid he
            have HP2 := hid hp2
            clear hF he hp2
            have L3 := lrev_lt (ahead t ga).nx P1 d1 (688 + e) n
            have hdef : ldist2 (ahead t ga).nx P1 d1 sl = (B + (lrev (ahead t ga).nx P1 d1 (688 + e) n).1, (lrev (ahead t ga).nx P1 d1 (688 + e) n).2) := by
              unfold ldist2
              rw [if_neg h4, if_pos h14, ← HBB.out, ← HNN.out, ← HE5.out]
            have C3 := hid (fun w1 (h1 : LOn L t ga gr w1 { s with P := P1 } d1) => lrevP L t ga gr { s with P := P1 } d1 (688 + e) (697 + e) n (115 - e) (115 - e) w1 h1 (rowL_hi (by omega) (by have := HF5.out; have := HE5.out; omega) (by have := HP2.out; omega)) (by rw [sgL_hi (by omega)]; omega) (by have := HF5.out; omega) (by have := HF5.out; have := HE5.out; omega) (by omega))
            generalize lrev (ahead t ga).nx P1 d1 (688 + e) n = r3 at C3 L3 hdef
            obtain ⟨r, P3, d3⟩ := r3
            dsimp only at C3 L3 hdef
            have hr : r < 64 := by
              have : 2 ^ n ≤ 2 ^ 5 := Nat.pow_le_pow_right (by decide) (by omega)
              omega
            have hr0 : (0 : Int) ≤ (r : Int) := by omega
            have hr1 : (r : Int) < 64 := by omega
            have hw1 : IntKind.u32.wrap (r : Int) = (r : Int) := by rw [IntKind.wrap_u32']; omega
            have hw2 : IntKind.u32.wrap ((B : Int) + (r : Int)) = ((B + r : Nat) : Int) := by rw [IntKind.wrap_u32']; omega
            have HDEF := hid hdef
            have HL3 := hid L3
            clear hdef L3
            go_upto_region 7 with fail
            go_region_with (first | (go_at_call 128; refine (C3.out _ (by exact HO.out.any ((Fr.refl Non _).drew))).mono ?_; rintro e w1 ⟨rfl, hf1, h1⟩; have HF1 := hid hf1; have HO1 := hid h1; clear hf1 h1))
            all_goals
              simp only [List.getElem_toArray, List.getElem_cons_zero, List.getElem_cons_succ, Act.put, List.setIfInBounds_toArray, List.set_cons_zero, List.set_cons_succ]
              go_wp2_with fail
              go_ret
              rw [HDEF.out]
              exact ⟨rfl, HF.out.trans ((Fr.refl _ _).drew.trans HF1.out), HO1.out⟩
          · have h14' : ¬ (sl : Int) < 14 := by omega
            have hm4 : ((n : Int) - 4) = ((n - 4 : Nat) : Int) := by have := HNN.out; unfold slotN at this; omega
            obtain ⟨m, hm⟩ : ∃ m, m = n - 4 := ⟨_, rfl⟩
            rw [← hm] at hm4
            have hnm : n = m + 4 := by have := HNN.out; unfold slotN at this; omega
            have hBP := HN.out.2.2
            have L4 := str_lt' (ahead t ga).nx m d1
            have C4 := hid (fun w1 (h1 : LOn L t ga gr w1 { s with P := P1 } d1) => lstrP L t ga gr { s with P := P1 } d1 m w1 h1 (by omega))
            have hdef : ldist2 (ahead t ga).nx P1 d1 sl = (B + 16 * (d1.str (ahead t ga).nx m).1 + (lrev (ahead t ga).nx P1 (d1.str (ahead t ga).nx m).2 803 4).1, (lrev (ahead t ga).nx P1 (d1.str (ahead t ga).nx m).2 803 4).2) := by
              unfold ldist2
              rw [if_neg h4, if_neg h14, ← HBB.out, ← HNN.out, ← hm]
            rw [← hm4] at C4
            generalize d1.str (ahead t ga).nx m = r4 at C4 L4 hdef
            obtain ⟨x, d4⟩ := r4
            dsimp only at C4 L4 hdef
            have L5 := lrev_lt (ahead t ga).nx P1 d4 803 4
            have C5 := hid (fun w1 (h1 : LOn L t ga gr w1 { s with P := P1 } d4) => lrevP L t ga gr { s with P := P1 } d4 803 812 4 16 16 w1 h1 (rowL_hi (by omega) (by omega) (by decide)) (by rw [sgL_hi (by omega)]) (by decide) (by decide) (by decide))
            generalize lrev (ahead t ga).nx P1 d4 803 4 = r5 at C5 L5 hdef
            obtain ⟨r, P5, d5⟩ := r5
            dsimp only at C5 L5 hdef
            rw [hnm, Nat.pow_add] at hBP
            have hbig : B + 16 * x + r < 4294967296 := by
              generalize 2 ^ m = X at hBP L4
              omega
            have hBX := hid (show ((B : Int) + ((x : Int) * 16) % 4294967296) % 4294967296 = ((B + 16 * x : Nat) : Int) by omega)
            have hw1 : IntKind.u32.wrap (r : Int) = (r : Int) := by rw [IntKind.wrap_u32']; omega
            have hw2 : IntKind.u32.wrap (((B + 16 * x : Nat) : Int) + (r : Int)) = ((B + 16 * x + r : Nat) : Int) := by rw [IntKind.wrap_u32']; omega
            obtain ⟨Y, hY⟩ : ∃ Y, Y = B + 16 * x := ⟨_, rfl⟩
            rw [← hY] at hBX hw2 hdef
            have HDEF := hid hdef
            have HBIG := hid hbig
            have HM := hid hm
            clear hdef L4 L5 hbig hBP hY hm hnm hm4
            go_upto_region 8 with fail
            go_cut [7] (fun a7 wx => a7 = .int .u32 Y ∧ Fr (LFt L t ga gr) wq wx ∧ LOn L t ga gr wx { s with P := P1 } d4)
            case first =>
              go_wp2_with fail
              refine (C4.out _ HO.out).mono ?_
              rintro e w1 ⟨rfl, hf1, h1⟩
              have HF1 := hid hf1
              have HO1 := hid h1
              clear hf1 h1
              go_wp2_with fail
              go_meet
              refine ⟨?_, HF1.out, HO1.out⟩
              rw [hBX.out]
            case rest =>
              obtain ⟨h7, hf7, ho7⟩ := hcut
              subst h7
              have k9 := ho7.is_.headC 8 (v := .pointer (some ⟨gr, 0, none⟩)) (by decide) rfl
              have HF7 := hid hf7
              have HO7 := hid ho7
              clear hf7 ho7
              go_upto_region 9 with fail
              go_region_with (first | (go_at_call 128; refine (C5.out _ (by exact HO7.out.any ((Fr.refl Non _).drew))).mono ?_; rintro e w1 ⟨rfl, hf1, h1⟩; have HF1 := hid hf1; have HO1 := hid h1; clear hf1 h1))
              all_goals
                simp only [List.getElem_toArray, List.getElem_cons_zero, List.getElem_cons_succ, Act.put, List.setIfInBounds_toArray, List.set_cons_zero, List.set_cons_succ]
                go_wp2_with fail
                go_ret
                rw [HDEF.out]
                exact ⟨rfl, (HF.out.trans HF7.out).trans ((Fr.refl _ _).drew.trans HF1.out), HO1.out⟩
end Go.Proofs.Ytjnegcambbeblaa

/- lzma: the elder distances; fresh. -/
namespace Go.Proofs.Ytjnegcambbeblaa
open Go.RowKit

theorem step_copy_cells {P : Program} {ops : Array Oper} {o : Oper} {a : Act} {w : World} {K : Act → World → Prop} {Q : Exit → Act → World → Prop} {E : Prop} (hgd : o.guard = none) (d s : Operand) (dT sT : TypeId)
    (ho : o.op = .call { callee := .builtin .copy, args := #[d, s], argTypes := #[dT, sT] }) (elem : TypeId) (hu : P.underlying dT = some (.slice elem)) (hsz : (P.info? elem).map (·.size) = some 1)
    (b off dLen dCap : Nat) (ad : Addr) (sLen sCap : Nat) (hd : a.eval d = .slice (some ⟨b, off, none⟩) dLen dCap) (hs : a.eval s = .slice (some ad) sLen sCap)
    (cs : List Value) (hn : cs.length = Nat.min sLen dLen) (hsrc : ∀ j v, cs[j]? = some v → w.cell? (ad.add j) = some v)
    (hc : ∀ j, j < cs.length → (w.cell? ⟨b, off + j, none⟩).isSome = true) (hf : ∀ j, j < cs.length → w.frozen? ⟨b, off + j, none⟩ = false) (h1 : ∀ v ∈ cs, v.oneCell' = true)
    (h : K (a.put o.dst (goInt cs.length)) (w.setCells b off cs)) :
    if Region.wanted o (yielded ops a.tmps) = true then Oper.wp P o a w K Q else E := by
  have hw : Region.wanted o (yielded ops a.tmps) = true := by simp [Region.wanted, hgd]
  rw [if_pos hw]
  have hrun := run_copy_cells (P := P) w dT sT o.type elem b off dLen dCap ad sLen sCap cs hu hsz hn hsrc hc hf h1
  unfold Oper.wp
  simp [execOp, ho, resolve, invoke, builtin, hd, hs, hrun, Result.andThen]
  exact h
def updN (r : Nat → Nat) (i x : Nat) : Nat → Nat := fun j => if j = i then x else r j
def shiftL (r : Nat → Nat) (k : Nat) : Nat → Nat := fun i => if 1 ≤ i ∧ i ≤ k then r (i - 1) else r i
theorem LOn.rep_ {S : Type} {L : LL} {t : Sour S} {ga gr : Nat} {w : World} {s : LS} {d : RD (AhS S)} (h : LOn L t ga gr w s d) {i x : Nat} (hi : i < 4) (hx : x < 4294967296) :
    LOn L t ga gr (w.setCell ⟨L.gd, 1858 + i, none⟩ (.int .u32 x)) { s with rep := updN s.rep i x } d := by
  have hok : ({ s with rep := updN s.rep i x } : LS).Ok L := ⟨h.is_.ok.pr, h.is_.ok.st, fun j hj => by show updN s.rep i x j < _; unfold updN; split; exact hx; exact h.is_.ok.rep j hj, h.is_.ok.by_, h.is_.ok.lc, h.is_.ok.lp, h.is_.ok.pb, h.is_.ok.nl, h.is_.ok.dict, h.is_.ok.left⟩
  refine h.own ((Fr.refl _ _).setOne _ _) (T := fun k => k = L.gd) (fun _ e => .inl e) ?_
  have e : i = 0 ∨ i = 1 ∨ i = 2 ∨ i = 3 := by omega
  rcases e with rfl | rfl | rfl | rfl
  · exact h.is_.setT (i := 2) rfl rfl rfl rfl hok
  · exact h.is_.setT (i := 3) rfl rfl rfl rfl hok
  · exact h.is_.setT (i := 4) rfl rfl rfl rfl hok
  · exact h.is_.setT (i := 5) rfl rfl rfl rfl hok
def repC (r : Nat → Nat) (k : Nat) : List Value := (List.range k).map (fun i => Value.int .u32 (r i))
theorem LOn.shift {S : Type} {L : LL} {t : Sour S} {ga gr : Nat} {w : World} {s : LS} {d : RD (AhS S)} (h : LOn L t ga gr w s d) {k : Nat} (hk : 1 ≤ k) (hk3 : k ≤ 3) :
    Fr (LFt L t ga gr) w (w.setCells L.gd 1859 (repC s.rep k)) ∧ LOn L t ga gr (w.setCells L.gd 1859 (repC s.rep k)) { s with rep := shiftL s.rep k } d := by
  have r0 := h.is_.ok.rep 0 (by decide)
  have r1 := h.is_.ok.rep 1 (by decide)
  have r2 := h.is_.ok.rep 2 (by decide)
  have fr1 : ∀ (w' : World) (o : Nat) (v : Value), Fr (LFt L t ga gr) w w' → Fr (LFt L t ga gr) w (w'.setCell ⟨L.gd, o, none⟩ v) := fun w' o v hf => hf.setCell (p := ⟨L.gd, o, none⟩) (fun _ => .inl (.inl rfl)) _
  have h1 := h.rep_ (i := 1) (x := s.rep 0) (by decide) r0
  have e : k = 1 ∨ k = 2 ∨ k = 3 := by omega
  rcases e with rfl | rfl | rfl
  · refine ⟨fr1 _ _ _ (Fr.refl _ _), ?_⟩
    have e2 : shiftL s.rep 1 = updN s.rep 1 (s.rep 0) := by
      funext j
      unfold shiftL updN
      by_cases e : j = 1
      · subst e; rfl
      · rw [if_neg e, if_neg (by omega)]
    rw [e2]
    exact h1
  · refine ⟨fr1 _ _ _ (fr1 _ _ _ (Fr.refl _ _)), ?_⟩
    have h2 := h1.rep_ (i := 2) (x := s.rep 1) (by decide) r1
    have e2 : shiftL s.rep 2 = updN (updN s.rep 1 (s.rep 0)) 2 (s.rep 1) := by
      funext j
      unfold shiftL updN
      by_cases e : j = 2
      · subst e; rfl
      · by_cases e1 : j = 1
        · subst e1; rfl
        · rw [if_neg e, if_neg e1, if_neg (by omega)]
    rw [e2]
    exact h2
  · refine ⟨fr1 _ _ _ (fr1 _ _ _ (fr1 _ _ _ (Fr.refl _ _))), ?_⟩
    have h2 := (h1.rep_ (i := 2) (x := s.rep 1) (by decide) r1).rep_ (i := 3) (x := s.rep 2) (by decide) r2
    have e2 : shiftL s.rep 3 = updN (updN (updN s.rep 1 (s.rep 0)) 2 (s.rep 1)) 3 (s.rep 2) := by
      funext j
      unfold shiftL updN
      by_cases e3 : j = 3
      · subst e3; rfl
      · by_cases e : j = 2
        · subst e; rfl
        · by_cases e1 : j = 1
          · subst e1; rfl
          · rw [if_neg e3, if_neg e, if_neg e1, if_neg (by omega)]
    rw [e2]
    exact h2
theorem LOn.repCell {S : Type} {L : LL} {t : Sour S} {ga gr : Nat} {w : World} {s : LS} {d : RD (AhS S)} (h : LOn L t ga gr w s d) {i : Nat} (hi : i < 4) : w.cell? ⟨L.gd, 1858 + i, none⟩ = some (.int .u32 (s.rep i)) := by
  have e : i = 0 ∨ i = 1 ∨ i = 2 ∨ i = 3 := by omega
  rcases e with rfl | rfl | rfl | rfl
  · exact h.is_.tailC 2 rfl
  · exact h.is_.tailC 3 rfl
  · exact h.is_.tailC 4 rfl
  · exact h.is_.tailC 5 rfl
theorem LOn.repSrc {S : Type} {L : LL} {t : Sour S} {ga gr : Nat} {w : World} {s : LS} {d : RD (AhS S)} (h : LOn L t ga gr w s d) {k : Nat} (hk : k ≤ 3) (j : Nat) (v : Value) (hv : (repC s.rep k)[j]? = some v) : w.cell? ((⟨L.gd, 1858, none⟩ : Addr).add j) = some v := by
  have e : (⟨L.gd, 1858, none⟩ : Addr).add j = ⟨L.gd, 1858 + j, none⟩ := by unfold Addr.add; split <;> simp_all
  unfold repC at hv
  rw [List.getElem?_map] at hv
  rcases Nat.lt_or_ge j k with hj | hj
  · rw [List.getElem?_range hj] at hv
    simp only [Option.map_some] at hv
    rw [e, ← hv]
    exact h.repCell (by omega)
  · rw [List.getElem?_eq_none (by simpa using hj)] at hv
    cases hv
theorem LOn.repDst {S : Type} {L : LL} {t : Sour S} {ga gr : Nat} {w : World} {s : LS} {d : RD (AhS S)} (h : LOn L t ga gr w s d) {k : Nat} (hk : k ≤ 3) (j : Nat) (hj : j < (repC s.rep k).length) : (w.cell? ⟨L.gd, 1859 + j, none⟩).isSome = true ∧ w.frozen? ⟨L.gd, 1859 + j, none⟩ = false := by
  have hj2 : j < k := by simpa [repC] using hj
  have := h.repCell (i := j + 1) (by omega)
  rw [show 1858 + (j + 1) = 1859 + j by omega] at this
  exact ⟨by rw [this]; rfl, blk_frozen h.is_.at_ _⟩
theorem repC_one (r : Nat → Nat) (k : Nat) : ∀ v ∈ repC r k, v.oneCell' = true := by
  intro v hv
  unfold repC at hv
  rw [List.mem_map] at hv
  obtain ⟨i, _, rfl⟩ := hv
  rfl
theorem size_u32z : (Try.prog.info? 27).map (·.size) = some 1 := by kernel_rfl
end Go.Proofs.Ytjnegcambbeblaa

/- lzma: fresh. -/
namespace Go.Proofs.Ytjnegcambbeblaa
open Go.RowKit

theorem ltell_lt {S : Type} (nx : S → Int × Bool × S) (P : Nat → Int) (d : RD S) (b sp : Nat) : (ltell nx P d b sp).1 < 272 := by
  unfold ltell
  split
  · exact Nat.lt_of_lt_of_le (ltree_lt _ _ _ _ _) (by decide)
  · split
    · have := ltree_lt nx (lbit nx (lbit nx P d b).2.1 (lbit nx P d b).2.2 (b + 1)).2.1 (lbit nx (lbit nx P d b).2.1 (lbit nx P d b).2.2 (b + 1)).2.2 (b + 130 + 8 * sp) 3
      show 8 + _ < 272
      omega
    · have := ltree_lt nx (lbit nx (lbit nx P d b).2.1 (lbit nx P d b).2.2 (b + 1)).2.1 (lbit nx (lbit nx P d b).2.1 (lbit nx P d b).2.2 (b + 1)).2.2 (b + 258) 8
      show 16 + _ < 272
      omega
theorem ldist_lt {S : Type} (nx : S → Int × Bool × S) (P : Nat → Int) (d : RD S) (l : Nat) : (ldist nx P d l).1 < 4294967296 := by
  unfold ldist
  have h := ltree_lt nx P d (432 + 64 * min l 3) 6
  generalize ltree nx P d (432 + 64 * min l 3) 6 = r at h ⊢
  obtain ⟨sl, P1, d1⟩ := r
  dsimp only at h ⊢
  unfold ldist2
  split
  · show sl < _; omega
  · split
    · rename_i h4 h14
      have hf := slot_few (sl := sl) (by omega) h14
      have hr := lrev_lt nx P1 d1 (688 + (slotB sl - sl)) (slotN sl)
      have : 2 ^ slotN sl ≤ 2 ^ 5 := Nat.pow_le_pow_right (by decide) hf.2.2.1
      show slotB sl + _ < _
      omega
    · rename_i h4 h14
      have hm := slot_many (sl := sl) (by omega) (by omega)
      have hr := lrev_lt nx P1 (d1.str nx (slotN sl - 4)).2 803 4
      have hs := str_lt' nx (slotN sl - 4) d1
      have e : 2 ^ slotN sl = 2 ^ (slotN sl - 4) * 16 := by
        rw [show slotN sl = (slotN sl - 4) + 4 by unfold slotN; omega, Nat.pow_add, Nat.add_sub_cancel]
      show slotB sl + 16 * _ + _ < _
      rw [e] at hm
      generalize 2 ^ (slotN sl - 4) = X at hm hs
      omega
theorem LOn.ended_ {S : Type} {L : LL} {t : Sour S} {ga gr : Nat} {w : World} {s : LS} {d : RD (AhS S)} (h : LOn L t ga gr w s d) :
    LOn L t ga gr (w.setCell ⟨L.gd, 1864, none⟩ (.bool true)) { s with ended := true } d :=
  h.own ((Fr.refl _ _).setOne _ _) (T := fun k => k = L.gd) (fun _ e => .inl e) (h.is_.setT (i := 8) (s' := { s with ended := true }) rfl rfl rfl rfl ⟨h.is_.ok.pr, h.is_.ok.st, h.is_.ok.rep, h.is_.ok.by_, h.is_.ok.lc, h.is_.ok.lp, h.is_.ok.pb, h.is_.ok.nl, h.is_.ok.dict, h.is_.ok.left⟩)
def lfresh {S : Type} (nx : S → Int × Bool × S) (s : LS) (d : RD S) (sp : Nat) : Nat × LS × RD S :=
  let r := ltell nx s.P d 819 sp
  let x := ldist nx r.2.1 r.2.2 r.1
  let z := x.1 == 4294967295 && !x.2.2.bad
  (if z then 0 else r.1 + 2, { s with P := x.2.1, st := nextL s.st 7 10, rep := updN (shiftL s.rep 3) 0 x.1, ended := s.ended || z }, x.2.2)
set_option maxRecDepth 100000 in
set_option maxHeartbeats 800000 in
theorem lfresh_any {S : Type} (L : LL) (t : Sour S) (ga gr : Nat) (s : LS) (d : RD (AhS S)) (sp : Nat) (w : World) (h : LOn L t ga gr w s d) (hs : sp < 16) :
    Calls Try.prog 90 #[.pointer (some ⟨L.gd, 0, none⟩), .int .i64 sp] w
      (LOPost L t ga gr (.int .i64 ((lfresh (ahead t ga).nx s d sp).1 : Nat)) (lfresh (ahead t ga).nx s d sp).2.1 (lfresh (ahead t ga).nx s d sp).2.2 w) := by
  have hs0 : (0 : Int) ≤ (sp : Int) := by omega
  have hs1 : (sp : Int) < 16 := by omega
  have H := hid h
  clear h
  unfold lfresh
  dsimp only
  obtain ⟨s1, hs1'⟩ : ∃ s1 : LS, s1 = { s with rep := shiftL s.rep 3 } := ⟨_, rfl⟩
  have hP1 : s1.P = s.P := by rw [hs1']
  have C1 := hid (fun w1 (h1 : LOn L t ga gr w1 s1 d) => ltell_any L t ga gr s1 d 819 sp w1 h1 (by decide) (by decide) hs)
  rw [hP1, show 9 + 819 = 828 from rfl] at C1
  have L1 := ltell_lt (ahead t ga).nx s.P d 819 sp
  generalize ltell (ahead t ga).nx s.P d 819 sp = r1 at C1 L1 ⊢
  obtain ⟨l, P1, d1⟩ := r1
  dsimp only at C1 L1 ⊢
  have L2 := ldist_lt (ahead t ga).nx P1 d1 l
  have C2 := hid (fun w1 (h1 : LOn L t ga gr w1 { s1 with P := P1, st := nextL s1.st 7 10 } d1) => ldist_any L t ga gr { s1 with P := P1, st := nextL s1.st 7 10 } d1 l w1 h1 (by omega))
  dsimp only at C2
  generalize ldist (ahead t ga).nx P1 d1 l = r2 at C2 L2 ⊢
  obtain ⟨x, P2, d2⟩ := r2
  dsimp only at C2 L2 ⊢
  have l0 : (0 : Int) ≤ (l : Int) := by omega
  have l1 : (l : Int) < 272 := by omega
  have hst1 : s1.st = s.st := by rw [hs1']
  obtain ⟨z, hz⟩ : ∃ z, z = (x == 4294967295 && !d2.bad) := ⟨_, rfl⟩
  rw [← hz]
  obtain ⟨rv, hrv⟩ : ∃ rv, rv = (if z = true then 0 else l + 2) := ⟨_, rfl⟩
  rw [← hrv]
  obtain ⟨S3, hS3⟩ : ∃ S3 : LS, S3 = { s with P := P2, st := nextL s.st 7 10, rep := updN (shiftL s.rep 3) 0 x, ended := s.ended || z } := ⟨_, rfl⟩
  rw [← hS3]
  have HZ := hid hz
  have HRV := hid hrv
  have HS3 := hid hS3
  clear hz hrv hS3
  have HL2 := hid L2
  have HS1 := hid hs1'
  clear hs1' hP1 L2
  go_enter Try.func90, Try.ntmps90
  go_upto_region 1 with fail
  go_cut [] (fun wx => Fr (LFt L t ga gr) w wx ∧ LOn L t ga gr wx s1 d)
  case first =>
    have HD := hid (H.out.any (Fr.refl Non w).drew)
    go_region_law ((refine step_copy_cells rfl (.tmp 9) (.tmp 13) 182 182 rfl 27 Try.underlying182 size_u32z L.gd 1859 3 3 ⟨L.gd, 1858, none⟩ 3 4 (by simp [Act.eval, Act.put]) (by simp [Act.eval, Act.put]) (repC s.rep 3) rfl (by exact HD.out.repSrc (by decide)) (fun j hj => (HD.out.repDst (by decide) j hj).1) (fun j hj => (HD.out.repDst (by decide) j hj).2) (repC_one _ _) ?_))
    all_goals
      go_wp2_with fail
      go_meet
      exact ⟨(Fr.refl _ _).drew.trans (HD.out.shift (by decide) (by decide)).1, by rw [HS1.out]; exact (HD.out.shift (by decide) (by decide)).2⟩
  case rest =>
    obtain ⟨hf1, h1⟩ := hcut
    obtain ⟨wq, hwq⟩ : ∃ wq, wq = wc := ⟨_, rfl⟩
    rw [← hwq] at hf1 h1 ⊢
    clear hwq
    have k8 := h1.is_.headC 8 (v := .pointer (some ⟨gr, 0, none⟩)) (by decide) rfl
    have HF1 := hid hf1
    have H1 := hid h1
    clear hf1 h1
    go_upto_region 2 with fail
    go_cut [5] (fun a5 wx => a5 = .int .i64 l ∧ Fr (LFt L t ga gr) wq wx ∧ LOn L t ga gr wx { s1 with P := P1 } d1)
    case first =>
      go_region_with (first | (go_at_call 116; refine (C1.out _ (by exact H1.out.any ((Fr.refl Non _).drew))).mono ?_; rintro e w1 ⟨rfl, hf1, h1⟩; have HF1 := hid hf1; have HO1 := hid h1; clear hf1 h1))
      all_goals
        simp only [List.getElem_toArray, List.getElem_cons_zero, List.getElem_cons_succ, Act.put, List.setIfInBounds_toArray, List.set_cons_zero, List.set_cons_succ]
        go_wp2_with fail
        go_meet
        exact ⟨rfl, (Fr.refl _ _).drew.trans HF1.out, HO1.out⟩
    case rest =>
      obtain ⟨h5, hf2, h2⟩ := hcut
      subst h5
      have HF2 := hid hf2
      have H2 := hid h2
      clear hf2 h2 k8 C1
      go_upto_region 3 with fail
      go_wp2_with fail
      refine (lnextS_any L t ga gr { s1 with P := P1 } d1 7 10 _ H2.out (by decide) (by decide)).mono ?_
      rintro e w3 ⟨rfl, hf3, h3⟩
      have HF3 := hid hf3
      have H3 := hid h3
      clear hf3 h3
      go_upto_region 4 with fail
      go_cut [] (fun wx => Fr (LFt L t ga gr) w3 wx ∧ LOn L t ga gr wx { s1 with P := P2, st := nextL s1.st 7 10, rep := updN s1.rep 0 x } d2)
      case first =>
        go_region_with (first | (go_at_call 118; refine (C2.out _ (by first | exact H3.out.any ((Fr.refl Non _).drew) | exact H3.out)).mono ?_; rintro e w4 ⟨rfl, hf4, h4⟩; have k4 := h4.repCell (i := 0) (by decide); have z4 := blk_frozen h4.is_.at_ (1858 + 0); have HF4 := hid hf4; have H4 := hid h4; clear hf4 h4))
        all_goals
          go_wp2_with fail
          go_meet
          exact ⟨(Fr.trans (by first | exact (Fr.refl _ _).drew | exact Fr.refl _ _) HF4.out).setCell (p := ⟨L.gd, 1858, none⟩) (fun _ => .inl (.inl rfl)) _, H4.out.rep_ (i := 0) (by decide) HL2.out⟩
      case rest =>
        obtain ⟨hf5, h5⟩ := hcut
        obtain ⟨wz, hwz⟩ : ∃ wz, wz = wc := ⟨_, rfl⟩
        rw [← hwz] at hf5 h5 ⊢
        clear hwz C2
        have k8 := h5.is_.headC 8 (v := .pointer (some ⟨gr, 0, none⟩)) (by decide) rfl
        have k0 := h5.repCell (i := 0) (by decide)
        have e0 : updN s1.rep 0 x 0 = x := rfl
        rw [show 1858 + 0 = 1858 from rfl, show ({ s1 with P := P2, st := nextL s1.st 7 10, rep := updN s1.rep 0 x } : LS).rep 0 = x from rfl] at k0
        have ke := h5.is_.tailC 8 (v := .bool s1.ended) rfl
        have ze := blk_frozen h5.is_.at_ (1856 + 8)
        have HFR := hid ((HF1.out.trans HF2.out).trans (HF3.out.trans hf5))
        have H5 := hid h5
        have hfinF : z = false → LOPost L t ga gr (.int .i64 (rv : Int)) S3 d2 w (.returned (.int .i64 ((l : Int) + 2))) wz := by
          intro hz
          refine ⟨?_, HFR.out, ?_⟩
          · rw [HRV.out, hz]
            rfl
          · have := H5.out
            rw [HS1.out] at this
            rw [HS3.out, hz, Bool.or_false]
            exact this
        have hfinT : z = true → LOPost L t ga gr (.int .i64 (rv : Int)) S3 d2 w (.returned (.int .i64 0)) (wz.setCell ⟨L.gd, 1864, none⟩ (.bool true)) := by
          intro hz
          refine ⟨?_, HFR.out.setCell (p := ⟨L.gd, 1864, none⟩) (fun _ => .inl (.inl rfl)) _, ?_⟩
          · rw [HRV.out, hz]
            rfl
          · have := H5.out.ended_
            rw [HS1.out] at this
            rw [HS3.out, hz, Bool.or_true]
            exact this
        have HT := hid hfinT
        have HFF := hid hfinF
        clear hf5 h5 hfinT hfinF e0
        cases hbq : (x == 4294967295) with
        | true =>
          have hx : x = 4294967295 := by simpa using hbq
          have hx' : (x : Int) = 4294967295 := by omega
          rw [hx'] at k0
          cases hb : d2.bad with
          | true =>
            have HB := hid hb
            have HZ2 := hid (show z = false by rw [HZ.out, hbq, hb]; rfl)
            clear hb hx hx' hbq
            go_wp2_with fail
            refine (dbadq_any (ahead t ga) gr d2 _ H5.out.dec).mono ?_
            rintro e w6 ⟨rfl, rfl⟩
            rw [HB.out]
            go_wp2_with fail
            go_ret
            exact HFF.out HZ2.out
          | false =>
            have HB := hid hb
            have HZ2 := hid (show z = true by rw [HZ.out, hbq, hb]; rfl)
            clear hb hx hx' hbq
            go_wp2_with fail
            refine (dbadq_any (ahead t ga) gr d2 _ H5.out.dec).mono ?_
            rintro e w6 ⟨rfl, rfl⟩
            rw [HB.out]
            go_wp2_with fail
            go_ret
            exact HT.out HZ2.out
        | false =>
          have hbi : ((x : Int) == 4294967295) = false := by
            have : ¬ x = 4294967295 := by simpa using hbq
            simp
            omega
          have HZ2 := hid (show z = false by rw [HZ.out, hbq]; rfl)
          clear hbq
          go_wp2_with fail
          go_ret
          exact HFF.out HZ2.out
end Go.Proofs.Ytjnegcambbeblaa
