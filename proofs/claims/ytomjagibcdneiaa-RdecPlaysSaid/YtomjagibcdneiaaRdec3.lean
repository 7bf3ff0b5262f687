/- The range decoder: trees. -/
import Derived.Test.YtomjagibcdneiaaRdec2
namespace Go.Proofs.Ytomjagibcdneiaa
open Go.RowKit

theorem ofInt_i64 (a : Nat) (ha : a < 18446744073709551616) : (BitVec.ofInt 64 (a : Int)).toNat = a := by
  rw [BitVec.ofInt_natCast, BitVec.toNat_ofNat]; exact Nat.mod_eq_of_lt (by omega)
theorem i64_or_nat (a b : Nat) (ha : a < 9223372036854775808) (hb : b < 9223372036854775808) : bits .or .i64 (a : Int) (b : Int) = ((a ||| b : Nat) : Int) := by
  have hx : a ||| b < 2 ^ 63 := Nat.or_lt_two_pow (by omega) (by omega)
  show IntKind.i64.wrap ((BitVec.ofInt 64 (a : Int) ||| BitVec.ofInt 64 (b : Int)).toNat : Int) = _
  rw [BitVec.toNat_or, ofInt_i64 a (by omega), ofInt_i64 b (by omega), IntKind.wrap_i64]
  omega
theorem or_bit (m b : Nat) (hb : b ≤ 1) (hm : m < 1073741824) : bits .or .i64 ((m : Int) * 2) (b : Int) = ((2 * m + b : Nat) : Int) := by
  have e : ((m : Int) * 2) = ((m * 2 ^ 1 : Nat) : Int) := by omega
  rw [e, i64_or_nat _ _ (by omega) (by omega), nat_or_low _ _ 1 (by omega)]
  omega

/-- block gp's cells behind off are L probabilities q, all else is as in cs. -/
structure Win (cs cs' : Array Value) (off L : Nat) (q : Nat → Int) : Prop where
  size : cs'.size = cs.size
  cell : ∀ j, j < L → cs'[off + j]? = some (.int .u16 (q j))
  rest : ∀ i, (i < off ∨ off + L ≤ i) → cs'[i]? = cs[i]?
theorem Win.set {cs cs' : Array Value} {off L : Nat} {q : Nat → Int} (h : Win cs cs' off L q) {m : Nat} (hm : m < L) (x : Int) : Win cs (cs'.setIfInBounds (off + m) (.int .u16 x)) off L (upd q m x) := by
  refine ⟨by simp [h.size], fun j hj => ?_, fun i hi => ?_⟩
  · rw [Array.getElem?_setIfInBounds]
    unfold upd
    by_cases e : j = m
    · have h1 := (Array.getElem?_eq_some_iff.1 (h.cell m hm)).1
      rw [if_pos (by omega), if_pos (by omega), if_pos e]
    · rw [if_neg (by omega), if_neg e, h.cell j hj]
  · rw [Array.getElem?_setIfInBounds, if_neg (by omega), h.rest i hi]
theorem Win.trans {a b c : Array Value} {off L : Nat} {q q' : Nat → Int} (h : Win a b off L q) (k : Win b c off L q') : Win a c off L q' :=
  ⟨k.size.trans h.size, k.cell, fun i hi => (k.rest i hi).trans (h.rest i hi)⟩
theorem Win.self {cs : Array Value} {off L : Nat} {q : Nat → Int} (h : ∀ j, j < L → cs[off + j]? = some (.int .u16 (q j))) : Win cs cs off L q := ⟨rfl, h, fun _ _ => rfl⟩
def Pr (q : Nat → Int) (L : Nat) : Prop := ∀ j, j < L → 31 ≤ q j ∧ q j ≤ 2017
theorem Pr.upd {q : Nat → Int} {L : Nat} (h : Pr q L) (m : Nat) {x : Int} (h0 : 31 ≤ x) (h1 : x ≤ 2017) : Pr (upd q m x) L := by
  intro j hj
  unfold Go.Proofs.Ytomjagibcdneiaa.upd
  by_cases e : j = m
  · rw [if_pos e]; exact ⟨h0, h1⟩
  · rw [if_neg e]; exact h j hj

/-- k bits more of a tree, m so far. -/
def RD.treeGo {S : Type} (nx : S → Int × Bool × S) : Nat → RD S → (Nat → Int) → Nat → Nat × (Nat → Int) × RD S
  | 0, d, q, m => (m, q, d)
  | k + 1, d, q, m => RD.treeGo nx k (d.bit nx (q m)).2.2 (upd q m (d.bit nx (q m)).2.1) (2 * m + (d.bit nx (q m)).1)
/-- a tree of k bits: the number, the probabilities, the decoder. -/
def RD.tree {S : Type} (nx : S → Int × Bool × S) (k : Nat) (d : RD S) (q : Nat → Int) : Nat × (Nat → Int) × RD S :=
  (if (RD.treeGo nx k d q 1).2.2.bad = true then 0 else (RD.treeGo nx k d q 1).1 - 2 ^ k, (RD.treeGo nx k d q 1).2)
def TreePost {S : Type} (s : Sour S) (g gp off L : Nat) (cs : Array Value) (T : TypeId) (w : World) (v : Value) (q : Nat → Int) (d : RD S) (e : Ending) (w' : World) : Prop :=
  e = .returned v ∧ Fr (bitFoot s g gp) w w' ∧ DecIs s g w' d ∧ ∃ cs', w'.heap[gp]? = some (.cells cs' T) ∧ Win cs cs' off L q

set_option maxRecDepth 100000 in
set_option maxHeartbeats 1000000 in
theorem dtree_any {S : Type} (s : Sour S) (g gp off len cap B : Nat) (cs : Array Value) (T : TypeId) (d : RD S) (q : Nat → Int) (w : World) (h : DecIs s g w d) (hg : ¬ decFoot s g gp)
    (hb : w.heap[gp]? = some (.cells cs T)) (hc : ∀ j, j < 2 ^ B → cs[off + j]? = some (.int .u16 (q j))) (hp : Pr q (2 ^ B)) (hB : B ≤ 16) (hL : 2 ^ B ≤ len) (hlen : len ≤ 1048576) :
    Calls Try.prog 35 #[.pointer (some ⟨g, 0, none⟩), .slice (some ⟨gp, off, none⟩) len cap, .int .i64 B] w
      (TreePost s g gp off (2 ^ B) cs T w (.int .i64 (d.tree s.nx B q).1) (d.tree s.nx B q).2.1 (d.tree s.nx B q).2.2) := by
  have H := hid h
  have Hg := hid hg
  have Hb := hid hb
  have Hc := hid hc
  have Hp := hid hp
  clear h hg hb hc hp
  obtain ⟨L, hL1⟩ : ∃ L, L = 2 ^ B := ⟨_, rfl⟩
  rw [← hL1] at hL
  have HL := hid hL1
  clear hL1
  go_enter Try.func35, Try.ntmps35
  go_wp2
  go_loopw [7, 9] (fun mv i wr => ∃ (k m : Nat) (d1 : RD S) (q1 : Nat → Int) (cs1 : Array Value), k ≤ B ∧ i = .int .i64 k ∧ mv = .int .i64 m ∧ 2 ^ k ≤ m ∧ m < 2 ^ (k + 1) ∧
      RD.treeGo s.nx (B - k) d1 q1 m = RD.treeGo s.nx B d q 1 ∧ Fr (bitFoot s g gp) w wr ∧ DecIs s g wr d1 ∧ wr.heap[gp]? = some (.cells cs1 T) ∧ Win cs cs1 off L q1 ∧ Pr q1 L)
    (fun _ i _ => B - (intOf i).toNat)
  case atStart =>
    exact ⟨0, 1, d, q, cs, Nat.zero_le _, rfl, rfl, by decide, by decide, rfl, Fr.refl _ _, H.out, Hb.out, Win.self (by rw [HL.out]; exact Hc.out), by rw [HL.out]; exact Hp.out⟩
  case round =>
    obtain ⟨k, m, d1, q1, cs1, hk, rfl, rfl, hm0, hm1, hgo, hfr, hdec, hblk, hwin, hpr⟩ := hrel
    have Hgo := hid hgo
    have Hfr := hid hfr
    have Hdec := hid hdec
    have Hblk := hid hblk
    have Hwin := hid hwin
    have Hpr := hid hpr
    clear hgo hfr hdec hblk hwin hpr
    by_cases hlt : k < B
    · have hmL : m < L := by
        have : 2 ^ (k + 1) ≤ 2 ^ B := Nat.pow_le_pow_right (by decide) hlt
        rw [HL.out]; omega
      have hm2 : m < 1048576 := by omega
      have hbit := Hpr.out m hmL
      have Hm0 := hid hm0
      have Hm1 := hid hm1
      clear hm0 hm1
      go_wp2_with fail
      refine (dbit_any s g gp (off + m) cs1 T d1 (q1 m) _ Hdec.out Hg.out Hblk.out (Hwin.out.cell m hmL) (by omega) (by omega)).mono ?_
      rintro e w1 ⟨rfl, hf1, hd1, hb1⟩
      have hb2 := bit_le s.nx d1 (q1 m)
      have hb3 := bit_prob s.nx d1 (q1 m) hbit.1 hbit.2
      have Hf1 := hid hf1
      have Hd1 := hid hd1
      have Hb1 := hid hb1
      have Hb3 := hid hb3
      have Hor := hid (or_bit m (d1.bit s.nx (q1 m)).1 hb2 (by omega))
      clear hf1 hd1 hb1 hb3
      go_wp2_with fail
      go_roundw
      case rel =>
        refine ⟨k + 1, 2 * m + (d1.bit s.nx (q1 m)).1, (d1.bit s.nx (q1 m)).2.2, upd q1 m (d1.bit s.nx (q1 m)).2.1, _, by omega, by go_num, by rw [Hor.out], ?_, ?_, ?_, ?_, Hd1.out, Hb1.out, Hwin.out.set hmL _, Hpr.out.upd m Hb3.out.1 Hb3.out.2⟩
        · have := Hm0.out; rw [Nat.pow_succ]; omega
        · have := Hm1.out; rw [Nat.pow_succ]; omega
        · have e : B - k = (B - (k + 1)) + 1 := by omega
          have := Hgo.out
          rw [e] at this
          exact this
        · exact Fr.then Hfr.out Hf1.out (fun _ _ h => h)
      case measure => simp [intOf]; omega
    · have e : k = B := by omega
      subst e
      have hgo := Hgo.out
      rw [Nat.sub_self] at hgo
      have c3 := blk_cell Hdec.out.at_ (j := 3) (v := .bool d1.bad) rfl
      have hfin : ∀ v : Nat, v = (d.tree s.nx k q).1 → TreePost s g gp off (2 ^ k) cs T w (.int .i64 (d.tree s.nx k q).1) (d.tree s.nx k q).2.1 (d.tree s.nx k q).2.2 (.returned (.int .i64 v)) wr := by
        intro v hv
        unfold RD.tree at hv ⊢
        rw [← hgo] at hv ⊢
        exact ⟨by rw [hv], Hfr.out, Hdec.out, cs1, Hblk.out, by rw [← HL.out]; exact Hwin.out⟩
      have hval : (d.tree s.nx k q).1 = if d1.bad = true then 0 else m - 2 ^ k := by
        unfold RD.tree
        rw [← hgo]
        rfl
      have HFin := hid hfin
      have HVal := hid hval
      have Hm0 := hid hm0
      have Hm1 := hid hm1
      have hmb : m < 2 * L := by have := Hm1.out; rw [Nat.pow_succ, ← HL.out] at this; omega
      have hmL : L ≤ m := by have := Hm0.out; rw [← HL.out] at this; exact this
      clear hfin hval hgo hm0 hm1
      cases hbad : d1.bad with
      | true =>
        rw [hbad] at c3
        have HB := hid hbad
        clear hbad
        go_wp2_with fail
        go_ret
        exact HFin.out 0 (by rw [HVal.out, if_pos HB.out])
      | false =>
        rw [hbad] at c3
        have HB := hid hbad
        clear hbad
        go_wp2_with fail
        go_ret
        have e : wrap64 ((m : Int) - wrap64 (2 ^ k)) = ((m - 2 ^ k : Nat) : Int) := by
          have e2 : (2 : Int) ^ k = ((2 ^ k : Nat) : Int) := by simp
          rw [e2, ← HL.out, IntWalk.wrap64_in (L : Int) ⟨by omega, by omega⟩, IntWalk.wrap64_in ((m : Int) - (L : Int)) ⟨by omega, by omega⟩]
          omega
        have := HFin.out (m - 2 ^ k) (by rw [HVal.out, if_neg (by rw [HB.out]; decide)])
        rw [← e] at this
        exact this
end Go.Proofs.Ytomjagibcdneiaa
