/- parse.finder: learn, longest: each function's contract. -/
import Derived.Test.YteedolfhmiehfaaPar2
import Derived.Deep.RegionHeld3
namespace Go.Proofs.Yteedolfhmiehfaa
open Go.RowKit

/-- the chain of places with one pair of bytes: last, ahead. -/
structure FLay.Chain (F : FLay) (w : World) (known : Nat) : Prop where
  last : w.heap[F.gl]? = some (.cells (arr .i64 65536 fun p => ((prevP (prN F.b) known p : Nat) : Int)) 3)
  ahead : w.heap[F.ga]? = some (.cells (arr .i64 F.L fun q => if q < known then ((prevP (prN F.b) q (prN F.b q) : Nat) : Int) else 0) 3)
def FLay.foot (F : FLay) (k : Nat) : Prop := k = F.g ∨ k = F.gl ∨ k = F.ga
theorem FLay.Chain.drewN {F : FLay} {w : World} {known : Nat} (h : F.Chain w known) (n : Nat) : F.Chain (w.drewN n) known := ⟨h.1, h.2⟩
def knownOf (F : FLay) (w : World) : Nat := match w.cell? ⟨F.g, 9, none⟩ with
  | some (.int _ n) => n.toNat
  | _ => 0
theorem knownOf_at {F : FLay} {w : World} {r : Nat → Nat} {known : Nat} (h : F.At w r known) : knownOf F w = known := by
  have := blk_cell h.blk (j := 9) (v := .int .i64 known) rfl
  unfold knownOf
  rw [this]
  simp
theorem prN_lt (F : FLay) (ok : F.Ok) (i : Nat) (h : i + 1 < F.L) : prN F.b i < 65536 := by
  have := ok.byte i (by omega)
  have := ok.byte (i + 1) h
  unfold prN
  omega

/-- one place is learnt. -/
theorem learn_step {F : FLay} {w wx : World} {r : Nat → Nat} {k : Nat} (ok : F.Ok) (_hk : k + 1 < F.L) (ha : F.At w r k) (hc : F.Chain w k) (n : Nat)
    (hwx : wx = (((w.drewN n).setCell ⟨F.ga, k, none⟩ (.int .i64 (prevP (prN F.b) k (prN F.b k) : Nat))).setCell ⟨F.gl, prN F.b k, none⟩ (.int .i64 ((k : Int) + 1))).setCell ⟨F.g, 9, none⟩ (.int .i64 ((k : Int) + 1))) :
    F.At wx r (k + 1) ∧ F.Chain wx (k + 1) ∧ Fr F.foot w wx := by
  subst hwx
  have lg := ok.lg
  have ag := ok.ag
  have la := ok.la
  refine ⟨⟨?_, ?_⟩, ⟨?_, ?_⟩, ?_⟩
  · exact blk_set (blk_set_ne (blk_set_ne (blk_drewN ha.blk) (fun e => ag e.symm)) (fun e => lg e.symm))
  · rcases ha.row with h | ⟨bb, off, h1, h2, h3, h4, h5⟩
    · exact .inl h
    · refine .inr ⟨bb, off, h1, h2, h3, h4, fun i hi => ?_⟩
      have e1 := Fr.cell (S := F.foot) (w' := _) (((((Fr.refl _ w).drewN n).setCell (p := ⟨F.ga, k, none⟩) (fun _ => .inr (.inr rfl)) (.int .i64 (prevP (prN F.b) k (prN F.b k) : Nat))).setCell (p := ⟨F.gl, prN F.b k, none⟩) (fun _ => .inr (.inl rfl)) (.int .i64 ((k : Int) + 1))).setCell (p := ⟨F.g, 9, none⟩) (fun _ => .inl rfl) (.int .i64 ((k : Int) + 1))) (h5 i hi)
        (fun e => by rcases e with e | e | e <;> simp only at e <;> omega)
      exact e1
  · have e := blk_set_ne (v := .int .i64 ((k : Int) + 1)) (a := ⟨F.g, 9, none⟩) (blk_set (i := prN F.b k) (v := .int .i64 ((k : Int) + 1)) (blk_set_ne (a := ⟨F.ga, k, none⟩) (v := .int .i64 (prevP (prN F.b) k (prN F.b k) : Nat)) (blk_drewN (n := n) hc.last) la)) lg
    rw [arr_set] at e
    refine e.trans ?_
    congr 2
    refine arr_ext fun p hp => ?_
    unfold upd
    show _ = ((prevP (prN F.b) (k + 1) p : Nat) : Int)
    rw [prevP]
    by_cases h : p = prN F.b k
    · rw [if_pos h, if_pos h.symm]; omega
    · rw [if_neg h, if_neg (fun e => h e.symm)]
  · have e := blk_set_ne (v := .int .i64 ((k : Int) + 1)) (a := ⟨F.g, 9, none⟩) (blk_set_ne (a := ⟨F.gl, prN F.b k, none⟩) (v := .int .i64 ((k : Int) + 1)) (blk_set (i := k) (v := .int .i64 (prevP (prN F.b) k (prN F.b k) : Nat)) (blk_drewN (n := n) hc.ahead)) (fun e => la e.symm)) ag
    rw [arr_set] at e
    refine e.trans ?_
    congr 2
    refine arr_ext fun q hq => ?_
    unfold upd
    by_cases h : q = k
    · rw [if_pos h, if_pos (by omega), h]
    · rw [if_neg h]
      dsimp only
      by_cases h2 : q < k
      · rw [if_pos h2, if_pos (by omega)]
      · rw [if_neg h2, if_neg (by omega)]
  · exact ((((Fr.refl _ w).drewN n).setCell (fun _ => .inr (.inr rfl)) _).setCell (fun _ => .inr (.inl rfl)) _).setCell (fun _ => .inl rfl) _

set_option maxRecDepth 100000 in
set_option maxHeartbeats 4000000 in
theorem learn_any (F : FLay) (r : Nat → Nat) (k0 t : Nat) (w : World) (ok : F.Ok) (hk0 : k0 ≤ t) (ht : t < F.L) (ha : F.At w r k0) (hc : F.Chain w k0) :
    Calls Try.prog 43 #[.pointer (some ⟨F.g, 0, none⟩), .int .i64 t] w fun e w' => e = .returned (.tuple #[]) ∧ Fr F.foot w w' ∧ F.At w' r t ∧ F.Chain w' t := by
  have HA := hid ha
  have HC := hid hc
  have hL := ok.len
  have lg := ok.lg
  have ag := ok.ag
  have la := ok.la
  clear ha hc
  go_enter Try.func43, Try.ntmps43
  go_wp2_with fail
  go_loopw [] (fun wr => ∃ k : Nat, k0 ≤ k ∧ k ≤ t ∧ Fr F.foot w wr ∧ F.At wr r k ∧ F.Chain wr k) (fun wr => t - knownOf F wr)
  case atStart => exact ⟨k0, Nat.le_refl _, hk0, Fr.refl _ _, HA.out, HC.out⟩
  case round =>
    obtain ⟨k, hk1, hk2, hfr, ha, hc⟩ := hrel
    have c0 := blk_cell ha.blk (j := 0) (v := .slice F.av F.L F.c) rfl
    have c7 := blk_cell ha.blk (j := 7) (v := .slice (some ⟨F.gl, 0, none⟩) 65536 65536) rfl
    have c8 := blk_cell ha.blk (j := 8) (v := .slice (some ⟨F.ga, 0, none⟩) F.L F.L) rfl
    have c9 := blk_cell ha.blk (j := 9) (v := .int .i64 k) rfl
    have FR := hid hfr
    have A := hid ha
    have C := hid hc
    clear hfr ha hc
    by_cases hlt : k < t
    · have h1 : (k : Int) < (t : Int) := by omega
      have h2 : (k : Int) + 1 < (F.L : Int) := by omega
      have h3 : IntKind.i64.wrap ((k : Int) + 1) = (k : Int) + 1 := by rw [IntKind.wrap_i64]; omega
      go_wp2_with fail
      go_quiet (fail)
      go_wp2_with fail
      refine (pair_q F r k k (wr.drewN nq) ok (by omega) (A.out.drewN nq)).mono ?_
      rintro e w2 ⟨rfl, m, rfl⟩
      have hp := prN_lt F ok k (by omega)
      obtain ⟨p, hpp⟩ : ∃ p, p = prN F.b k := ⟨_, rfl⟩
      rw [← hpp] at hp ⊢
      obtain ⟨u, hu⟩ : ∃ u : Nat, u = prevP (prN F.b) k p := ⟨_, rfl⟩
      have d0 := blk_cell C.out.last (arr_get .i64 65536 _ hp)
      have z0 := blk_frozen C.out.last p
      have z1 := blk_frozen C.out.ahead k
      have z2 := blk_frozen A.out.blk 9
      have y0 := blk_cell C.out.ahead (arr_get .i64 F.L _ (show k < F.L by omega))
      have hp1 : (p : Int) < 65536 := by omega
      have hkL : (k : Int) < (F.L : Int) := by omega
      rw [← hu] at d0
      have HP := hid hpp
      have HU := hid hu
      clear hpp hu hp
      go_wp2_with fail
      go_region
      all_goals
        go_wp2_with fail
        have st := learn_step (wx := (((wr.drewN (nq + m + 1)).setCell ⟨F.ga, k, none⟩ (.int .i64 (u : Nat))).setCell ⟨F.gl, p, none⟩ (.int .i64 ((k : Int) + 1))).setCell ⟨F.g, 9, none⟩ (.int .i64 ((k : Int) + 1))) ok (by omega) A.out C.out (nq + m + 1) (by rw [HU.out, HP.out])
        go_roundw
        case rel => exact ⟨k + 1, by omega, by omega, FR.out.then st.2.2 (fun _ _ h => h), st.1, st.2.1⟩
        case measure =>
          rw [knownOf_at st.1, knownOf_at A.out]
          omega
    · have e : k = t := by omega
      subst e
      have h1 : ¬ (k : Int) < (k : Int) := by omega
      go_wp2_with fail
      go_quiet (fail)
      go_wp2_with fail
      go_end0
      exact ⟨rfl, FR.out.drewN _, A.out.drewN _, C.out.drewN _⟩

/-! ### the chain tells the greatest copy -/
def sameP (F : FLay) (i d : Nat) : Bool := decide (prN F.b (i - 1 - d) = prN F.b i)
theorem lenAt_two {b : Nat → Int} {to_ dict i d : Nat} (h1 : d < i) (h2 : d < dict) (h3 : i + 1 < to_) : 2 ≤ lenAt b to_ dict i d ↔ (b i = b (i - 1 - d) ∧ b (i + 1) = b (i - d)) := by
  have e : lenAt b to_ dict i d = runFrom b i d (min 273 (to_ - i)) 0 := if_neg (by omega)
  rw [e]
  have e0 : i + 0 - 1 - d = i - 1 - d := by omega
  have e1 : i + 1 - 1 - d = i - d := by omega
  constructor
  · intro h
    have x0 := runFrom_eq b i d _ 0 0 (Nat.le_refl 0) (by omega : 0 < runFrom b i d (min 273 (to_ - i)) 0)
    have x1 := runFrom_eq b i d _ 0 1 (by omega) (by omega : 1 < runFrom b i d (min 273 (to_ - i)) 0)
    rw [e0] at x0
    rw [e1] at x1
    exact ⟨x0, x1⟩
  · rintro ⟨x0, x1⟩
    obtain ⟨m, hm⟩ : ∃ m, min 273 (to_ - i) = m + 2 := ⟨min 273 (to_ - i) - 2, by omega⟩
    rw [hm, runFrom, if_pos (by rw [e0]; exact x0), runFrom, if_pos (by rw [e1]; exact x1)]
    exact runFrom_ge b i d m 2
theorem prN_eq {F : FLay} (ok : F.Ok) {i j : Nat} (hi : i + 1 < F.L) (hj : j + 1 < F.L) : prN F.b i = prN F.b j ↔ (F.b i = F.b j ∧ F.b (i + 1) = F.b (j + 1)) := by
  have a1 := ok.byte i (by omega)
  have a2 := ok.byte (i + 1) hi
  have a3 := ok.byte j (by omega)
  have a4 := ok.byte (j + 1) hj
  unfold prN
  omega
theorem sameP_two {F : FLay} (ok : F.Ok) {i d : Nat} (h1 : d < i) (h2 : d < F.dict) (h3 : i + 1 < F.tb) : sameP F i d = true ↔ 2 ≤ lenAt F.b F.tb F.dict i d := by
  have hto := ok.to_
  unfold sameP
  rw [decide_eq_true_iff, prN_eq ok (by omega) (by omega), lenAt_two h1 h2 h3, show i - 1 - d + 1 = i - d by omega]
  constructor
  · rintro ⟨x, y⟩; exact ⟨x.symm, y.symm⟩
  · rintro ⟨x, y⟩; exact ⟨x.symm, y.symm⟩
/-- the greatest copy among the places with the same pair, so far. -/
def chainB (F : FLay) (i n : Nat) : Nat × Nat := sel (sameP F i) (lenAt F.b F.tb F.dict i) n
theorem chainB_end {F : FLay} {i n m : Nat} (h : n ≤ m) (hd : ∀ d, n ≤ d → d < m → F.dict ≤ d) : chainB F i m = chainB F i n := by
  unfold chainB
  induction m with
  | zero => obtain rfl : n = 0 := by omega
            rfl
  | succ m ih =>
    by_cases e : n = m + 1
    · subst e; rfl
    · rw [sel, if_neg, ih (by omega) (fun d h1 h2 => hd d h1 (by omega))]
      have : lenAt F.b F.tb F.dict i m = 0 := if_pos (.inr (hd m (by omega) (Nat.lt_succ_self m)))
      rw [this]
      omega
theorem chainB_min {F : FLay} {i n : Nat} (h1 : n ≤ i) (h2 : n = i ∨ F.dict ≤ n) : chainB F i n = chainB F i (min i F.dict) := by
  by_cases h : F.dict ≤ n
  · rw [chainB_end (n := F.dict) (m := n) h (fun d h _ => h), Nat.min_eq_right (by omega)]
  · obtain rfl : n = i := by omega
    rw [Nat.min_eq_left (by omega)]
theorem chainB_full {F : FLay} {i n : Nat} (h1 : n ≤ min i F.dict) (h : (chainB F i n).1 = 273) : chainB F i n = chainB F i (min i F.dict) := by
  unfold chainB at *
  refine (sel_stays _ _ n (fun d => ?_) _ h1).symm
  rw [h]
  have := lenAt_le F.b F.tb F.dict i d
  omega
/-- what longest tells. -/
def LongRes (F : FLay) (i m wh : Nat) : Prop := m = wideLen F.b F.tb F.dict i ∧ (2 ≤ m → wh = (wide F.b F.tb F.dict i).2)
theorem long_near {F : FLay} {i : Nat} (h : F.tb ≤ i + 1) : LongRes F i 0 0 := by
  have := wide_le F.b F.tb F.dict i
  refine ⟨?_, by omega⟩
  unfold wideLen
  rw [if_pos (by omega)]
theorem long_chain {F : FLay} (ok : F.Ok) {i : Nat} (h : i + 1 < F.tb) : LongRes F i (chainB F i (min i F.dict)).1 (chainB F i (min i F.dict)).2 := by
  have hs := sel_best (sameP F i) (lenAt F.b F.tb F.dict i) (min i F.dict) (fun d hd => sameP_two ok (by omega) (by omega) h)
  unfold LongRes wideLen wide chainB
  rcases hs with ⟨e, e2⟩ | ⟨e, e2⟩
  · rw [e, if_neg (by omega)]; exact ⟨rfl, fun _ => rfl⟩
  · rw [e, if_pos e2]; exact ⟨rfl, fun h => by omega⟩
/-- from one place of the chain to the next. -/
theorem chainB_next {F : FLay} {i a k : Nat} (ha : a ≤ k) (hk : k ≤ i) (hn : ∀ q, a ≤ q → q < k → prN F.b q ≠ prN F.b i) : chainB F i (i - a) = chainB F i (i - k) := by
  unfold chainB
  refine sel_skip _ _ _ _ (by omega) (fun d h1 h2 => ?_)
  unfold sameP
  exact decide_eq_false (hn (i - 1 - d) (by omega) (by omega))
theorem chainB_step {F : FLay} {i a : Nat} (h0 : 0 < a) (ha : a ≤ i) (hp : prN F.b (a - 1) = prN F.b i) : chainB F i (i - a + 1) = if (chainB F i (i - a)).1 < lenAt F.b F.tb F.dict i (i - a) then (lenAt F.b F.tb F.dict i (i - a), i - a) else chainB F i (i - a) := by
  have hs : sameP F i (i - a) = true := by
    unfold sameP
    rw [show i - 1 - (i - a) = a - 1 by omega]
    exact decide_eq_true hp
  unfold chainB
  rw [sel]
  by_cases h : (sel (sameP F i) (lenAt F.b F.tb F.dict i) (i - a)).1 < lenAt F.b F.tb F.dict i (i - a)
  · rw [if_pos ⟨hs, h⟩, if_pos h]
  · rw [if_neg (fun x => h x.2), if_neg h]
end Go.Proofs.Yteedolfhmiehfaa
