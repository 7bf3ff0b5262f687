/- The document's packets: Find. -/
import Derived.Test.YteedolfhmiehfaaPar6
namespace Go.Proofs.Yteedolfhmiehfaa
open Go.RowKit

theorem findFrom_fuel (b : Nat → Int) (to_ dict : Nat) : ∀ (m m' i : Nat) (r : Nat → Nat), to_ - i ≤ m → to_ - i ≤ m' → findFrom b to_ dict m i r = findFrom b to_ dict m' i r
  | 0, m', i, r, h, _ => by
    have hn : ¬ i < to_ := by omega
    cases m' with
    | zero => rfl
    | succ m' => unfold findFrom; rw [if_neg hn]
  | m + 1, m', i, r, h, h' => by
    by_cases hlt : i < to_
    · cases m' with
      | zero => omega
      | succ m' =>
        have hp := packetAt_pos b to_ dict i r
        have e := findFrom_fuel b to_ dict m m' (i + (packetAt b to_ dict i r).2.1) (packetAt b to_ dict i r).2.2 (by omega) (by omega)
        rw [findFrom, findFrom, if_pos hlt, if_pos hlt]
        dsimp only
        rw [e]
    · rw [findFrom, if_neg hlt]
      cases m' with
      | zero => rfl
      | succ m' => rw [findFrom, if_neg hlt]
/-- all packets from a place on. -/
def finds (b : Nat → Int) (to_ dict i : Nat) (r : Nat → Nat) : List Pk × (Nat → Nat) := findFrom b to_ dict (to_ - i) i r
theorem finds_step (b : Nat → Int) (to_ dict i : Nat) (r : Nat → Nat) (h : i < to_) :
    finds b to_ dict i r = ((packetAt b to_ dict i r).1 :: (finds b to_ dict (i + (packetAt b to_ dict i r).2.1) (packetAt b to_ dict i r).2.2).1, (finds b to_ dict (i + (packetAt b to_ dict i r).2.1) (packetAt b to_ dict i r).2.2).2) := by
  have hp := packetAt_pos b to_ dict i r
  obtain ⟨m, hm⟩ : ∃ m, to_ - i = m + 1 := ⟨to_ - i - 1, by omega⟩
  have e := findFrom_fuel b to_ dict m (to_ - (i + (packetAt b to_ dict i r).2.1)) (i + (packetAt b to_ dict i r).2.1) (packetAt b to_ dict i r).2.2 (by omega) (by omega)
  unfold finds
  rw [hm, findFrom, if_pos h]
  dsimp only
  rw [e]
theorem finds_end (b : Nat → Int) (to_ dict i : Nat) (r : Nat → Nat) (h : to_ ≤ i) : finds b to_ dict i r = ([], r) := by
  unfold finds
  rw [show to_ - i = 0 by omega]
  rfl
/-- so far these packets, and these elder distances, are told; the rest tells the whole. -/
def Telling (b : Nat → Int) (to_ dict : Nat) (all : List Pk × (Nat → Nat)) (i : Nat) (l : List Pk) (r : Nat → Nat) : Prop := all = (l ++ (finds b to_ dict i r).1, (finds b to_ dict i r).2)
theorem Telling.next {b : Nat → Int} {to_ dict : Nat} {all : List Pk × (Nat → Nat)} {i : Nat} {l : List Pk} {r : Nat → Nat} (h : Telling b to_ dict all i l r) (hi : i < to_) {p : Pk} {m : Nat} {r' : Nat → Nat} (hp : packetAt b to_ dict i r = (p, m, r')) : Telling b to_ dict all (i + m) (l ++ [p]) r' := by
  unfold Telling at *
  rw [h, finds_step b to_ dict i r hi, hp]
  simp
theorem Telling.done {b : Nat → Int} {to_ dict : Nat} {all : List Pk × (Nat → Nat)} {i : Nat} {l : List Pk} {r : Nat → Nat} (h : Telling b to_ dict all i l r) (hi : to_ ≤ i) : all = (l, r) := by
  unfold Telling at h
  rw [h, finds_end b to_ dict i r hi]
  simp
/-- the four elder distances, shifted from place h on. -/
def shift (r : Nat → Nat) (k h : Nat) (j : Nat) : Nat := if h < j ∧ j ≤ k then r (j - 1) else r j
def repsA (r : Nat → Nat) : Array Value := arr .u32 4 (fun h => (r h : Int))
theorem repsA_lit (r : Nat → Nat) : #[Value.int .u32 (r 0), .int .u32 (r 1), .int .u32 (r 2), .int .u32 (r 3)] = repsA r := by
  apply Array.ext_getElem?
  intro i
  unfold repsA
  rw [arr_get?]
  by_cases h : i < 4
  · rw [if_pos h]
    match i, h with
    | 0, _ => rfl
    | 1, _ => rfl
    | 2, _ => rfl
    | 3, _ => rfl
  · rw [if_neg h]
    simp
    omega
theorem repsA_get (r : Nat → Nat) {h : Nat} (hh : h < 4) : (repsA r)[h]? = some (.int .u32 (r h)) := arr_get .u32 4 _ hh
theorem repsA_set (r : Nat → Nat) (h x : Nat) : (repsA r).setIfInBounds h (.int .u32 x) = repsA (fun j => if j = h then x else r j) := by
  unfold repsA
  rw [arr_set]
  refine arr_ext fun j _ => ?_
  unfold upd
  dsimp only
  split <;> rfl
theorem repsA_ext {r r' : Nat → Nat} (h : ∀ j, j < 4 → r j = r' j) : repsA r = repsA r' := arr_ext fun j hj => by rw [h j hj]
def lo0 (n : Nat) (x : Int) : Nat := min (max x 0).toNat n
def hi0 (n from_ : Nat) (x : Int) : Nat := min (max x from_).toNat n
def di0 (x : Int) : Nat := (max x 1).toNat
def FindPost (w : World) (all : List Pk × (Nat → Nat)) (e : Ending) (w' : World) : Prop := ∃ v, e = .returned (.tuple #[v, repsV all.2]) ∧ PkOwn w' w.heap.size v all.1 ∧ Fr Non w w'

/-- the world of the document's Find: the distances' block, the result's, the row of packets. -/
structure RW (w : World) (r : Nat → Nat) (wr : World) (v : Value) (l : List Pk) : Prop where
  fr : Fr Non w wr
  b9 : wr.heap[w.heap.size]? = some (.cells (repsA r) 24)
  b11 : wr.heap[w.heap.size + 1]? = some (.cells (repsA fun _ => 0) 24)
  own : PkOwn wr (w.heap.size + 2) v l
theorem RW.sz {w : World} {r : Nat → Nat} {wr : World} {v : Value} {l : List Pk} (h : RW w r wr v l) : w.heap.size + 2 ≤ wr.heap.size := blk_lt h.b11
theorem RW.drewN {w : World} {r : Nat → Nat} {wr : World} {v : Value} {l : List Pk} (h : RW w r wr v l) (n : Nat) : RW w r (wr.drewN n) v l := ⟨h.fr.drewN n, h.b9, h.b11, h.own.fr ((Fr.refl Non _).drewN n) (fun _ _ _ => id)⟩
theorem RW.cell {w : World} {r : Nat → Nat} {wr : World} {v : Value} {l : List Pk} (h : RW w r wr v l) {j : Nat} (hj : j < 4) : wr.cell? ⟨w.heap.size, j, none⟩ = some (.int .u32 (r j)) := blk_cell h.b9 (repsA_get r hj)
theorem RW.ext {w : World} {r r' : Nat → Nat} {wr : World} {v : Value} {l : List Pk} (h : RW w r wr v l) (he : ∀ j, j < 4 → r j = r' j) : RW w r' wr v l := ⟨h.fr, by rw [← repsA_ext he]; exact h.b9, h.b11, h.own⟩
theorem RW.set {w : World} {r r' : Nat → Nat} {wr : World} {v : Value} {l : List Pk} (h : RW w r wr v l) (j x : Nat) (he : ∀ i, i < 4 → (if i = j then x else r i) = r' i) : RW w r' (wr.setCell ⟨w.heap.size, j, none⟩ (.int .u32 x)) v l := by
  have hf : Fr (fun k => k = w.heap.size) wr (wr.setCell ⟨w.heap.size, j, none⟩ (.int .u32 x)) := (Fr.refl _ _).setOne j _
  refine ⟨h.fr.then hf (fun i hi e => by omega), ?_, blk_set_ne h.b11 (by simp), h.own.fr hf (fun g h1 h2 e => by omega)⟩
  have := blk_set (i := j) (v := .int .u32 (x : Int)) h.b9
  rw [repsA_set] at this
  rw [← repsA_ext he]
  exact this
theorem RW.append {w : World} {r : Nat → Nat} {wr w4 : World} {v v' : Value} {l l' : List Pk} (h : RW w r wr v l) (o : Obj) (ho : PkOwn w4 (w.heap.size + 2) v' l') (hg : (wr.alloc o).grownBy w4 v.ownBlock) : RW w r w4 v' l' := by
  have hb := h.own.block
  have hf : Fr (fun k => w.heap.size + 2 ≤ k) wr w4 := ((Fr.refl _ wr).alloc o).grown hg (fun k e _ => (hb k e).1)
  exact ⟨h.fr.then hf (fun i hi e => by omega), hf.blk h.b9 (by omega), hf.blk h.b11 (by omega), ho⟩
theorem shift_end (r : Nat → Nat) (k : Nat) (i : Nat) : shift r k k i = r i := by
  unfold shift
  rw [if_neg (by omega)]
theorem shift_step (r : Nat → Nat) (k h i : Nat) (hk : h + 1 ≤ k) : (if i = h + 1 then shift r k (h + 1) h else shift r k (h + 1) i) = shift r k h i := by
  unfold shift
  by_cases e : i = h + 1
  · subst e
    rw [if_pos rfl, if_neg (by omega), if_pos (by omega)]
    simp
  · rw [if_neg e]
    by_cases e2 : h < i ∧ i ≤ k
    · rw [if_pos e2, if_pos (by omega)]
    · rw [if_neg e2, if_neg (by omega)]
theorem shift_front (r : Nat → Nat) (k i : Nat) : (if i = 0 then r k else shift r k 0 i) = front r k i := by
  unfold shift front
  by_cases e : i = 0
  · rw [if_pos e, if_pos e]
  · rw [if_neg e, if_neg e]
    by_cases e2 : i ≤ k
    · rw [if_pos (by omega), if_pos e2]
    · rw [if_neg (by omega), if_neg e2]

/-- the loop of the document's Find. -/
structure RLoop (w : World) (f : Nat → Int) (tb D : Nat) (all : List Pk × (Nat → Nat)) (k : Nat) (l : List Pk) (r : Nat → Nat) (v : Value) (wr : World) : Prop where
  kt : k ≤ tb
  len : l.length ≤ k
  rw : RW w r wr v l
  tell : Telling f tb D all k l r
  rb : ∀ h, h < 4 → r h < 4294967296
def lensOf (f : Nat → Int) (tb D k : Nat) (r : Nat → Nat) (h : Nat) : Nat := lenAt f tb D k (r h)

theorem RLoop.next {w : World} {f : Nat → Int} {tb D : Nat} {all : List Pk × (Nat → Nat)} {k : Nat} {l : List Pk} {r r' : Nat → Nat} {v v' : Value} {wr w' : World} (h : RLoop w f tb D all k l r v wr) (hlt : k < tb) {p : Pk} {m : Nat}
    (hp : packetAt f tb D k r = (p, m, r')) (hr : RW w r' w' v' (l ++ [p])) (hb : ∀ h, h < 4 → r' h < 4294967296) : RLoop w f tb D all (k + m) (l ++ [p]) r' v' w' ∧ 1 ≤ m := by
  have h1 := packetAt_le f tb D k r hlt
  have h2 := packetAt_pos f tb D k r
  rw [hp] at h1 h2
  have h1' : k + m ≤ tb := h1
  have h2' : 1 ≤ m := h2
  have := h.len
  exact ⟨⟨h1', by simp; omega, hr, h.tell.next hlt hp, hb⟩, h2'⟩
theorem front_bound {r : Nat → Nat} (hb : ∀ h, h < 4 → r h < 4294967296) {q : Nat} (hq : q < 4) : ∀ h, h < 4 → front r q h < 4294967296 := by
  intro h hh
  unfold front
  split
  · exact hb q hq
  · split
    · exact hb (h - 1) (by omega)
    · exact hb h hh
theorem young_bound {r : Nat → Nat} (hb : ∀ h, h < 4 → r h < 4294967296) {d : Nat} (hd : d < 4294967296) : ∀ h, h < 4 → young r d h < 4294967296 := by
  intro h hh
  unfold young
  split
  · exact hd
  · exact hb (h - 1) (by omega)
theorem RW.young {w : World} {r : Nat → Nat} {wr : World} {v : Value} {l : List Pk} (h : RW w r wr v l) (d : Nat) :
    RW w (young r d) ((((wr.setCell ⟨w.heap.size, 0, none⟩ (.int .u32 d)).setCell ⟨w.heap.size, 1, none⟩ (.int .u32 (r 0))).setCell ⟨w.heap.size, 2, none⟩ (.int .u32 (r 1))).setCell ⟨w.heap.size, 3, none⟩ (.int .u32 (r 2))) v l := by
  refine (((h.set 0 d (fun _ _ => rfl)).set 1 (r 0) (fun _ _ => rfl)).set 2 (r 1) (fun _ _ => rfl)).set 3 (r 2) (fun i hi => ?_)
  match i, hi with
  | 0, _ => rfl
  | 1, _ => rfl
  | 2, _ => rfl
  | 3, _ => rfl
theorem ret_reps {P : Program} {fn : Func} {p u : Tmp} {ty : TypeId} (h : fn.results = #[.tmp u, .cell p ty]) (tmps : Array Value) (w : World) (g : Nat) (t : TypeId) (cs : Array Value) (fr : Nat × Nat) (d : TypeDesc) (y : Value)
    (hp : tmps.getD p undef = .pointer (some ⟨g, 0, none⟩)) (hy : tmps.getD u undef = y) (hg : w.heap[g]? = some (.cells cs t fr))
    (hu : P.underlying ty = some d) (hd : (match d with | .struct _ | .array _ _ => true | _ => false) = true) (hi : (P.info? ty).map (·.size) = some cs.size) :
    (results fn tmps).run P w = .ok (.tuple #[y, .agg cs]) w := by
  rw [results_tmp_cell_row h tmps w g t cs fr d hp hg hu hd hi, hy]
theorem Try.info_r4 : (Try.prog.info? 24).map (·.size) = some 4 := by kernel_rfl
theorem PkOwn.mono {w : World} {b b' : Nat} {v : Value} {l : List Pk} (h : PkOwn w b v l) (hb : b' ≤ b) : PkOwn w b' v l := by
  obtain ⟨h1, h2⟩ := h
  refine ⟨h1, ?_⟩
  rcases h2 with h2 | ⟨g, cap, cur, hv, hg, r⟩
  · exact .inl h2
  · exact .inr ⟨g, cap, cur, hv, Nat.le_trans hb hg, r⟩
theorem RW.out {w : World} {r : Nat → Nat} {wr : World} {v : Value} {l : List Pk} (h : RW w r wr v l) :
    ((((wr.drew.setCell ⟨w.heap.size + 1, 0, none⟩ (.int .u32 (r 0))).setCell ⟨w.heap.size + 1, 1, none⟩ (.int .u32 (r 1))).setCell ⟨w.heap.size + 1, 2, none⟩ (.int .u32 (r 2))).setCell ⟨w.heap.size + 1, 3, none⟩ (.int .u32 (r 3))).heap[w.heap.size + 1]? = some (.cells #[.int .u32 (r 0), .int .u32 (r 1), .int .u32 (r 2), .int .u32 (r 3)] 24) ∧
    PkOwn ((((wr.drew.setCell ⟨w.heap.size + 1, 0, none⟩ (.int .u32 (r 0))).setCell ⟨w.heap.size + 1, 1, none⟩ (.int .u32 (r 1))).setCell ⟨w.heap.size + 1, 2, none⟩ (.int .u32 (r 2))).setCell ⟨w.heap.size + 1, 3, none⟩ (.int .u32 (r 3))) w.heap.size v l ∧
    Fr Non w ((((wr.drew.setCell ⟨w.heap.size + 1, 0, none⟩ (.int .u32 (r 0))).setCell ⟨w.heap.size + 1, 1, none⟩ (.int .u32 (r 1))).setCell ⟨w.heap.size + 1, 2, none⟩ (.int .u32 (r 2))).setCell ⟨w.heap.size + 1, 3, none⟩ (.int .u32 (r 3))) := by
  have hb := h.b11
  rw [← repsA_lit] at hb
  have hf : Fr (fun k => k = w.heap.size + 1) wr ((((wr.drew.setCell ⟨w.heap.size + 1, 0, none⟩ (.int .u32 (r 0))).setCell ⟨w.heap.size + 1, 1, none⟩ (.int .u32 (r 1))).setCell ⟨w.heap.size + 1, 2, none⟩ (.int .u32 (r 2))).setCell ⟨w.heap.size + 1, 3, none⟩ (.int .u32 (r 3))) :=
    (((((Fr.refl _ _).drew).setOne 0 _).setOne 1 _).setOne 2 _).setOne 3 _
  exact ⟨blk_set (blk_set (blk_set (blk_set (blk_drew hb)))), (h.own.fr hf (fun g h1 _ e => by omega)).mono (by omega), h.fr.then hf (fun i hi e => by omega)⟩
theorem pk_again {f : Nat → Int} {tb D k m E q : Nat} {r : Nat → Nat} (hE : E = (best (lensOf f tb D k r) 4).1) (hq : q = (best (lensOf f tb D k r) 4).2) (hm : m = wideLen f tb D k) (h : 2 ≤ E ∧ m ≤ E + 1) :
    packetAt f tb D k r = (⟨2 + q, E, 0, 0⟩, E, front r q) := by
  subst hE hq hm
  exact if_pos h
theorem pk_match {f : Nat → Int} {tb D k m E wh : Nat} {r : Nat → Nat} (hE : E = (best (lensOf f tb D k r) 4).1) (hm : m = wideLen f tb D k) (hw : wh = (wide f tb D k).2) (h : ¬ (2 ≤ E ∧ m ≤ E + 1)) (h2 : 3 ≤ m ∨ m = 2 ∧ wh < 128) :
    packetAt f tb D k r = (⟨1, m, wh, 0⟩, m, young r wh) := by
  subst hE hm hw
  exact (if_neg h).trans (if_pos h2)
theorem pk_single {f : Nat → Int} {tb D k m E wh : Nat} {r : Nat → Nat} (hE : E = (best (lensOf f tb D k r) 4).1) (hm : m = wideLen f tb D k) (hw : wh = (wide f tb D k).2) (h : ¬ (2 ≤ E ∧ m ≤ E + 1)) (h2 : ¬ (3 ≤ m ∨ m = 2 ∧ wh < 128)) (h3 : 0 < lenAt f tb D k (r 0)) :
    packetAt f tb D k r = (⟨6, 0, 0, 0⟩, 1, r) := by
  subst hE hm hw
  exact ((if_neg h).trans (if_neg h2)).trans (if_pos h3)
theorem pk_literal {f : Nat → Int} {tb D k m E wh : Nat} {r : Nat → Nat} (hE : E = (best (lensOf f tb D k r) 4).1) (hm : m = wideLen f tb D k) (hw : wh = (wide f tb D k).2) (h : ¬ (2 ≤ E ∧ m ≤ E + 1)) (h2 : ¬ (3 ≤ m ∨ m = 2 ∧ wh < 128)) (h3 : ¬ 0 < lenAt f tb D k (r 0)) :
    packetAt f tb D k r = (⟨0, 0, 0, f k⟩, 1, r) := by
  subst hE hm hw
  exact ((if_neg h).trans (if_neg h2)).trans (if_neg h3)
theorem shift_step' (r : Nat → Nat) (k h h' i : Nat) (e : h = h' + 1) (hk : h ≤ k) : (if i = h then shift r k h h' else shift r k h i) = shift r k h' i := by
  subst e
  exact shift_step r k h' i hk
theorem guard_cases {E m : Nat} (qa : ¬ (2 ≤ E ∧ m ≤ E + 1)) (hE : E ≤ 273) : decide ((2 : Int) ≤ (E : Int)) = false ∨ (decide ((2 : Int) ≤ (E : Int)) = true ∧ decide ((m : Int) ≤ (E : Int) + 1) = false ∧ IntKind.i64.wrap ((E : Int) + 1) = (E : Int) + 1) := by
  by_cases h : 2 ≤ E
  · exact .inr ⟨by rw [decide_eq_true_iff]; omega, by rw [decide_eq_false_iff_not]; omega, by rw [IntKind.wrap_i64]; omega⟩
  · exact .inl (by rw [decide_eq_false_iff_not]; omega)
theorem guard_match {m wh : Nat} (qm : 3 ≤ m ∨ m = 2 ∧ wh < 128) : decide ((3 : Int) ≤ (m : Int)) = true ∨ (decide ((3 : Int) ≤ (m : Int)) = false ∧ ((m : Int) == 2) = true ∧ decide ((wh : Int) < 128) = true) := by
  by_cases h : 3 ≤ m
  · exact .inl (by rw [decide_eq_true_iff]; omega)
  · exact .inr ⟨by rw [decide_eq_false_iff_not]; omega, by rw [beq_iff_eq]; omega, by rw [decide_eq_true_iff]; omega⟩
theorem guard_rest {m wh : Nat} (qm : ¬ (3 ≤ m ∨ m = 2 ∧ wh < 128)) : decide ((3 : Int) ≤ (m : Int)) = false ∧ (((m : Int) == 2) = false ∨ ((m : Int) == 2) = true ∧ decide ((wh : Int) < 128) = false) := by
  refine ⟨by rw [decide_eq_false_iff_not]; omega, ?_⟩
  by_cases h : m = 2
  · exact .inr ⟨by rw [beq_iff_eq]; omega, by rw [decide_eq_false_iff_not]; omega⟩
  · exact .inl (by simp; omega)

set_option maxRecDepth 100000 in
set_option maxHeartbeats 8000000 in
theorem rfind_any (a : Option Addr) (n c : Nat) (f : Nat → Int) (from_ to_ dict : Int) (r : Nat → Nat) (w : World) (hn : n ≤ 1048576) (hd : dict ≤ 9223372036854775807) (hr : ∀ h, h < 4 → r h < 4294967296) (h : RowIn w.heap.size .u8 w a n f) :
    Calls Try.prog 9 #[.slice a n c, .int .i64 from_, .int .i64 to_, .int .i64 dict, repsV r] w (FindPost w (finds f (hi0 n (lo0 n from_) to_) (di0 dict) (lo0 n from_) r)) := by
  have H := hid h
  have HR := hid hr
  have st0 : RW w r ((w.alloc (.cells #[.int .u32 (r 0), .int .u32 (r 1), .int .u32 (r 2), .int .u32 (r 3)] 24)).alloc (.cells #[.int .u32 0, .int .u32 0, .int .u32 0, .int .u32 0] 24)) (.slice none 0 0) [] :=
    ⟨((Fr.refl _ _).alloc _).alloc _, by rw [← repsA_lit]; exact blk_alloc (blk_new _ _), by have := blk_new (w.alloc (.cells #[.int .u32 (r 0), .int .u32 (r 1), .int .u32 (r 2), .int .u32 (r 3)] 24)) (.cells #[.int .u32 0, .int .u32 0, .int .u32 0, .int .u32 0] 24); simp only [World.size_alloc] at this; rw [← repsA_lit]; exact this, PkOwn.nil _ _⟩
  have ST := hid st0
  clear h hr st0
  obtain ⟨A, hA⟩ : ∃ A, A = (max from_ 0).toNat := ⟨_, rfl⟩
  obtain ⟨i0, hi0_⟩ : ∃ i0, i0 = min A n := ⟨_, rfl⟩
  obtain ⟨B, hB⟩ : ∃ B, B = (max to_ i0).toNat := ⟨_, rfl⟩
  obtain ⟨tb, htb⟩ : ∃ tb, tb = min B n := ⟨_, rfl⟩
  obtain ⟨D, hD⟩ : ∃ D, D = (max dict 1).toNat := ⟨_, rfl⟩
  obtain ⟨all, hall⟩ : ∃ all, all = finds f tb D i0 r := ⟨_, rfl⟩
  have e1 : lo0 n from_ = i0 := by unfold lo0; rw [hi0_, hA]
  have e2 : hi0 n i0 to_ = tb := by unfold hi0; rw [htb, hB]
  have e3 : di0 dict = D := by unfold di0; rw [hD]
  rw [e1, e2, e3, ← hall]
  have tell0 : Telling f tb D all i0 [] r := by unfold Telling; rw [hall]; simp
  have TELL0 := hid tell0
  have hi0n : i0 ≤ n := by omega
  have htbn : tb ≤ n := by omega
  have hitb : i0 ≤ tb := by omega
  have hDm : D ≤ 9223372036854775807 := by omega
  have HA := hid hA
  have HI := hid hi0_
  have HB := hid hB
  have HT := hid htb
  have HD := hid hD
  clear e1 e2 e3 hA hi0_ hB htb hD tell0 hall
  unfold repsV
  go_enter Try.func9, Try.ntmps9
  go_upto_if 25 with fail
  go_cut [1] (fun v wx => v = .int .i64 A ∧ RW w r wx (.slice none 0 0) [])
  case first =>
    as_aux_lemma =>
      by_cases hq : from_ < 0
      · go_wp2_with fail
        go_meet
        exact ⟨by rw [show A = 0 by have := HA.out; omega]; rfl, ST.out⟩
      · go_wp2_with fail
        go_meet
        exact ⟨by rw [show (A : Int) = from_ by have := HA.out; omega], ST.out⟩
  case rest =>
    obtain ⟨hv, hst⟩ := hcut
    subst hv
    obtain ⟨W, hW⟩ : ∃ W, W = wc := ⟨_, rfl⟩
    subst hW
    have HST := hid hst
    clear hst ST
    go_upto_if 29 with fail
    go_cut [1] (fun v wx => v = .int .i64 i0 ∧ wx = W)
    case first =>
      as_aux_lemma =>
        by_cases hq : (n : Int) < (A : Int)
        · go_wp2_with fail
          go_meet
          exact ⟨by rw [show i0 = n by have := HI.out; omega], rfl⟩
        · go_wp2_with fail
          go_meet
          exact ⟨by rw [show i0 = A by have := HI.out; omega], rfl⟩
    case rest =>
      obtain ⟨hv, hst⟩ := hcut
      subst hv
      subst hst
      go_upto_if 34 with fail
      go_cut [2] (fun v wx => v = .int .i64 B ∧ wx = wc)
      case first =>
        as_aux_lemma =>
          by_cases hq : to_ < (i0 : Int)
          · go_wp2_with fail
            go_meet
            exact ⟨by rw [show B = i0 by have := HB.out; omega], rfl⟩
          · go_wp2_with fail
            go_meet
            exact ⟨by rw [show (B : Int) = to_ by have := HB.out; omega], rfl⟩
      case rest =>
        obtain ⟨hv, hst⟩ := hcut
        subst hv
        subst hst
        go_upto_if 39 with fail
        go_cut [2] (fun v wx => v = .int .i64 tb ∧ wx = wc)
        case first =>
          as_aux_lemma =>
            by_cases hq : (n : Int) < (B : Int)
            · go_wp2_with fail
              go_meet
              exact ⟨by rw [show tb = n by have := HT.out; omega], rfl⟩
            · go_wp2_with fail
              go_meet
              exact ⟨by rw [show tb = B by have := HT.out; omega], rfl⟩
        case rest =>
          obtain ⟨hv, hst⟩ := hcut
          subst hv
          subst hst
          go_upto_if 43 with fail
          go_cut [3] (fun v wx => v = .int .i64 D ∧ wx = wc)
          case first =>
            as_aux_lemma =>
              by_cases hq : dict < 1
              · go_wp2_with fail
                go_meet
                exact ⟨by rw [show D = 1 by have := HD.out; omega]; rfl, rfl⟩
              · go_wp2_with fail
                go_meet
                exact ⟨by rw [show (D : Int) = dict by have := HD.out; omega], rfl⟩
          case rest =>
            obtain ⟨hv, hst⟩ := hcut
            subst hv
            subst hst
            clear HA HI HB HT HD
            go_wp2_with fail
            go_loopw [12, 13] (fun vo vi wr => ∃ k l rr, vi = .int .i64 (k : Nat) ∧ RLoop w f tb D all k l rr vo wr) (fun _ vi _ => tb - (intOf vi).toNat)
            case atStart => exact ⟨i0, [], r, rfl, hitb, Nat.zero_le _, HST.out, TELL0.out, HR.out⟩
            case round =>
              obtain ⟨k, l, rr, rfl, hL⟩ := hrel
              have L := hid hL
              have hkt := hL.kt
              have hL' := hL
              clear hL TELL0 HST
              by_cases hlt : k < tb
              · have hlen := hL'.len
                clear hL'
                go_upto_block 2 with fail
                go_cut [14, 15] (fun vr vk wx => vr = .int .i64 (best (lensOf f tb D k rr) 4).1 ∧ vk = .int .i64 (best (lensOf f tb D k rr) 4).2 ∧ RW w rr wx u12 l)
                case first =>
                  as_aux_lemma =>
                    go_wp2_with fail
                    go_loopw [14, 15, 16] (fun vr vk vh wx => ∃ h m : Nat, h ≤ 4 ∧ vr = .int .i64 (best (lensOf f tb D k rr) h).1 ∧ vk = .int .i64 (best (lensOf f tb D k rr) h).2 ∧ vh = .int .i64 h ∧ wx = wr.drewN m) (fun _ _ vh _ => 4 - (intOf vh).toNat)
                    case atStart => exact ⟨0, 0, by omega, rfl, rfl, rfl, rfl⟩
                    case round =>
                      obtain ⟨h, m, hh, rfl, rfl, rfl, rfl⟩ := hrel
                      by_cases hh4 : h < 4
                      · have c9 := L.out.rw.cell hh4
                        have hrb := L.out.rb h hh4
                        have hwr : IntKind.i64.wrap (rr h : Int) = (rr h : Int) := by rw [IntKind.wrap_i64]; omega
                        have hs := best_succ (lensOf f tb D k rr) h
                        have HS := hid hs
                        clear hs
                        go_wp2_with fail
                        refine (long_q w.heap.size a n c f tb D k (rr h) _ hn htbn (by omega) (by omega) (H.out.fr (L.out.rw.fr.drewN m) (fun _ _ => id))).mono ?_
                        rintro e w3 ⟨rfl, m3, rfl⟩
                        clear hwr c9
                        obtain ⟨x, hx⟩ : ∃ x, x = lenAt f tb D k (rr h) := ⟨_, rfl⟩
                        have hx2 : lensOf f tb D k rr h = x := hx.symm
                        rw [← hx]
                        rw [hx2] at HS
                        clear hx hx2
                        by_cases hb : (best (lensOf f tb D k rr) h).1 < x
                        · have hb' : ((best (lensOf f tb D k rr) h).1 : Int) < (x : Int) := by omega
                          go_wp2_with fail
                          go_roundw
                          case rel => exact ⟨h + 1, m + m3, by omega, by rw [HS.out, if_pos hb], by rw [HS.out, if_pos hb], by go_num, by simp⟩
                          case measure => simp [intOf]; omega
                        · have hb' : ¬ ((best (lensOf f tb D k rr) h).1 : Int) < (x : Int) := by omega
                          go_wp2_with fail
                          go_roundw
                          case rel => exact ⟨h + 1, m + m3, by omega, by rw [HS.out, if_neg hb], by rw [HS.out, if_neg hb], by go_num, by simp⟩
                          case measure => simp [intOf]; omega
                      · have e : h = 4 := by omega
                        subst e
                        go_wp2_with fail
                        go_meet
                        exact ⟨rfl, rfl, L.out.rw.drewN m⟩
                case rest =>
                  obtain ⟨hv1, hv2, hrw⟩ := hcut
                  subst hv1 hv2
                  have R1 := hid hrw
                  clear hrw
                  obtain ⟨E, hE⟩ : ∃ E, E = (best (lensOf f tb D k rr) 4).1 := ⟨_, rfl⟩
                  obtain ⟨q, hq⟩ : ∃ q, q = (best (lensOf f tb D k rr) 4).2 := ⟨_, rfl⟩
                  have hEle : E ≤ 273 := by rw [hE]; have := elder_le f tb D k rr 4; unfold lensOf; omega
                  have hq4 : 0 < E → q < 4 := by rw [hE, hq]; intro h; exact (best_at _ _ h).1
                  rw [← hE, ← hq]
                  have HE := hid hE
                  have HQ := hid hq
                  clear hE hq
                  go_upto_block 4 with fail
                  go_cut [18, 19] (fun vm vw wx => vm = .int .i64 (wide f tb D k).1 ∧ vw = .int .i64 (wide f tb D k).2 ∧ RW w rr wx u12 l)
                  case first =>
                    as_aux_lemma =>
                      go_wp2_with fail
                      go_loopw [18, 19, 20] (fun vm vw vd wx => ∃ d m : Nat, d ≤ min k D ∧ vm = .int .i64 (best (lenAt f tb D k) d).1 ∧ vw = .int .i64 (best (lenAt f tb D k) d).2 ∧ vd = .int .i64 d ∧ wx = wc.drewN m) (fun _ _ vd _ => min k D - (intOf vd).toNat)
                      case atStart => exact ⟨0, 0, by omega, rfl, rfl, rfl, rfl⟩
                      case round =>
                        obtain ⟨d, m, hd, rfl, rfl, rfl, rfl⟩ := hrel
                        by_cases hdk : d < k
                        · have g1 : decide (d < k) = true := by rw [decide_eq_true_iff]; omega
                          have g1' : decide ((d : Int) < (k : Int)) = true := by rw [decide_eq_true_iff]; omega
                          by_cases hdD : d < D
                          · have g2 : decide (d < D) = true := by rw [decide_eq_true_iff]; omega
                            have g2' : decide ((d : Int) < (D : Int)) = true := by rw [decide_eq_true_iff]; omega
                            have hs := best_succ (lenAt f tb D k) d
                            have HS := hid hs
                            clear hs
                            go_wp2_with fail
                            refine (long_q w.heap.size a n c f tb D k d _ hn htbn (by omega) (by omega) (H.out.fr (R1.out.fr.drewN m) (fun _ _ => id))).mono ?_
                            rintro e w3 ⟨rfl, m3, rfl⟩
                            obtain ⟨x, hx⟩ : ∃ x, x = lenAt f tb D k d := ⟨_, rfl⟩
                            rw [← hx] at HS ⊢
                            clear hx g1 g1' g2 g2'
                            by_cases hb : (best (lenAt f tb D k) d).1 < x
                            · have hb' : ((best (lenAt f tb D k) d).1 : Int) < (x : Int) := by omega
                              go_wp2_with fail
                              go_roundw
                              case rel => exact ⟨d + 1, m + m3, by omega, by rw [HS.out, if_pos hb], by rw [HS.out, if_pos hb], by go_num, by simp⟩
                              case measure => simp [intOf]; omega
                            · have hb' : ¬ ((best (lenAt f tb D k) d).1 : Int) < (x : Int) := by omega
                              go_wp2_with fail
                              go_roundw
                              case rel => exact ⟨d + 1, m + m3, by omega, by rw [HS.out, if_neg hb], by rw [HS.out, if_neg hb], by go_num, by simp⟩
                              case measure => simp [intOf]; omega
                          · have g2 : decide (d < D) = false := by rw [decide_eq_false_iff_not]; omega
                            have g2' : decide ((d : Int) < (D : Int)) = false := by rw [decide_eq_false_iff_not]; omega
                            have e : min k D = d := by omega
                            have EE := hid e
                            clear e
                            go_wp2_with fail
                            go_meet
                            exact ⟨by unfold wide; rw [EE.out], by unfold wide; rw [EE.out], R1.out.drewN m⟩
                        · have g1 : decide (d < k) = false := by rw [decide_eq_false_iff_not]; omega
                          have g1' : decide ((d : Int) < (k : Int)) = false := by rw [decide_eq_false_iff_not]; omega
                          have e : min k D = d := by omega
                          have EE := hid e
                          clear e
                          go_wp2_with fail
                          go_meet
                          exact ⟨by unfold wide; rw [EE.out], by unfold wide; rw [EE.out], R1.out.drewN m⟩
                  case rest =>
                    obtain ⟨hv1, hv2, hrw⟩ := hcut
                    subst hv1 hv2
                    have R2 := hid hrw
                    clear hrw R1
                    obtain ⟨W, hW⟩ : ∃ W, W = wc := ⟨_, rfl⟩
                    subst hW
                    obtain ⟨m0, hm0⟩ : ∃ m0, m0 = (wide f tb D k).1 := ⟨_, rfl⟩
                    obtain ⟨wh, hwh⟩ : ∃ wh, wh = (wide f tb D k).2 := ⟨_, rfl⟩
                    obtain ⟨m, hm⟩ : ∃ m, m = wideLen f tb D k := ⟨_, rfl⟩
                    have hm0le : m0 ≤ 273 := by rw [hm0]; have := wide_le f tb D k; omega
                    have hmm : m = if m0 < 2 then 0 else m0 := by rw [hm, hm0]; rfl
                    have hwk : 0 < m0 → wh < k := by
                      rw [hm0, hwh]
                      intro h5
                      have h6 : (wide f tb D k).2 < min k D := (best_at _ _ h5).1
                      omega
                    rw [← hm0, ← hwh]
                    have HWH := hid hwh
                    have HMM := hid hmm
                    have HM := hid hm
                    clear hm0 hwh hm hmm
                    go_upto_if 88 with fail
                    go_cut [18] (fun vm wx => vm = .int .i64 m ∧ wx = W)
                    case first =>
                      as_aux_lemma =>
                        by_cases h2 : m0 < 2
                        · have h2' : (m0 : Int) < 2 := by omega
                          go_wp2_with fail
                          go_meet
                          exact ⟨by rw [HMM.out, if_pos h2]; rfl, rfl⟩
                        · have h2' : ¬ (m0 : Int) < 2 := by omega
                          go_wp2_with fail
                          go_meet
                          exact ⟨by rw [HMM.out, if_neg h2], rfl⟩
                    case rest =>
                      obtain ⟨hv1, hst⟩ := hcut
                      subst hv1
                      subst hst
                      have hml : m ≤ 273 := by have := HMM.out; split at this <;> omega
                      have hmw : 2 ≤ m → wh < k := fun h => hwk (by have := HMM.out; split at this <;> omega)
                      clear HMM hwk
                      have hkn : k < n := by omega
                      have RR := hid R2.out
                      clear R2
                      go_upto_region 34 with fail
                      go_cut [96] (fun vb wx => vb = .bool (decide (2 ≤ E ∧ m ≤ E + 1)) ∧ wx = wc)
                      case first =>
                        as_aux_lemma =>
                          by_cases qa : 2 ≤ E ∧ m ≤ E + 1
                          · have g1 : decide ((2 : Int) ≤ (E : Int)) = true := by rw [decide_eq_true_iff]; omega
                            have g2 : decide ((m : Int) ≤ (E : Int) + 1) = true := by rw [decide_eq_true_iff]; omega
                            have g3 : IntKind.i64.wrap ((E : Int) + 1) = (E : Int) + 1 := by rw [IntKind.wrap_i64]; omega
                            have QA := hid qa
                            clear qa
                            go_wp2_with fail
                            go_meet
                            exact ⟨congrArg Value.bool (decide_eq_true QA.out).symm, rfl⟩
                          · have hc1 := guard_cases qa hEle
                            have QA := hid qa
                            clear qa
                            rcases hc1 with g1 | ⟨g1, g2, g3⟩ <;> (go_wp2_with fail; go_meet; exact ⟨congrArg Value.bool (decide_eq_false QA.out).symm, rfl⟩)
                      case rest =>
                        obtain ⟨hvb, hst⟩ := hcut
                        subst hst
                        by_cases qa : 2 ≤ E ∧ m ≤ E + 1
                        · have HPK := hid (pk_again HE.out HQ.out HM.out qa)
                          have hq' : q < 4 := hq4 (by omega)
                          have hq'' : (q : Int) < 4 := by omega
                          have hE2 : 2 ≤ E := qa.1
                          rw [decide_eq_true qa] at hvb
                          subst hvb
                          clear qa hq4
                          have c9 := RR.out.cell hq'
                          go_upto_block 6 with (refine opAppendPk (some 103) rfl rfl (.tmp 97) (.tmp 102) rfl (w.heap.size + 2) u12 l rfl (RR.out.own.fr ((Fr.refl Non _).alloc _) (fun _ _ _ => id)) _ _ ⟨2 + q, E, 0, 0⟩ _ rfl (by exact blk_new _ _) (by omega) (by have := RR.out.sz; simp at this ⊢; omega) ?_; intro v4 w4 ho4 hg4; have r4 := RR.out.append _ ho4 hg4; have c4 := r4.cell hq'; have R4 := hid r4; clear ho4 hg4 r4)
                          go_cut [] (fun wx => RW w (shift rr q 0) wx v4 (l ++ [⟨2 + q, E, 0, 0⟩]))
                          case first =>
                            as_aux_lemma =>
                              go_wp2_with fail
                              go_loopw [23] (fun vh wx => ∃ h : Nat, vh = .int .i64 h ∧ h ≤ q ∧ RW w (shift rr q h) wx v4 (l ++ [⟨2 + q, E, 0, 0⟩])) (fun vh _ => (intOf vh).toNat)
                              case atStart => exact ⟨q, rfl, Nat.le_refl _, R4.out.ext (fun j _ => (shift_end rr q j).symm)⟩
                              case round =>
                                obtain ⟨h, rfl, hhq, hR⟩ := hrel
                                by_cases h0 : 0 < h
                                · obtain ⟨h', hh'⟩ : ∃ h', h' = h - 1 := ⟨_, rfl⟩
                                  have hh0 : (0 : Int) < (h : Int) := by omega
                                  have hw1 : IntKind.i64.wrap ((h : Int) - 1) = (h' : Int) := by rw [IntKind.wrap_i64]; omega
                                  have hb4 : (h : Int) < 4 := by omega
                                  have hb4' : (h' : Int) < 4 := by omega
                                  have c9 := hR.cell (j := h') (by omega)
                                  have c8 := hR.cell (j := h) (by omega)
                                  have z9 := blk_frozen hR.b9 h
                                  have R5 := hid hR
                                  have HH := hid (show h = h' + 1 by omega)
                                  obtain ⟨x, hx⟩ : ∃ x, x = shift rr q h h' := ⟨_, rfl⟩
                                  rw [← hx] at c9
                                  have HX := hid hx
                                  clear hR hh' hx
                                  go_wp2_with fail
                                  go_roundw
                                  case rel => exact ⟨h', rfl, by have := HH.out; omega, R5.out.set h x (fun i _ => by rw [HX.out]; exact shift_step' rr q h h' i HH.out hhq)⟩
                                  case measure => simp [intOf]; have := HH.out; omega
                                · obtain rfl : h = 0 := by omega
                                  have R5 := hid hR
                                  clear hR
                                  go_wp2_with fail
                                  go_meet
                                  exact R5.out
                          case rest =>
                            have R5 := hid hcut
                            have c0 := hcut.cell (j := 0) (by decide)
                            have z0 := blk_frozen hcut.b9 0
                            have hrb := L.out.rb
                            have nx := L.out.next hlt HPK.out (hcut.set 0 (rr q) (fun i _ => shift_front rr q i)) (front_bound hrb hq')
                            have NX := hid nx
                            have hkE : k + E ≤ tb := nx.1.kt
                            have hE1 := nx.2
                            clear hcut nx hrb
                            go_wp2_with fail
                            go_roundw
                            case rel => exact ⟨k + E, _, _, by go_num, NX.out.1⟩
                            case measure => simp [intOf]; omega
                        · rw [decide_eq_false qa] at hvb
                          subst hvb
                          go_upto_region 43 with fail
                          go_cut [132] (fun vb wx => vb = .bool (decide (3 ≤ m ∨ m = 2 ∧ wh < 128)) ∧ wx = wc)
                          case first =>
                            as_aux_lemma =>
                              by_cases qm : 3 ≤ m ∨ m = 2 ∧ wh < 128
                              · have hc2 := guard_match qm
                                have QM := hid qm
                                clear qm qa
                                rcases hc2 with g4 | ⟨g4, g5, g6⟩ <;> (go_wp2_with fail; go_meet; exact ⟨congrArg Value.bool (decide_eq_true QM.out).symm, rfl⟩)
                              · have hc2 := guard_rest qm
                                have QM := hid qm
                                clear qm qa
                                rcases hc2 with ⟨g4, g5 | ⟨g5, g6⟩⟩ <;> (go_wp2_with fail; go_meet; exact ⟨congrArg Value.bool (decide_eq_false QM.out).symm, rfl⟩)
                          case rest =>
                            obtain ⟨hvb, hst⟩ := hcut
                            subst hst
                            by_cases qm : 3 ≤ m ∨ m = 2 ∧ wh < 128
                            · have HPK := hid (pk_match HE.out HM.out HWH.out qa qm)
                              have hwk := hmw (by omega)
                              have hww : IntKind.u32.wrap (wh : Int) = (wh : Int) := by rw [IntKind.wrap_u32]; omega
                              rw [decide_eq_true qm] at hvb
                              subst hvb
                              clear qa qm hq4 hmw
                              go_upto_region 45 with (refine opAppendPk (some 139) rfl rfl (.tmp 133) (.tmp 138) rfl (w.heap.size + 2) u12 l rfl (RR.out.own.fr ((Fr.refl Non _).alloc _) (fun _ _ _ => id)) _ _ ⟨1, m, wh, 0⟩ _ rfl (by exact blk_new _ _) (by omega) (by have := RR.out.sz; simp at this ⊢; omega) ?_; intro v4 w4 ho4 hg4; have r4 := RR.out.append _ ho4 hg4; have R4 := hid r4; clear ho4 hg4 r4)
                              have c0 := R4.out.cell (j := 0) (by decide)
                              have c1 := R4.out.cell (j := 1) (by decide)
                              have c2 := R4.out.cell (j := 2) (by decide)
                              have c3 := R4.out.cell (j := 3) (by decide)
                              have z0 := blk_frozen R4.out.b9 0
                              have z1 := blk_frozen R4.out.b9 1
                              have z2 := blk_frozen R4.out.b9 2
                              have z3 := blk_frozen R4.out.b9 3
                              have nx := L.out.next hlt HPK.out (R4.out.young wh) (young_bound L.out.rb (by omega))
                              have NX := hid nx
                              have hkm : k + m ≤ tb := nx.1.kt
                              have hm1 := nx.2
                              clear nx
                              go_wp2_with fail
                              go_roundw
                              case rel => exact ⟨k + m, _, _, by go_num, NX.out.1⟩
                              case measure => simp [intOf]; omega
                            · rw [decide_eq_false qm] at hvb
                              subst hvb
                              have QA := hid qa
                              have QM := hid qm
                              have hr0 := L.out.rb 0 (by decide)
                              have hwr : IntKind.i64.wrap (rr 0 : Int) = (rr 0 : Int) := by rw [IntKind.wrap_i64]; omega
                              have c0 := RR.out.cell (j := 0) (by decide)
                              clear qa qm hq4 hmw
                              go_wp2_with fail
                              refine (long_q w.heap.size a n c f tb D k (rr 0) _ hn htbn (by omega) (by omega) (H.out.fr RR.out.fr (fun _ _ => id))).mono ?_
                              rintro e w3 ⟨rfl, m3, rfl⟩
                              clear hwr c0 hr0
                              have RR0 := RR
                              have RR := hid (RR.out.drewN m3)
                              obtain ⟨x, hx⟩ : ∃ x, x = lenAt f tb D k (rr 0) := ⟨_, rfl⟩
                              rw [← hx]
                              by_cases hx0 : 0 < x
                              · have HPK := hid (pk_single HE.out HM.out HWH.out QA.out QM.out (by rw [← hx]; exact hx0))
                                have hx0' : (0 : Int) < (x : Int) := by omega
                                clear hx
                                go_wp2_with (refine opAppendPk (some 164) rfl rfl (.tmp 161) (.tmp 163) rfl (w.heap.size + 2) u12 l rfl (RR.out.own.fr ((Fr.refl Non _).alloc _) (fun _ _ _ => id)) _ _ ⟨6, 0, 0, 0⟩ _ rfl (by exact blk_new _ _) (by omega) (by have := RR.out.sz; simp at this ⊢; omega) ?_; intro v4 w4 ho4 hg4; have r4 := RR.out.append _ ho4 hg4; have R4 := hid r4; clear ho4 hg4 r4)
                                go_roundw
                                case rel => exact ⟨k + 1, _, _, by go_num, (L.out.next hlt HPK.out R4.out L.out.rb).1⟩
                                case measure => simp [intOf]; omega
                              · have HPK := hid (pk_literal HE.out HM.out HWH.out QA.out QM.out (by rw [← hx]; exact hx0))
                                obtain ⟨b, off, hav, _, cb⟩ := (H.out.fr RR0.out.fr (fun _ _ => id)).at hkn
                                subst hav
                                have hx0' : ¬ (0 : Int) < (x : Int) := by omega
                                have hkn' : (k : Int) < (n : Int) := by omega
                                clear hx
                                go_wp2_with (refine opAppendPk (some 174) rfl rfl (.tmp 167) (.tmp 173) rfl (w.heap.size + 2) u12 l rfl (RR.out.own.fr ((Fr.refl Non _).alloc _) (fun _ _ _ => id)) _ _ ⟨0, 0, 0, f k⟩ _ rfl (by exact blk_new _ _) (by omega) (by have := RR.out.sz; simp at this ⊢; omega) ?_; intro v4 w4 ho4 hg4; have r4 := RR.out.append _ ho4 hg4; have R4 := hid r4; clear ho4 hg4 r4)
                                go_roundw
                                case rel => exact ⟨k + 1, _, _, by go_num, (L.out.next hlt HPK.out R4.out L.out.rb).1⟩
                                case measure => simp [intOf]; omega
              · have e : tb ≤ k := by omega
                have hdone := L.out.tell.done e
                have DONE := hid hdone
                have c0 := L.out.rw.cell (j := 0) (by decide)
                have c1 := L.out.rw.cell (j := 1) (by decide)
                have c2 := L.out.rw.cell (j := 2) (by decide)
                have c3 := L.out.rw.cell (j := 3) (by decide)
                have d0 := blk_cell L.out.rw.b11 (repsA_get (fun _ => 0) (h := 0) (by decide))
                have d1 := blk_cell L.out.rw.b11 (repsA_get (fun _ => 0) (h := 1) (by decide))
                have d2 := blk_cell L.out.rw.b11 (repsA_get (fun _ => 0) (h := 2) (by decide))
                have d3 := blk_cell L.out.rw.b11 (repsA_get (fun _ => 0) (h := 3) (by decide))
                have z0 := blk_frozen L.out.rw.b11 0
                have z1 := blk_frozen L.out.rw.b11 1
                have z2 := blk_frozen L.out.rw.b11 2
                have z3 := blk_frozen L.out.rw.b11 3
                clear hL' hdone
                go_wp2_with fail
                go_region
                all_goals
                  go_wp2_with fail
                  (try simp only [Exit.inBlock, Exit.then])
                  have K := L.out.rw.out
                  refine bodyPost_ret (v := .tuple #[u12, repsV rr]) (ret_reps rfl _ _ (w.heap.size + 1) 24 #[.int .u32 (rr 0), .int .u32 (rr 1), .int .u32 (rr 2), .int .u32 (rr 3)] (0, 0) _ u12 rfl rfl (by exact K.1) Try.underlying24 rfl Try.info_r4) rfl ?_
                  exact ⟨u12, by rw [DONE.out], by rw [DONE.out]; exact K.2.1, K.2.2⟩
end Go.Proofs.Yteedolfhmiehfaa
