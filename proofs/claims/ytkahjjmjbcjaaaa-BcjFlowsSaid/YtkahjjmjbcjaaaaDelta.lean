/- The walks through package delta, its reference and Bytes: each function's contract. -/
import Derived.Test.YtkahjjmjbcjaaaaBase
import Derived.Test.YtkahjjmjbcjaaaaRows
import Derived.WalkSpells
import Derived.WalkLawsBesides
import Derived.BigQuiet
import Derived.Deep.QuietTactic
import Derived.BigRegion
import Derived.Outline
namespace Go.Proofs.Ytkahjjmjbcjaaaa
open Go.RowKit

def ringCells (d at_ : Int) (f : Nat → Int) : Array Value := (arr .u8 256 f) ++ #[.int .i64 at_, .int .i64 d]
theorem ringCells_size (d at_ : Int) (f : Nat → Int) : (ringCells d at_ f).size = 258 := by simp [ringCells, arr]
theorem ringCells_b (d at_ : Int) (f : Nat → Int) {j : Nat} (h : j < 256) : (ringCells d at_ f)[j]? = some (.int .u8 (f j)) := by
  unfold ringCells
  rw [Array.getElem?_append_left (by simp [arr_size]; omega)]
  exact arr_get _ _ _ h
theorem ringCells_at (d at_ : Int) (f : Nat → Int) : (ringCells d at_ f)[256]? = some (.int .i64 at_) := by
  unfold ringCells
  rw [Array.getElem?_append_right (by simp [arr_size])]
  simp [arr_size]
theorem ringCells_d (d at_ : Int) (f : Nat → Int) : (ringCells d at_ f)[257]? = some (.int .i64 d) := by
  unfold ringCells
  rw [Array.getElem?_append_right (by simp [arr_size])]
  simp [arr_size]
theorem ringCells_set_b (d at_ : Int) (f : Nat → Int) {j : Nat} (h : j < 256) (x : Int) : (ringCells d at_ f).setIfInBounds j (.int .u8 x) = ringCells d at_ (upd f j x) := by
  unfold ringCells
  rw [Array.setIfInBounds_append_left (by simp [arr_size]; omega), arr_set]
theorem ringCells_set_at (d at_ x : Int) (f : Nat → Int) : (ringCells d at_ f).setIfInBounds 256 (.int .i64 x) = ringCells d x f := by
  unfold ringCells
  rw [Array.setIfInBounds_append_right (by simp [arr_size])]
  simp [arr_size]
theorem ring_built (d : Int) (r : Operand → Value) (t : Nat) (hr : r (.tmp t) = .int .i64 d) : Try.prog.built 46 ((#[(2, Operand.tmp t)].map fun (i, x) => (i, r x)).toList) = some (ringCells d 0 (fun _ => 0)) := by
  have : Try.prog.built 46 [(2, .int .i64 d)] = some (ringCells d 0 (fun _ => 0)) := by kernel_rfl
  simpa [hr] using this
theorem ring_alloc (w : World) : (Instr.alloc 46 true (.tuple #[])).run Try.prog w = .ok (.pointer (some ⟨w.heap.size, 0, none⟩)) (w.alloc (.cells (ringCells 0 0 (fun _ => 0)) 46)) := by
  kernel_rfl

def RingAt (w : World) (g : Nat) (at_ d : Nat) (f : Nat → Int) : Prop := w.heap[g]? = some (.cells (ringCells d at_ f) 46)
def nxt (at_ d : Nat) : Nat := if at_ + 1 = d then 0 else at_ + 1

theorem may_yes (d : Int) (w : World) (h0 : 1 ≤ d) (h1 : d ≤ 256) :
    Calls Try.prog 18 #[.int .i64 d] w fun e w' => e = .returned (.bool true) ∧ w = w' := by
  go_enter Try.func18, Try.ntmps18
  go_wp2
  go_ret
  exact ⟨rfl, rfl⟩
theorem may_no (d : Int) (w : World) (h : ¬ (1 ≤ d ∧ d ≤ 256)) (h0 : -9223372036854775808 ≤ d) (h1 : d ≤ 9223372036854775807) :
    Calls Try.prog 18 #[.int .i64 d] w fun e w' => e = .returned (.bool false) ∧ w = w' := by
  by_cases h2 : 1 ≤ d
  · have h3 : decide (d ≤ 256) = false := by simp; omega
    clear h
    go_enter Try.func18, Try.ntmps18
    go_wp2
    go_ret
    exact ⟨rfl, rfl⟩
  · clear h
    go_enter Try.func18, Try.ntmps18
    go_wp2
    go_ret
    exact ⟨rfl, rfl⟩

theorem old_any (g at_ d : Nat) (f : Nat → Int) (w : World) (ha : at_ < d) (hd : d ≤ 256) (h : RingAt w g at_ d f) :
    Calls Try.prog 21 #[.pointer (some ⟨g, 0, none⟩)] w fun e w' => e = .returned (.int .u8 (f at_)) ∧ ∃ n, w' = w.drewN n := by
  have hat := blk_cell h (ringCells_at d at_ f)
  have hx := blk_cell h (ringCells_b d at_ f (j := at_) (by omega))
  have h1 : (at_ : Int) < 256 := by omega
  have h2 : (0 : Int) ≤ (at_ : Int) := by omega
  clear h
  go_enter Try.func21, Try.ntmps21
  go_wp2
  go_quiet (fail)
  go_wp2
  go_ret
  exact ⟨rfl, _, rfl⟩

def PutPost (w : World) (g at_ d : Nat) (f : Nat → Int) (x : Int) (e : Ending) (w' : World) : Prop :=
  e = .returned (.int .u8 x) ∧ Fr (fun k => k = g) w w' ∧ RingAt w' g (nxt at_ d) d (upd f at_ x)

set_option maxRecDepth 100000 in
theorem put_any (g at_ d : Nat) (f : Nat → Int) (x : Int) (w : World) (ha : at_ < d) (hd : d ≤ 256) (h : RingAt w g at_ d f) :
    Calls Try.prog 20 #[.pointer (some ⟨g, 0, none⟩), .int .u8 x] w (PutPost w g at_ d f x) := by
  have hat := blk_cell h (ringCells_at d at_ f)
  have hdc := blk_cell h (ringCells_d d at_ f)
  have hx := blk_cell h (ringCells_b d at_ f (j := at_) (by omega))
  have f1 := blk_frozen h at_
  have f2 := blk_frozen h 256
  have h1 : (at_ : Int) < 256 := by omega
  have h2 : (0 : Int) ≤ (at_ : Int) := by omega
  have H := hid h
  clear h
  by_cases h : at_ + 1 = d
  · have h' : ((at_ : Int) + 1 == (d : Int)) = true := by simp; omega
    have H2 := hid h
    clear h
    go_enter Try.func20, Try.ntmps20
    go_wp2
    go_region
    all_goals go_wp2
    go_quiet (fail)
    go_wp2
    go_ret
    refine ⟨rfl, ?_, ?_⟩
    · repeat (first | exact Fr.refl _ _ | refine Fr.drewN ?_ _ | refine Fr.drew ?_ | refine Fr.setOne ?_ _ _)
    · have e := blk_set (i := 256) (v := .int .i64 0) (blk_set (i := 256) (v := .int .i64 (at_ + 1)) (blk_set (i := at_) (v := .int .u8 x) H.out))
      rw [ringCells_set_b _ _ _ (by omega), ringCells_set_at, ringCells_set_at] at e
      unfold nxt
      rw [if_pos H2.out]
      exact e
  · have h' : ((at_ : Int) + 1 == (d : Int)) = false := by simp; omega
    have H2 := hid h
    clear h
    go_enter Try.func20, Try.ntmps20
    go_wp2
    go_region
    all_goals go_wp2
    go_quiet (fail)
    go_wp2
    go_ret
    refine ⟨rfl, ?_, ?_⟩
    · repeat (first | exact Fr.refl _ _ | refine Fr.drewN ?_ _ | refine Fr.drew ?_ | refine Fr.setOne ?_ _ _)
    · have e := (blk_set (i := 256) (v := .int .i64 (at_ + 1)) (blk_set (i := at_) (v := .int .u8 x) H.out))
      rw [ringCells_set_b _ _ _ (by omega), ringCells_set_at] at e
      unfold nxt
      rw [if_neg H2.out]
      exact e

/-! ### Code and Decode -/
def old13 (h : Nat → Int) (d k : Nat) : Int := if k < d then 0 else h (k - d)
def code13 (f : Nat → Int) (d i : Nat) : Int := (f i - old13 f d i) % 256
def dec13 (f : Nat → Int) (d : Nat) (i : Nat) : Int := if h : i < d ∨ d = 0 then f i % 256 else (f i + dec13 f d (i - d)) % 256
termination_by i
decreasing_by omega
theorem dec13_eq (f : Nat → Int) (d i : Nat) (hd : 0 < d) : dec13 f d i = (f i + old13 (dec13 f d) d i) % 256 := by
  rw [dec13]
  unfold old13
  by_cases h : i < d
  · rw [dif_pos (.inl h), if_pos h, Int.add_zero]
  · rw [dif_neg (by omega), if_neg h]
def RingInv (h : Nat → Int) (d k at_ : Nat) (f : Nat → Int) : Prop :=
  at_ < d ∧ at_ ≤ k ∧ ∀ j, j < d → f j = if j < at_ then h (k - at_ + j) else old13 h d (k - at_ + j)
theorem RingInv.start (h : Nat → Int) (d : Nat) (hd : 0 < d) : RingInv h d 0 0 (fun _ => 0) :=
  ⟨hd, Nat.le_refl _, fun j hj => by simp [old13, hj]⟩
theorem RingInv.old {h : Nat → Int} {d k at_ : Nat} {f : Nat → Int} (r : RingInv h d k at_ f) : f at_ = old13 h d k := by
  obtain ⟨h1, h2, h3⟩ := r
  rw [h3 at_ h1, if_neg (by omega)]
  congr 1
  omega
theorem RingInv.step {h : Nat → Int} {d k at_ : Nat} {f : Nat → Int} (r : RingInv h d k at_ f) (x : Int) (hx : x = h k) : RingInv h d (k + 1) (nxt at_ d) (upd f at_ x) := by
  obtain ⟨h1, h2, h3⟩ := r
  subst hx
  unfold nxt
  by_cases e : at_ + 1 = d
  · rw [if_pos e]
    refine ⟨by omega, by omega, fun j hj => ?_⟩
    rw [if_neg (by omega)]
    unfold old13
    rw [if_neg (by omega)]
    unfold upd
    by_cases e2 : j = at_
    · rw [if_pos e2]; congr 1; omega
    · rw [if_neg e2, h3 j hj, if_pos (by omega)]; congr 1; omega
  · rw [if_neg e]
    refine ⟨by omega, by omega, fun j hj => ?_⟩
    unfold upd
    have e3 : k + 1 - (at_ + 1) = k - at_ := by omega
    rw [e3]
    by_cases e2 : j = at_
    · rw [if_pos e2, if_pos (by omega)]; congr 1; omega
    · rw [if_neg e2, h3 j hj]
      by_cases e4 : j < at_
      · rw [if_pos e4, if_pos (by omega)]
      · rw [if_neg e4, if_neg (by omega)]

theorem Try.info_u8 : (Try.prog.info? 5).map (fun i => (i.zero, i.size, i.bytes)) = some (some (.int .u8 0), 1, 1) := by kernel_rfl
theorem make_u8 (n : Nat) (hn : n ≤ 1048576) (w : World) : (Instr.makeSlice 22 (.int .i64 n) (.int .i64 n)).run Try.prog w = .ok (.slice (some ⟨w.heap.size, 0, none⟩) n n) (w.alloc (.cells (arr .u8 n (fun _ => 0)) 5)) := by
  obtain ⟨i, hi, hz0, hz1, hz2⟩ := info_parts Try.info_u8
  have h := run_make (P := Try.prog) w 22 5 i (.int .u8 0) Try.underlying22 hi hz0 .i64 .i64 n n (by omega) (by omega) (by rw [hz2]; omega) (by omega)
  simp only [Int.toNat_natCast, hz1, arr_made] at h
  exact h

/-- a new row of n bytes c, and a code 0. -/
def CodePost (w : World) (n : Nat) (c : Nat → Int) (e : Ending) (w' : World) : Prop :=
  ∃ g, w.heap.size ≤ g ∧ e = .returned (.tuple #[.slice (some ⟨g, 0, none⟩) n n, .int .i64 0]) ∧ Fr Non w w' ∧ w'.heap[g]? = some (.cells (arr .u8 n c) 5)

set_option maxRecDepth 100000 in
set_option maxHeartbeats 1000000 in
theorem decode_any (a : Option Addr) (n cap d : Nat) (f : Nat → Int) (w : World) (hd0 : (1 : Int) ≤ (d : Int)) (hd1 : (d : Int) ≤ 256) (hn : n ≤ 1048576)
    (h : RowIn w.heap.size .u8 w a n f) (hf : ∀ i, i < n → 0 ≤ f i ∧ f i < 256) :
    Calls Try.prog 16 #[.slice a n cap, .int .i64 d] w (CodePost w n (dec13 f d)) := by
  have hmk := make_u8 n hn
  have H := hid h
  have Hf := hid hf
  clear h hf
  go_enter Try.func16, Try.ntmps16
  go_wp2_with (first
    | (go_at_call 18; refine (may_yes _ _ hd0 hd1).mono ?_; rintro e w' ⟨rfl, rfl⟩)
    | (refine opRun (some 14) rfl rfl (.agg (ringCells d 0 (fun _ => 0))) _ (by unfold execOp; simp only []; rw [run_bind_ok (run_build _ _ _ _ (ring_built d _ 13 rfl))]; rfl) ?_)
    | (refine opRun (some 6) rfl rfl (.pointer (some ⟨w.heap.size, 0, none⟩)) _ (by unfold execOp; simp only []; rw [run_bind_ok (ring_alloc _)]; rfl) ?_)
    | (refine wpList_store_row rfl 46 _ _ rfl w.heap.size (ringCells d 0 (fun _ => 0)) rfl rfl 46 (ringCells 0 0 (fun _ => 0)) (heap_alloc_new w _) (by rw [ringCells_size]; kernel_rfl) (by rw [ringCells_size, ringCells_size]) (by kernel_rfl) ?_; rw [setRow_new]))
  go_loopw [20] (fun i wr => ∃ k at_ : Nat, ∃ fr : Nat → Int, k ≤ n ∧ i = .int .i64 k ∧ RingInv (dec13 f d) d k at_ fr ∧ RingAt wr w.heap.size at_ d fr ∧
      wr.heap[w.heap.size + 1]? = some (.cells (arr .u8 n (fun j => if j < k then dec13 f d j else 0)) 5) ∧ Fr Non w wr)
    (fun i _ => n - (intOf i).toNat)
  case atStart =>
    refine ⟨0, 0, fun _ => 0, Nat.zero_le _, rfl, RingInv.start _ _ (by omega), ?_, ?_, ?_⟩
    · exact blk_alloc (blk_new _ _)
    · simpa using blk_new (w.alloc _) _
    · exact ((Fr.refl _ _).alloc _).alloc _
  case round =>
    obtain ⟨k, at_, fr, hk, rfl, hinv, hring, hrow, hfr⟩ := hrel
    by_cases hlt : k < n
    · obtain ⟨b, off, rfl, hb, hcell⟩ := H.out.at hlt
      have hx := hfr.cell hcell id
      have hb0 := (Hf.out k hlt).1
      have hb1 := (Hf.out k hlt).2
      have hc := blk_cell hrow (arr_get _ _ _ hlt)
      have hz := blk_frozen hrow k
      have ha := hinv.1
      have hd2 : d ≤ 256 := by omega
      have Hrow := hid hrow
      have Hring := hid hring
      have Hold := hid hinv.old
      clear hrow hcell hring
      go_wp2_with fail
      refine (old_any _ at_ d fr _ ha hd2 Hring.out).mono ?_
      rintro e w' ⟨rfl, n1, rfl⟩
      go_wp2_with fail
      refine (put_any _ at_ d fr _ _ ha hd2 (by exact Hring.out)).mono ?_
      rintro e w2 ⟨rfl, hf2, hr2⟩
      have hc2 := hf2.cellNe (by exact hc) (by omega)
      have hz2 := hf2.frozenNe (by exact blk_lt Hrow.out) (by exact hz) (by omega)
      have Hf2 := hid hf2
      have Hr2 := hid hr2
      clear hf2 hr2
      go_wp2_with fail
      go_roundw
      case rel =>
        refine ⟨k + 1, nxt at_ d, upd fr at_ ((f k + fr at_) % 256), by omega, by go_num, ?_, ?_, ?_, ?_⟩
        · exact hinv.step _ (by rw [Hold.out, dec13_eq _ _ _ (by omega)])
        · exact blk_set_ne Hr2.out (by show w.heap.size ≠ w.heap.size + 1; omega)
        · have e := blk_set (i := k) (v := .int .u8 ((f k + fr at_) % 256)) (Hf2.out.blkNe (by exact Hrow.out) (by omega))
          rw [arr_set] at e
          refine e.trans ?_
          congr 2
          refine arr_ext fun i hi => ?_
          unfold upd
          by_cases e1 : i = k
          · rw [if_pos e1, if_pos (by omega), e1, Hold.out, dec13_eq _ _ _ (by omega)]
          · rw [if_neg e1]
            show (if i < k then _ else _) = _
            by_cases e2 : i < k
            · rw [if_pos e2, if_pos (by omega)]
            · rw [if_neg e2, if_neg (by omega)]
        · refine Fr.setNew ((hfr.drewN n1).then Hf2.out (fun i hi e => ?_)) (by omega) _ _
          exact absurd e (by omega)
      case measure => simp [intOf]; omega
    · have e : k = n := by omega
      subst e
      have Hrow := hid hrow
      have Hfr := hid hfr
      clear hrow hfr hring hinv
      go_wp2_with fail
      go_ret2
      refine ⟨w.heap.size + 1, by omega, rfl, Hfr.out, Hrow.out.trans ?_⟩
      congr 2
      exact arr_ext fun i hi => if_pos hi

set_option maxRecDepth 100000 in
set_option maxHeartbeats 1000000 in
theorem code_any (a : Option Addr) (n cap d : Nat) (f : Nat → Int) (w : World) (hd0 : (1 : Int) ≤ (d : Int)) (hd1 : (d : Int) ≤ 256) (hn : n ≤ 1048576)
    (h : RowIn w.heap.size .u8 w a n f) (hf : ∀ i, i < n → 0 ≤ f i ∧ f i < 256) :
    Calls Try.prog 15 #[.slice a n cap, .int .i64 d] w (CodePost w n (code13 f d)) := by
  have hmk := make_u8 n hn
  have H := hid h
  have Hf := hid hf
  clear h hf
  go_enter Try.func15, Try.ntmps15
  go_wp2_with (first
    | (go_at_call 18; refine (may_yes _ _ hd0 hd1).mono ?_; rintro e w' ⟨rfl, rfl⟩)
    | (refine opRun (some 14) rfl rfl (.agg (ringCells d 0 (fun _ => 0))) _ (by unfold execOp; simp only []; rw [run_bind_ok (run_build _ _ _ _ (ring_built d _ 13 rfl))]; rfl) ?_)
    | (refine opRun (some 6) rfl rfl (.pointer (some ⟨w.heap.size, 0, none⟩)) _ (by unfold execOp; simp only []; rw [run_bind_ok (ring_alloc _)]; rfl) ?_)
    | (refine wpList_store_row rfl 46 _ _ rfl w.heap.size (ringCells d 0 (fun _ => 0)) rfl rfl 46 (ringCells 0 0 (fun _ => 0)) (heap_alloc_new w _) (by rw [ringCells_size]; kernel_rfl) (by rw [ringCells_size, ringCells_size]) (by kernel_rfl) ?_; rw [setRow_new]))
  go_loopw [20] (fun i wr => ∃ k at_ : Nat, ∃ fr : Nat → Int, k ≤ n ∧ i = .int .i64 k ∧ RingInv f d k at_ fr ∧ RingAt wr w.heap.size at_ d fr ∧
      wr.heap[w.heap.size + 1]? = some (.cells (arr .u8 n (fun j => if j < k then code13 f d j else 0)) 5) ∧ Fr Non w wr)
    (fun i _ => n - (intOf i).toNat)
  case atStart =>
    refine ⟨0, 0, fun _ => 0, Nat.zero_le _, rfl, RingInv.start _ _ (by omega), ?_, ?_, ?_⟩
    · exact blk_alloc (blk_new _ _)
    · simpa using blk_new (w.alloc _) _
    · exact ((Fr.refl _ _).alloc _).alloc _
  case round =>
    obtain ⟨k, at_, fr, hk, rfl, hinv, hring, hrow, hfr⟩ := hrel
    by_cases hlt : k < n
    · obtain ⟨b, off, rfl, hb, hcell⟩ := H.out.at hlt
      have hx := hfr.cell hcell id
      have hb0 := (Hf.out k hlt).1
      have hb1 := (Hf.out k hlt).2
      have hc := blk_cell hrow (arr_get _ _ _ hlt)
      have hz := blk_frozen hrow k
      have ha := hinv.1
      have hd2 : d ≤ 256 := by omega
      have Hrow := hid hrow
      have Hring := hid hring
      have Hold := hid hinv.old
      clear hrow hcell hring
      go_wp2_with fail
      refine (old_any _ at_ d fr _ ha hd2 Hring.out).mono ?_
      rintro e w' ⟨rfl, n1, rfl⟩
      go_wp2_with fail
      refine (put_any _ at_ d fr _ _ ha hd2 (blk_set_ne (by exact Hring.out) (by show w.heap.size ≠ w.heap.size + 1; omega))).mono ?_
      rintro e w2 ⟨rfl, hf2, hr2⟩
      have Hf2 := hid hf2
      have Hr2 := hid hr2
      clear hf2 hr2
      go_wp2_with fail
      go_roundw
      case rel =>
        refine ⟨k + 1, nxt at_ d, upd fr at_ (f k), by omega, by go_num, hinv.step _ rfl, Hr2.out, ?_, ?_⟩
        · have e := Hf2.out.blkNe (blk_set (i := k) (v := .int .u8 ((f k - fr at_) % 256)) (by exact Hrow.out)) (by omega)
          rw [arr_set] at e
          refine e.trans ?_
          congr 2
          refine arr_ext fun i hi => ?_
          unfold upd
          by_cases e1 : i = k
          · rw [if_pos e1, if_pos (by omega), e1, Hold.out]; rfl
          · rw [if_neg e1]
            show (if i < k then _ else _) = _
            by_cases e2 : i < k
            · rw [if_pos e2, if_pos (by omega)]
            · rw [if_neg e2, if_neg (by omega)]
        · refine Fr.then (Fr.setNew (hfr.drewN n1) (by omega) _ _) Hf2.out (fun i hi e => ?_)
          exact absurd e (by omega)
      case measure => simp [intOf]; omega
    · have e : k = n := by omega
      subst e
      have Hrow := hid hrow
      have Hfr := hid hfr
      clear hrow hfr hring hinv
      go_wp2_with fail
      go_ret2
      refine ⟨w.heap.size + 1, by omega, rfl, Hfr.out, Hrow.out.trans ?_⟩
      congr 2
      exact arr_ext fun i hi => if_pos hi

/-- Bytes only reads. -/
theorem bytes_q (a b : Option Addr) (n c1 c2 : Nat) (f g : Nat → Int) (w : World) (hn : n ≤ 4611686018427387904) (B : Nat)
    (ha : RowIn B .u8 w a n f) (hb : RowIn B .u8 w b n g) (hfg : ∀ i, i < n → f i = g i) :
    Calls Try.prog 17 #[.slice a n c1, .slice b n c2] w fun e w' => e = .returned (.bool true) ∧ ∃ m, w' = w.drewN m := by
  have Ha := hid ha
  have Hb := hid hb
  have Hfg := hid hfg
  clear ha hb hfg
  go_enter Try.func17, Try.ntmps17
  go_wp2
  go_loopw [5] (fun i wr => ∃ k m : Nat, k ≤ n ∧ i = .int .i64 k ∧ wr = w.drewN m) (fun i _ => n - (intOf i).toNat)
  case atStart => exact ⟨0, 0, Nat.zero_le _, rfl, rfl⟩
  case round =>
    obtain ⟨k, m, hk, rfl, rfl⟩ := hrel
    by_cases hlt : k < n
    · obtain ⟨b1, o1, rfl, hB1, hx⟩ := Ha.out.at hlt
      obtain ⟨b2, o2, rfl, hB2, hy⟩ := Hb.out.at hlt
      rw [Hfg.out k hlt] at hx
      have h0 : (0 : Int) ≤ (k : Int) := by omega
      have h1 : (k : Int) < (n : Int) := by omega
      go_wp2
      go_quiet (fail)
      go_wp2
      go_roundw
      case rel => exact ⟨k + 1, m + nq, by omega, by go_num, by simp⟩
      case measure => simp [intOf]; omega
    · have e : k = n := by omega
      subst e
      go_wp2
      go_ret
      exact ⟨rfl, _, rfl⟩
theorem bytes_yes (a b : Option Addr) (n c1 c2 : Nat) (f g : Nat → Int) (w : World) (hn : n ≤ 4611686018427387904) (B : Nat)
    (ha : RowIn B .u8 w a n f) (hb : RowIn B .u8 w b n g) (hfg : ∀ i, i < n → f i = g i) :
    Calls Try.prog 17 #[.slice a n c1, .slice b n c2] w fun e w' => e = .returned (.bool true) ∧ Fr Non w w' :=
  (bytes_q a b n c1 c2 f g w hn B ha hb hfg).mono fun _ _ ⟨h1, _, h2⟩ => ⟨h1, by rw [h2]; exact (Fr.refl _ _).drewN _⟩
end Go.Proofs.Ytkahjjmjbcjaaaa
