/- Plain lemmas about worlds, blocks and rows of numbers: no statement of the seat is proved here. -/
import Derived.WalkKit
import Derived.Deep.Draws
import Derived.Laws.AppendOwnNone
namespace Go.Proofs.Ytkahjjmjbcjaaaa
open Go.RowKit

theorem hid {p : Prop} (h : p) : Hid p := h

/-- w' is w but for new blocks, and for blocks of S. -/
structure Fr (S : Nat → Prop) (w w' : World) : Prop where
  os : w'.os = w.os
  tape : w'.tape = w.tape
  output : w'.output = w.output
  size : w.heap.size ≤ w'.heap.size
  block : ∀ k, k < w.heap.size → ¬ S k → w'.heap[k]? = w.heap[k]?

/-- nothing that was there has turned. -/
def Non : Nat → Prop := fun _ => False

theorem Fr.refl (S : Nat → Prop) (w : World) : Fr S w w := ⟨rfl, rfl, rfl, Nat.le_refl _, fun _ _ _ => rfl⟩
theorem Fr.trans {S : Nat → Prop} {a b c : World} (h : Fr S a b) (k : Fr S b c) : Fr S a c :=
  ⟨k.os.trans h.os, k.tape.trans h.tape, k.output.trans h.output, Nat.le_trans h.size k.size,
   fun i hi hs => (k.block i (Nat.lt_of_lt_of_le hi h.size) hs).trans (h.block i hi hs)⟩
theorem Fr.mono {S S' : Nat → Prop} {w w' : World} (h : Fr S w w') (hs : ∀ k, k < w.heap.size → S k → S' k) : Fr S' w w' :=
  ⟨h.os, h.tape, h.output, h.size, fun k hk hn => h.block k hk (fun e => hn (hs k hk e))⟩
theorem Fr.any {S : Nat → Prop} {w w' : World} (h : Fr Non w w') : Fr S w w' := h.mono fun _ _ e => e.elim
/-- two steps; the second one's blocks are the first one's, or new. -/
theorem Fr.then {S T : Nat → Prop} {a b c : World} (h : Fr S a b) (k : Fr T b c) (ht : ∀ i, i < a.heap.size → T i → S i) : Fr S a c :=
  ⟨k.os.trans h.os, k.tape.trans h.tape, k.output.trans h.output, Nat.le_trans h.size k.size,
   fun i hi hs => (k.block i (Nat.lt_of_lt_of_le hi h.size) (fun e => hs (ht i hi e))).trans (h.block i hi hs)⟩
theorem Fr.drew {S : Nat → Prop} {a w : World} (h : Fr S a w) : Fr S a w.drew := ⟨h.os, h.tape, h.output, h.size, h.block⟩
theorem Fr.drewN {S : Nat → Prop} {a w : World} (h : Fr S a w) (n : Nat) : Fr S a (w.drewN n) := ⟨h.os, h.tape, h.output, h.size, h.block⟩
theorem Fr.alloc {S : Nat → Prop} {a w : World} (h : Fr S a w) (o : Obj) : Fr S a (w.alloc o) :=
  h.trans ⟨rfl, rfl, rfl, by simp, fun k hk _ => Below.heap_alloc _ _ _ hk⟩
theorem Fr.setCell {S : Nat → Prop} {a w : World} (h : Fr S a w) {p : Addr} (hp : p.block < a.heap.size → S p.block) (u : Value) : Fr S a (w.setCell p u) :=
  h.then (T := fun k => k = p.block) ⟨rfl, rfl, rfl, by simp [World.setCell], fun _ _ hs => Below.heap_setCell _ _ _ _ hs⟩ (fun _ hi e => by subst e; exact hp hi)
theorem Fr.setOne {g : Nat} {a w : World} (h : Fr (fun k => k = g) a w) (i : Nat) (u : Value) : Fr (fun k => k = g) a (w.setCell ⟨g, i, none⟩ u) :=
  h.setCell (fun _ => rfl) u
theorem Fr.setNew {S : Nat → Prop} {g : Nat} {a w : World} (h : Fr S a w) (hg : a.heap.size ≤ g) (i : Nat) (u : Value) : Fr S a (w.setCell ⟨g, i, none⟩ u) :=
  h.setCell (fun hi => absurd hi (by show ¬ g < _; omega)) u
theorem Fr.grown {S : Nat → Prop} {a w w' : World} {row : Option Nat} (h : Fr S a w) (hg : w.grownBy w' row) (hr : ∀ k, row = some k → k < a.heap.size → S k) : Fr S a w' :=
  h.then (T := fun k => row = some k) ⟨hg.os, hg.tape, hg.output, hg.size, fun k hk hs => hg.block k hk (fun e => hs e.symm)⟩ (fun k hi e => hr k e hi)
theorem Fr.below {w w' : World} (h : Fr Non w w') : Below w.heap.size w w' := ⟨h.os, h.tape, h.output, h.size, fun k hk => h.block k hk id⟩
theorem Fr.belowB {S : Nat → Prop} {B : Nat} {w w' : World} (h : Fr S w w') (hB : B ≤ w.heap.size) (hS : ∀ k, k < B → ¬ S k) : Below B w w' :=
  ⟨h.os, h.tape, h.output, h.size, fun k hk => h.block k (by omega) (hS k hk)⟩
theorem Fr.ofBelow {w w' : World} (h : Below w.heap.size w w') : Fr Non w w' := ⟨h.os, h.tape, h.output, h.size, fun k hk _ => h.block k hk⟩

theorem blk_lt {w : World} {g : Nat} {o : Obj} (h : w.heap[g]? = some o) : g < w.heap.size := (Array.getElem?_eq_some_iff.1 h).1
theorem Fr.blk {S : Nat → Prop} {w w' : World} (h : Fr S w w') {g : Nat} {o : Obj} (hg : w.heap[g]? = some o) (hs : ¬ S g) : w'.heap[g]? = some o :=
  (h.block g (blk_lt hg) hs).trans hg
theorem cell_lt {w : World} {p : Addr} {v : Value} (h : w.cell? p = some v) : p.block < w.heap.size := block_lt_of_cell h
theorem Fr.cell {S : Nat → Prop} {w w' : World} (h : Fr S w w') {p : Addr} {v : Value} (hg : w.cell? p = some v) (hs : ¬ S p.block) : w'.cell? p = some v :=
  (World.cell?_of_block (w := w) (h.block p.block (cell_lt hg) hs)).trans hg
theorem Fr.frozen {S : Nat → Prop} {w w' : World} (h : Fr S w w') {p : Addr} {b : Bool} (hlt : p.block < w.heap.size) (hg : w.frozen? p = b) (hs : ¬ S p.block) : w'.frozen? p = b :=
  (World.frozen?_of_block (w := w) (h.block p.block hlt hs)).trans hg

theorem run_bind_ok {α β : Type} {P : Program} {s : Sem α} {k : α → Sem β} {w w' : World} {x : α} (h : s.run P w = .ok x w') : (s >>= k).run P w = (k x).run P w' := by
  rw [Sem.run_bind, h]; rfl
theorem Fr.cellNe {g b o : Nat} {w w' : World} {v : Value} (h : Fr (fun k => k = g) w w') (hg : w.cell? ⟨b, o, none⟩ = some v) (hn : b ≠ g) : w'.cell? ⟨b, o, none⟩ = some v := h.cell hg hn
theorem Fr.frozenNe {g b o : Nat} {w w' : World} {v : Bool} (h : Fr (fun k => k = g) w w') (hlt : b < w.heap.size) (hg : w.frozen? ⟨b, o, none⟩ = v) (hn : b ≠ g) : w'.frozen? ⟨b, o, none⟩ = v := h.frozen hlt hg hn
theorem Fr.blkNe {g b : Nat} {w w' : World} {o : Obj} (h : Fr (fun k => k = g) w w') (hg : w.heap[b]? = some o) (hn : b ≠ g) : w'.heap[b]? = some o := h.blk hg hn
/-- one operation whose run is known as a whole. -/
theorem opRun {P : Program} {ops : Array Oper} {rest : List Oper} {o : Oper} {a : Act} {w : World} {Q : Exit → Act → World → Prop} (d : Option Tmp) (hg : o.guard = none) (hd : o.dst = d)
    (v : Value) (w' : World) (hr : (execOp a.eval o).run P w = .ok (.value v) w') (h : wpList P ops Q rest (a.put d v) w') : wpList P ops Q (o :: rest) a w := by
  refine wpList_plain hg fun K hK => ?_
  show o.upon P a K Q ((execOp a.eval o).run P w)
  rw [hr, Oper.upon_value, hd]
  exact hK _ _ h
/-- the same for one that yields nothing. -/
theorem opSkip {P : Program} {ops : Array Oper} {rest : List Oper} {o : Oper} {a : Act} {w : World} {Q : Exit → Act → World → Prop} (hg : o.guard = none) (hd : o.dst = none)
    (w' : World) (hr : (execOp a.eval o).run P w = .ok .skip w') (h : wpList P ops Q rest a w') : wpList P ops Q (o :: rest) a w := by
  refine wpList_plain hg fun K hK => ?_
  show o.upon P a K Q ((execOp a.eval o).run P w)
  rw [hr, Oper.upon_skip, hd]
  exact hK _ _ h

/-! ### blocks, read off a world that is written out -/
theorem blk_set {w : World} {g i : Nat} {cs : Array Value} {t : TypeId} {v : Value} (h : w.heap[g]? = some (.cells cs t)) :
    (w.setCell ⟨g, i, none⟩ v).heap[g]? = some (.cells (cs.setIfInBounds i v) t) := heap_setCell_same w g i cs t v h
theorem blk_set_ne {w : World} {a : Addr} {k : Nat} {v : Value} {o : Obj} (h : w.heap[k]? = some o) (hn : k ≠ a.block) : (w.setCell a v).heap[k]? = some o :=
  (heap_setCell_other w a k v hn).trans h
theorem blk_alloc {w : World} {o o' : Obj} {k : Nat} (h : w.heap[k]? = some o) : (w.alloc o').heap[k]? = some o :=
  (Below.heap_alloc w o' k (blk_lt h)).trans h
theorem blk_new (w : World) (o : Obj) : (w.alloc o).heap[w.heap.size]? = some o := heap_alloc_new w o
theorem blk_drew {w : World} {o : Obj} {k : Nat} (h : w.heap[k]? = some o) : w.drew.heap[k]? = some o := h
theorem blk_drewN {w : World} {o : Obj} {k n : Nat} (h : w.heap[k]? = some o) : (w.drewN n).heap[k]? = some o := h
theorem blk_cell {w : World} {g : Nat} {cs : Array Value} {t : TypeId} {f : Nat × Nat} (h : w.heap[g]? = some (.cells cs t f)) {j : Nat} {v : Value} (hv : cs[j]? = some v) :
    w.cell? ⟨g, j, none⟩ = some v := (cell_of_row w g j cs t f h).trans hv
theorem blk_frozen {w : World} {g : Nat} {cs : Array Value} {t : TypeId} (h : w.heap[g]? = some (.cells cs t)) (j : Nat) : w.frozen? ⟨g, j, none⟩ = false :=
  frozen_of_row w g j cs t h

theorem setRow_new (w : World) (c c' : Array Value) (t : TypeId) : (w.alloc (.cells c t)).setRow w.heap.size c' = w.alloc (.cells c' t) := by
  unfold World.setRow World.alloc
  congr 1
  apply Array.ext_getElem?
  intro k
  rw [Array.getElem?_modify]
  by_cases hk : w.heap.size = k
  · subst hk
    simp
  · have hk' : k ≠ w.heap.size := fun e => hk e.symm
    simp [hk, hk', Array.getElem?_push]

/-! ### a row of n integers of kind k: cell i holds f i -/
def arr (k : IntKind) (n : Nat) (f : Nat → Int) : Array Value := (Array.range n).map fun i => .int k (f i)
theorem arr_size (k : IntKind) (n : Nat) (f : Nat → Int) : (arr k n f).size = n := by simp [arr]
theorem arr_get (k : IntKind) (n : Nat) (f : Nat → Int) {i : Nat} (h : i < n) : (arr k n f)[i]? = some (.int k (f i)) := by
  simp [arr, h]
theorem arr_ext {k : IntKind} {n : Nat} {f f' : Nat → Int} (h : ∀ i, i < n → f i = f' i) : arr k n f = arr k n f' := by
  apply Array.ext (by simp [arr])
  intro i h1 h2
  simp [arr] at h1 ⊢
  exact h i h1
def upd (f : Nat → Int) (i : Nat) (x : Int) : Nat → Int := fun j => if j = i then x else f j
theorem upd_same (f : Nat → Int) (i : Nat) (x : Int) : upd f i x i = x := by simp [upd]
theorem upd_ne (f : Nat → Int) {i j : Nat} (x : Int) (h : j ≠ i) : upd f i x j = f j := by simp [upd, h]
theorem arr_get? (k : IntKind) (n : Nat) (f : Nat → Int) (i : Nat) : (arr k n f)[i]? = if i < n then some (.int k (f i)) else none := by
  by_cases h : i < n <;> simp [arr, h]
theorem arr_set (k : IntKind) (n : Nat) (f : Nat → Int) (i : Nat) (x : Int) : (arr k n f).setIfInBounds i (.int k x) = arr k n (upd f i x) := by
  apply Array.ext_getElem?
  intro j
  rw [Array.getElem?_setIfInBounds, arr_get?, arr_get?, arr_size, upd]
  by_cases h : i = j
  · subst h; simp
  · have h' : ¬ j = i := fun e => h e.symm
    simp [h, h']
theorem arr_made (k : IntKind) (n : Nat) : madeCells (Value.cells (.int k 0)) (n * 1) = arr k n fun _ => 0 := by
  apply Array.ext (by simp [madeCells, arr])
  intro j h1 h2
  simp [madeCells, arr, Value.cells]
  simp [Nat.mod_one]

/-- what a slice that came in reads as: n integers; they lie below block B. -/
def RowIn (B : Nat) (k : IntKind) (w : World) (a : Option Addr) (n : Nat) (f : Nat → Int) : Prop :=
  n = 0 ∨ ∃ b off, a = some ⟨b, off, none⟩ ∧ b < B ∧ ∀ i, i < n → w.cell? ⟨b, off + i, none⟩ = some (.int k (f i))
theorem RowIn.fr {B : Nat} {k : IntKind} {w w' : World} {a : Option Addr} {n : Nat} {f : Nat → Int} {S : Nat → Prop} (h : RowIn B k w a n f) (hf : Fr S w w') (hs : ∀ i, i < B → ¬ S i) : RowIn B k w' a n f := by
  rcases h with h | ⟨b, off, h1, h2, h3⟩
  · exact .inl h
  · exact .inr ⟨b, off, h1, h2, fun i hi => hf.cell (h3 i hi) (hs b h2)⟩
theorem RowIn.mono {B B' : Nat} {k : IntKind} {w : World} {a : Option Addr} {n : Nat} {f : Nat → Int} (h : RowIn B k w a n f) (hB : B ≤ B') : RowIn B' k w a n f := by
  rcases h with h | ⟨b, off, h1, h2, h3⟩
  · exact .inl h
  · exact .inr ⟨b, off, h1, by omega, h3⟩
theorem RowIn.ext {B : Nat} {k : IntKind} {w : World} {a : Option Addr} {n : Nat} {f f' : Nat → Int} (h : RowIn B k w a n f) (hf : ∀ i, i < n → f i = f' i) : RowIn B k w a n f' := by
  rcases h with h | ⟨b, off, h1, h2, h3⟩
  · exact .inl h
  · exact .inr ⟨b, off, h1, h2, fun i hi => by rw [h3 i hi, hf i hi]⟩
theorem RowIn.ofArr {k : IntKind} {w : World} {g n : Nat} {f : Nat → Int} {t : TypeId} {fz : Nat × Nat} (h : w.heap[g]? = some (.cells (arr k n f) t fz)) (off m : Nat) (hm : off + m ≤ n) :
    RowIn (g + 1) k w (some ⟨g, off, none⟩) m (fun i => f (off + i)) :=
  .inr ⟨g, off, rfl, by omega, fun i hi => blk_cell h (arr_get k n f (by omega))⟩
theorem RowIn.ofArr0 {k : IntKind} {w : World} {g n : Nat} {f : Nat → Int} {t : TypeId} {fz : Nat × Nat} (h : w.heap[g]? = some (.cells (arr k n f) t fz)) :
    RowIn (g + 1) k w (some ⟨g, 0, none⟩) n f :=
  .inr ⟨g, 0, rfl, by omega, fun i hi => by rw [Nat.zero_add]; exact blk_cell h (arr_get k n f (by omega))⟩
def lit (xs : List Int) (i : Nat) : Int := xs.getD i 0
theorem lit_arr (k : IntKind) (xs : List Int) : (xs.map (Value.int k)).toArray = arr k xs.length (lit xs) := by
  apply Array.ext_getElem?
  intro i
  rw [arr_get?]
  by_cases h : i < xs.length
  · simp [h, lit]
  · simp [h]
theorem RowIn.ofList {k : IntKind} {w : World} {g : Nat} (xs : List Int) {t : TypeId} {fz : Nat × Nat} (h : w.heap[g]? = some (.cells (xs.map (Value.int k)).toArray t fz)) :
    RowIn (g + 1) k w (some ⟨g, 0, none⟩) xs.length (lit xs) := by
  rw [lit_arr] at h; exact RowIn.ofArr0 h
theorem RowIn.at {B : Nat} {k : IntKind} {w : World} {a : Option Addr} {n : Nat} {f : Nat → Int} (h : RowIn B k w a n f) {i : Nat} (hi : i < n) :
    ∃ b off, a = some ⟨b, off, none⟩ ∧ b < B ∧ w.cell? ⟨b, off + i, none⟩ = some (.int k (f i)) := by
  rcases h with h | ⟨b, off, h1, h2, h3⟩
  · omega
  · exact ⟨b, off, h1, h2, h3 i hi⟩
theorem RowIn.take {B : Nat} {k : IntKind} {w : World} {a : Option Addr} {n m : Nat} {f : Nat → Int} (h : RowIn B k w a n f) (hm : m ≤ n) : RowIn B k w a m f := by
  rcases h with h | ⟨b, off, h1, h2, h3⟩
  · exact .inl (by omega)
  · exact .inr ⟨b, off, h1, h2, fun i hi => h3 i (by omega)⟩

/-! ### a slice of the call's own that grows by append -/
def Own (w : World) (base : Nat) (k : IntKind) (e : TypeId) (v : Value) (xs : List Int) : Prop := w.ownsRow base e 1 v xs.length (xs.map (Value.int k))
theorem Own.nil (w : World) (base : Nat) (k : IntKind) (e : TypeId) : Own w base k e (.slice none 0 0) [] := World.ownsRow_nil w base e 1
theorem Own.fr {S : Nat → Prop} {w w' : World} {base : Nat} {k : IntKind} {e : TypeId} {v : Value} {xs : List Int} (h : Own w base k e v xs) (hf : Fr S w w') (hs : ∀ g, v.ownBlock = some g → ¬ S g) : Own w' base k e v xs := by
  obtain ⟨h1, h2⟩ := h
  refine ⟨h1, ?_⟩
  rcases h2 with h2 | ⟨g, cap, cur, hv, hg, hh, r⟩
  · exact .inl h2
  · exact .inr ⟨g, cap, cur, hv, hg, hf.blk hh (hs g (by rw [hv]; rfl)), r⟩
theorem Own.alloc {w : World} {base : Nat} {k : IntKind} {e : TypeId} {v : Value} {xs : List Int} (h : Own w base k e v xs) (o : Obj) : Own (w.alloc o) base k e v xs :=
  World.ownsRow.alloc h o
theorem Own.block {w : World} {base : Nat} {k : IntKind} {e : TypeId} {v : Value} {xs : List Int} (h : Own w base k e v xs) : ∀ g, v.ownBlock = some g → base ≤ g ∧ g < w.heap.size := World.ownsRow.lt h
theorem map_getD (k : IntKind) (xs : List Int) {i : Nat} (h : i < xs.length) : (xs.map (Value.int k))[i]? = some (.int k (xs.getD i 0)) := by
  simp [h]
theorem Own.row {w : World} {base : Nat} {k : IntKind} {e : TypeId} {v : Value} {xs : List Int} (h : Own w base k e v xs) :
    ∃ a cap, v = .slice a xs.length cap ∧ xs.length ≤ cap ∧ cap ≤ maxLen ∧ RowIn w.heap.size k w a xs.length (fun i => xs.getD i 0) := by
  have hlt := h.block
  obtain ⟨h1, h2⟩ := h
  rcases h2 with ⟨hv, hn⟩ | ⟨g, cap, cur, hv, hg, hh, hnc, hcm, hsz, htk⟩
  · subst hv
    rw [hn]
    exact ⟨none, 0, rfl, Nat.le_refl _, by simp [maxLen], .inl rfl⟩
  · refine ⟨_, cap, hv, hnc, hcm, .inr ⟨g, 0, rfl, (hlt g (by rw [hv]; rfl)).2, fun i hi => ?_⟩⟩
    refine blk_cell hh ?_
    have e1 := map_getD k xs hi
    rw [← htk, List.getElem?_take_of_lt (by omega)] at e1
    simpa using e1
theorem Own.rowN {w : World} {base : Nat} {k : IntKind} {e : TypeId} {v : Value} {xs : List Int} (h : Own w base k e v xs) {n : Nat} (hn : xs.length = n) :
    ∃ a cap, v = .slice a n cap ∧ n ≤ cap ∧ cap ≤ maxLen ∧ RowIn w.heap.size k w a n (fun i => xs.getD i 0) := by
  subst hn; exact h.row
theorem cell_new1 (w : World) (v : Value) (t : TypeId) : (w.alloc (.cells #[v] t)).cell? ⟨w.heap.size, 0, none⟩ = some v := World.cell?_alloc_new w #[v] t 0
/-- append of one integer, laid in a block of its own. -/
theorem opAppend1 {P : Program} {w : World} {ops : Array Oper} {rest : List Oper} {o : Oper} {a : Act} {Q : Exit → Act → World → Prop} (d : Option Tmp) (hgd : o.guard = none) (hd : o.dst = d) (s x : Operand) (t : TypeId)
    (ho : o.op = .call { callee := .builtin .append, args := #[s, x], argTypes := #[t, t] })
    (base : Nat) (k : IntKind) (e : TypeId) (bytes : Nat) (ht : P.underlying t = some (.slice e)) (hinfo : (P.info? e).map (fun i => (i.zero, i.size, i.bytes)) = some (some (.int k 0), 1, bytes))
    (v : Value) (xs : List Int) (hs : a.eval s = v) (hown : Own w base k e v xs)
    (ad : Addr) (c : Nat) (y : Int) (hx : a.eval x = .slice (some ad) 1 c) (hcell : w.cell? ad = some (.int k y))
    (hb1 : 1 ≤ bytes) (hbytes : (xs.length + 1) * bytes ≤ 140737488355328) (hbase : base ≤ w.heap.size)
    (h : ∀ v' w', Own w' base k e v' (xs ++ [y]) → w.grownBy w' v.ownBlock → wpList P ops Q rest (a.put d v') w') : wpList P ops Q (o :: rest) a w := by
  obtain ⟨i, hi, hz0, hz1, hz2⟩ := info_parts hinfo
  have hm : xs.length + 1 ≤ (xs.length + 1) * bytes := Nat.le_mul_of_pos_right _ hb1
  refine wpList_append_own w hgd s x t ho base e i (.int k 0) 1 bytes ht hi hz0 hz1 hz2 rfl (by decide) v xs.length _ hs hown ad 1 c [.int k y] hx rfl ?_ ?_ (by unfold maxLen; omega) hbytes hbase ?_
  · intro j u hj
    match j, hj with
    | 0, hj => simp at hj; subst hj; simpa [Addr.add] using hcell
  · intro u hu
    simp at hu
    subst hu
    rfl
  · intro v' w' hown' hg _
    rw [hd]
    refine h v' w' ?_ hg
    unfold Own
    simpa using hown'

/-- append of a row of integers, whatever slice it lies in. -/
theorem opAppendRow {P : Program} {w : World} {ops : Array Oper} {rest : List Oper} {o : Oper} {a : Act} {Q : Exit → Act → World → Prop} (d : Option Tmp) (hgd : o.guard = none) (hd : o.dst = d) (s x : Operand) (t : TypeId)
    (ho : o.op = .call { callee := .builtin .append, args := #[s, x], argTypes := #[t, t] })
    (base : Nat) (k : IntKind) (e : TypeId) (bytes : Nat) (ht : P.underlying t = some (.slice e)) (hinfo : (P.info? e).map (fun i => (i.zero, i.size, i.bytes)) = some (some (.int k 0), 1, bytes))
    (v : Value) (xs : List Int) (hs : a.eval s = v) (hown : Own w base k e v xs)
    (B : Nat) (ao : Option Addr) (m c : Nat) (f : Nat → Int) (hx : a.eval x = .slice ao m c) (hnil : ao = none → c = 0) (hmc : m ≤ c) (hrow : RowIn B k w ao m f)
    (hb1 : 1 ≤ bytes) (hbytes : (xs.length + m) * bytes ≤ 140737488355328) (hbase : base ≤ w.heap.size)
    (h : ∀ v' w', Own w' base k e v' (xs ++ (List.range m).map f) → w.grownBy w' v.ownBlock → wpList P ops Q rest (a.put d v') w') : wpList P ops Q (o :: rest) a w := by
  obtain ⟨i, hi, hz0, hz1, hz2⟩ := info_parts hinfo
  have hm : xs.length + m ≤ (xs.length + m) * bytes := Nat.le_mul_of_pos_right _ hb1
  cases ao with
  | none =>
    have hc : c = 0 := hnil rfl
    subst hc
    have hm0 : m = 0 := by omega
    subst hm0
    refine wpList_append_own_none hgd s x t ho base e i 1 ht hi v xs.length _ hs hown hx ?_
    rw [hd]
    exact h v w (by simpa using hown) (World.grownBy.refl _ _)
  | some ad =>
    refine wpList_append_own w hgd s x t ho base e i (.int k 0) 1 bytes ht hi hz0 hz1 hz2 rfl (by decide) v xs.length _ hs hown ad m c ((List.range m).map fun j => Value.int k (f j)) hx (by simp) ?_ ?_ (by unfold maxLen; omega) hbytes hbase ?_
    · intro j u hj
      by_cases hjm : j < m
      · simp [hjm] at hj
        subst hj
        obtain ⟨b, off, h1, h2, h3⟩ := hrow.at hjm
        simp only [Option.some.injEq] at h1
        subst h1
        have e : (⟨b, off, none⟩ : Addr).add j = ⟨b, off + j, none⟩ := by unfold Addr.add; split <;> simp_all
        rw [e]
        exact h3
      · simp [hjm] at hj
    · intro u hu
      simp at hu
      obtain ⟨j, _, rfl⟩ := hu
      rfl
    · intro v' w' hown' hg _
      rw [hd]
      refine h v' w' ?_ hg
      unfold Own
      simpa [Function.comp_def] using hown'
/-- an empty slice literal. -/
theorem Own.empty (w : World) (base : Nat) (k : IntKind) (e : TypeId) (hb : base ≤ w.heap.size) : Own (w.alloc (.cells #[] e)) base k e (.slice (some ⟨w.heap.size, 0, none⟩) 0 0) [] :=
  ⟨rfl, .inr ⟨w.heap.size, 0, #[], rfl, hb, blk_new _ _, Nat.le_refl _, by simp [maxLen], rfl, rfl⟩⟩

theorem clone_fr {w w' : World} {e : TypeId} {n c : Nat} (h : (w.alloc (.cells #[] e)).grownBy w' (Value.slice (some ⟨w.heap.size, 0, none⟩) n c).ownBlock) : Fr Non w w' :=
  ((Fr.refl Non w).alloc (.cells #[] e)).grown h (fun i hi hlt => by
    have : w.heap.size = i := by simpa [Value.ownBlock] using hi
    omega)

/-! ### what the shell of a proof says of a slice that came in -/
theorem rowIn_of {k : IntKind} {w : World} {a : Option Addr} {len cap : Nat} {zs : List Int}
    (h : (a = none ∧ len = 0 ∧ cap = 0 ∧ zs = []) ∨ ∃ x, a = some x ∧ len ≤ cap ∧ cap ≤ maxLen ∧ zs.length = cap ∧ (∀ i, i < zs.length → w.cell? (x.add i) = some (.int k (zs.getD i 0))) ∧ ∀ n ∈ zs, (Lit.int k n).wf = true) :
    len ≤ cap ∧ cap ≤ maxLen ∧ RowIn w.heap.size k w a len (lit zs) ∧ (a = none → cap = 0) ∧ ∀ i, i < len → (Lit.int k (lit zs i)).wf = true := by
  rcases h with ⟨rfl, rfl, rfl, rfl⟩ | ⟨x, rfl, hl, hm, hz, hcell, hwz⟩
  · exact ⟨Nat.le_refl _, by simp [maxLen], .inl rfl, fun _ => rfl, fun i hi => by omega⟩
  · refine ⟨hl, hm, ?_, (fun e => by cases e), fun i hi => ?_⟩
    · by_cases h0 : len = 0
      · exact .inl h0
      · obtain ⟨b, off, spot⟩ := x
        have hc := hcell 0 (by omega)
        have hspot : spot = none := by simpa [Addr.add] using World.cell?_spot hc
        subst hspot
        refine .inr ⟨b, off, rfl, by simpa [Addr.add] using block_lt_of_cell hc, fun i hi => ?_⟩
        have := hcell i (by omega)
        have e : (⟨b, off, none⟩ : Addr).add i = ⟨b, off + i, none⟩ := by unfold Addr.add; split <;> simp_all
        rw [e] at this
        exact this
    · have : lit zs i ∈ zs := by
        have h1 : i < zs.length := by omega
        unfold lit
        rw [List.getD_eq_getElem?_getD, List.getElem?_eq_getElem h1]
        exact List.getElem_mem h1
      exact hwz _ this
theorem wf_u8 {n : Int} (h : (Lit.int .u8 n).wf = true) : 0 ≤ n ∧ n < 256 := by
  simp [Lit.wf, IntKind.min, IntKind.max, IntKind.signed, IntKind.bits] at h; omega
theorem wf_u16 {n : Int} (h : (Lit.int .u16 n).wf = true) : 0 ≤ n ∧ n < 65536 := by
  simp [Lit.wf, IntKind.min, IntKind.max, IntKind.signed, IntKind.bits] at h; omega
theorem wf_u32 {n : Int} (h : (Lit.int .u32 n).wf = true) : 0 ≤ n ∧ n < 4294967296 := by
  simp [Lit.wf, IntKind.min, IntKind.max, IntKind.signed, IntKind.bits] at h; omega
theorem wf_i64 {n : Int} (h : (Lit.int .i64 n).wf = true) : -9223372036854775808 ≤ n ∧ n ≤ 9223372036854775807 := by
  simp [Lit.wf, IntKind.min, IntKind.max, IntKind.signed, IntKind.bits] at h; omega
end Go.Proofs.Ytkahjjmjbcjaaaa
