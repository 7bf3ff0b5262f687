/- Texts of this proof, one behind the other. -/
import Derived.WalkKit
import Derived.Deep.Draws
import Derived.Laws.AppendOwnNone
import Derived.Test.YtjnegcambbeblaaRows
import Derived.WalkSpells
import Derived.WalkLawsBesides
import Derived.BigQuiet
import Derived.Deep.QuietTactic
import Derived.BigRegion
import Derived.Outline
import Derived.Deep.RegionHeld3
import Derived.Deep.RegionWith
import Derived.Laws.BitsAllLaws

/- Plain lemmas about worlds, blocks and rows of numbers: no statement of the seat is proved here. -/
namespace Go.Proofs.Ytjnegcambbeblaa
open Go.RowKit

theorem hid {p : Prop} (h : p) : Hid p := h

/-- w' is w but for new blocks, and for blocks of S. -/
structure Fr (S : Nat → Prop) (w w' : World) : Prop where
  os : w'.os = w.os
  tape : w'.tape = w.tape
  output : w'.output = w.output
  size : w.heap.size ≤ w'.heap.size
  block : ∀ k, k < w.heap.size → ¬ S k → w'.heap[k]? = w.heap[k]?

/-- nothing that was there has turned. -/
def Non : Nat → Prop := fun _ => False

theorem Fr.refl (S : Nat → Prop) (w : World) : Fr S w w := ⟨rfl, rfl, rfl, Nat.le_refl _, fun _ _ _ => rfl⟩
theorem Fr.trans {S : Nat → Prop} {a b c : World} (h : Fr S a b) (k : Fr S b c) : Fr S a c :=
  ⟨k.os.trans h.os, k.tape.trans h.tape, k.output.trans h.output, Nat.le_trans h.size k.size,
   fun i hi hs => (k.block i (Nat.lt_of_lt_of_le hi h.size) hs).trans (h.block i hi hs)⟩
theorem Fr.mono {S S' : Nat → Prop} {w w' : World} (h : Fr S w w') (hs : ∀ k, k < w.heap.size → S k → S' k) : Fr S' w w' :=
  ⟨h.os, h.tape, h.output, h.size, fun k hk hn => h.block k hk (fun e => hn (hs k hk e))⟩
theorem Fr.any {S : Nat → Prop} {w w' : World} (h : Fr Non w w') : Fr S w w' := h.mono fun _ _ e => e.elim
/-- two steps; the second one's blocks are the first one's, or new. -/
theorem Fr.then {S T : Nat → Prop} {a b c : World} (h : Fr S a b) (k : Fr T b c) (ht : ∀ i, i < a.heap.size → T i → S i) : Fr S a c :=
  ⟨k.os.trans h.os, k.tape.trans h.tape, k.output.trans h.output, Nat.le_trans h.size k.size,
   fun i hi hs => (k.block i (Nat.lt_of_lt_of_le hi h.size) (fun e => hs (ht i hi e))).trans (h.block i hi hs)⟩
theorem Fr.drew {S : Nat → Prop} {a w : World} (h : Fr S a w) : Fr S a w.drew := ⟨h.os, h.tape, h.output, h.size, h.block⟩
theorem Fr.drewN {S : Nat → Prop} {a w : World} (h : Fr S a w) (n : Nat) : Fr S a (w.drewN n) := ⟨h.os, h.tape, h.output, h.size, h.block⟩
theorem Fr.alloc {S : Nat → Prop} {a w : World} (h : Fr S a w) (o : Obj) : Fr S a (w.alloc o) :=
  h.trans ⟨rfl, rfl, rfl, by simp, fun k hk _ => Below.heap_alloc _ _ _ hk⟩
theorem Fr.setCell {S : Nat → Prop} {a w : World} (h : Fr S a w) {p : Addr} (hp : p.block < a.heap.size → S p.block) (u : Value) : Fr S a (w.setCell p u) :=
  h.then (T := fun k => k = p.block) ⟨rfl, rfl, rfl, by simp [World.setCell], fun _ _ hs => Below.heap_setCell _ _ _ _ hs⟩ (fun _ hi e => by subst e; exact hp hi)
theorem Fr.setOne {g : Nat} {a w : World} (h : Fr (fun k => k = g) a w) (i : Nat) (u : Value) : Fr (fun k => k = g) a (w.setCell ⟨g, i, none⟩ u) :=
  h.setCell (fun _ => rfl) u
theorem Fr.setNew {S : Nat → Prop} {g : Nat} {a w : World} (h : Fr S a w) (hg : a.heap.size ≤ g) (i : Nat) (u : Value) : Fr S a (w.setCell ⟨g, i, none⟩ u) :=
  h.setCell (fun hi => absurd hi (by show ¬ g < _; omega)) u
theorem Fr.grown {S : Nat → Prop} {a w w' : World} {row : Option Nat} (h : Fr S a w) (hg : w.grownBy w' row) (hr : ∀ k, row = some k → k < a.heap.size → S k) : Fr S a w' :=
  h.then (T := fun k => row = some k) ⟨hg.os, hg.tape, hg.output, hg.size, fun k hk hs => hg.block k hk (fun e => hs e.symm)⟩ (fun k hi e => hr k e hi)
theorem Fr.below {w w' : World} (h : Fr Non w w') : Below w.heap.size w w' := ⟨h.os, h.tape, h.output, h.size, fun k hk => h.block k hk id⟩
theorem Fr.belowB {S : Nat → Prop} {B : Nat} {w w' : World} (h : Fr S w w') (hB : B ≤ w.heap.size) (hS : ∀ k, k < B → ¬ S k) : Below B w w' :=
  ⟨h.os, h.tape, h.output, h.size, fun k hk => h.block k (by omega) (hS k hk)⟩
theorem Fr.ofBelow {w w' : World} (h : Below w.heap.size w w') : Fr Non w w' := ⟨h.os, h.tape, h.output, h.size, fun k hk _ => h.block k hk⟩

theorem blk_lt {w : World} {g : Nat} {o : Obj} (h : w.heap[g]? = some o) : g < w.heap.size := (Array.getElem?_eq_some_iff.1 h).1
theorem Fr.blk {S : Nat → Prop} {w w' : World} (h : Fr S w w') {g : Nat} {o : Obj} (hg : w.heap[g]? = some o) (hs : ¬ S g) : w'.heap[g]? = some o :=
  (h.block g (blk_lt hg) hs).trans hg
theorem cell_lt {w : World} {p : Addr} {v : Value} (h : w.cell? p = some v) : p.block < w.heap.size := block_lt_of_cell h
theorem Fr.cell {S : Nat → Prop} {w w' : World} (h : Fr S w w') {p : Addr} {v : Value} (hg : w.cell? p = some v) (hs : ¬ S p.block) : w'.cell? p = some v :=
  (World.cell?_of_block (w := w) (h.block p.block (cell_lt hg) hs)).trans hg
theorem Fr.frozen {S : Nat → Prop} {w w' : World} (h : Fr S w w') {p : Addr} {b : Bool} (hlt : p.block < w.heap.size) (hg : w.frozen? p = b) (hs : ¬ S p.block) : w'.frozen? p = b :=
  (World.frozen?_of_block (w := w) (h.block p.block hlt hs)).trans hg

theorem run_bind_ok {α β : Type} {P : Program} {s : Sem α} {k : α → Sem β} {w w' : World} {x : α} (h : s.run P w = .ok x w') : (s >>= k).run P w = (k x).run P w' := by
  rw [Sem.run_bind, h]; rfl
theorem Fr.cellNe {g b o : Nat} {w w' : World} {v : Value} (h : Fr (fun k => k = g) w w') (hg : w.cell? ⟨b, o, none⟩ = some v) (hn : b ≠ g) : w'.cell? ⟨b, o, none⟩ = some v := h.cell hg hn
theorem Fr.frozenNe {g b o : Nat} {w w' : World} {v : Bool} (h : Fr (fun k => k = g) w w') (hlt : b < w.heap.size) (hg : w.frozen? ⟨b, o, none⟩ = v) (hn : b ≠ g) : w'.frozen? ⟨b, o, none⟩ = v := h.frozen hlt hg hn
theorem Fr.blkNe {g b : Nat} {w w' : World} {o : Obj} (h : Fr (fun k => k = g) w w') (hg : w.heap[b]? = some o) (hn : b ≠ g) : w'.heap[b]? = some o := h.blk hg hn
/-- one operation whose run is known as a whole. -/
theorem opRun {P : Program} {ops : Array Oper} {rest : List Oper} {o : Oper} {a : Act} {w : World} {Q : Exit → Act → World → Prop} (d : Option Tmp) (hg : o.guard = none) (hd : o.dst = d)
    (v : Value) (w' : World) (hr : (execOp a.eval o).run P w = .ok (.value v) w') (h : wpList P ops Q rest (a.put d v) w') : wpList P ops Q (o :: rest) a w := by
  refine wpList_plain hg fun K hK => ?_
  show o.upon P a K Q ((execOp a.eval o).run P w)
  rw [hr, Oper.upon_value, hd]
  exact hK _ _ h
/-- the same for one that yields nothing. -/
theorem opSkip {P : Program} {ops : Array Oper} {rest : List Oper} {o : Oper} {a : Act} {w : World} {Q : Exit → Act → World → Prop} (hg : o.guard = none) (hd : o.dst = none)
    (w' : World) (hr : (execOp a.eval o).run P w = .ok .skip w') (h : wpList P ops Q rest a w') : wpList P ops Q (o :: rest) a w := by
  refine wpList_plain hg fun K hK => ?_
  show o.upon P a K Q ((execOp a.eval o).run P w)
  rw [hr, Oper.upon_skip, hd]
  exact hK _ _ h

/-! ### blocks, read off a world that is written out -/
theorem blk_set {w : World} {g i : Nat} {cs : Array Value} {t : TypeId} {v : Value} (h : w.heap[g]? = some (.cells cs t)) :
    (w.setCell ⟨g, i, none⟩ v).heap[g]? = some (.cells (cs.setIfInBounds i v) t) := heap_setCell_same w g i cs t v h
theorem blk_set_ne {w : World} {a : Addr} {k : Nat} {v : Value} {o : Obj} (h : w.heap[k]? = some o) (hn : k ≠ a.block) : (w.setCell a v).heap[k]? = some o :=
  (heap_setCell_other w a k v hn).trans h
theorem blk_alloc {w : World} {o o' : Obj} {k : Nat} (h : w.heap[k]? = some o) : (w.alloc o').heap[k]? = some o :=
  (Below.heap_alloc w o' k (blk_lt h)).trans h
theorem blk_new (w : World) (o : Obj) : (w.alloc o).heap[w.heap.size]? = some o := heap_alloc_new w o
theorem blk_drew {w : World} {o : Obj} {k : Nat} (h : w.heap[k]? = some o) : w.drew.heap[k]? = some o := h
theorem blk_drewN {w : World} {o : Obj} {k n : Nat} (h : w.heap[k]? = some o) : (w.drewN n).heap[k]? = some o := h
theorem blk_cell {w : World} {g : Nat} {cs : Array Value} {t : TypeId} {f : Nat × Nat} (h : w.heap[g]? = some (.cells cs t f)) {j : Nat} {v : Value} (hv : cs[j]? = some v) :
    w.cell? ⟨g, j, none⟩ = some v := (cell_of_row w g j cs t f h).trans hv
theorem blk_frozen {w : World} {g : Nat} {cs : Array Value} {t : TypeId} (h : w.heap[g]? = some (.cells cs t)) (j : Nat) : w.frozen? ⟨g, j, none⟩ = false :=
  frozen_of_row w g j cs t h

theorem setRow_new (w : World) (c c' : Array Value) (t : TypeId) : (w.alloc (.cells c t)).setRow w.heap.size c' = w.alloc (.cells c' t) := by
  unfold World.setRow World.alloc
  congr 1
  apply Array.ext_getElem?
  intro k
  rw [Array.getElem?_modify]
  by_cases hk : w.heap.size = k
  · subst hk
    simp
  · have hk' : k ≠ w.heap.size := fun e => hk e.symm
    simp [hk, hk', Array.getElem?_push]

/-! ### a row of n integers of kind k: cell i holds f i -/
def arr (k : IntKind) (n : Nat) (f : Nat → Int) : Array Value := (Array.range n).map fun i => .int k (f i)
theorem arr_size (k : IntKind) (n : Nat) (f : Nat → Int) : (arr k n f).size = n := by simp [arr]
theorem arr_get (k : IntKind) (n : Nat) (f : Nat → Int) {i : Nat} (h : i < n) : (arr k n f)[i]? = some (.int k (f i)) := by
  simp [arr, h]
theorem arr_ext {k : IntKind} {n : Nat} {f f' : Nat → Int} (h : ∀ i, i < n → f i = f' i) : arr k n f = arr k n f' := by
  apply Array.ext (by simp [arr])
  intro i h1 h2
  simp [arr] at h1 ⊢
  exact h i h1
def upd (f : Nat → Int) (i : Nat) (x : Int) : Nat → Int := fun j => if j = i then x else f j
theorem upd_same (f : Nat → Int) (i : Nat) (x : Int) : upd f i x i = x := by simp [upd]
theorem upd_ne (f : Nat → Int) {i j : Nat} (x : Int) (h : j ≠ i) : upd f i x j = f j := by simp [upd, h]
theorem arr_get? (k : IntKind) (n : Nat) (f : Nat → Int) (i : Nat) : (arr k n f)[i]? = if i < n then some (.int k (f i)) else none := by
  by_cases h : i < n <;> simp [arr, h]
theorem arr_set (k : IntKind) (n : Nat) (f : Nat → Int) (i : Nat) (x : Int) : (arr k n f).setIfInBounds i (.int k x) = arr k n (upd f i x) := by
  apply Array.ext_getElem?
  intro j
  rw [Array.getElem?_setIfInBounds, arr_get?, arr_get?, arr_size, upd]
  by_cases h : i = j
  · subst h; simp
  · have h' : ¬ j = i := fun e => h e.symm
    simp [h, h']
theorem arr_made (k : IntKind) (n : Nat) : madeCells (Value.cells (.int k 0)) (n * 1) = arr k n fun _ => 0 := by
  apply Array.ext (by simp [madeCells, arr])
  intro j h1 h2
  simp [madeCells, arr, Value.cells]
  simp [Nat.mod_one]

/-- what a slice that came in reads as: n integers; they lie below block B. -/
def RowIn (B : Nat) (k : IntKind) (w : World) (a : Option Addr) (n : Nat) (f : Nat → Int) : Prop :=
  n = 0 ∨ ∃ b off, a = some ⟨b, off, none⟩ ∧ b < B ∧ ∀ i, i < n → w.cell? ⟨b, off + i, none⟩ = some (.int k (f i))
theorem RowIn.fr {B : Nat} {k : IntKind} {w w' : World} {a : Option Addr} {n : Nat} {f : Nat → Int} {S : Nat → Prop} (h : RowIn B k w a n f) (hf : Fr S w w') (hs : ∀ i, i < B → ¬ S i) : RowIn B k w' a n f := by
  rcases h with h | ⟨b, off, h1, h2, h3⟩
  · exact .inl h
  · exact .inr ⟨b, off, h1, h2, fun i hi => hf.cell (h3 i hi) (hs b h2)⟩
theorem RowIn.mono {B B' : Nat} {k : IntKind} {w : World} {a : Option Addr} {n : Nat} {f : Nat → Int} (h : RowIn B k w a n f) (hB : B ≤ B') : RowIn B' k w a n f := by
  rcases h with h | ⟨b, off, h1, h2, h3⟩
  · exact .inl h
  · exact .inr ⟨b, off, h1, by omega, h3⟩
theorem RowIn.ext {B : Nat} {k : IntKind} {w : World} {a : Option Addr} {n : Nat} {f f' : Nat → Int} (h : RowIn B k w a n f) (hf : ∀ i, i < n → f i = f' i) : RowIn B k w a n f' := by
  rcases h with h | ⟨b, off, h1, h2, h3⟩
  · exact .inl h
  · exact .inr ⟨b, off, h1, h2, fun i hi => by rw [h3 i hi, hf i hi]⟩
theorem RowIn.ofArr {k : IntKind} {w : World} {g n : Nat} {f : Nat → Int} {t : TypeId} {fz : Nat × Nat} (h : w.heap[g]? = some (.cells (arr k n f) t fz)) (off m : Nat) (hm : off + m ≤ n) :
    RowIn (g + 1) k w (some ⟨g, off, none⟩) m (fun i => f (off + i)) :=
  .inr ⟨g, off, rfl, by omega, fun i hi => blk_cell h (arr_get k n f (by omega))⟩
theorem RowIn.ofArr0 {k : IntKind} {w : World} {g n : Nat} {f : Nat → Int} {t : TypeId} {fz : Nat × Nat} (h : w.heap[g]? = some (.cells (arr k n f) t fz)) :
    RowIn (g + 1) k w (some ⟨g, 0, none⟩) n f :=
  .inr ⟨g, 0, rfl, by omega, fun i hi => by rw [Nat.zero_add]; exact blk_cell h (arr_get k n f (by omega))⟩
def lit (xs : List Int) (i : Nat) : Int := xs.getD i 0
theorem lit_arr (k : IntKind) (xs : List Int) : (xs.map (Value.int k)).toArray = arr k xs.length (lit xs) := by
  apply Array.ext_getElem?
  intro i
  rw [arr_get?]
  by_cases h : i < xs.length
  · simp [h, lit]
  · simp [h]
theorem RowIn.ofList {k : IntKind} {w : World} {g : Nat} (xs : List Int) {t : TypeId} {fz : Nat × Nat} (h : w.heap[g]? = some (.cells (xs.map (Value.int k)).toArray t fz)) :
    RowIn (g + 1) k w (some ⟨g, 0, none⟩) xs.length (lit xs) := by
  rw [lit_arr] at h; exact RowIn.ofArr0 h
theorem RowIn.at {B : Nat} {k : IntKind} {w : World} {a : Option Addr} {n : Nat} {f : Nat → Int} (h : RowIn B k w a n f) {i : Nat} (hi : i < n) :
    ∃ b off, a = some ⟨b, off, none⟩ ∧ b < B ∧ w.cell? ⟨b, off + i, none⟩ = some (.int k (f i)) := by
  rcases h with h | ⟨b, off, h1, h2, h3⟩
  · omega
  · exact ⟨b, off, h1, h2, h3 i hi⟩
theorem RowIn.take {B : Nat} {k : IntKind} {w : World} {a : Option Addr} {n m : Nat} {f : Nat → Int} (h : RowIn B k w a n f) (hm : m ≤ n) : RowIn B k w a m f := by
  rcases h with h | ⟨b, off, h1, h2, h3⟩
  · exact .inl (by omega)
  · exact .inr ⟨b, off, h1, h2, fun i hi => h3 i (by omega)⟩

/-! ### a slice of the call's own that grows by append -/
def Own (w : World) (base : Nat) (k : IntKind) (e : TypeId) (v : Value) (xs : List Int) : Prop := w.ownsRow base e 1 v xs.length (xs.map (Value.int k))
theorem Own.nil (w : World) (base : Nat) (k : IntKind) (e : TypeId) : Own w base k e (.slice none 0 0) [] := World.ownsRow_nil w base e 1
theorem Own.fr {S : Nat → Prop} {w w' : World} {base : Nat} {k : IntKind} {e : TypeId} {v : Value} {xs : List Int} (h : Own w base k e v xs) (hf : Fr S w w') (hs : ∀ g, v.ownBlock = some g → ¬ S g) : Own w' base k e v xs := by
  obtain ⟨h1, h2⟩ := h
  refine ⟨h1, ?_⟩
  rcases h2 with h2 | ⟨g, cap, cur, hv, hg, hh, r⟩
  · exact .inl h2
  · exact .inr ⟨g, cap, cur, hv, hg, hf.blk hh (hs g (by rw [hv]; rfl)), r⟩
theorem Own.alloc {w : World} {base : Nat} {k : IntKind} {e : TypeId} {v : Value} {xs : List Int} (h : Own w base k e v xs) (o : Obj) : Own (w.alloc o) base k e v xs :=
  World.ownsRow.alloc h o
theorem Own.block {w : World} {base : Nat} {k : IntKind} {e : TypeId} {v : Value} {xs : List Int} (h : Own w base k e v xs) : ∀ g, v.ownBlock = some g → base ≤ g ∧ g < w.heap.size := World.ownsRow.lt h
theorem map_getD (k : IntKind) (xs : List Int) {i : Nat} (h : i < xs.length) : (xs.map (Value.int k))[i]? = some (.int k (xs.getD i 0)) := by
  simp [h]
theorem Own.row {w : World} {base : Nat} {k : IntKind} {e : TypeId} {v : Value} {xs : List Int} (h : Own w base k e v xs) :
    ∃ a cap, v = .slice a xs.length cap ∧ xs.length ≤ cap ∧ cap ≤ maxLen ∧ RowIn w.heap.size k w a xs.length (fun i => xs.getD i 0) := by
  have hlt := h.block
  obtain ⟨h1, h2⟩ := h
  rcases h2 with ⟨hv, hn⟩ | ⟨g, cap, cur, hv, hg, hh, hnc, hcm, hsz, htk⟩
  · subst hv
    rw [hn]
    exact ⟨none, 0, rfl, Nat.le_refl _, by simp [maxLen], .inl rfl⟩
  · refine ⟨_, cap, hv, hnc, hcm, .inr ⟨g, 0, rfl, (hlt g (by rw [hv]; rfl)).2, fun i hi => ?_⟩⟩
    refine blk_cell hh ?_
    have e1 := map_getD k xs hi
    rw [← htk, List.getElem?_take_of_lt (by omega)] at e1
    simpa using e1
theorem Own.rowN {w : World} {base : Nat} {k : IntKind} {e : TypeId} {v : Value} {xs : List Int} (h : Own w base k e v xs) {n : Nat} (hn : xs.length = n) :
    ∃ a cap, v = .slice a n cap ∧ n ≤ cap ∧ cap ≤ maxLen ∧ RowIn w.heap.size k w a n (fun i => xs.getD i 0) := by
  subst hn; exact h.row
theorem cell_new1 (w : World) (v : Value) (t : TypeId) : (w.alloc (.cells #[v] t)).cell? ⟨w.heap.size, 0, none⟩ = some v := World.cell?_alloc_new w #[v] t 0
/-- append of one integer, laid in a block of its own. -/
theorem opAppend1 {P : Program} {w : World} {ops : Array Oper} {rest : List Oper} {o : Oper} {a : Act} {Q : Exit → Act → World → Prop} (d : Option Tmp) (hgd : o.guard = none) (hd : o.dst = d) (s x : Operand) (t : TypeId)
    (ho : o.op = .call { callee := .builtin .append, args := #[s, x], argTypes := #[t, t] })
    (base : Nat) (k : IntKind) (e : TypeId) (bytes : Nat) (ht : P.underlying t = some (.slice e)) (hinfo : (P.info? e).map (fun i => (i.zero, i.size, i.bytes)) = some (some (.int k 0), 1, bytes))
    (v : Value) (xs : List Int) (hs : a.eval s = v) (hown : Own w base k e v xs)
    (ad : Addr) (c : Nat) (y : Int) (hx : a.eval x = .slice (some ad) 1 c) (hcell : w.cell? ad = some (.int k y))
    (hb1 : 1 ≤ bytes) (hbytes : (xs.length + 1) * bytes ≤ 140737488355328) (hbase : base ≤ w.heap.size)
    (h : ∀ v' w', Own w' base k e v' (xs ++ [y]) → w.grownBy w' v.ownBlock → wpList P ops Q rest (a.put d v') w') : wpList P ops Q (o :: rest) a w := by
  obtain ⟨i, hi, hz0, hz1, hz2⟩ := info_parts hinfo
  have hm : xs.length + 1 ≤ (xs.length + 1) * bytes := Nat.le_mul_of_pos_right _ hb1
  refine wpList_append_own w hgd s x t ho base e i (.int k 0) 1 bytes ht hi hz0 hz1 hz2 rfl (by decide) v xs.length _ hs hown ad 1 c [.int k y] hx rfl ?_ ?_ (by unfold maxLen; omega) hbytes hbase ?_
  · intro j u hj
    match j, hj with
    | 0, hj => simp at hj; subst hj; simpa [Addr.add] using hcell
  · intro u hu
    simp at hu
    subst hu
    rfl
  · intro v' w' hown' hg _
    rw [hd]
    refine h v' w' ?_ hg
    unfold Own
    simpa using hown'

/-- append of a row of integers, whatever slice it lies in. -/
theorem opAppendRow {P : Program} {w : World} {ops : Array Oper} {rest : List Oper} {o : Oper} {a : Act} {Q : Exit → Act → World → Prop} (d : Option Tmp) (hgd : o.guard = none) (hd : o.dst = d) (s x : Operand) (t : TypeId)
    (ho : o.op = .call { callee := .builtin .append, args := #[s, x], argTypes := #[t, t] })
    (base : Nat) (k : IntKind) (e : TypeId) (bytes : Nat) (ht : P.underlying t = some (.slice e)) (hinfo : (P.info? e).map (fun i => (i.zero, i.size, i.bytes)) = some (some (.int k 0), 1, bytes))
    (v : Value) (xs : List Int) (hs : a.eval s = v) (hown : Own w base k e v xs)
    (B : Nat) (ao : Option Addr) (m c : Nat) (f : Nat → Int) (hx : a.eval x = .slice ao m c) (hnil : ao = none → c = 0) (hmc : m ≤ c) (hrow : RowIn B k w ao m f)
    (hb1 : 1 ≤ bytes) (hbytes : (xs.length + m) * bytes ≤ 140737488355328) (hbase : base ≤ w.heap.size)
    (h : ∀ v' w', Own w' base k e v' (xs ++ (List.range m).map f) → w.grownBy w' v.ownBlock → wpList P ops Q rest (a.put d v') w') : wpList P ops Q (o :: rest) a w := by
  obtain ⟨i, hi, hz0, hz1, hz2⟩ := info_parts hinfo
  have hm : xs.length + m ≤ (xs.length + m) * bytes := Nat.le_mul_of_pos_right _ hb1
  cases ao with
  | none =>
    have hc : c = 0 := hnil rfl
    subst hc
    have hm0 : m = 0 := by omega
    subst hm0
    refine wpList_append_own_none hgd s x t ho base e i 1 ht hi v xs.length _ hs hown hx ?_
    rw [hd]
    exact h v w (by simpa using hown) (World.grownBy.refl _ _)
  | some ad =>
    refine wpList_append_own w hgd s x t ho base e i (.int k 0) 1 bytes ht hi hz0 hz1 hz2 rfl (by decide) v xs.length _ hs hown ad m c ((List.range m).map fun j => Value.int k (f j)) hx (by simp) ?_ ?_ (by unfold maxLen; omega) hbytes hbase ?_
    · intro j u hj
      by_cases hjm : j < m
      · simp [hjm] at hj
        subst hj
        obtain ⟨b, off, h1, h2, h3⟩ := hrow.at hjm
        simp only [Option.some.injEq] at h1
        subst h1
        have e : (⟨b, off, none⟩ : Addr).add j = ⟨b, off + j, none⟩ := by unfold Addr.add; split <;> simp_all
        rw [e]
        exact h3
      · simp [hjm] at hj
    · intro u hu
      simp at hu
      obtain ⟨j, _, rfl⟩ := hu
      rfl
    · intro v' w' hown' hg _
      rw [hd]
      refine h v' w' ?_ hg
      unfold Own
      simpa [Function.comp_def] using hown'
/-- an empty slice literal. -/
theorem Own.empty (w : World) (base : Nat) (k : IntKind) (e : TypeId) (hb : base ≤ w.heap.size) : Own (w.alloc (.cells #[] e)) base k e (.slice (some ⟨w.heap.size, 0, none⟩) 0 0) [] :=
  ⟨rfl, .inr ⟨w.heap.size, 0, #[], rfl, hb, blk_new _ _, Nat.le_refl _, by simp [maxLen], rfl, rfl⟩⟩

theorem clone_fr {w w' : World} {e : TypeId} {n c : Nat} (h : (w.alloc (.cells #[] e)).grownBy w' (Value.slice (some ⟨w.heap.size, 0, none⟩) n c).ownBlock) : Fr Non w w' :=
  ((Fr.refl Non w).alloc (.cells #[] e)).grown h (fun i hi hlt => by
    have : w.heap.size = i := by simpa [Value.ownBlock] using hi
    omega)

/-! ### what the shell of a proof says of a slice that came in -/
theorem rowIn_of {k : IntKind} {w : World} {a : Option Addr} {len cap : Nat} {zs : List Int}
    (h : (a = none ∧ len = 0 ∧ cap = 0 ∧ zs = []) ∨ ∃ x, a = some x ∧ len ≤ cap ∧ cap ≤ maxLen ∧ zs.length = cap ∧ (∀ i, i < zs.length → w.cell? (x.add i) = some (.int k (zs.getD i 0))) ∧ ∀ n ∈ zs, (Lit.int k n).wf = true) :
    len ≤ cap ∧ cap ≤ maxLen ∧ RowIn w.heap.size k w a len (lit zs) ∧ (a = none → cap = 0) ∧ ∀ i, i < len → (Lit.int k (lit zs i)).wf = true := by
  rcases h with ⟨rfl, rfl, rfl, rfl⟩ | ⟨x, rfl, hl, hm, hz, hcell, hwz⟩
  · exact ⟨Nat.le_refl _, by simp [maxLen], .inl rfl, fun _ => rfl, fun i hi => by omega⟩
  · refine ⟨hl, hm, ?_, (fun e => by cases e), fun i hi => ?_⟩
    · by_cases h0 : len = 0
      · exact .inl h0
      · obtain ⟨b, off, spot⟩ := x
        have hc := hcell 0 (by omega)
        have hspot : spot = none := by simpa [Addr.add] using World.cell?_spot hc
        subst hspot
        refine .inr ⟨b, off, rfl, by simpa [Addr.add] using block_lt_of_cell hc, fun i hi => ?_⟩
        have := hcell i (by omega)
        have e : (⟨b, off, none⟩ : Addr).add i = ⟨b, off + i, none⟩ := by unfold Addr.add; split <;> simp_all
        rw [e] at this
        exact this
    · have : lit zs i ∈ zs := by
        have h1 : i < zs.length := by omega
        unfold lit
        rw [List.getD_eq_getElem?_getD, List.getElem?_eq_getElem h1]
        exact List.getElem_mem h1
      exact hwz _ this
theorem wf_u8 {n : Int} (h : (Lit.int .u8 n).wf = true) : 0 ≤ n ∧ n < 256 := by
  simp [Lit.wf, IntKind.min, IntKind.max, IntKind.signed, IntKind.bits] at h; omega
theorem wf_u16 {n : Int} (h : (Lit.int .u16 n).wf = true) : 0 ≤ n ∧ n < 65536 := by
  simp [Lit.wf, IntKind.min, IntKind.max, IntKind.signed, IntKind.bits] at h; omega
theorem wf_u32 {n : Int} (h : (Lit.int .u32 n).wf = true) : 0 ≤ n ∧ n < 4294967296 := by
  simp [Lit.wf, IntKind.min, IntKind.max, IntKind.signed, IntKind.bits] at h; omega
theorem wf_i64 {n : Int} (h : (Lit.int .i64 n).wf = true) : -9223372036854775808 ≤ n ∧ n ≤ 9223372036854775807 := by
  simp [Lit.wf, IntKind.min, IntKind.max, IntKind.signed, IntKind.bits] at h; omega
end Go.Proofs.Ytjnegcambbeblaa

/- What a source of bytes is to its caller; src.Feed as one. -/
namespace Go.Proofs.Ytjnegcambbeblaa
open Go.RowKit

/-- a call of a method on an interface value whose dynamic type and method are known. -/
theorem opInvoke {P : Program} {ops : Array Oper} {rest : List Oper} {o : Oper} {a : Act} {w : World} {Q : Exit → Act → World → Prop} (hg : o.guard = none) (r : Operand) (name : String)
    (ho : o.op = .call { callee := .invoke r name, args := #[], argTypes := #[] }) (ty : TypeId) (val : Value) (hr : a.eval r = .iface ty val) (f : FuncId) (recv : Value)
    (hm : ∀ w : World, (method (P.types.size + Made.depth) ty val name).run P w = .ok (f, recv) w) (hc : ∀ w : World, (callFunc f #[recv]).run P w = .ok (.enter f #[recv]) w)
    (h : ∀ K : Act → World → Prop, (∀ a w, wpList P ops Q rest a w → K a w) → Calls P f #[recv] w fun
      | .returned v, w'' => K (a.put o.dst v) w''
      | .panicked chain, w'' => Q (.panic chain) a w''
      | .outgrown, _ => LetsOut Q) : wpList P ops Q (o :: rest) a w := by
  refine wpList_plain hg fun K hK => ?_
  have e : (execOp a.eval o).run P w = .ok (.enter f #[recv]) w := by
    have h1 := hm w
    have h2 := hc w
    simp only [execOp, ho, resolve, hr, invoke, callMethod, Sem.run_bind, Sem.run_pure, Result.andThen_ok, List.map_toArray, List.map_nil]
    simp only [Array.append_empty, List.size_toArray, List.length_cons, List.length_nil, Nat.zero_add, Array.extract]
    simp [Sem.run_bind, h1]
    show Sem.run P (callFunc f (#[recv] ++ #[])) w = _
    simpa using h2
  show o.upon P a K Q ((execOp a.eval o).run P w)
  rw [e, Oper.upon_enter]
  exact h K hK

/-- a source of bytes: S its states, I what memory holds in a state, nx what Next answers. -/
structure Sour (S : Type) where
  ty : TypeId
  val : Value
  fid : FuncId
  foot : Nat → Prop
  I : World → S → Prop
  nx : S → Int × Bool × S
  byte : ∀ s, 0 ≤ (nx s).1 ∧ (nx s).1 < 256
  meth : ∀ w : World, (method (Try.prog.types.size + Made.depth) ty val "Next").run Try.prog w = .ok (fid, val) w
  enter : ∀ w : World, (callFunc fid #[val]).run Try.prog w = .ok (.enter fid #[val]) w
  call : ∀ w s, I w s → Calls Try.prog fid #[val] w fun e w' => e = .returned (.tuple #[.int .u8 (nx s).1, .bool (nx s).2.1]) ∧ Fr foot w w' ∧ I w' (nx s).2.2
  keep : ∀ w w' s T, I w s → Fr T w w' → (∀ k, foot k → ¬ T k) → I w' s

/-! ### src.Feed -/
def FeedAt (w : World) (g : Nat) (a : Option Addr) (n c : Nat) (at_ : Nat) : Prop := w.heap[g]? = some (.cells #[.slice a n c, .int .i64 at_] 123)
def feedFoot (g : Nat) (a : Option Addr) (k : Nat) : Prop := k = g ∨ ∃ ad, a = some ad ∧ ad.block = k
def FeedIs (g : Nat) (a : Option Addr) (n c : Nat) (f : Nat → Int) (w : World) (s : Nat) : Prop :=
  s ≤ n ∧ n ≤ 1048576 ∧ FeedAt w g a n c s ∧ RowIn g .u8 w a n f
def feedNx (f : Nat → Int) (n s : Nat) : Int × Bool × Nat := if s < n then (f s % 256, true, s + 1) else (0, false, s)

set_option maxRecDepth 100000 in
theorem feedNext_end (g : Nat) (a : Option Addr) (n c : Nat) (w : World) (h : FeedAt w g a n c n) :
    Calls Try.prog 155 #[.pointer (some ⟨g, 0, none⟩)] w fun e w' => e = .returned (.tuple #[.int .u8 0, .bool false]) ∧ ∃ m, w' = w.drewN m := by
  have c0 := blk_cell h (j := 0) (v := .slice a n c) rfl
  have c1 := blk_cell h (j := 1) (v := .int .i64 n) rfl
  clear h
  go_enter Try.func155, Try.ntmps155
  go_wp2
  go_quiet (fail)
  go_wp2
  go_ret2
  exact ⟨rfl, _, rfl⟩

set_option maxRecDepth 100000 in
theorem feedNext_more (g : Nat) (a : Option Addr) (n c at_ : Nat) (f : Nat → Int) (w : World) (hn : n ≤ 1048576) (h : FeedAt w g a n c at_) (hr : RowIn g .u8 w a n f) (hlt : at_ < n) :
    Calls Try.prog 155 #[.pointer (some ⟨g, 0, none⟩)] w fun e w' => e = .returned (.tuple #[.int .u8 (f at_), .bool true]) ∧ Fr (fun k => k = g) w w' ∧ FeedAt w' g a n c (at_ + 1) := by
  have c0 := blk_cell h (j := 0) (v := .slice a n c) rfl
  have c1 := blk_cell h (j := 1) (v := .int .i64 at_) rfl
  have f1 := blk_frozen h 1
  obtain ⟨b, off, rfl, hb, hx⟩ := hr.at hlt
  have hne : ((at_ : Int) == (n : Int)) = false := by simp; omega
  have h0 : (0 : Int) ≤ (at_ : Int) := by omega
  have h1 : (at_ : Int) < (n : Int) := by omega
  have hbg : b ≠ g := by omega
  have H := hid h
  clear h hr
  go_enter Try.func155, Try.ntmps155
  go_wp2
  go_quiet (fail)
  go_wp2
  go_quiet (fail)
  go_wp2
  go_ret2
  refine ⟨rfl, ?_, ?_⟩
  · repeat (first | exact Fr.refl _ _ | refine Fr.drewN ?_ _ | refine Fr.drew ?_ | refine Fr.setOne ?_ _ _)
  · exact blk_set (w := w.drewN _) (i := 1) (v := .int .i64 (at_ + 1)) H.out

/-- the feed that lies at g, over the row a of n bytes f. -/
def feed (g : Nat) (a : Option Addr) (n c : Nat) (f : Nat → Int) (hf : ∀ i, i < n → 0 ≤ f i ∧ f i < 256) : Sour Nat where
  ty := 45
  val := .pointer (some ⟨g, 0, none⟩)
  fid := 155
  foot := feedFoot g a
  I := FeedIs g a n c f
  nx := feedNx f n
  byte := fun s => by
    unfold feedNx
    by_cases h : s < n
    · rw [if_pos h]; show 0 ≤ f s % 256 ∧ f s % 256 < 256; omega
    · rw [if_neg h]; show (0 : Int) ≤ 0 ∧ (0 : Int) < 256; omega
  meth := fun w => by kernel_rfl
  enter := fun w => by kernel_rfl
  call := fun w s h => by
    obtain ⟨h1, h2, h3, h4⟩ := h
    unfold feedNx
    by_cases hlt : s < n
    · rw [if_pos hlt]
      have hb := hf s hlt
      refine (feedNext_more g a n c s f w h2 h3 h4 hlt).mono fun e w' ⟨e1, e2, e3⟩ => ⟨?_, e2.mono (fun k _ hk => .inl hk), (show s + 1 ≤ n by omega), h2, e3, ?_⟩
      · rw [e1]; show _ = Ending.returned (.tuple #[.int .u8 (f s % 256), .bool true]); rw [Int.emod_eq_of_lt hb.1 hb.2]
      · exact h4.fr e2 (fun i hi e => by have : i = g := e; omega)
    · rw [if_neg hlt]
      obtain rfl : s = n := by omega
      refine (feedNext_end g a s c w h3).mono fun e w' ⟨e1, m, e2⟩ => ⟨e1, ?_, ?_⟩
      · rw [e2]; exact (Fr.refl _ _).drewN _
      · rw [e2]; exact ⟨Nat.le_refl _, h2, h3, h4⟩
  keep := fun w w' s T h hf ht => by
    obtain ⟨h1, h2, h3, h4⟩ := h
    refine ⟨h1, h2, hf.blk h3 (ht g (.inl rfl)), ?_⟩
    rcases h4 with h4 | ⟨b, off, e, hb, hc⟩
    · exact .inl h4
    · exact .inr ⟨b, off, e, hb, fun i hi => hf.cell (hc i hi) (ht b (.inr ⟨_, e, rfl⟩))⟩
end Go.Proofs.Ytjnegcambbeblaa

/- The range decoder: what its functions reckon, and their walks. -/
namespace Go.Proofs.Ytjnegcambbeblaa
open Go.RowKit

/-- a decoder over a source's states. -/
structure RD (S : Type) where
  src : S
  rng : Int
  code : Int
  bad : Bool
def RD.next {S : Type} (nx : S → Int × Bool × S) (d : RD S) : Int × RD S :=
  if d.bad = true then (0, d) else ((nx d.src).1, ⟨(nx d.src).2.2, d.rng, d.code, !(nx d.src).2.1⟩)
def RD.level {S : Type} (nx : S → Int × Bool × S) (d : RD S) : RD S :=
  if d.rng < 16777216 then ⟨(d.next nx).2.src, d.rng * 256, d.code * 256 % 4294967296 + (d.next nx).1, (d.next nx).2.bad⟩ else d
def RD.Ok {S : Type} (d : RD S) : Prop := 0 ≤ d.rng ∧ d.rng < 4294967296 ∧ 0 ≤ d.code ∧ d.code < 4294967296

def DecAt {S : Type} (s : Sour S) (w : World) (g : Nat) (d : RD S) : Prop := w.heap[g]? = some (.cells #[.iface s.ty s.val, .int .u32 d.rng, .int .u32 d.code, .bool d.bad] 162)
structure DecIs {S : Type} (s : Sour S) (g : Nat) (w : World) (d : RD S) : Prop where
  at_ : DecAt s w g d
  src : s.I w d.src
  ok : d.Ok
  apart : ¬ s.foot g
def decFoot {S : Type} (s : Sour S) (g k : Nat) : Prop := k = g ∨ s.foot k
theorem DecIs.keep {S : Type} {s : Sour S} {g : Nat} {w w' : World} {d : RD S} (h : DecIs s g w d) {T : Nat → Prop} (hf : Fr T w w') (ht : ∀ k, decFoot s g k → ¬ T k) : DecIs s g w' d :=
  ⟨hf.blk h.at_ (ht g (.inl rfl)), s.keep _ _ _ _ h.src hf (fun k hk => ht k (.inr hk)), h.ok, h.apart⟩

theorem callsR {P : Program} {f : FuncId} {args : Array Value} {w : World} {R R' : Ending → World → Prop} (h : Calls P f args w R) (hr : ∀ e w', R e w' → R' e w') : Calls P f args w R' := h.mono hr

set_option maxRecDepth 100000 in
theorem dnext_any {S : Type} (s : Sour S) (g : Nat) (d : RD S) (w : World) (h : DecIs s g w d) :
    Calls Try.prog 86 #[.pointer (some ⟨g, 0, none⟩)] w fun e w' => e = .returned (.int .u8 (d.next s.nx).1) ∧ Fr (decFoot s g) w w' ∧ DecIs s g w' (d.next s.nx).2 := by
  have c0 := blk_cell h.at_ (j := 0) (v := .iface s.ty s.val) rfl
  have c3 := blk_cell h.at_ (j := 3) (v := .bool d.bad) rfl
  have f3 := blk_frozen h.at_ 3
  have H := hid h
  clear h
  unfold RD.next
  cases hb : d.bad with
  | true =>
    rw [hb] at c3
    go_enter Try.func86, Try.ntmps86
    go_wp2
    go_ret
    exact ⟨rfl, Fr.refl _ _, H.out⟩
  | false =>
    rw [hb] at c3
    go_enter Try.func86, Try.ntmps86
    go_wp2_with (refine opInvoke rfl (.tmp 13) _ rfl s.ty s.val rfl s.fid s.val s.meth s.enter (fun K hK => ?_))
    refine (s.call _ _ H.out.src).mono ?_
    rintro e w1 ⟨rfl, hf1, hi1⟩
    have f3' := hf1.frozen (p := ⟨g, 3, none⟩) (blk_lt H.out.at_) f3 H.out.apart
    have c3' := hf1.cell c3 H.out.apart
    have Hf1 := hid hf1
    have Hi1 := hid hi1
    clear hf1 hi1
    go_wp2_with fail
    go_ret
    refine ⟨rfl, ?_, ?_⟩
    · exact (Hf1.out.mono (fun _ _ h => .inr h)).setCell (fun _ => .inl rfl) _
    · have e1 := blk_set (i := 3) (v := .bool (!(s.nx d.src).2.1)) (Hf1.out.blk H.out.at_ H.out.apart)
      refine ⟨e1, ?_, H.out.ok, H.out.apart⟩
      exact s.keep _ _ _ (fun k => k = g) Hi1.out (Fr.setOne (Fr.refl _ _) _ _) (fun k hk e => H.out.apart (by rw [← e]; exact hk))

theorem dnext_same {S : Type} (nx : S → Int × Bool × S) (d : RD S) : (d.next nx).2 = ⟨(d.next nx).2.src, d.rng, d.code, (d.next nx).2.bad⟩ := by
  unfold RD.next
  by_cases h : d.bad = true
  · rw [if_pos h]
  · rw [if_neg h]
theorem dnext_any' {S : Type} (s : Sour S) (g : Nat) (d : RD S) (w : World) (h : DecIs s g w d) :
    Calls Try.prog 86 #[.pointer (some ⟨g, 0, none⟩)] w fun e w' => e = .returned (.int .u8 (d.next s.nx).1) ∧ Fr (decFoot s g) w w' ∧ DecIs s g w' ⟨(d.next s.nx).2.src, d.rng, d.code, (d.next s.nx).2.bad⟩ := by
  have := dnext_any s g d w h
  rw [dnext_same] at this
  exact this
theorem RD.next_byte {S : Type} (s : Sour S) (d : RD S) : 0 ≤ (d.next s.nx).1 ∧ (d.next s.nx).1 < 256 := by
  unfold RD.next
  by_cases h : d.bad = true
  · rw [if_pos h]; show (0 : Int) ≤ 0 ∧ (0 : Int) < 256; omega
  · rw [if_neg h]; exact s.byte d.src
theorem nat_or_low (a x k : Nat) (h : x < 2 ^ k) : a * 2 ^ k ||| x = a * 2 ^ k + x := by
  rw [Nat.mul_comm, Nat.two_pow_add_eq_or_of_lt h]
theorem or_byte (c x : Int) (_hc0 : 0 ≤ c) (hx0 : 0 ≤ x) (hx1 : x < 256) : bits BinOp.or IntKind.u32 (IntKind.u32.wrap (c * 256)) (IntKind.u32.wrap x) = c * 256 % 4294967296 + x := by
  rw [IntKind.wrap_u32', IntKind.wrap_u32', Int.emod_eq_of_lt hx0 (by omega), u32_or _ _ (by omega) (by omega) hx0 (by omega)]
  have e : (c * 256 % 4294967296).toNat = (c % 16777216).toNat * 2 ^ 8 := by omega
  rw [e, nat_or_low _ _ 8 (by omega)]
  omega
def DPost {S : Type} (s : Sour S) (g : Nat) (w : World) (v : Value) (d' : RD S) (e : Ending) (w' : World) : Prop :=
  e = .returned v ∧ Fr (decFoot s g) w w' ∧ DecIs s g w' d'
theorem RD.level_lt {S : Type} (nx : S → Int × Bool × S) (d : RD S) (h : d.rng < 16777216) : d.level nx = ⟨(d.next nx).2.src, d.rng * 256, d.code * 256 % 4294967296 + (d.next nx).1, (d.next nx).2.bad⟩ := if_pos h
theorem RD.level_ge {S : Type} (nx : S → Int × Bool × S) (d : RD S) (h : ¬ d.rng < 16777216) : d.level nx = d := if_neg h
theorem RD.next_rng {S : Type} (nx : S → Int × Bool × S) (d : RD S) (r : Int) : RD.next nx ⟨d.src, r, d.code, d.bad⟩ = ((d.next nx).1, ⟨(d.next nx).2.src, r, d.code, (d.next nx).2.bad⟩) := by
  unfold RD.next
  by_cases h : d.bad = true
  · rw [if_pos h, if_pos h]
  · rw [if_neg h, if_neg h]
theorem DecIs.set {S : Type} {s : Sour S} {g : Nat} {w : World} {d d' : RD S} (h : DecIs s g w d) (i : Nat) (v : Value)
    (hc : (#[.iface s.ty s.val, .int .u32 d.rng, .int .u32 d.code, .bool d.bad] : Array Value).setIfInBounds i v = #[.iface s.ty s.val, .int .u32 d'.rng, .int .u32 d'.code, .bool d'.bad]) (hs : d'.src = d.src) (ho : d'.Ok) :
    DecIs s g (w.setCell ⟨g, i, none⟩ v) d' := by
  refine ⟨?_, ?_, ho, h.apart⟩
  · have := blk_set (i := i) (v := v) h.at_
    rw [hc] at this
    exact this
  · rw [hs]
    exact s.keep _ _ _ (fun k => k = g) h.src (Fr.setOne (Fr.refl _ _) _ _) (fun k hk e => h.apart (by rw [← e]; exact hk))
theorem DecIs.drew {S : Type} {s : Sour S} {g : Nat} {w : World} {d : RD S} (h : DecIs s g w d) : DecIs s g w.drew d := h.keep (Fr.refl Non _).drew (fun _ _ e => e)
theorem DecIs.drewN {S : Type} {s : Sour S} {g : Nat} {w : World} {d : RD S} (h : DecIs s g w d) (n : Nat) : DecIs s g (w.drewN n) d := h.keep ((Fr.refl Non _).drewN n) (fun _ _ e => e)

set_option maxRecDepth 100000 in
theorem dlevel_any {S : Type} (s : Sour S) (g : Nat) (d : RD S) (w : World) (h : DecIs s g w d) :
    Calls Try.prog 115 #[.pointer (some ⟨g, 0, none⟩)] w (DPost s g w (.tuple #[]) (d.level s.nx)) := by
  have c1 := blk_cell h.at_ (j := 1) (v := .int .u32 d.rng) rfl
  have c2 := blk_cell h.at_ (j := 2) (v := .int .u32 d.code) rfl
  have f1 := blk_frozen h.at_ 1
  have f2 := blk_frozen h.at_ 2
  obtain ⟨o1, o2, o3, o4⟩ := h.ok
  have H := hid h
  clear h
  by_cases hr : d.rng < 16777216
  · obtain ⟨x, hx⟩ : ∃ x, x = (d.next s.nx).1 := ⟨_, rfl⟩
    have hb0 : 0 ≤ x := by rw [hx]; exact (RD.next_byte s d).1
    have hb1 : x < 256 := by rw [hx]; exact (RD.next_byte s d).2
    have HX := hid hx
    clear hx
    have HE := hid (H.out.set (d' := ⟨d.src, d.rng * 256, d.code, d.bad⟩) 1 (.int .u32 (d.rng * 256)) rfl rfl ⟨by show 0 ≤ d.rng * 256; omega, by show d.rng * 256 < _; omega, o3, o4⟩)
    have hcall : ∀ w0, DecIs s g w0 ⟨d.src, d.rng * 256, d.code, d.bad⟩ → Calls Try.prog 86 #[.pointer (some ⟨g, 0, none⟩)] w0 (DPost s g w0 (.int .u8 x) ⟨(d.next s.nx).2.src, d.rng * 256, d.code, (d.next s.nx).2.bad⟩) := fun w0 h0 => by
      have := dnext_any' s g ⟨d.src, d.rng * 256, d.code, d.bad⟩ w0 h0
      rw [RD.next_rng s.nx d, ← HX.out] at this
      exact this
    have HC := hid hcall
    clear hcall
    go_enter Try.func115, Try.ntmps115
    go_wp2
    go_region_with (go_at_call 86; refine (HC.out _ (by first | exact HE.out.drew | exact HE.out)).mono ?_; rintro e w1 ⟨rfl, hf1, hd1⟩; have c2n := blk_cell hd1.at_ (j := 2) (v := .int .u32 d.code) rfl; have f2n := blk_frozen hd1.at_ 2)
    all_goals
      have HF := hid hf1
      have HD := hid hd1
      clear hf1 hd1
      go_wp2_with fail
      go_end0
      refine ⟨rfl, ?_, ?_⟩
      · refine Fr.setCell (Fr.then (S := decFoot s g) ?_ HF.out (fun _ _ h => h)) (fun _ => .inl rfl) _
        repeat (first | exact Fr.refl _ _ | refine Fr.drewN ?_ _ | refine Fr.drew ?_ | refine Fr.setCell ?_ (fun _ => .inl rfl) _)
      · rw [RD.level_lt _ _ hr, or_byte _ _ o3 hb0 hb1, ← HX.out]
        exact HD.out.set 2 _ rfl rfl ⟨HD.out.ok.1, HD.out.ok.2.1, by show 0 ≤ d.code * 256 % 4294967296 + x; omega, by show d.code * 256 % 4294967296 + x < _; omega⟩
  · go_enter Try.func115, Try.ntmps115
    go_wp2
    go_end0
    rw [RD.level_ge s.nx d (by omega)]
    exact ⟨rfl, Fr.refl _ _, H.out⟩
end Go.Proofs.Ytjnegcambbeblaa

/- The range decoder: a bit. -/
namespace Go.Proofs.Ytjnegcambbeblaa
open Go.RowKit

/-- a bit with the probability p: the bit, the probability then, the decoder then. -/
def RD.bit {S : Type} (nx : S → Int × Bool × S) (d : RD S) (p : Int) : Nat × Int × RD S :=
  if d.bad = true then (0, p, d)
  else if d.code < d.rng / 2048 * p then (0, p + (2048 - p) / 32, RD.level nx ⟨d.src, d.rng / 2048 * p, d.code, d.bad⟩)
  else (if (RD.level nx ⟨d.src, d.rng - d.rng / 2048 * p, d.code - d.rng / 2048 * p, d.bad⟩).bad = true then 0 else 1, p - p / 32, RD.level nx ⟨d.src, d.rng - d.rng / 2048 * p, d.code - d.rng / 2048 * p, d.bad⟩)
def bitFoot {S : Type} (s : Sour S) (g gp k : Nat) : Prop := decFoot s g k ∨ k = gp
/-- what Bit leaves: the answer, the decoder, and in block gp the probability at o. -/
def BitPost {S : Type} (s : Sour S) (g gp o : Nat) (cs : Array Value) (T : TypeId) (w : World) (r : Nat × Int × RD S) (e : Ending) (w' : World) : Prop :=
  e = .returned (.int .i64 r.1) ∧ Fr (bitFoot s g gp) w w' ∧ DecIs s g w' r.2.2 ∧ w'.heap[gp]? = some (.cells (cs.setIfInBounds o (.int .u16 r.2.1)) T)
theorem set_same {cs : Array Value} {o : Nat} {v : Value} (h : cs[o]? = some v) : cs.setIfInBounds o v = cs := by
  apply Array.ext_getElem?
  intro j
  rw [Array.getElem?_setIfInBounds]
  by_cases e : o = j
  · subst e
    rw [if_pos rfl, h, if_pos (Array.getElem?_eq_some_iff.1 h).1]
  · rw [if_neg e]
theorem bound_le (r p : Int) (h0 : 0 ≤ r) (hp : p ≤ 2048) : r / 2048 * p ≤ r := by
  have h1 : r / 2048 * p ≤ r / 2048 * 2048 := Int.mul_le_mul_of_nonneg_left hp (by omega)
  omega
theorem bound_nn (r p : Int) (h0 : 0 ≤ r) (hp : 0 ≤ p) : 0 ≤ r / 2048 * p := Int.mul_nonneg (by omega) hp

set_option maxRecDepth 100000 in
set_option maxHeartbeats 1000000 in
theorem dbit_any {S : Type} (s : Sour S) (g gp o : Nat) (cs : Array Value) (T : TypeId) (d : RD S) (p : Int) (w : World) (h : DecIs s g w d) (hg : ¬ decFoot s g gp)
    (hb : w.heap[gp]? = some (.cells cs T)) (hc : cs[o]? = some (.int .u16 p)) (hp0 : 0 ≤ p) (hp1 : p ≤ 2048) :
    Calls Try.prog 87 #[.pointer (some ⟨g, 0, none⟩), .pointer (some ⟨gp, o, none⟩)] w (BitPost s g gp o cs T w (d.bit s.nx p)) := by
  have c1 := blk_cell h.at_ (j := 1) (v := .int .u32 d.rng) rfl
  have c2 := blk_cell h.at_ (j := 2) (v := .int .u32 d.code) rfl
  have c3 := blk_cell h.at_ (j := 3) (v := .bool d.bad) rfl
  have cp := blk_cell hb hc
  have f1 := blk_frozen h.at_ 1
  have f2 := blk_frozen h.at_ 2
  have fp := blk_frozen hb o
  obtain ⟨o1, o2, o3, o4⟩ := h.ok
  have hne : gp ≠ g := fun e => hg (.inl e)
  have hne' : g ≠ gp := fun e => hne e.symm
  have H := hid h
  have Hg := hid hg
  have Hb := hid hb
  have Hc := hid hc
  clear h hg hb hc
  cases hbad : d.bad with
  | true =>
    rw [hbad] at c3
    have HB := hid hbad
    clear hbad
    go_enter Try.func87, Try.ntmps87
    go_wp2
    go_ret
    unfold RD.bit
    rw [if_pos HB.out]
    exact ⟨rfl, Fr.refl _ _, H.out, by rw [set_same Hc.out]; exact Hb.out⟩
  | false =>
    rw [hbad] at c3
    have HB := hid hbad
    clear hbad
    have hbd0 := bound_nn d.rng p o1 hp0
    have hbd1 := bound_le d.rng p o1 hp1
    by_cases hlt : d.code < d.rng / 2048 * p
    · obtain ⟨B, hB⟩ : ∃ B, B = d.rng / 2048 * p := ⟨_, rfl⟩
      obtain ⟨D, hD⟩ : ∃ D, D = RD.level s.nx ⟨d.src, B, d.code, d.bad⟩ := ⟨_, rfl⟩
      have e : d.bit s.nx p = (0, p + (2048 - p) / 32, D) := by
        unfold RD.bit
        rw [if_neg (by rw [HB.out]; decide), if_pos hlt, hD, hB]
      have e2 : ∀ w0, DecIs s g w0 ⟨d.src, B, d.code, d.bad⟩ → Calls Try.prog 115 #[.pointer (some ⟨g, 0, none⟩)] w0 (DPost s g w0 (.tuple #[]) D) := fun w0 h0 => by
        rw [hD]; exact dlevel_any s g _ w0 h0
      have E := hid e
      have E2 := hid e2
      have HBB := hid hB
      have hB0 : 0 ≤ B := by rw [hB]; exact hbd0
      have hB1 : B ≤ d.rng := by rw [hB]; exact hbd1
      clear e e2 hD hB
      go_enter Try.func87, Try.ntmps87
      go_wp2
      go_quiet (fail)
      go_wp2
      go_region
      all_goals go_wp2_with fail
      rw [← HBB.out]
      refine (E2.out _ (by
        refine DecIs.drew ?_
        refine DecIs.keep (T := fun k => k = gp) ?_ (Fr.setOne (Fr.refl _ _) _ _) (fun k hk e => Hg.out (e ▸ hk))
        exact (H.out.drewN _).set 1 _ rfl rfl ⟨hB0, by show B < _; omega, o3, o4⟩)).mono ?_
      rintro e w1 ⟨rfl, hf1, hd1⟩
      have HF := hid hf1
      have HD := hid hd1
      have c3n := blk_cell hd1.at_ (j := 3) (v := .bool D.bad) rfl
      clear hf1 hd1
      have hfin : BitPost s g gp o cs T w (0, p + (2048 - p) / 32, D) (.returned (.int .i64 0)) w1 := by
        refine ⟨rfl, ?_, HD.out, ?_⟩
        · refine Fr.then (S := bitFoot s g gp) ?_ HF.out (fun _ _ h => .inl h)
          refine Fr.drew ?_
          refine Fr.setCell ?_ (fun _ => .inr rfl) _
          refine Fr.setCell ?_ (fun _ => .inl (.inl rfl)) _
          exact (Fr.refl _ _).drewN _
        · exact HF.out.blk (blk_drew (blk_set (blk_set_ne (blk_drewN Hb.out) hne))) Hg.out
      have HFin := hid hfin
      clear hfin
      cases hDb : D.bad with
      | true =>
        rw [hDb] at c3n
        go_wp2_with fail
        go_ret
        rw [E.out]
        exact HFin.out
      | false =>
        rw [hDb] at c3n
        go_wp2_with fail
        go_ret
        rw [E.out]
        exact HFin.out
    · obtain ⟨B, hB⟩ : ∃ B, B = d.rng / 2048 * p := ⟨_, rfl⟩
      obtain ⟨D, hD⟩ : ∃ D, D = RD.level s.nx ⟨d.src, d.rng - B, d.code - B, d.bad⟩ := ⟨_, rfl⟩
      have e : d.bit s.nx p = (if D.bad = true then 0 else 1, p - p / 32, D) := by
        unfold RD.bit
        rw [if_neg (by rw [HB.out]; decide), if_neg hlt, hD, hB]
      have e2 : ∀ w0, DecIs s g w0 ⟨d.src, d.rng - B, d.code - B, d.bad⟩ → Calls Try.prog 115 #[.pointer (some ⟨g, 0, none⟩)] w0 (DPost s g w0 (.tuple #[]) D) := fun w0 h0 => by
        rw [hD]; exact dlevel_any s g _ w0 h0
      have E := hid e
      have E2 := hid e2
      have HBB := hid hB
      have hB0 : 0 ≤ B := by rw [hB]; exact hbd0
      have hB1 : B ≤ d.rng := by rw [hB]; exact hbd1
      have hB2 : B ≤ d.code := by rw [hB]; omega
      clear e e2 hD hB
      go_enter Try.func87, Try.ntmps87
      go_wp2
      go_quiet (fail)
      go_wp2
      go_region
      all_goals go_wp2_with fail
      all_goals go_region
      all_goals go_wp2_with fail
      rw [← HBB.out]
      refine (E2.out _ (by
        refine DecIs.drew ?_
        refine DecIs.keep (T := fun k => k = gp) ?_ (Fr.setOne (Fr.refl _ _) _ _) (fun k hk e => Hg.out (e ▸ hk))
        exact ((H.out.drewN _).set (d' := ⟨d.src, d.rng, d.code - B, d.bad⟩) 2 _ rfl rfl ⟨o1, o2, by show 0 ≤ d.code - B; omega, by show d.code - B < _; omega⟩).set 1 _ rfl rfl ⟨by show 0 ≤ d.rng - B; omega, by show d.rng - B < _; omega, by show 0 ≤ d.code - B; omega, by show d.code - B < _; omega⟩)).mono ?_
      rintro e w1 ⟨rfl, hf1, hd1⟩
      have HF := hid hf1
      have HD := hid hd1
      have c3n := blk_cell hd1.at_ (j := 3) (v := .bool D.bad) rfl
      clear hf1 hd1
      have hfin : BitPost s g gp o cs T w (if D.bad = true then 0 else 1, p - p / 32, D) (.returned (.int .i64 ((if D.bad = true then 0 else 1 : Nat) : Int))) w1 := by
        refine ⟨rfl, ?_, HD.out, ?_⟩
        · refine Fr.then (S := bitFoot s g gp) ?_ HF.out (fun _ _ h => .inl h)
          refine Fr.drew ?_
          refine Fr.setCell ?_ (fun _ => .inr rfl) _
          refine Fr.setCell ?_ (fun _ => .inl (.inl rfl)) _
          refine Fr.setCell ?_ (fun _ => .inl (.inl rfl)) _
          exact (Fr.refl _ _).drewN _
        · exact HF.out.blk (blk_drew (blk_set (blk_set_ne (blk_set_ne (blk_drewN Hb.out) hne) hne))) Hg.out
      have HFin := hid hfin
      clear hfin
      cases hDb : D.bad with
      | true =>
        rw [hDb] at c3n
        have HDb := hid hDb
        clear hDb
        go_wp2_with fail
        go_ret
        rw [E.out]
        have := HFin.out
        rw [HDb.out] at this ⊢
        exact this
      | false =>
        rw [hDb] at c3n
        have HDb := hid hDb
        clear hDb
        go_wp2_with fail
        go_ret
        rw [E.out]
        have := HFin.out
        rw [HDb.out] at this ⊢
        exact this

theorem bit_le {S : Type} (nx : S → Int × Bool × S) (d : RD S) (p : Int) : (d.bit nx p).1 ≤ 1 := by
  unfold RD.bit
  by_cases h : d.bad = true
  · rw [if_pos h]; exact Nat.zero_le _
  · rw [if_neg h]
    by_cases h2 : d.code < d.rng / 2048 * p
    · rw [if_pos h2]; exact Nat.zero_le _
    · rw [if_neg h2]
      by_cases h3 : (RD.level nx ⟨d.src, d.rng - d.rng / 2048 * p, d.code - d.rng / 2048 * p, d.bad⟩).bad = true
      · show (if _ then 0 else 1) ≤ 1; rw [if_pos h3]; exact Nat.zero_le _
      · show (if _ then 0 else 1) ≤ 1; rw [if_neg h3]; exact Nat.le_refl _
theorem bit_prob {S : Type} (nx : S → Int × Bool × S) (d : RD S) (p : Int) (h0 : 31 ≤ p) (h1 : p ≤ 2017) : 31 ≤ (d.bit nx p).2.1 ∧ (d.bit nx p).2.1 ≤ 2017 := by
  unfold RD.bit
  by_cases h : d.bad = true
  · rw [if_pos h]; exact ⟨h0, h1⟩
  · rw [if_neg h]
    by_cases h2 : d.code < d.rng / 2048 * p
    · rw [if_pos h2]; show 31 ≤ p + (2048 - p) / 32 ∧ p + (2048 - p) / 32 ≤ 2017; omega
    · rw [if_neg h2]; show 31 ≤ p - p / 32 ∧ p - p / 32 ≤ 2017; omega
end Go.Proofs.Ytjnegcambbeblaa

/- The range decoder: trees. -/
namespace Go.Proofs.Ytjnegcambbeblaa
open Go.RowKit

theorem ofInt_i64 (a : Nat) (ha : a < 18446744073709551616) : (BitVec.ofInt 64 (a : Int)).toNat = a := by
  rw [BitVec.ofInt_natCast, BitVec.toNat_ofNat]; exact Nat.mod_eq_of_lt (by omega)
theorem i64_or_nat (a b : Nat) (ha : a < 9223372036854775808) (hb : b < 9223372036854775808) : bits .or .i64 (a : Int) (b : Int) = ((a ||| b : Nat) : Int) := by
  have hx : a ||| b < 2 ^ 63 := Nat.or_lt_two_pow (by omega) (by omega)
  show IntKind.i64.wrap ((BitVec.ofInt 64 (a : Int) ||| BitVec.ofInt 64 (b : Int)).toNat : Int) = _
  rw [BitVec.toNat_or, ofInt_i64 a (by omega), ofInt_i64 b (by omega), IntKind.wrap_i64]
  omega
theorem or_bit (m b : Nat) (hb : b ≤ 1) (hm : m < 1073741824) : bits .or .i64 ((m : Int) * 2) (b : Int) = ((2 * m + b : Nat) : Int) := by
  have e : ((m : Int) * 2) = ((m * 2 ^ 1 : Nat) : Int) := by omega
  rw [e, i64_or_nat _ _ (by omega) (by omega), nat_or_low _ _ 1 (by omega)]
  omega

/-- block gp's cells behind off are L probabilities q, all else is as in cs. -/
structure Win (cs cs' : Array Value) (off L : Nat) (q : Nat → Int) : Prop where
  size : cs'.size = cs.size
  cell : ∀ j, j < L → cs'[off + j]? = some (.int .u16 (q j))
  rest : ∀ i, (i < off ∨ off + L ≤ i) → cs'[i]? = cs[i]?
theorem Win.set {cs cs' : Array Value} {off L : Nat} {q : Nat → Int} (h : Win cs cs' off L q) {m : Nat} (hm : m < L) (x : Int) : Win cs (cs'.setIfInBounds (off + m) (.int .u16 x)) off L (upd q m x) := by
  refine ⟨by simp [h.size], fun j hj => ?_, fun i hi => ?_⟩
  · rw [Array.getElem?_setIfInBounds]
    unfold upd
    by_cases e : j = m
    · have h1 := (Array.getElem?_eq_some_iff.1 (h.cell m hm)).1
      rw [if_pos (by omega), if_pos (by omega), if_pos e]
    · rw [if_neg (by omega), if_neg e, h.cell j hj]
  · rw [Array.getElem?_setIfInBounds, if_neg (by omega), h.rest i hi]
theorem Win.trans {a b c : Array Value} {off L : Nat} {q q' : Nat → Int} (h : Win a b off L q) (k : Win b c off L q') : Win a c off L q' :=
  ⟨k.size.trans h.size, k.cell, fun i hi => (k.rest i hi).trans (h.rest i hi)⟩
theorem Win.self {cs : Array Value} {off L : Nat} {q : Nat → Int} (h : ∀ j, j < L → cs[off + j]? = some (.int .u16 (q j))) : Win cs cs off L q := ⟨rfl, h, fun _ _ => rfl⟩
def Pr (q : Nat → Int) (L : Nat) : Prop := ∀ j, j < L → 31 ≤ q j ∧ q j ≤ 2017
theorem Pr.upd {q : Nat → Int} {L : Nat} (h : Pr q L) (m : Nat) {x : Int} (h0 : 31 ≤ x) (h1 : x ≤ 2017) : Pr (upd q m x) L := by
  intro j hj
  unfold Go.Proofs.Ytjnegcambbeblaa.upd
  by_cases e : j = m
  · rw [if_pos e]; exact ⟨h0, h1⟩
  · rw [if_neg e]; exact h j hj

/-- k bits more of a tree, m so far. -/
def RD.treeGo {S : Type} (nx : S → Int × Bool × S) : Nat → RD S → (Nat → Int) → Nat → Nat × (Nat → Int) × RD S
  | 0, d, q, m => (m, q, d)
  | k + 1, d, q, m => RD.treeGo nx k (d.bit nx (q m)).2.2 (upd q m (d.bit nx (q m)).2.1) (2 * m + (d.bit nx (q m)).1)
/-- a tree of k bits: the number, the probabilities, the decoder. -/
def RD.tree {S : Type} (nx : S → Int × Bool × S) (k : Nat) (d : RD S) (q : Nat → Int) : Nat × (Nat → Int) × RD S :=
  (if (RD.treeGo nx k d q 1).2.2.bad = true then 0 else (RD.treeGo nx k d q 1).1 - 2 ^ k, (RD.treeGo nx k d q 1).2)
def TreePost {S : Type} (s : Sour S) (g gp off L : Nat) (cs : Array Value) (T : TypeId) (w : World) (v : Value) (q : Nat → Int) (d : RD S) (e : Ending) (w' : World) : Prop :=
  e = .returned v ∧ Fr (bitFoot s g gp) w w' ∧ DecIs s g w' d ∧ ∃ cs', w'.heap[gp]? = some (.cells cs' T) ∧ Win cs cs' off L q

set_option maxRecDepth 100000 in
set_option maxHeartbeats 1000000 in
theorem dtree_any {S : Type} (s : Sour S) (g gp off len cap B : Nat) (cs : Array Value) (T : TypeId) (d : RD S) (q : Nat → Int) (w : World) (h : DecIs s g w d) (hg : ¬ decFoot s g gp)
    (hb : w.heap[gp]? = some (.cells cs T)) (hc : ∀ j, j < 2 ^ B → cs[off + j]? = some (.int .u16 (q j))) (hp : Pr q (2 ^ B)) (hB : B ≤ 16) (hL : 2 ^ B ≤ len) (hlen : len ≤ 1048576) :
    Calls Try.prog 127 #[.pointer (some ⟨g, 0, none⟩), .slice (some ⟨gp, off, none⟩) len cap, .int .i64 B] w
      (TreePost s g gp off (2 ^ B) cs T w (.int .i64 (d.tree s.nx B q).1) (d.tree s.nx B q).2.1 (d.tree s.nx B q).2.2) := by
  have H := hid h
  have Hg := hid hg
  have Hb := hid hb
  have Hc := hid hc
  have Hp := hid hp
  clear h hg hb hc hp
  obtain ⟨L, hL1⟩ : ∃ L, L = 2 ^ B := ⟨_, rfl⟩
  rw [← hL1] at hL
  have HL := hid hL1
  clear hL1
  go_enter Try.func127, Try.ntmps127
  go_wp2
  go_loopw [7, 9] (fun mv i wr => ∃ (k m : Nat) (d1 : RD S) (q1 : Nat → Int) (cs1 : Array Value), k ≤ B ∧ i = .int .i64 k ∧ mv = .int .i64 m ∧ 2 ^ k ≤ m ∧ m < 2 ^ (k + 1) ∧
      RD.treeGo s.nx (B - k) d1 q1 m = RD.treeGo s.nx B d q 1 ∧ Fr (bitFoot s g gp) w wr ∧ DecIs s g wr d1 ∧ wr.heap[gp]? = some (.cells cs1 T) ∧ Win cs cs1 off L q1 ∧ Pr q1 L)
    (fun _ i _ => B - (intOf i).toNat)
  case atStart =>
    exact ⟨0, 1, d, q, cs, Nat.zero_le _, rfl, rfl, by decide, by decide, rfl, Fr.refl _ _, H.out, Hb.out, Win.self (by rw [HL.out]; exact Hc.out), by rw [HL.out]; exact Hp.out⟩
  case round =>
    obtain ⟨k, m, d1, q1, cs1, hk, rfl, rfl, hm0, hm1, hgo, hfr, hdec, hblk, hwin, hpr⟩ := hrel
    have Hgo := hid hgo
    have Hfr := hid hfr
    have Hdec := hid hdec
    have Hblk := hid hblk
    have Hwin := hid hwin
    have Hpr := hid hpr
    clear hgo hfr hdec hblk hwin hpr
    by_cases hlt : k < B
    · have hmL : m < L := by
        have : 2 ^ (k + 1) ≤ 2 ^ B := Nat.pow_le_pow_right (by decide) hlt
        rw [HL.out]; omega
      have hm2 : m < 1048576 := by omega
      have hbit := Hpr.out m hmL
      have Hm0 := hid hm0
      have Hm1 := hid hm1
      clear hm0 hm1
      go_wp2_with fail
      refine (dbit_any s g gp (off + m) cs1 T d1 (q1 m) _ Hdec.out Hg.out Hblk.out (Hwin.out.cell m hmL) (by omega) (by omega)).mono ?_
      rintro e w1 ⟨rfl, hf1, hd1, hb1⟩
      have hb2 := bit_le s.nx d1 (q1 m)
      have hb3 := bit_prob s.nx d1 (q1 m) hbit.1 hbit.2
      have Hf1 := hid hf1
      have Hd1 := hid hd1
      have Hb1 := hid hb1
      have Hb3 := hid hb3
      have Hor := hid (or_bit m (d1.bit s.nx (q1 m)).1 hb2 (by omega))
      clear hf1 hd1 hb1 hb3
      go_wp2_with fail
      go_roundw
      case rel =>
        refine ⟨k + 1, 2 * m + (d1.bit s.nx (q1 m)).1, (d1.bit s.nx (q1 m)).2.2, upd q1 m (d1.bit s.nx (q1 m)).2.1, _, by omega, by go_num, by rw [Hor.out], ?_, ?_, ?_, ?_, Hd1.out, Hb1.out, Hwin.out.set hmL _, Hpr.out.upd m Hb3.out.1 Hb3.out.2⟩
        · have := Hm0.out; rw [Nat.pow_succ]; omega
        · have := Hm1.out; rw [Nat.pow_succ]; omega
        · have e : B - k = (B - (k + 1)) + 1 := by omega
          have := Hgo.out
          rw [e] at this
          exact this
        · exact Fr.then Hfr.out Hf1.out (fun _ _ h => h)
      case measure => simp [intOf]; omega
    · have e : k = B := by omega
      subst e
      have hgo := Hgo.out
      rw [Nat.sub_self] at hgo
      have c3 := blk_cell Hdec.out.at_ (j := 3) (v := .bool d1.bad) rfl
      have hfin : ∀ v : Nat, v = (d.tree s.nx k q).1 → TreePost s g gp off (2 ^ k) cs T w (.int .i64 (d.tree s.nx k q).1) (d.tree s.nx k q).2.1 (d.tree s.nx k q).2.2 (.returned (.int .i64 v)) wr := by
        intro v hv
        unfold RD.tree at hv ⊢
        rw [← hgo] at hv ⊢
        exact ⟨by rw [hv], Hfr.out, Hdec.out, cs1, Hblk.out, by rw [← HL.out]; exact Hwin.out⟩
      have hval : (d.tree s.nx k q).1 = if d1.bad = true then 0 else m - 2 ^ k := by
        unfold RD.tree
        rw [← hgo]
        rfl
      have HFin := hid hfin
      have HVal := hid hval
      have Hm0 := hid hm0
      have Hm1 := hid hm1
      have hmb : m < 2 * L := by have := Hm1.out; rw [Nat.pow_succ, ← HL.out] at this; omega
      have hmL : L ≤ m := by have := Hm0.out; rw [← HL.out] at this; exact this
      clear hfin hval hgo hm0 hm1
      cases hbad : d1.bad with
      | true =>
        rw [hbad] at c3
        have HB := hid hbad
        clear hbad
        go_wp2_with fail
        go_ret
        exact HFin.out 0 (by rw [HVal.out, if_pos HB.out])
      | false =>
        rw [hbad] at c3
        have HB := hid hbad
        clear hbad
        go_wp2_with fail
        go_ret
        have e : wrap64 ((m : Int) - wrap64 (2 ^ k)) = ((m - 2 ^ k : Nat) : Int) := by
          have e2 : (2 : Int) ^ k = ((2 ^ k : Nat) : Int) := by simp
          rw [e2, ← HL.out, IntWalk.wrap64_in (L : Int) ⟨by omega, by omega⟩, IntWalk.wrap64_in ((m : Int) - (L : Int)) ⟨by omega, by omega⟩]
          omega
        have := HFin.out (m - 2 ^ k) (by rw [HVal.out, if_neg (by rw [HB.out]; decide)])
        rw [← e] at this
        exact this
end Go.Proofs.Ytjnegcambbeblaa
