/- Rows of packets: a slice of the call's own that grows by append, and how it reads. -/
import Derived.Test.YteedolfhmiehfaaBase
import Derived.Test.YteedolfhmiehfaaPar
import Derived.Test.YteedolfhmiehfaaRows
namespace Go.Proofs.Yteedolfhmiehfaa
open Go.RowKit

def pkCells (x : Pk) : List Value := [.int .i64 x.kind, .int .u8 x.byte, .int .i64 x.len, .int .u32 x.dist]
theorem Try.info_pk3 : (Try.prog.info? 38).map (fun i => (i.zero, i.size, i.bytes)) = some (some (.agg #[.int .i64 0, .int .u8 0, .int .i64 0, .int .u32 0]), 4, 32) := by kernel_rfl
def PkOwn (w : World) (base : Nat) (v : Value) (l : List Pk) : Prop := w.ownsRow base 38 4 v l.length (l.flatMap pkCells)
theorem PkOwn.nil (w : World) (base : Nat) : PkOwn w base (.slice none 0 0) [] := World.ownsRow_nil w base 38 4
theorem PkOwn.block {w : World} {base : Nat} {v : Value} {l : List Pk} (h : PkOwn w base v l) : ∀ g, v.ownBlock = some g → base ≤ g ∧ g < w.heap.size := World.ownsRow.lt h
theorem PkOwn.fr {S : Nat → Prop} {w w' : World} {base : Nat} {v : Value} {l : List Pk} (h : PkOwn w base v l) (hf : Fr S w w') (hs : ∀ g, base ≤ g → g < w.heap.size → ¬ S g) : PkOwn w' base v l := by
  have hb := h.block
  obtain ⟨h1, h2⟩ := h
  refine ⟨h1, ?_⟩
  rcases h2 with h2 | ⟨g, cap, cur, hv, hg, hh, r⟩
  · exact .inl h2
  · exact .inr ⟨g, cap, cur, hv, hg, hf.blk hh (by have := hb g (by rw [hv]; rfl); exact hs g this.1 this.2), r⟩
/-- what a slice of packets reads as; it lies below block B. -/
def PkIn (B : Nat) (w : World) (a : Option Addr) (n : Nat) (l : Nat → Pk) : Prop :=
  n = 0 ∨ ∃ b off, a = some ⟨b, off, none⟩ ∧ b < B ∧ ∀ i, i < n → w.cell? ⟨b, off + i * 4, none⟩ = some (.int .i64 (l i).kind) ∧ w.cell? ⟨b, off + i * 4 + 1, none⟩ = some (.int .u8 (l i).byte) ∧ w.cell? ⟨b, off + i * 4 + 2, none⟩ = some (.int .i64 (l i).len) ∧ w.cell? ⟨b, off + i * 4 + 3, none⟩ = some (.int .u32 (l i).dist)
theorem PkIn.fr {B : Nat} {w w' : World} {a : Option Addr} {n : Nat} {l : Nat → Pk} {S : Nat → Prop} (h : PkIn B w a n l) (hf : Fr S w w') (hs : ∀ i, i < B → ¬ S i) : PkIn B w' a n l := by
  rcases h with h | ⟨b, off, h1, h2, h3⟩
  · exact .inl h
  · exact .inr ⟨b, off, h1, h2, fun i hi => ⟨hf.cell (h3 i hi).1 (hs b h2), hf.cell (h3 i hi).2.1 (hs b h2), hf.cell (h3 i hi).2.2.1 (hs b h2), hf.cell (h3 i hi).2.2.2 (hs b h2)⟩⟩
theorem PkIn.at {B : Nat} {w : World} {a : Option Addr} {n : Nat} {l : Nat → Pk} (h : PkIn B w a n l) {i : Nat} (hi : i < n) :
    ∃ b off, a = some ⟨b, off, none⟩ ∧ b < B ∧ w.cell? ⟨b, off + i * 4, none⟩ = some (.int .i64 (l i).kind) ∧ w.cell? ⟨b, off + i * 4 + 1, none⟩ = some (.int .u8 (l i).byte) ∧ w.cell? ⟨b, off + i * 4 + 2, none⟩ = some (.int .i64 (l i).len) ∧ w.cell? ⟨b, off + i * 4 + 3, none⟩ = some (.int .u32 (l i).dist) := by
  rcases h with h | ⟨b, off, h1, h2, h3⟩
  · omega
  · exact ⟨b, off, h1, h2, h3 i hi⟩
def pk0 : Pk := ⟨0, 0, 0, 0⟩
theorem pkCells_get (l : List Pk) {i j : Nat} (hi : i < l.length) (hj : j < 4) : (l.flatMap pkCells)[i * 4 + j]? = (pkCells (l.getD i pk0))[j]? := by
  induction l generalizing i with
  | nil => simp at hi
  | cons x l ih =>
    rw [List.flatMap_cons]
    cases i with
    | zero =>
      rw [List.getElem?_append_left (by simp [pkCells]; omega)]
      simp
    | succ i =>
      rw [List.getElem?_append_right (by simp [pkCells]; omega)]
      have e : (i + 1) * 4 + j - (pkCells x).length = i * 4 + j := by simp [pkCells]; omega
      rw [e, ih (by simpa using hi)]
      rfl
theorem PkOwn.rowN {w : World} {base : Nat} {v : Value} {l : List Pk} (h : PkOwn w base v l) {n : Nat} (hn : l.length = n) :
    ∃ a cap, v = .slice a n cap ∧ n ≤ cap ∧ cap ≤ maxLen ∧ PkIn w.heap.size w a n (fun i => l.getD i pk0) := by
  subst hn
  have hlt := h.block
  obtain ⟨h1, h2⟩ := h
  rcases h2 with ⟨hv, hn⟩ | ⟨g, cap, cur, hv, hg, hh, hnc, hcm, hsz, htk⟩
  · subst hv
    rw [hn]
    exact ⟨none, 0, rfl, Nat.le_refl _, by simp [maxLen], .inl rfl⟩
  · have key : ∀ i, i < l.length → ∀ j, j < 4 → w.cell? ⟨g, i * 4 + j, none⟩ = (pkCells (l.getD i pk0))[j]? := by
      intro i hi j hj
      have e := pkCells_get l hi hj
      rw [← htk, List.getElem?_take_of_lt (by omega)] at e
      rw [← e]
      have := cell_of_row w g (i * 4 + j) cur 38 (0, 0) hh
      rw [this]
      simp
    refine ⟨_, cap, hv, hnc, hcm, .inr ⟨g, 0, rfl, (hlt g (by rw [hv]; rfl)).2, fun i hi => ?_⟩⟩
    rw [Nat.zero_add]
    exact ⟨key i hi 0 (by decide), key i hi 1 (by decide), key i hi 2 (by decide), key i hi 3 (by decide)⟩
/-- append of one packet, laid in a block of its own. -/
theorem opAppendPk {w : World} {ops : Array Oper} {rest : List Oper} {o : Oper} {a : Act} {Q : Exit → Act → World → Prop} (d : Option Tmp) (hgd : o.guard = none) (hd : o.dst = d) (s x : Operand)
    (ho : o.op = .call { callee := .builtin .append, args := #[s, x], argTypes := #[28, 28] })
    (base : Nat) (v : Value) (l : List Pk) (hs : a.eval s = v) (hown : PkOwn w base v l) (g c : Nat) (y : Pk) (t : TypeId) (hx : a.eval x = .slice (some ⟨g, 0, none⟩) 1 c)
    (hcell : w.heap[g]? = some (.cells #[.int .i64 y.kind, .int .u8 y.byte, .int .i64 y.len, .int .u32 y.dist] t)) (hb : (l.length + 1) * 32 ≤ 140737488355328) (hbase : base ≤ w.heap.size)
    (h : ∀ v' w', PkOwn w' base v' (l ++ [y]) → w.grownBy w' v.ownBlock → wpList Try.prog ops Q rest (a.put d v') w') : wpList Try.prog ops Q (o :: rest) a w := by
  obtain ⟨i, hi, hz0, hz1, hz2⟩ := info_parts Try.info_pk3
  refine wpList_append_own w hgd s x 28 ho base 38 i _ 4 32 Try.underlying28 hi hz0 hz1 hz2 rfl (by decide) v l.length _ hs hown ⟨g, 0, none⟩ 1 c (pkCells y) hx rfl ?_ ?_ (by unfold maxLen; omega) hb hbase ?_
  · intro j u hj
    have e : (⟨g, 0, none⟩ : Addr).add j = ⟨g, j, none⟩ := by unfold Addr.add; split <;> simp_all
    rw [e]
    refine blk_cell hcell ?_
    rw [← hj]
    simp [pkCells]
  · intro u hu
    simp [pkCells] at hu
    rcases hu with rfl | rfl | rfl | rfl <;> rfl
  · intro v' w' hown' hg _
    rw [hd]
    refine h v' w' ?_ hg
    unfold PkOwn
    simpa [pkCells] using hown'
end Go.Proofs.Yteedolfhmiehfaa
