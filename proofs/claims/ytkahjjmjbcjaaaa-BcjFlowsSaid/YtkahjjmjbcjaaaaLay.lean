/- copy between rows, as one step of a region, and rows that read as numbers. -/
import Derived.Test.YtkahjjmjbcjaaaaBase
import Derived.Laws.CopyOwn
import Derived.Deep.RegionLaw
namespace Go.Proofs.Ytkahjjmjbcjaaaa
open Go.RowKit

/-- a row with the cells cs laid over it from a place on. -/
def over (cur : Array Value) (off : Nat) (cs : List Value) : Array Value := (cur.toList.take off ++ (cs ++ cur.toList.drop (off + cs.length))).toArray
theorem over_size (cur : Array Value) (off : Nat) (cs : List Value) (h : off + cs.length ≤ cur.size) : (over cur off cs).size = cur.size := by
  have : off + cs.length ≤ cur.toList.length := by simpa using h
  simp [over]; omega
theorem over_get (cur : Array Value) (off : Nat) (cs : List Value) (h : off + cs.length ≤ cur.size) (j : Nat) :
    (over cur off cs)[j]? = if off ≤ j ∧ j < off + cs.length then cs[j - off]? else cur[j]? := by
  have h' : off + cs.length ≤ cur.toList.length := by simpa using h
  have hl : (cur.toList.take off).length = off := by simp; omega
  unfold over
  rw [List.getElem?_toArray]
  by_cases h1 : j < off
  · rw [List.getElem?_append_left (by omega), List.getElem?_take_of_lt h1, if_neg (by omega)]
    simp
  · rw [List.getElem?_append_right (by omega), hl]
    by_cases h2 : j < off + cs.length
    · rw [List.getElem?_append_left (by omega), if_pos ⟨by omega, h2⟩]
    · rw [List.getElem?_append_right (by omega), if_neg (by omega), List.getElem?_drop]
      have : off + cs.length + (j - off - cs.length) = j := by omega
      rw [this]
      simp
/-- the block g holds a row whose first n cells are the integers F. -/
def Lies (w : World) (g : Nat) (e : TypeId) (k : IntKind) (cap n : Nat) (F : Nat → Int) : Prop :=
  ∃ cur, w.heap[g]? = some (.cells cur e (0, 0)) ∧ cur.size = cap ∧ n ≤ cap ∧ ∀ i, i < n → cur[i]? = some (.int k (F i))
theorem Lies.fr {S : Nat → Prop} {w w' : World} {g : Nat} {e : TypeId} {k : IntKind} {cap n : Nat} {F : Nat → Int} (h : Lies w g e k cap n F) (hf : Fr S w w') (hs : ¬ S g) : Lies w' g e k cap n F := by
  obtain ⟨cur, h1, h2, h3, h4⟩ := h
  exact ⟨cur, hf.blk h1 hs, h2, h3, h4⟩
theorem Lies.cell {w : World} {g : Nat} {e : TypeId} {k : IntKind} {cap n : Nat} {F : Nat → Int} (h : Lies w g e k cap n F) {i : Nat} (hi : i < n) : w.cell? ⟨g, i, none⟩ = some (.int k (F i)) := by
  obtain ⟨cur, h1, h2, h3, h4⟩ := h
  exact blk_cell h1 (h4 i hi)
theorem Lies.frozen {w : World} {g : Nat} {e : TypeId} {k : IntKind} {cap n : Nat} {F : Nat → Int} (h : Lies w g e k cap n F) (i : Nat) : w.frozen? ⟨g, i, none⟩ = false := by
  obtain ⟨cur, h1, h2, h3, h4⟩ := h
  exact blk_frozen h1 i
theorem Lies.ext {w : World} {g : Nat} {e : TypeId} {k : IntKind} {cap n : Nat} {F F' : Nat → Int} (h : Lies w g e k cap n F) (hf : ∀ i, i < n → F i = F' i) : Lies w g e k cap n F' := by
  obtain ⟨cur, h1, h2, h3, h4⟩ := h
  exact ⟨cur, h1, h2, h3, fun i hi => by rw [h4 i hi, hf i hi]⟩
theorem Lies.set {w : World} {g : Nat} {e : TypeId} {k : IntKind} {cap n : Nat} {F : Nat → Int} (h : Lies w g e k cap n F) (i : Nat) (x : Int) : Lies (w.setCell ⟨g, i, none⟩ (.int k x)) g e k cap n (upd F i x) := by
  obtain ⟨cur, h1, h2, h3, h4⟩ := h
  refine ⟨_, blk_set h1, by simp [h2], h3, fun j hj => ?_⟩
  rw [Array.getElem?_setIfInBounds, upd]
  by_cases h : i = j
  · subst h; simp; omega
  · rw [if_neg h, if_neg (fun e => h e.symm)]; exact h4 j hj
theorem Lies.drewN {w : World} {g : Nat} {e : TypeId} {k : IntKind} {cap n : Nat} {F : Nat → Int} (h : Lies w g e k cap n F) (m : Nat) : Lies (w.drewN m) g e k cap n F := h
theorem Lies.arr {w : World} {g : Nat} {e : TypeId} {k : IntKind} {n : Nat} {F : Nat → Int} (h : Lies w g e k n n F) : w.heap[g]? = some (.cells (arr k n F) e) := by
  obtain ⟨cur, h1, h2, h3, h4⟩ := h
  have : cur = Go.Proofs.Ytkahjjmjbcjaaaa.arr k n F := by
    apply Array.ext_getElem?
    intro i
    rw [arr_get?]
    by_cases h : i < n
    · rw [if_pos h]; exact h4 i h
    · rw [if_neg h]; simp; omega
  rw [← this]; exact h1
theorem Lies.ofArr {w : World} {g : Nat} {e : TypeId} {k : IntKind} {n : Nat} {F : Nat → Int} (h : w.heap[g]? = some (.cells (Go.Proofs.Ytkahjjmjbcjaaaa.arr k n F) e)) : Lies w g e k n n F :=
  ⟨_, h, arr_size _ _ _, Nat.le_refl _, fun i hi => arr_get _ _ _ hi⟩
/-- numbers m laid over F from place off on. -/
def lay (F : Nat → Int) (off m : Nat) (f : Nat → Int) : Nat → Int := fun i => if off ≤ i ∧ i < off + m then f (i - off) else F i
/-- one copy of m integers, as a step of a region. -/
theorem step_copy_lay {P : Program} {ops : Array Oper} {o : Oper} {a : Act} {w : World} {K : Act → World → Prop} {Q : Exit → Act → World → Prop} {E : Prop} (hgd : o.guard = none) (d s : Operand) (dT sT : TypeId)
    (ho : o.op = .call { callee := .builtin .copy, args := #[d, s], argTypes := #[dT, sT] }) (elem t : TypeId) (hu : P.underlying dT = some (.slice elem)) (hsz : (P.info? elem).map (·.size) = some 1)
    (g off dLen dCap gs offs sLen sCap : Nat) (hd : a.eval d = .slice (some ⟨g, off, none⟩) dLen dCap) (hs : a.eval s = .slice (some ⟨gs, offs, none⟩) sLen sCap)
    (k : IntKind) (cap n : Nat) (F : Nat → Int) (hg : Lies w g t k cap n F) (m : Nat) (hm : m = Nat.min sLen dLen) (f : Nat → Int) (hsrc : ∀ i, i < m → w.cell? ⟨gs, offs + i, none⟩ = some (.int k (f i))) (hfit : off + m ≤ n)
    (h : ∀ w', Fr (fun i => i = g) w w' → Lies w' g t k cap n (lay F off m f) → K (a.put o.dst (goInt m)) w') :
    if Region.wanted o (yielded ops a.tmps) = true then Oper.wp P o a w K Q else E := by
  have hw : Region.wanted o (yielded ops a.tmps) = true := by simp [Region.wanted, hgd]
  rw [if_pos hw]
  obtain ⟨cur, h1, h2, h3, h4⟩ := hg
  obtain ⟨cs, hcs⟩ : ∃ cs, cs = (List.range m).map fun j => Value.int k (f j) := ⟨_, rfl⟩
  have hl : cs.length = m := by rw [hcs]; simp
  have hget : ∀ j, j < m → cs[j]? = some (.int k (f j)) := fun j hj => by rw [hcs]; simp [hj]
  have hrun := run_copy_row (P := P) w dT sT o.type elem g off dLen dCap ⟨gs, offs, none⟩ sLen sCap cur t cs hu hsz h1 (by rw [hl, hm]) ?_ (by rw [hl, h2]; omega) ?_
  · have hu : K (a.put o.dst (goInt cs.length)) (w.setRow g (over cur off cs)) → Oper.wp P o a w K Q := by
      intro hk
      unfold Oper.wp
      simp [execOp, ho, resolve, invoke, builtin, hd, hs, hrun, Result.andThen]
      exact hk
    refine hu ?_
    rw [hl]
    refine h _ ⟨rfl, rfl, rfl, by simp [World.setRow], fun i _ hi => setRow_other w g i _ hi⟩ ⟨over cur off cs, setRow_heap w g _ _ t _ h1, ?_, h3, fun i hi => ?_⟩
    · rw [over_size _ _ _ (by rw [hl, h2]; omega), h2]
    · rw [over_get _ _ _ (by rw [hl, h2]; omega), lay, hl]
      by_cases hc : off ≤ i ∧ i < off + m
      · rw [if_pos hc, if_pos hc]; exact hget _ (by omega)
      · rw [if_neg hc, if_neg hc]; exact h4 i hi
  · intro j v hj
    have hjm : j < m := by
      have := List.getElem?_eq_some_iff.1 hj
      obtain ⟨hlt, _⟩ := this
      omega
    rw [hget j hjm] at hj
    cases hj
    have e : (⟨gs, offs, none⟩ : Addr).add j = ⟨gs, offs + j, none⟩ := by unfold Addr.add; split <;> simp_all
    rw [e]
    exact hsrc j hjm
  · intro v hv
    rw [hcs] at hv
    simp at hv
    obtain ⟨j, _, rfl⟩ := hv
    rfl
/-- a slice of the call's own: empty without a block, or a block's row. -/
theorem Own.lies {w : World} {base : Nat} {k : IntKind} {e : TypeId} {v : Value} {xs : List Int} {n : Nat} (h : Own w base k e v xs) (hn : xs.length = n) (h0 : 0 < n) :
    ∃ g cap, v = .slice (some ⟨g, 0, none⟩) n cap ∧ base ≤ g ∧ cap ≤ maxLen ∧ Lies w g e k cap n (lit xs) := by
  subst hn
  obtain ⟨h1, h2⟩ := h
  rcases h2 with ⟨hv, hn⟩ | ⟨g, cap, cur, hv, hg, hh, hnc, hcm, hsz, htk⟩
  · omega
  · refine ⟨g, cap, hv, hg, hcm, cur, hh, by omega, hnc, fun i hi => ?_⟩
    have e1 := map_getD k xs hi
    rw [← htk, List.getElem?_take_of_lt (by omega)] at e1
    simpa [lit] using e1
theorem Lies.own {w : World} {base g cap n : Nat} {k : IntKind} {e : TypeId} {F : Nat → Int} (h : Lies w g e k cap n F) (hb : base ≤ g) (hc : cap ≤ maxLen) :
    Own w base k e (.slice (some ⟨g, 0, none⟩) n cap) ((List.range n).map F) := by
  obtain ⟨cur, h1, h2, h3, h4⟩ := h
  refine ⟨by simp, .inr ⟨g, cap, cur, by simp, hb, h1, by simpa using h3, hc, by omega, ?_⟩⟩
  apply List.ext_getElem?
  intro i
  simp only [List.length_map, List.length_range, Nat.mul_one]
  by_cases hi : i < n
  · rw [List.getElem?_take_of_lt hi]
    have := h4 i hi
    simpa [hi] using this
  · rw [List.getElem?_eq_none (by simp; omega)]
    simp [hi]
end Go.Proofs.Ytkahjjmjbcjaaaa
