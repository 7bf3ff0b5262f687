/- append of one integer to a row of the call's own: where the row lies then. -/
import Derived.Test.YtomjagibcdneiaaBase
import Derived.Deep.RegionLaw
namespace Go.Proofs.Ytomjagibcdneiaa
open Go.RowKit

theorem run_grow1 {P : Program} {w : World} (t ty : TypeId) (k : IntKind) (e : TypeId) (bytes : Nat) (ht : P.underlying t = some (.slice e)) (hinfo : (P.info? e).map (fun i => (i.zero, i.size, i.bytes)) = some (some (.int k 0), 1, bytes))
    (v : Value) (xs : List Int) (hown : Own w 0 k e v xs) (ad : Addr) (c : Nat) (y : Int) (hcell : w.cell? ad = some (.int k y))
    (hb1 : 1 ≤ bytes) (hbytes : (xs.length + 1) * bytes ≤ 140737488355328) :
    ∃ v' w', (Builtin.append_ #[t, t] ty #[v, .slice (some ad) 1 c]).run P w = .ok v' w' ∧ Own w' 0 k e v' (xs ++ [y]) ∧ w.grownBy w' v.ownBlock ∧ (v'.ownBlock = v.ownBlock ∨ v'.ownBlock = some w.heap.size) := by
  obtain ⟨i, hi, hz0, hz1, hz2⟩ := info_parts hinfo
  have hm : xs.length + 1 ≤ (xs.length + 1) * bytes := Nat.le_mul_of_pos_right _ hb1
  have hnews : ∀ j u, [Value.int k y][j]? = some u → w.cell? (ad.add j) = some u := by
    intro j u hj
    match j, hj with
    | 0, hj => simp at hj; subst hj; simpa [Addr.add] using hcell
  have h1 : ∀ u ∈ [Value.int k y], u.oneCell' = true := by
    intro u hu
    simp at hu
    subst hu
    rfl
  obtain ⟨v', w', hr, h2, h3, _⟩ := run_append_own (P := P) w 0 t ty e i (.int k 0) 1 bytes ht hi hz0 hz1 hz2 rfl (by decide) v xs.length _ hown ad 1 c [.int k y] rfl hnews h1 (by unfold maxLen; omega) hbytes (Nat.zero_le _)
  refine ⟨v', w', hr, ?_, h3, ?_⟩
  · unfold Own
    simpa using h2
  · rcases hown.2 with ⟨rfl, hn⟩ | ⟨g, cap, cur, rfl, hbg, hg, hnc, hcm, hcs, htake⟩
    · have hr' := run_append_nil (P := P) w t ty e i (.int k 0) ht hi hz0 ad 1 c [.int k y] (by rw [hz1]; rfl) hnews (by decide) (by decide) (by rw [hz2]; have := Nat.le_mul_of_pos_left bytes (show 0 < xs.length + 1 by omega); omega)
      rw [hr] at hr'
      injection hr' with e1 e2
      right; rw [e1]; rfl
    · by_cases hroom : xs.length + 1 ≤ cap
      · have hr' := run_append_room (P := P) w t ty e i ht hi g xs.length cap cur hg ad 1 c [.int k y] (by rw [hz1]; rfl) hnews h1 hroom (by rw [hz1, hcs]; simp; omega)
        rw [hr] at hr'
        injection hr' with e1 e2
        left; rw [e1]; rfl
      · have hr' := run_append_grow (P := P) w t ty e i (.int k 0) ht hi hz0 ⟨g, 0, none⟩ xs.length cap (xs.map (Value.int k)) (by rw [hz1]; simp) (hown.cells (g := g) rfl) ad 1 c [.int k y] (by rw [hz1]; rfl) hnews (by omega) (by omega) (growslice_fits (by omega) (by rw [hz2]; exact hbytes))
        rw [hr] at hr'
        injection hr' with e1 e2
        right; rw [e1]; rfl

theorem opGrow1 {P : Program} {w : World} {ops : Array Oper} {rest : List Oper} {o : Oper} {a : Act} {Q : Exit → Act → World → Prop} (d : Option Tmp) (hgd : o.guard = none) (hd : o.dst = d) (s x : Operand) (t : TypeId)
    (ho : o.op = .call { callee := .builtin .append, args := #[s, x], argTypes := #[t, t] })
    (k : IntKind) (e : TypeId) (bytes : Nat) (ht : P.underlying t = some (.slice e)) (hinfo : (P.info? e).map (fun i => (i.zero, i.size, i.bytes)) = some (some (.int k 0), 1, bytes))
    (v : Value) (xs : List Int) (hs : a.eval s = v) (hown : Own w 0 k e v xs)
    (ad : Addr) (c : Nat) (y : Int) (hx : a.eval x = .slice (some ad) 1 c) (hcell : w.cell? ad = some (.int k y))
    (hb1 : 1 ≤ bytes) (hbytes : (xs.length + 1) * bytes ≤ 140737488355328)
    (h : ∀ v' w', Own w' 0 k e v' (xs ++ [y]) → w.grownBy w' v.ownBlock → (v'.ownBlock = v.ownBlock ∨ v'.ownBlock = some w.heap.size) → wpList P ops Q rest (a.put d v') w') : wpList P ops Q (o :: rest) a w := by
  obtain ⟨v', w', hr, h2, h3, h4⟩ := run_grow1 (P := P) (w := w) t o.type k e bytes ht hinfo v xs hown ad c y hcell hb1 hbytes
  refine wpList_plain hgd fun K hK => ?_
  unfold Oper.wp execOp
  simp only [ho, resolve, invoke, builtin, Sem.run_bind, Sem.run_pure, Result.andThen_ok, List.map_toArray, List.map_cons, List.map_nil, hs, hx, hr]
  refine hK _ _ ?_
  rw [hd]
  exact h v' w' h2 h3 h4

theorem step_grow1 {P : Program} {ops : Array Oper} {o : Oper} {a : Act} {w : World} {K : Act → World → Prop} {Q : Exit → Act → World → Prop} {E : Prop} (hgd : o.guard = none) (s x : Operand) (t : TypeId)
    (ho : o.op = .call { callee := .builtin .append, args := #[s, x], argTypes := #[t, t] })
    (k : IntKind) (e : TypeId) (bytes : Nat) (ht : P.underlying t = some (.slice e)) (hinfo : (P.info? e).map (fun i => (i.zero, i.size, i.bytes)) = some (some (.int k 0), 1, bytes))
    (v : Value) (xs : List Int) (hs : a.eval s = v) (ad : Addr) (c : Nat) (y : Int) (hx : a.eval x = .slice (some ad) 1 c) (hown : Own w 0 k e v xs) (hcell : w.cell? ad = some (.int k y))
    (hb1 : 1 ≤ bytes) (hbytes : (xs.length + 1) * bytes ≤ 140737488355328)
    (h : ∀ v' w', Own w' 0 k e v' (xs ++ [y]) → w.grownBy w' v.ownBlock → (v'.ownBlock = v.ownBlock ∨ v'.ownBlock = some w.heap.size) → K (a.put o.dst v') w') :
    if Region.wanted o (yielded ops a.tmps) = true then Oper.wp P o a w K Q else E := by
  have hw : Region.wanted o (yielded ops a.tmps) = true := by simp [Region.wanted, hgd]
  rw [if_pos hw]
  obtain ⟨v', w', hr, h2, h3, h4⟩ := run_grow1 (P := P) (w := w) t o.type k e bytes ht hinfo v xs hown ad c y hcell hb1 hbytes
  unfold Oper.wp execOp
  simp only [ho, resolve, invoke, builtin, Sem.run_bind, Sem.run_pure, Result.andThen_ok, List.map_toArray, List.map_cons, List.map_nil, hs, hx, hr]
  exact h v' w' h2 h3 h4
/-- what grew has its row where it was, or anew. -/
theorem Fr.grew {w w' : World} {v : Value} (h : w.grownBy w' v.ownBlock) : Fr (fun k => v.ownBlock = some k) w w' := (Fr.refl _ w).grown h (fun _ e _ => e)
end Go.Proofs.Ytomjagibcdneiaa
