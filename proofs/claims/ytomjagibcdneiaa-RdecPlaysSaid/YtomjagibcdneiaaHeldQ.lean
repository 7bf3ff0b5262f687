/- A region that draws its order: first under a held condition, then, from some operation on, only reading: the rest is walked once. -/
import Derived.Deep.RegionHeld3
import Derived.Deep.Quiet
import Derived.Deep.QuietTactic
import Derived.BigQuiet
namespace Go.Proofs.Ytomjagibcdneiaa

section
variable {P : Program} {ops : Array Oper} {md : Region.Mode} {C S : World → Prop}

theorem wpOp_of_qOpH {i : Nat} {a : Act} {K : Act → Prop} {K' : Act → World → Prop} {Q' : Exit → Act → World → Prop} {w : World} (hC : C w) (h : ∀ a w', C w' → K a → K' a w') (hh : qOp P ops C i K a) : wpOp P ops Q' i K' a w :=
  wpOp_of_qOp hC h hh

/-- from a world of the class on, the rest is quiet: it is a wpAnyH. -/
theorem wpAnyH_of_quiet {Q : Act → Prop} {Q' : Exit → Act → World → Prop} (hS : ∀ w, C w → S w) (hQ : ∀ a w, C w → Q a → Q' .normal a w) : ∀ (fuel : Nat) (listed : Array Bool) (a : Act) (w : World), C w →
    wpAnyQ P md ops C Q fuel listed a → wpAnyH P md ops Q' S fuel listed a w
  | 0, _, _, _, hw, h => ⟨h.1, hQ _ _ hw h.2⟩
  | fuel + 1, _, _, _, hw, h => ⟨fun h0 => hQ _ _ hw (h.1 h0), fun i hi => wpOp_of_qOp hw (fun a' w' hw' hk => ⟨hS w' hw', wpAnyH_of_quiet hS hQ fuel _ a' w' hw' hk⟩) (h.2 i hi)⟩
end

/-- behind operation number k the operations only read: they are walked in the text's order. -/
theorem held_quiet_lit {P : Program} {S : World → Prop} {Q' : Exit → Act → World → Prop} {l : List Oper} {k fuel : Nat} {listed : Array Bool} {a : Act} {w : World}
    (hn : fuel = (l.drop k).length) (hs : Region.noSelect l.toArray = true) (hB : Region.lexFrom .any l.toArray fuel k listed = true)
    (hS : ∀ n, S (w.drewN n))
    (h : wpQuiet P l.toArray (fun w' => ∃ n, w' = w.drewN n) (fun a' => ∀ w', (∃ n, w' = w.drewN n) → Q' .normal a' w') (l.drop k) a) :
    wpAnyH P .any l.toArray Q' S fuel listed a w := by
  subst hn
  refine wpAnyH_of_quiet (C := fun w' => ∃ n, w' = w.drewN n) (Q := fun a' => ∀ w', (∃ n, w' = w.drewN n) → Q' .normal a' w') (by rintro _ ⟨n, rfl⟩; exact hS n) (fun _ w' hw' h => h w' hw') _ _ _ _ ⟨0, rfl⟩ ?_
  exact wpAnyQ_lex hs (l.drop k) k listed a (by simp) hB h

/-- operation number i, of a list, is taken first. -/
theorem take_lit {P : Program} {S : World → Prop} {Q : Exit → Act → World → Prop} {l : List Oper} {md : Region.Mode} {i : Nat} {oi : Oper} {v : Value} {fuel : Nat} {listed : Array Bool} {a : Act} {w : World} (hi : l[i]? = some oi)
    (hs : Region.noSelect l.toArray = true) (hf : Region.free md l.toArray listed i = true) (hr : (Region.ready md l.toArray listed).contains i = true)
    (hQ : ∀ c a w, Q (.panic c) (a.put oi.dst v) w → Q (.panic c) a w) (hy : YieldsIf P l.toArray S oi v a) (hS : S w)
    (h : wpAnyH P md l.toArray Q S fuel (listed.setIfInBounds i true) (a.put oi.dst v) w) : wpAnyH P md l.toArray Q S (fuel + 1) listed a w :=
  wpAnyH_take (by simpa using hi) hs hf hr hQ hy hS h

/-- operation number i is the only one that may come up. -/
theorem next_lit {P : Program} {S : World → Prop} {Q : Exit → Act → World → Prop} {l : List Oper} {md : Region.Mode} {i : Nat} {o : Oper} {fuel : Nat} {listed : Array Bool} {a : Act} {w : World} (hi : l[i]? = some o)
    (hr : Region.ready md l.toArray listed = [i])
    (h : ∀ K' : Act → World → Prop, Shut (∀ a w, S w → (S w → wpAnyH P md l.toArray Q S fuel (listed.setIfInBounds i true) a w) → K' a w) → if Region.wanted o (yielded l.toArray a.tmps) = true then Oper.wp P o a w K' Q else K' (a.put o.dst undef) w) :
    wpAnyH P md l.toArray Q S (fuel + 1) listed a w :=
  wpAnyH_ready hr (by simp) (AllReadyH.cons (by simpa using hi) h AllReadyH.nil)
end Go.Proofs.Ytomjagibcdneiaa
