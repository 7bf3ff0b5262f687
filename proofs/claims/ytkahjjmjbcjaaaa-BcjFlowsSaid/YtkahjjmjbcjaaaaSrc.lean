/- What a source of bytes is to its caller; src.Feed as one. -/
import Derived.Test.YtkahjjmjbcjaaaaBase
import Derived.Test.YtkahjjmjbcjaaaaRows
import Derived.WalkSpells
import Derived.WalkLawsBesides
import Derived.BigQuiet
import Derived.Deep.QuietTactic
import Derived.BigRegion
import Derived.Outline
namespace Go.Proofs.Ytkahjjmjbcjaaaa
open Go.RowKit

/-- a call of a method on an interface value whose dynamic type and method are known. -/
theorem opInvoke {P : Program} {ops : Array Oper} {rest : List Oper} {o : Oper} {a : Act} {w : World} {Q : Exit → Act → World → Prop} (hg : o.guard = none) (r : Operand) (name : String)
    (ho : o.op = .call { callee := .invoke r name, args := #[], argTypes := #[] }) (ty : TypeId) (val : Value) (hr : a.eval r = .iface ty val) (f : FuncId) (recv : Value)
    (hm : ∀ w : World, (method (P.types.size + Made.depth) ty val name).run P w = .ok (f, recv) w) (hc : ∀ w : World, (callFunc f #[recv]).run P w = .ok (.enter f #[recv]) w)
    (h : ∀ K : Act → World → Prop, (∀ a w, wpList P ops Q rest a w → K a w) → Calls P f #[recv] w fun
      | .returned v, w'' => K (a.put o.dst v) w''
      | .panicked chain, w'' => Q (.panic chain) a w''
      | .outgrown, _ => LetsOut Q) : wpList P ops Q (o :: rest) a w := by
  refine wpList_plain hg fun K hK => ?_
  have e : (execOp a.eval o).run P w = .ok (.enter f #[recv]) w := by
    have h1 := hm w
    have h2 := hc w
    simp only [execOp, ho, resolve, hr, invoke, callMethod, Sem.run_bind, Sem.run_pure, Result.andThen_ok, List.map_toArray, List.map_nil]
    simp only [Array.append_empty, List.size_toArray, List.length_cons, List.length_nil, Nat.zero_add, Array.extract]
    simp [Sem.run_bind, h1]
    show Sem.run P (callFunc f (#[recv] ++ #[])) w = _
    simpa using h2
  show o.upon P a K Q ((execOp a.eval o).run P w)
  rw [e, Oper.upon_enter]
  exact h K hK

/-- a source of bytes: S its states, I what memory holds in a state, nx what Next answers. -/
structure Sour (S : Type) where
  ty : TypeId
  val : Value
  fid : FuncId
  foot : Nat → Prop
  I : World → S → Prop
  nx : S → Int × Bool × S
  byte : ∀ s, 0 ≤ (nx s).1 ∧ (nx s).1 < 256
  meth : ∀ w : World, (method (Try.prog.types.size + Made.depth) ty val "Next").run Try.prog w = .ok (fid, val) w
  enter : ∀ w : World, (callFunc fid #[val]).run Try.prog w = .ok (.enter fid #[val]) w
  call : ∀ w s, I w s → Calls Try.prog fid #[val] w fun e w' => e = .returned (.tuple #[.int .u8 (nx s).1, .bool (nx s).2.1]) ∧ Fr foot w w' ∧ I w' (nx s).2.2
  keep : ∀ w w' s T, I w s → Fr T w w' → (∀ k, foot k → ¬ T k) → I w' s

/-! ### src.Feed -/
def FeedAt (w : World) (g : Nat) (a : Option Addr) (n c : Nat) (at_ : Nat) : Prop := w.heap[g]? = some (.cells #[.slice a n c, .int .i64 at_] 50)
def feedFoot (g : Nat) (a : Option Addr) (k : Nat) : Prop := k = g ∨ ∃ ad, a = some ad ∧ ad.block = k
def FeedIs (g : Nat) (a : Option Addr) (n c : Nat) (f : Nat → Int) (w : World) (s : Nat) : Prop :=
  s ≤ n ∧ n ≤ 1048576 ∧ FeedAt w g a n c s ∧ RowIn g .u8 w a n f
def feedNx (f : Nat → Int) (n s : Nat) : Int × Bool × Nat := if s < n then (f s % 256, true, s + 1) else (0, false, s)

set_option maxRecDepth 100000 in
theorem feedNext_end (g : Nat) (a : Option Addr) (n c : Nat) (w : World) (h : FeedAt w g a n c n) :
    Calls Try.prog 52 #[.pointer (some ⟨g, 0, none⟩)] w fun e w' => e = .returned (.tuple #[.int .u8 0, .bool false]) ∧ ∃ m, w' = w.drewN m := by
  have c0 := blk_cell h (j := 0) (v := .slice a n c) rfl
  have c1 := blk_cell h (j := 1) (v := .int .i64 n) rfl
  clear h
  go_enter Try.func52, Try.ntmps52
  go_wp2
  go_quiet (fail)
  go_wp2
  go_ret2
  exact ⟨rfl, _, rfl⟩

set_option maxRecDepth 100000 in
theorem feedNext_more (g : Nat) (a : Option Addr) (n c at_ : Nat) (f : Nat → Int) (w : World) (hn : n ≤ 1048576) (h : FeedAt w g a n c at_) (hr : RowIn g .u8 w a n f) (hlt : at_ < n) :
    Calls Try.prog 52 #[.pointer (some ⟨g, 0, none⟩)] w fun e w' => e = .returned (.tuple #[.int .u8 (f at_), .bool true]) ∧ Fr (fun k => k = g) w w' ∧ FeedAt w' g a n c (at_ + 1) := by
  have c0 := blk_cell h (j := 0) (v := .slice a n c) rfl
  have c1 := blk_cell h (j := 1) (v := .int .i64 at_) rfl
  have f1 := blk_frozen h 1
  obtain ⟨b, off, rfl, hb, hx⟩ := hr.at hlt
  have hne : ((at_ : Int) == (n : Int)) = false := by simp; omega
  have h0 : (0 : Int) ≤ (at_ : Int) := by omega
  have h1 : (at_ : Int) < (n : Int) := by omega
  have hbg : b ≠ g := by omega
  have H := hid h
  clear h hr
  go_enter Try.func52, Try.ntmps52
  go_wp2
  go_quiet (fail)
  go_wp2
  go_quiet (fail)
  go_wp2
  go_ret2
  refine ⟨rfl, ?_, ?_⟩
  · repeat (first | exact Fr.refl _ _ | refine Fr.drewN ?_ _ | refine Fr.drew ?_ | refine Fr.setOne ?_ _ _)
  · exact blk_set (w := w.drewN _) (i := 1) (v := .int .i64 (at_ + 1)) H.out

/-- the feed that lies at g, over the row a of n bytes f. -/
def feed (g : Nat) (a : Option Addr) (n c : Nat) (f : Nat → Int) (hf : ∀ i, i < n → 0 ≤ f i ∧ f i < 256) : Sour Nat where
  ty := 28
  val := .pointer (some ⟨g, 0, none⟩)
  fid := 52
  foot := feedFoot g a
  I := FeedIs g a n c f
  nx := feedNx f n
  byte := fun s => by
    unfold feedNx
    by_cases h : s < n
    · rw [if_pos h]; show 0 ≤ f s % 256 ∧ f s % 256 < 256; omega
    · rw [if_neg h]; show (0 : Int) ≤ 0 ∧ (0 : Int) < 256; omega
  meth := fun w => by kernel_rfl
  enter := fun w => by kernel_rfl
  call := fun w s h => by
    obtain ⟨h1, h2, h3, h4⟩ := h
    unfold feedNx
    by_cases hlt : s < n
    · rw [if_pos hlt]
      have hb := hf s hlt
      refine (feedNext_more g a n c s f w h2 h3 h4 hlt).mono fun e w' ⟨e1, e2, e3⟩ => ⟨?_, e2.mono (fun k _ hk => .inl hk), (show s + 1 ≤ n by omega), h2, e3, ?_⟩
      · rw [e1]; show _ = Ending.returned (.tuple #[.int .u8 (f s % 256), .bool true]); rw [Int.emod_eq_of_lt hb.1 hb.2]
      · exact h4.fr e2 (fun i hi e => by have : i = g := e; omega)
    · rw [if_neg hlt]
      obtain rfl : s = n := by omega
      refine (feedNext_end g a s c w h3).mono fun e w' ⟨e1, m, e2⟩ => ⟨e1, ?_, ?_⟩
      · rw [e2]; exact (Fr.refl _ _).drewN _
      · rw [e2]; exact ⟨Nat.le_refl _, h2, h3, h4⟩
  keep := fun w w' s T h hf ht => by
    obtain ⟨h1, h2, h3, h4⟩ := h
    refine ⟨h1, h2, hf.blk h3 (ht g (.inl rfl)), ?_⟩
    rcases h4 with h4 | ⟨b, off, e, hb, hc⟩
    · exact .inl h4
    · exact .inr ⟨b, off, e, hb, fun i hi => hf.cell (hc i hi) (ht b (.inr ⟨_, e, rfl⟩))⟩
end Go.Proofs.Ytkahjjmjbcjaaaa
