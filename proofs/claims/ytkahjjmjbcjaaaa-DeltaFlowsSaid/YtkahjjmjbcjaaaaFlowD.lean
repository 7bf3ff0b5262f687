/- delta.New, delta.Filter: each function's contract. -/
import Derived.Test.YtkahjjmjbcjaaaaDelta
import Derived.Test.YtkahjjmjbcjaaaaDeltaR
import Derived.Test.YtkahjjmjbcjaaaaSrc
import Derived.Deep.RegionWith
namespace Go.Proofs.Ytkahjjmjbcjaaaa
open Go.RowKit

def filtCells (s : Value) (d at_ : Int) (f : Nat → Int) (o : Bool) : Array Value := (#[s] ++ ringCells d at_ f) ++ #[.bool o]
theorem filtCells_in (s : Value) (d at_ : Int) (f : Nat → Int) (o : Bool) {j : Nat} (h : j < 258) : (filtCells s d at_ f o)[1 + j]? = (ringCells d at_ f)[j]? := by
  unfold filtCells
  rw [Array.getElem?_append_left (by simp [ringCells_size]; omega), Array.getElem?_append_right (by simp)]
  simp
theorem filtCells_b (s : Value) (d at_ : Int) (f : Nat → Int) (o : Bool) {j : Nat} (h : j < 256) : (filtCells s d at_ f o)[1 + j]? = some (.int .u8 (f j)) := by
  rw [filtCells_in _ _ _ _ _ (by omega), ringCells_b _ _ _ h]
theorem filtCells_at (s : Value) (d at_ : Int) (f : Nat → Int) (o : Bool) : (filtCells s d at_ f o)[257]? = some (.int .i64 at_) := by
  have := filtCells_in s d at_ f o (j := 256) (by omega)
  rw [ringCells_at] at this
  exact this
theorem filtCells_d (s : Value) (d at_ : Int) (f : Nat → Int) (o : Bool) : (filtCells s d at_ f o)[258]? = some (.int .i64 d) := by
  have := filtCells_in s d at_ f o (j := 257) (by omega)
  rw [ringCells_d] at this
  exact this
theorem filtCells_s (s : Value) (d at_ : Int) (f : Nat → Int) (o : Bool) : (filtCells s d at_ f o)[0]? = some s := by
  unfold filtCells
  rw [Array.getElem?_append_left (by simp [ringCells_size]), Array.getElem?_append_left (by simp)]
  rfl
theorem filtCells_o (s : Value) (d at_ : Int) (f : Nat → Int) (o : Bool) : (filtCells s d at_ f o)[259]? = some (.bool o) := by
  unfold filtCells
  rw [Array.getElem?_append_right (by simp [ringCells_size])]
  simp [ringCells_size]
theorem filtCells_set_in (s : Value) (d at_ : Int) (f : Nat → Int) (o : Bool) {j : Nat} (h : j < 258) (v : Value) : (filtCells s d at_ f o).setIfInBounds (1 + j) v = (#[s] ++ (ringCells d at_ f).setIfInBounds j v) ++ #[.bool o] := by
  unfold filtCells
  rw [Array.setIfInBounds_append_left (by simp [ringCells_size]; omega), Array.setIfInBounds_append_right (by simp)]
  simp
theorem filtCells_set_b (s : Value) (d at_ : Int) (f : Nat → Int) (o : Bool) {j : Nat} (h : j < 256) (x : Int) : (filtCells s d at_ f o).setIfInBounds (1 + j) (.int .u8 x) = filtCells s d at_ (upd f j x) o := by
  rw [filtCells_set_in _ _ _ _ _ (by omega), ringCells_set_b _ _ _ h]; rfl
theorem filtCells_set_at (s : Value) (d at_ x : Int) (f : Nat → Int) (o : Bool) : (filtCells s d at_ f o).setIfInBounds 257 (.int .i64 x) = filtCells s d x f o := by
  have := filtCells_set_in s d at_ f o (j := 256) (by omega) (.int .i64 x)
  rw [ringCells_set_at] at this
  exact this
theorem filtCells_set_o (s : Value) (d at_ : Int) (f : Nat → Int) (o x : Bool) : (filtCells s d at_ f o).setIfInBounds 259 (.bool x) = filtCells s d at_ f x := by
  unfold filtCells
  rw [Array.setIfInBounds_append_right (by simp [ringCells_size])]
  simp [ringCells_size]
def FiltAt (w : World) (g : Nat) (s : Value) (d at_ : Nat) (f : Nat → Int) (o : Bool) : Prop := w.heap[g]? = some (.cells (filtCells s d at_ f o) 48)

theorem fold_any (g at_ d : Nat) (s : Value) (o : Bool) (f : Nat → Int) (w : World) (ha : at_ < d) (hd : d ≤ 256) (h : FiltAt w g s d at_ f o) :
    Calls Try.prog 21 #[.pointer (some ⟨g, 1, none⟩)] w fun e w' => e = .returned (.int .u8 (f at_)) ∧ ∃ n, w' = w.drewN n := by
  have hat := blk_cell h (filtCells_at s d at_ f o)
  have hx := blk_cell h (filtCells_b s d at_ f o (j := at_) (by omega))
  have h1 : (at_ : Int) < 256 := by omega
  have h2 : (0 : Int) ≤ (at_ : Int) := by omega
  clear h
  go_enter Try.func21, Try.ntmps21
  go_wp2
  go_quiet (fail)
  go_wp2
  go_ret
  exact ⟨rfl, _, rfl⟩

def FPutPost (w : World) (g : Nat) (s : Value) (at_ d : Nat) (f : Nat → Int) (o : Bool) (x : Int) (e : Ending) (w' : World) : Prop :=
  e = .returned (.int .u8 x) ∧ Fr (fun k => k = g) w w' ∧ FiltAt w' g s d (nxt at_ d) (upd f at_ x) o

set_option maxRecDepth 100000 in
theorem fput_any (g at_ d : Nat) (s : Value) (o : Bool) (f : Nat → Int) (x : Int) (w : World) (ha : at_ < d) (hd : d ≤ 256) (h : FiltAt w g s d at_ f o) :
    Calls Try.prog 20 #[.pointer (some ⟨g, 1, none⟩), .int .u8 x] w (FPutPost w g s at_ d f o x) := by
  have hat := blk_cell h (filtCells_at s d at_ f o)
  have hdc := blk_cell h (filtCells_d s d at_ f o)
  have hx := blk_cell h (filtCells_b s d at_ f o (j := at_) (by omega))
  have f1 := blk_frozen h (1 + at_)
  have f2 := blk_frozen h 257
  have h1 : (at_ : Int) < 256 := by omega
  have h2 : (0 : Int) ≤ (at_ : Int) := by omega
  have H := hid h
  clear h
  by_cases h : at_ + 1 = d
  · have h' : ((at_ : Int) + 1 == (d : Int)) = true := by simp; omega
    have H2 := hid h
    clear h
    go_enter Try.func20, Try.ntmps20
    go_wp2
    go_region
    all_goals go_wp2
    go_quiet (fail)
    go_wp2
    go_ret
    refine ⟨rfl, ?_, ?_⟩
    · repeat (first | exact Fr.refl _ _ | refine Fr.drewN ?_ _ | refine Fr.drew ?_ | refine Fr.setOne ?_ _ _)
    · have e := blk_set (i := 257) (v := .int .i64 0) (blk_set (i := 257) (v := .int .i64 (at_ + 1)) (blk_set (i := 1 + at_) (v := .int .u8 x) H.out))
      rw [filtCells_set_b _ _ _ _ _ (by omega), filtCells_set_at, filtCells_set_at] at e
      unfold nxt
      rw [if_pos H2.out]
      exact e
  · have h' : ((at_ : Int) + 1 == (d : Int)) = false := by simp; omega
    have H2 := hid h
    clear h
    go_enter Try.func20, Try.ntmps20
    go_wp2
    go_region
    all_goals go_wp2
    go_quiet (fail)
    go_wp2
    go_ret
    refine ⟨rfl, ?_, ?_⟩
    · repeat (first | exact Fr.refl _ _ | refine Fr.drewN ?_ _ | refine Fr.drew ?_ | refine Fr.setOne ?_ _ _)
    · have e := (blk_set (i := 257) (v := .int .i64 (at_ + 1)) (blk_set (i := 1 + at_) (v := .int .u8 x) H.out))
      rw [filtCells_set_b _ _ _ _ _ (by omega), filtCells_set_at] at e
      unfold nxt
      rw [if_neg H2.out]
      exact e

/-- a filter that goes on: its source in the state st, its ring. -/
def FiltIs {S : Type} (s : Sour S) (g : Nat) (d at_ : Nat) (f : Nat → Int) (o : Bool) (w : World) (st : S) : Prop :=
  FiltAt w g (.iface s.ty s.val) d at_ f o ∧ s.I w st ∧ ¬ s.foot g

set_option maxRecDepth 100000 in
theorem fnext_over {S : Type} (s : Sour S) (g at_ d : Nat) (f : Nat → Int) (w : World) (st : S) (h : FiltIs s g d at_ f true w st) :
    Calls Try.prog 9 #[.pointer (some ⟨g, 0, none⟩)] w fun e w' => e = .returned (.tuple #[.int .u8 0, .bool false]) ∧ w = w' := by
  have ho := blk_cell h.1 (filtCells_o _ d at_ f true)
  clear h
  go_enter Try.func9, Try.ntmps9
  go_wp2
  go_ret2
  exact ⟨rfl, rfl⟩

def FNextPost {S : Type} (s : Sour S) (g at_ d : Nat) (f : Nat → Int) (w : World) (st : S) (e : Ending) (w' : World) : Prop :=
  Fr (fun k => k = g ∨ s.foot k) w w' ∧
  (((s.nx st).2.1 = true ∧ e = .returned (.tuple #[.int .u8 (((s.nx st).1 + f at_) % 256), .bool true]) ∧ FiltIs s g d (nxt at_ d) (upd f at_ (((s.nx st).1 + f at_) % 256)) false w' (s.nx st).2.2) ∨
   ((s.nx st).2.1 = false ∧ e = .returned (.tuple #[.int .u8 0, .bool false]) ∧ FiltIs s g d at_ f true w' (s.nx st).2.2))

set_option maxRecDepth 100000 in
set_option maxHeartbeats 1000000 in
theorem fnext_any {S : Type} (s : Sour S) (g at_ d : Nat) (f : Nat → Int) (w : World) (st : S) (ha : at_ < d) (hd : d ≤ 256) (h : FiltIs s g d at_ f false w st) :
    Calls Try.prog 9 #[.pointer (some ⟨g, 0, none⟩)] w (FNextPost s g at_ d f w st) := by
  have ho := blk_cell h.1 (filtCells_o _ d at_ f false)
  have hs := blk_cell h.1 (filtCells_s (.iface s.ty s.val) d at_ f false)
  have H := hid h
  clear h
  go_enter Try.func9, Try.ntmps9
  go_wp2_with (refine opInvoke rfl (.tmp 14) "Next" rfl s.ty s.val rfl s.fid s.val s.meth s.enter ?_; intro K hK)
  refine (s.call _ st H.out.2.1).mono ?_
  rintro e w1 ⟨rfl, hf1, hi1⟩
  have hb := s.byte st
  obtain ⟨nx, hnx⟩ : ∃ nx, nx = s.nx st := ⟨_, rfl⟩
  rw [← hnx] at hb hi1 ⊢
  have HNX := hid hnx
  obtain ⟨x, ok, st'⟩ := nx
  have HF1 := hid hf1
  have H1 := hid (show FiltIs s g d at_ f false w1 st' from ⟨hf1.blk H.out.1 H.out.2.2, hi1, H.out.2.2⟩)
  have o1 := blk_cell H1.out.1 (filtCells_o _ d at_ f false)
  have z1 := blk_frozen H1.out.1 259
  clear hnx hf1 hi1 ho hs
  cases ok with
  | true =>
    have hb0 := hb.1
    have hb1 := hb.2
    dsimp only at hb0 hb1
    clear hb
    refine hK _ _ ?_
    clear hK K
    go_wp2_with fail
    go_region_with (first
      | (go_at_call 21; refine (fold_any g at_ d _ _ f _ ha hd (by exact H1.out.1)).mono ?_; rintro e w2 ⟨rfl, n2, rfl⟩)
      | (go_at_call 20; refine (fput_any g at_ d _ _ f _ _ ha hd (by exact H1.out.1)).mono ?_; rintro e w3 ⟨rfl, hf3, hr3⟩))
    all_goals
      go_wp2_with fail
      go_ret2
      have hwr : IntKind.u8.wrap (x + f at_) = (x + f at_) % 256 := by simp [IntKind.wrap, IntKind.bits, IntKind.signed]
      rw [hwr] at hr3
      refine ⟨(Fr.mono (HF1.out.drewN _) fun k _ h => .inr h).then hf3 (fun i _ e => .inl e), .inl ⟨by rw [← HNX.out], ?_, ?_⟩⟩
      · rw [← HNX.out]
        show Ending.returned (.tuple #[.int .u8 (IntKind.u8.wrap (x + f at_)), .bool true]) = _
        rw [hwr]
      rw [← HNX.out]
      exact ⟨hr3, s.keep _ _ _ (fun k => k = g) H1.out.2.1 (((Fr.refl _ w1).drewN _).trans hf3) (fun k hk e => H.out.2.2 (e ▸ hk)), H.out.2.2⟩
  | false =>
    clear hb
    refine hK _ _ ?_
    clear hK K
    go_wp2_with fail
    go_ret2
    refine ⟨(HF1.out.mono fun k _ h => .inr h).setCell (fun _ => .inl rfl) _, .inr ⟨by rw [← HNX.out], rfl, ?_, ?_, H.out.2.2⟩⟩
    · have e := blk_set (i := 259) (v := .bool true) H1.out.1
      rw [filtCells_set_o] at e
      exact e
    · rw [← HNX.out]
      exact s.keep _ _ _ (fun k => k = g) H1.out.2.1 (Fr.setOne (Fr.refl _ _) _ _) (fun k hk e => H.out.2.2 (e ▸ hk))
end Go.Proofs.Ytkahjjmjbcjaaaa
