/- slices.Clone at bytes; src.NewFeed. -/
import Derived.Test.YtkahjjmjbcjaaaaSrc
namespace Go.Proofs.Ytkahjjmjbcjaaaa
open Go.RowKit

theorem Try.info_u8 : (Try.prog.info? 5).map (fun i => (i.zero, i.size, i.bytes)) = some (some (.int .u8 0), 1, 1) := by kernel_rfl
theorem list_row {k : IntKind} {w : World} {B n : Nat} {a : Option Addr} {f : Nat → Int} (h : RowIn B k w a n (fun i => ((List.range n).map f).getD i 0)) : RowIn B k w a n f :=
  h.ext fun i hi => by simp [List.getD, hi]
/-- a clone: new cells with the same bytes (or nil for nil). -/
def ClonePost (w : World) (n : Nat) (f : Nat → Int) (e : Ending) (w' : World) : Prop :=
  ∃ a' c', e = .returned (.slice a' n c') ∧ Fr Non w w' ∧ RowIn w'.heap.size .u8 w' a' n f ∧ n ≤ c' ∧ c' ≤ maxLen ∧ ∀ ad, a' = some ad → w.heap.size ≤ ad.block ∧ ad.block < w'.heap.size

set_option maxRecDepth 100000 in
theorem clone_any (a : Option Addr) (n c : Nat) (f : Nat → Int) (w : World) (hn : n ≤ 1048576) (hnc : n ≤ c) (hnil : a = none → c = 0) (h : RowIn w.heap.size .u8 w a n f) :
    Calls Try.prog 19 #[.slice a n c] w (ClonePost w n f) := by
  have H := hid h
  clear h
  cases a with
  | none =>
    have hc : c = 0 := hnil rfl
    have hn0 : n = 0 := by omega
    subst hc hn0
    clear hnil
    have k0 := fun wx : World => Lib.run_eql_slice_nil (P := Try.prog) wx 22 5 none 0 0 0 0 Try.underlying22
    go_enter Try.func19, Try.ntmps19
    go_wp2
    go_ret
    exact ⟨none, 0, rfl, Fr.refl _ _, .inl rfl, Nat.le_refl _, by simp [maxLen], fun ad e => by cases e⟩
  | some ad =>
    clear hnil
    have k0 := fun wx : World => Lib.run_eql_slice_nil (P := Try.prog) wx 22 5 (some ad) n c 0 0 Try.underlying22
    go_enter Try.func19, Try.ntmps19
    go_wp2_with (refine opAppendRow (some 7) rfl rfl (.tmp 5) (.tmp 6) 22 rfl w.heap.size .u8 5 1 Try.underlying22 Try.info_u8 (.slice (some ⟨w.heap.size, 0, none⟩) 0 0) [] rfl (Own.empty w _ .u8 5 (Nat.le_refl _)) w.heap.size (some ad) n c f rfl (fun e => by cases e) hnc (H.out.fr ((Fr.refl Non _).alloc _) (fun _ _ => id)) (by decide) (by simp; omega) (by simp) ?_; intro v2 w2 hown2 hg2)
    go_ret
    obtain ⟨ao, co, rfl, hlo, hcm, hro⟩ := hown2.rowN (n := n) (by simp)
    refine ⟨ao, co, rfl, clone_fr hg2, list_row hro, hlo, hcm, fun ad e => ?_⟩
    subst e
    exact hown2.block ad.block rfl

/-- a new feed over a copy of the bytes. -/
def NewFeedPost (w : World) (n : Nat) (f : Nat → Int) (e : Ending) (w' : World) : Prop :=
  ∃ g a' c', e = .returned (.pointer (some ⟨g, 0, none⟩)) ∧ Fr Non w w' ∧ FeedAt w' g a' n c' 0 ∧ RowIn g .u8 w' a' n f ∧ ∀ k, feedFoot g a' k → w.heap.size ≤ k ∧ k < w'.heap.size
set_option maxRecDepth 100000 in
theorem newFeed_any (a : Option Addr) (n c : Nat) (f : Nat → Int) (w : World) (hn : n ≤ 1048576) (hnc : n ≤ c) (hnil : a = none → c = 0) (h : RowIn w.heap.size .u8 w a n f) :
    Calls Try.prog 7 #[.slice a n c] w (NewFeedPost w n f) := by
  have H := hid h
  have Hnil := hid hnil
  clear h hnil
  go_enter Try.func7, Try.ntmps7
  go_wp2_with fail
  refine (clone_any a n c f _ hn hnc Hnil.out H.out).mono ?_
  rintro e w1 ⟨a', c', rfl, hf1, hr1, hn1, hc1, hb1⟩
  have HF := hid hf1
  have HR := hid hr1
  have HB := hid hb1
  clear hf1 hr1 hb1
  go_wp2
  go_ret
  refine ⟨w1.heap.size, a', c', rfl, HF.out.alloc _, blk_new _ _, HR.out.fr ((Fr.refl Non _).alloc _) (fun _ _ => id), fun k hk => ?_⟩
  have hs := HF.out.size
  rcases hk with rfl | ⟨ad, e, rfl⟩
  · exact ⟨hs, by simp⟩
  · have := HB.out ad e
    refine ⟨this.1, ?_⟩
    simp
    omega
end Go.Proofs.Ytkahjjmjbcjaaaa
