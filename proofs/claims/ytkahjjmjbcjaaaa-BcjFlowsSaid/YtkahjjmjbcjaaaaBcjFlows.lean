/- bcj.New; the walk through BcjFlows. -/
import Derived.Test.YtkahjjmjbcjaaaaBcjG
import Derived.Test.YtkahjjmjbcjaaaaBcj11
namespace Go.Proofs.Ytkahjjmjbcjaaaa
open Go.RowKit

theorem bfilt_built (ty : TypeId) (val : Value) (r : Operand → Value) (t1 : Nat) (h1 : r (.tmp t1) = .iface ty val) :
    Try.prog.built 59 ((#[(0, Operand.tmp t1)].map fun (i, x) => (i, r x)).toList) = some (filtC ⟨.iface ty val, 0, 0, false⟩ ⟨0, 0, 0, false⟩ (fun _ => 0)) := by
  have : Try.prog.built 59 [(0, .iface ty val)] = some (filtC ⟨.iface ty val, 0, 0, false⟩ ⟨0, 0, 0, false⟩ (fun _ => 0)) := by kernel_rfl
  simpa [h1] using this
theorem bfilt_box (w : World) (cs : Array Value) : (Instr.box 59 (.agg cs)).run Try.prog w = .ok (.pointer (some ⟨w.heap.size, 0, none⟩)) (w.alloc (.cells cs 59)) := by
  kernel_rfl
def BNewPost (sv : Value) (w : World) (e : Ending) (w' : World) : Prop :=
  ∃ g, e = .returned (.pointer (some ⟨g, 0, none⟩)) ∧ w.heap.size ≤ g ∧ g < w'.heap.size ∧ Fr Non w w' ∧ FBAt w' g ⟨sv, 0, 0, false⟩ ⟨0, 0, 0, false⟩ (fun _ => 0)
theorem bnewF_any (ty : TypeId) (val : Value) (w : World) :
    Calls Try.prog 11 #[.iface ty val] w (BNewPost (.iface ty val) w) := by
  go_enter Try.func11, Try.ntmps11
  go_wp2_with (first
    | (refine opRun (some 4) rfl rfl (.agg (filtC ⟨.iface ty val, 0, 0, false⟩ ⟨0, 0, 0, false⟩ (fun _ => 0))) _ (by unfold execOp; simp only []; rw [run_bind_ok (run_build _ _ _ _ (bfilt_built ty val _ 3 rfl))]; rfl) ?_)
    | (refine opRun (some 5) rfl rfl (.pointer (some ⟨w.heap.size, 0, none⟩)) _ (by unfold execOp; simp only []; rw [run_bind_ok (bfilt_box _ _)]; rfl) ?_))
  go_ret
  exact ⟨w.heap.size, rfl, Nat.le_refl _, by simp, (Fr.refl _ _).alloc _, blk_new _ _⟩
theorem feedNew_b (w : World) (n : Nat) (f : Nat → Int) (hf : ∀ i, i < n → 0 ≤ f i ∧ f i < 256) (hn : n ≤ 1048576) (e : Ending) (w' : World) (h : NewFeedPost w n f e w') :
    ∃ g a' c', e = .returned (.pointer (some ⟨g, 0, none⟩)) ∧ Fr Non w w' ∧ (feed g a' n c' f hf).I w' 0 ∧ ∀ k, (feed g a' n c' f hf).foot k → w.heap.size ≤ k ∧ k < w'.heap.size := by
  obtain ⟨g, a', c', h1, h2, h3, h4, h5⟩ := h
  exact ⟨g, a', c', h1, h2, ⟨Nat.zero_le _, hn, h3, h4⟩, h5⟩
theorem FiltS.keep {G : Sour Nat} {g n i : Nat} {F : Nat → Int} {w w' : World} (h : FiltS G g n F i w) {T : Nat → Prop} (hf : Fr T w w') (ht : ∀ k, k = g ∨ G.foot k → ¬ T k) : FiltS G g n F i w' := by
  obtain ⟨hg, m, r, b, f, o, hv, hb, hi⟩ := h
  exact ⟨hg, m, r, b, f, o, hv, hf.blk hb (ht g (.inl rfl)), G.keep _ _ _ T hi hf (fun k hk => ht k (.inr hk))⟩
/-- a row of n integers in a block from lo on. -/
def RowUp (lo : Nat) (k : IntKind) (w : World) (a : Option Addr) (n : Nat) (f : Nat → Int) : Prop :=
  n = 0 ∨ ∃ b off, a = some ⟨b, off, none⟩ ∧ lo ≤ b ∧ ∀ i, i < n → w.cell? ⟨b, off + i, none⟩ = some (.int k (f i))
theorem RowUp.fr {lo : Nat} {k : IntKind} {w w' : World} {a : Option Addr} {n : Nat} {f : Nat → Int} {S : Nat → Prop} (h : RowUp lo k w a n f) (hf : Fr S w w') (hs : ∀ i, lo ≤ i → ¬ S i) : RowUp lo k w' a n f := by
  rcases h with h | ⟨b, off, h1, h2, h3⟩
  · exact .inl h
  · exact .inr ⟨b, off, h1, h2, fun i hi => hf.cell (h3 i hi) (hs b h2)⟩
theorem RowUp.at {lo : Nat} {k : IntKind} {w : World} {a : Option Addr} {n : Nat} {f : Nat → Int} (h : RowUp lo k w a n f) {i : Nat} (hi : i < n) :
    ∃ b off, a = some ⟨b, off, none⟩ ∧ lo ≤ b ∧ w.cell? ⟨b, off + i, none⟩ = some (.int k (f i)) := by
  rcases h with h | ⟨b, off, h1, h2, h3⟩
  · omega
  · exact ⟨b, off, h1, h2, h3 i hi⟩
theorem RowUp.ofOwn {lo : Nat} {k : IntKind} {e : TypeId} {w : World} {v : Value} {n : Nat} {f : Nat → Int} (h : Own w lo k e v ((List.range n).map f)) : ∃ a cap, v = .slice a n cap ∧ RowUp lo k w a n f := by
  obtain ⟨a, c, e1, _, _, h4⟩ := h.rowN (n := n) (by simp)
  refine ⟨a, c, e1, ?_⟩
  rcases h4 with h4 | ⟨b, off, h1, h2, h3⟩
  · exact .inl h4
  · refine .inr ⟨b, off, h1, (h.block b (by rw [e1, h1]; rfl)).1, fun i hi => ?_⟩
    rw [h3 i hi]
    simp [List.getD, hi]
set_option maxRecDepth 100000 in
theorem bcjFlows_long (a : Option Addr) (n cap : Nat) (w : World) (hn : 16384 < n) (hm : n ≤ 9223372036854775807) :
    Calls Try.prog 4 #[.slice a n cap] w fun e w' => e = .returned (.bool true) ∧ Fr Non w w' := by
  have h : (16384 : Int) < (n : Int) := by omega
  clear hn
  go_enter Try.func4, Try.ntmps4
  go_wp2_with (go_at_call 10; refine (bawake_any _).mono ?_; rintro e w1 ⟨rfl, hf1⟩)
  go_ret
  exact ⟨rfl, hf1⟩
set_option maxRecDepth 100000 in
set_option maxHeartbeats 4000000 in
theorem bcjFlows_walk (a : Option Addr) (n cap : Nat) (f : Nat → Int) (w : World) (hn : n ≤ 16384) (hnc : n ≤ cap) (hnil : a = none → cap = 0)
    (h : RowIn w.heap.size .u8 w a n f) (hf : ∀ i, i < n → 0 ≤ f i ∧ f i < 256) :
    Calls Try.prog 4 #[.slice a n cap] w fun e w' => e = .returned (.bool true) ∧ Fr Non w w' := by
  have hn1 : ¬ (16384 : Int) < (n : Int) := by omega
  have H := hid h
  have Hf := hid hf
  have Hnil := hid hnil
  clear h hf hnil
  go_enter Try.func4, Try.ntmps4
  go_wp2_with fail
  refine (bawake_any _).mono ?_
  rintro e w1 ⟨rfl, hf1⟩
  have s1 := hf1.size
  have F1 := hid hf1
  have H1 := hid (H.out.fr hf1 (fun _ _ => id) |>.mono s1)
  clear hf1
  go_wp2_with fail
  refine (newFeed_any a n cap f _ (by omega) hnc Hnil.out H1.out).mono ?_
  intro e w2 h2
  obtain ⟨fg, a', c', rfl, hf2, hi2, hl2⟩ := feedNew_b _ _ _ Hf.out (by omega) _ _ h2
  have s2 := hf2.size
  have F2 := hid (F1.out.trans hf2)
  have HI2 := hid hi2
  have HL2 := hid hl2
  clear h2 hf2 hi2 hl2
  go_wp2_with fail
  refine (bnewF_any 28 (.pointer (some ⟨fg, 0, none⟩)) _).mono ?_
  rintro e w3 ⟨g, rfl, hg0, hg1, hf3, hb3⟩
  have s3 := hf3.size
  have F3 := hid (F2.out.trans hf3)
  have hng : ¬ (feed fg a' n c' f Hf.out).foot g := fun e => by have := HL2.out g e; omega
  have HB3 := hid (show FiltS (feed fg a' n c' f Hf.out) g n f 0 w3 from ⟨hng, 0, 0, ⟨0, 0, 0, false⟩, fun _ => 0, false, FInv.start n f Hf.out, hb3, (feed fg a' n c' f Hf.out).keep _ _ _ Non HI2.out hf3 (fun _ _ e => e)⟩)
  have hw1 := F1.out.size
  have HFT := hid (show ∀ k, (k = g ∨ (feed fg a' n c' f Hf.out).foot k) → w.heap.size ≤ k ∧ k < w3.heap.size from by
    intro k hk
    rcases hk with rfl | hk
    · omega
    · have := HL2.out k hk; omega)
  clear hf3 hb3 HI2 HL2 hng
  go_wp2_with fail
  refine (rdecode_any a n cap f _ (by omega) hnc Hnil.out (H.out.fr F3.out (fun _ _ => id) |>.mono F3.out.size) Hf.out).mono ?_
  rintro e w4 ⟨av0, cv0, rfl, -, -, -, -, hf4, ho4⟩
  obtain ⟨av, cv, heq, hu4⟩ := RowUp.ofOwn ho4
  obtain ⟨rfl, rfl⟩ : av0 = av ∧ cv0 = cv := by injection heq with h1 h2 h3; exact ⟨h1, h3⟩
  have s4 := hf4.size
  have S4 := hid (show FiltS (feed fg a' n c' f Hf.out) g n f 0 w4 ∧ RowUp w3.heap.size .u8 w4 av0 n (allB false n f) ∧ Fr Non w w4 from ⟨HB3.out.keep hf4 (fun _ _ e => e), hu4, F3.out.trans hf4⟩)
  clear hu4 ho4 hf4 HB3 heq
  go_wp2_with fail
  go_loopw [6] (fun i wr => ∃ k : Nat, k ≤ n ∧ i = .int .i64 k ∧ FiltS (feed fg a' n c' f Hf.out) g n f k wr ∧ RowUp w3.heap.size .u8 wr av0 n (allB false n f) ∧ Fr Non w wr) (fun i _ => n - (intOf i).toNat)
  case atStart => exact ⟨0, Nat.zero_le _, rfl, S4.out⟩
  case round =>
    obtain ⟨k, hk, rfl, hfi, hup, hfr⟩ := hrel
    have HFI := hid hfi
    have HUP := hid hup
    have HFR := hid hfr
    clear hfi hup hfr
    by_cases hlt : k < n
    · go_wp2_with fail
      refine (bnext_more fg a' n c' f Hf.out g k _ hlt HFI.out).mono ?_
      rintro e w5 ⟨rfl, hf5, h5⟩
      have h5' := h5
      obtain ⟨-, m, r, b, fl, o, hv, -, hi5⟩ := h5
      have hs5 := hv.s5
      have hsn := hv.sn
      obtain ⟨s, hs⟩ : ∃ s, s = k + 1 + m := ⟨_, rfl⟩
      rw [← hs] at hs5 hsn hi5
      have q1 : ¬ ((k : Int) + 6 < (s : Int)) := by omega
      obtain ⟨bb, off, rfl, hb3, hc⟩ := HUP.out.at hlt
      have hc5 := hf5.cell hc (fun e => by have := HFT.out bb e; omega)
      have HF5 := hid hf5
      have H5 := hid h5'
      have HI5 := hid hi5
      have q2 : (n : Int) - ((n : Int) - (s : Int)) = (s : Int) := by omega
      have q3 : IntKind.i64.wrap ((n : Int) - ((n : Int) - (s : Int))) = (s : Int) := by rw [q2, IntKind.wrap_i64]; omega
      clear hf5 h5' hc hi5 hv hs q2
      go_wp2_with (go_at_call 14; refine (feedLeft_any fg a' n c' s _ (by omega) hsn HI5.out.2.2.1).mono ?_; rintro e w6 ⟨rfl, m6, rfl⟩)
      go_roundw
      case rel =>
        exact ⟨k + 1, by omega, by go_num, H5.out.keep ((Fr.refl Non _).drewN _) (fun _ _ e => e), (HUP.out.fr HF5.out (fun i hi e => by have := HFT.out i e; omega)).fr ((Fr.refl Non _).drewN _) (fun _ _ e => e), (HFR.out.then HF5.out (fun i hi e => by have := HFT.out i e; omega)).drewN _⟩
      case measure => simp [intOf]; omega
    · have e : k = n := by omega
      subst e
      go_wp2_with fail
      have S6 := hid (show FiltS (feed fg a' k c' f Hf.out) g k f k wr ∧ Fr Non w wr from ⟨HFI.out, HFR.out⟩)
      clear HFI HUP HFR S4
      go_loopw [9] (fun i wr => ∃ j : Nat, j ≤ 3 ∧ i = .int .i64 j ∧ FiltS (feed fg a' k c' f Hf.out) g k f k wr ∧ Fr Non w wr) (fun i _ => 3 - (intOf i).toNat)
      case atStart => exact ⟨0, by omega, rfl, S6.out⟩
      case round =>
        obtain ⟨j, hj, rfl, hfi, hfr⟩ := hrel
        have HFI := hid hfi
        have HFR := hid hfr
        clear hfi hfr
        by_cases hlj : j < 3
        · go_wp2_with fail
          refine (bnext_end fg a' k c' f Hf.out g _ HFI.out).mono ?_
          rintro e w5 ⟨rfl, hf5, h5⟩
          have HF5 := hid hf5
          have H5 := hid h5
          clear hf5 h5
          go_wp2_with fail
          go_roundw
          case rel => exact ⟨j + 1, by omega, by go_num, H5.out, HFR.out.then HF5.out (fun i hi e => by have := HFT.out i e; omega)⟩
          case measure => simp [intOf]; omega
        · go_wp2_with fail
          go_ret
          exact ⟨rfl, HFR.out⟩
end Go.Proofs.Ytkahjjmjbcjaaaa
