/- law05: awake. -/
import Derived.Test.YtomjagibcdneiaaLaw05
import Derived.Test.YtomjagibcdneiaaLaw04
namespace Go.Proofs.Ytomjagibcdneiaa
open Go.RowKit

def c992 : RC := (RC.new.bit 1024 1).2
theorem fin992 : (c992.gives 5).out = [0, 127, 255, 252, 0] := by decide +kernel
theorem fin0 : (RC.new.gives 5).out = [0, 0, 0, 0, 0] := by decide +kernel
theorem bit992 : RC.new.bit 1024 1 = (992, c992) := rfl
theorem fit992 : c992.Fit 1073741810 := ⟨by decide +kernel, by decide +kernel, by decide +kernel, by decide +kernel, by decide +kernel⟩
theorem fitnew : RC.new.Fit 1073741810 := ⟨by decide, by decide, by decide, by decide, by decide⟩

theorem CodIs.any {A : Nat → Prop} {g : Nat} {w w' : World} {c : RC} (h : CodIs A g w c) (hf : Fr Non w w') : CodIs A g w' c := h.keep hf (fun _ e => False.elim e)
theorem get992 : ((arr .u16 1 fun _ => 1024).setIfInBounds 0 (.int .u16 992))[0]? = some (Value.int .u16 992) := by
  rw [arr_set]
  exact arr_get .u16 1 _ (by decide)
theorem Out.no {A : Nat → Prop} {i : Nat} (h : Out A i) (ha : A i) : False := h ha
theorem lit_992 : ∀ i, i < 5 → ([0, 127, 255, 252, 0] : List Int).getD i 0 = lit [0, 127, 255, 252, 0] i := fun _ _ => rfl
theorem five_small : 5 ≤ 4611686018427387904 := by decide
theorem zeros_lit : ∀ i, i < 5 → ([0, 0, 0, 0, 0] : List Int).getD i 0 = (fun _ => 0) i := by decide
theorem CodIs.fresh {A : Nat → Prop} {g : Nat} {w W : World} {c : RC} (h : CodIs A g w c) (hf : Fr Non w W) : CodIs (fun k => A k ∨ (w.heap.size ≤ k ∧ k < W.heap.size)) g W c := h.more hf (fun _ e => e.elim)
/-- Finish in a world that grew: what is new stays. -/
theorem cfinish_in {A : Nat → Prop} {g : Nat} {c : RC} {w W : World} (h : CodIs A g w c) (hf : Fr Non w W) (hfit : c.Fit 1073741810) :
    Calls Try.prog 23 #[.pointer (some ⟨g, 0, none⟩)] W fun e w' => FPost A g w c e w' ∧ Fr (Out fun k => A k ∨ (w.heap.size ≤ k ∧ k < W.heap.size)) W w' := by
  refine (cfinish_any _ g c W (h.fresh hf) hfit).mono ?_
  rintro e w' ⟨v, rfl, h1, h2, h3, h4⟩
  exact ⟨⟨v, rfl, h1, fun k hk => ⟨(h2 k hk).1, fun q => (h2 k hk).2 (.inl q)⟩, (hf.any (S := Out A)).trans (h3.mono (fun k _ q e => q (.inl e))), h4.less (fun k q => .inl q)⟩, h3⟩

set_option maxRecDepth 100000 in
set_option maxHeartbeats 40000000 in
theorem awake05_any (w : World) : Calls Try.prog 12 #[] w fun e w' => e = .returned (.bool true) ∧ Fr Non w w' := by
  have hmk : ∀ w : World, (Instr.makeSlice 42 (.int .i64 5) (.int .i64 5)).run Try.prog w = .ok (.slice (some ⟨w.heap.size, 0, none⟩) 5 5) (w.alloc (.cells (arr .u8 5 (fun _ => 0)) 5)) := fun w => make_u8 5 (by decide) w
  go_enter Try.func12, Try.ntmps12
  go_wp2_with fail
  refine (cnew_any _).mono ?_
  rintro e w1 ⟨g, rfl, hg0, hf1, hc1⟩
  have s1 := hf1.size
  have F1 := hid hf1
  have HC1 := hid hc1
  clear hf1 hc1
  go_wp2_with fail
  refine (fresh_any 1 _ (by decide)).mono ?_
  rintro e w2 ⟨gp, hgp, rfl, hf2, hb2⟩
  have s2 := hf2.size
  have F2 := hid (F1.out.trans hf2)
  obtain ⟨A, hAe⟩ : ∃ A : Nat → Prop, A = fun k => k < w.heap.size ∨ (w1.heap.size ≤ k ∧ k < w2.heap.size) := ⟨_, rfl⟩
  have hc2 := HC1.out.more hf2 (fun _ e => e.elim)
  rw [← hAe] at hc2
  have hA : A gp := by rw [hAe]; exact .inr ⟨hgp, blk_lt hb2⟩
  have hA0 : ∀ k, k < w.heap.size → A k := fun k hk => by rw [hAe]; exact .inl hk
  have HA := hid hA
  have HA0 := hid hA0
  have HC2 := hid hc2
  have HB2 := hid hb2
  clear hf2 hc2 hb2 hAe hA hA0
  go_wp2_with fail
  refine (fresh_any 600 _ (by decide)).mono ?_
  rintro e w3 ⟨gq, hgq, rfl, hf3, _⟩
  have s3 := hf3.size
  have F3 := hid (F2.out.trans hf3)
  have HC3 := hid (HC2.out.keep hf3 (fun _ e => e.elim))
  have HB3 := hid (hf3.blk HB2.out id)
  clear hf3
  go_wp2_with fail
  refine (cbit_any A g gp 0 5 _ _ RC.new 1024 1 _ HC3.out HA.out (new_ok 5) (by decide) HB3.out (arr_get _ _ _ (by decide)) (by decide) (by decide) (by decide)).mono ?_
  rw [bit992]
  rintro e w4 ⟨rfl, hf4, hc4, hb4⟩
  have s4 := hf4.size
  have F4 := hid (F3.out.then hf4 (T := fun k => ¬ A k ∨ k = gp) (fun i hi e => by rcases e with e | e; exact e (HA0.out i hi); omega))
  have HC4 := hid hc4
  have HB4 := hid hb4
  clear hf4 hc4 hb4
  go_wp2_with fail
  go_region_with (first
    | (go_at_call 23; refine (cfinish_in HC6.out (by repeat (first | with_reducible exact Fr.refl _ _ | with_reducible refine Fr.drew ?_ | with_reducible refine Fr.alloc ?_ _)) fitnew).mono ?_; rintro e w7 ⟨⟨v7, rfl, ho, hs, hf, hc⟩, hg⟩; rw [fin0] at ho; obtain ⟨a7, k7, rfl, hn7, hm7, hr⟩ := ho.rowN (n := 5) rfl; have HF7 := hid hf; have HC7 := hid hc; have HG7 := hid hg; have HR7 := hid hr; have S7 := hf.size; have RA7 := hid ((hr.fr ((Fr.refl Non w7).alloc (.cells (arr .u8 5 (fun _ => 0)) 5)) (fun _ _ => id)).mono (B' := w7.heap.size + 1) (by omega)); have RB7 := hid (show RowIn (w7.heap.size + 1) .u8 (w7.alloc (.cells (arr .u8 5 (fun _ => 0)) 5)) (some ⟨w7.heap.size, 0, none⟩) 5 (fun _ => 0) from RowIn.ofArr (k := .u8) (n := 5) (f := fun _ => 0) (blk_new w7 (.cells (arr .u8 5 (fun _ => 0)) 5)) 0 5 (by decide)); clear ho hs hf hc hg hr)
    | (go_at_call 23; refine (cfinish_in HC4.out (by repeat (first | with_reducible exact Fr.refl _ _ | with_reducible refine Fr.drew ?_ | with_reducible refine Fr.alloc ?_ _)) fit992).mono ?_; rintro e w5 ⟨⟨v5, rfl, ho, hs, hf, hc⟩, hg⟩; rw [fin992] at ho; obtain ⟨a5, k5, rfl, hn5, hm5, hr⟩ := ho.rowN (n := 5) rfl; have HF5 := hid hf; have HC5 := hid hc; have HG5 := hid hg; have HR5 := hid hr; have S5 := hf.size; have RA5 := hid ((hr.fr ((Fr.refl Non w5).alloc (.cells #[.int .u8 0, .int .u8 127, .int .u8 255, .int .u8 252, .int .u8 0] 5)) (fun _ _ => id)).mono (B' := w5.heap.size + 1) (by omega)); have RB5 := hid (show RowIn (w5.heap.size + 1) .u8 (w5.alloc (.cells #[.int .u8 0, .int .u8 127, .int .u8 255, .int .u8 252, .int .u8 0] 5)) (some ⟨w5.heap.size, 0, none⟩) 5 (lit [0, 127, 255, 252, 0]) from RowIn.ofList (k := .u8) [0, 127, 255, 252, 0] (blk_new w5 (.cells #[.int .u8 0, .int .u8 127, .int .u8 255, .int .u8 252, .int .u8 0] 5))); clear ho hs hf hc hg hr)
    | (go_at_call 22; with_reducible (show Calls _ _ _ (World.alloc w7 _) _); refine (bytes_yes a7 _ 5 k7 5 _ (fun _ => 0) (w7.alloc (.cells (arr .u8 5 (fun _ => 0)) 5)) five_small (w7.heap.size + 1) RA7.out RB7.out zeros_lit).mono ?_; rintro e w8 ⟨rfl, hf⟩; have F8 := hid (((Fr.refl Non w7).alloc (.cells (arr .u8 5 (fun _ => 0)) 5)).trans hf); clear hf; have W8 := hid ((W6.out.then HF7.out (T := Out A) (fun i hi e => (Out.no e (HA0.out i hi)).elim)).trans F8.out); have c8 := blk_cell (F8.out.blk (HF7.out.blk HB6.out (fun e => Out.no e HA.out)) id) (j := 0) get992)
    | (go_at_call 22; refine (bytes_yes a7 (some ⟨w6.heap.size, 0, none⟩) 5 k7 5 _ (fun _ => 0) w7 (by decide) w7.heap.size HR7.out (RowIn.mono (B := w6.heap.size + 1) (RowIn.ofArr (k := .u8) (n := 5) (f := fun _ => 0) (HG7.out.blk (g := w6.heap.size) (o := .cells (arr .u8 5 (fun _ => 0)) 5) (blk_new w6 (.cells (arr .u8 5 (fun _ => 0)) 5)) (fun e => Out.no e (.inr ⟨Nat.le_refl _, by simp⟩))) 0 5 (by decide)) (by have := HG7.out.size; simp at this; omega)) zeros_lit).mono ?_; rintro e w8 ⟨rfl, hf⟩; have F8 := hid hf; clear hf; have W8 := hid ((W6.out.then HF7.out (T := Out A) (fun i hi e => (Out.no e (HA0.out i hi)).elim)).trans F8.out); have c8 := blk_cell (F8.out.blk (HF7.out.blk HB6.out (fun e => Out.no e HA.out)) id) (j := 0) get992)
    | (go_at_call 22; with_reducible (show Calls _ _ _ (World.alloc w5 _) _); refine (bytes_yes a5 _ 5 k5 5 _ (lit [0, 127, 255, 252, 0]) (w5.alloc (.cells #[.int .u8 0, .int .u8 127, .int .u8 255, .int .u8 252, .int .u8 0] 5)) five_small (w5.heap.size + 1) RA5.out RB5.out lit_992).mono ?_; rintro e w6 ⟨rfl, hf⟩; have F6 := hid (((Fr.refl Non w5).alloc (.cells #[.int .u8 0, .int .u8 127, .int .u8 255, .int .u8 252, .int .u8 0] 5)).trans hf); clear hf; have W6 := hid ((F4.out.then HF5.out (T := Out A) (fun i hi e => (Out.no e (HA0.out i hi)).elim)).trans F6.out); have HC6 := hid (HC5.out.any F6.out); have HB6 := hid (F6.out.blk (HF5.out.blk HB4.out (fun e => Out.no e HA.out)) id))
    | (go_at_call 22; refine (bytes_yes a5 (some ⟨w4.heap.size, 0, none⟩) 5 k5 5 _ (lit [0, 127, 255, 252, 0]) w5 (by decide) w5.heap.size HR5.out (RowIn.mono (B := w4.heap.size + 1) (RowIn.ofList (k := .u8) [0, 127, 255, 252, 0] (HG5.out.blk (g := w4.heap.size) (o := .cells #[.int .u8 0, .int .u8 127, .int .u8 255, .int .u8 252, .int .u8 0] 5) (blk_new w4 (.cells #[.int .u8 0, .int .u8 127, .int .u8 255, .int .u8 252, .int .u8 0] 5)) (fun e => Out.no e (.inr ⟨Nat.le_refl _, by simp⟩)))) (by have := HG5.out.size; simp at this; omega)) (fun _ _ => rfl)).mono ?_; rintro e w6 ⟨rfl, hf⟩; have F6 := hid hf; clear hf; have W6 := hid ((F4.out.then HF5.out (T := Out A) (fun i hi e => (Out.no e (HA0.out i hi)).elim)).trans F6.out); have HC6 := hid (HC5.out.any F6.out); have HB6 := hid (F6.out.blk (HF5.out.blk HB4.out (fun e => Out.no e HA.out)) id)))
  all_goals
    go_wp2_with fail
    go_ret
    exact ⟨rfl, W8.out⟩
end Go.Proofs.Ytomjagibcdneiaa
