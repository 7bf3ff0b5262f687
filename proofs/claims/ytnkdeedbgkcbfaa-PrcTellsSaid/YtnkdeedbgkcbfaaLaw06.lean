/- Decoders over feeds; law06's awake. -/
import Derived.Test.YtnkdeedbgkcbfaaRight6
import Derived.Test.YtnkdeedbgkcbfaaPrc3
import Derived.Test.YtnkdeedbgkcbfaaBytes
import Derived.Deep.RegionWith
namespace Go.Proofs.Ytnkdeedbgkcbfaa
open Go.RowKit

theorem make_u8 (n : Nat) (hn : n ≤ 1048576) (w : World) : (Instr.makeSlice 35 (.int .i64 n) (.int .i64 n)).run Try.prog w = .ok (.slice (some ⟨w.heap.size, 0, none⟩) n n) (w.alloc (.cells (arr .u8 n (fun _ => 0)) 5)) := by
  obtain ⟨i, hi, hz0, hz1, hz2⟩ := info_parts Try.info_u8
  have h := run_make (P := Try.prog) w 35 5 i (.int .u8 0) Try.underlying35 hi hz0 .i64 .i64 n n (by omega) (by omega) (by rw [hz2]; omega) (by omega)
  simp only [Int.toNat_natCast, hz1, arr_made] at h
  exact h

/-- a decoder at g over a feed of the n bytes f, all its blocks from lo on, below hi. -/
structure Deco (lo hi : Nat) (f : Nat → Int) (n : Nat) where
  fg : Nat
  a : Option Addr
  c : Nat
  g : Nat
  hf : ∀ i, i < n → 0 ≤ f i ∧ f i < 256
  low : ∀ k, decFoot (feed fg a n c f hf) g k → lo ≤ k ∧ k < hi
def Deco.s {lo hi : Nat} {f : Nat → Int} {n : Nat} (D : Deco lo hi f n) : Sour Nat := feed D.fg D.a n D.c f D.hf
def Deco.Is {lo hi : Nat} {f : Nat → Int} {n : Nat} (D : Deco lo hi f n) (w : World) (d : RD Nat) : Prop := DecIs D.s D.g w d

theorem feedNew_any (w : World) (n : Nat) (f : Nat → Int) (hf : ∀ i, i < n → 0 ≤ f i ∧ f i < 256) (hn : n ≤ 1048576) (e : Ending) (w' : World) (h : NewFeedPost w n f e w') :
    ∃ g a' c', e = .returned (.pointer (some ⟨g, 0, none⟩)) ∧ Fr Non w w' ∧ (feed g a' n c' f hf).I w' 0 ∧ ∀ k, (feed g a' n c' f hf).foot k → w.heap.size ≤ k ∧ k < w'.heap.size := by
  obtain ⟨g, a', c', h1, h2, h3, h4, h5⟩ := h
  exact ⟨g, a', c', h1, h2, ⟨Nat.zero_le _, hn, h3, h4⟩, h5⟩
/-- New over a feed. -/
def DecoPost (w0 w : World) (f : Nat → Int) (n : Nat) (e : Ending) (w' : World) : Prop :=
  ∃ D : Deco w0.heap.size w'.heap.size f n, e = .returned (.pointer (some ⟨D.g, 0, none⟩)) ∧ Fr Non w0 w' ∧ D.Is w' (RD.pnew (feedNx f n) 0)
theorem newF_any (w0 w : World) (n : Nat) (f : Nat → Int) (hf : ∀ i, i < n → 0 ≤ f i ∧ f i < 256) (g : Nat) (a' : Option Addr) (c' : Nat) (hw : Fr Non w0 w) (hi : (feed g a' n c' f hf).I w 0)
    (hl : ∀ k, (feed g a' n c' f hf).foot k → w0.heap.size ≤ k ∧ k < w.heap.size) :
    Calls Try.prog 17 #[.iface 45 (.pointer (some ⟨g, 0, none⟩))] w (DecoPost w0 w f n) := by
  refine (dnew_any (feed g a' n c' f hf) 0 w hi (fun k hk => (hl k hk).2)).mono ?_
  rintro e w' ⟨gd, h1, h2, h3, h4, h5⟩
  have hs := hw.size
  have hs2 := h4.size
  refine ⟨⟨g, a', c', gd, hf, fun k hk => ?_⟩, h3, ?_, h5⟩
  · rcases hk with rfl | hk
    · exact ⟨by omega, h2⟩
    · have := hl k hk; exact ⟨this.1, by omega⟩
  · exact hw.then h4 (fun i hi hk => by have := hl i hk; omega)
theorem Deco.keep {lo hi : Nat} {f : Nat → Int} {n : Nat} {D : Deco lo hi f n} {w w' : World} {d : RD Nat} (h : D.Is w d) {T : Nat → Prop} (hf : Fr T w w') (ht : ∀ k, lo ≤ k → k < hi → ¬ T k) : D.Is w' d :=
  DecIs.keep h hf (fun k hk => ht k (D.low k hk).1 (D.low k hk).2)

theorem Deco.any {lo hi : Nat} {f : Nat → Int} {n : Nat} {D : Deco lo hi f n} {w w' : World} {d : RD Nat} (h : D.Is w d) (hf : Fr Non w w') : D.Is w' d := Deco.keep h hf (fun _ _ _ e => e)
theorem zeros_row (w : World) (n : Nat) (t : TypeId) (B : Nat) (hB : w.heap.size < B) : RowIn B .u8 (w.alloc (.cells (arr .u8 n (fun _ => 0)) t)) (some ⟨w.heap.size, 0, none⟩) n (fun _ => 0) :=
  (RowIn.ofArr0 (blk_new w _)).mono hB
theorem zeros_bd (n : Nat) : ∀ i, i < n → 0 ≤ (fun _ : Nat => (0 : Int)) i ∧ (fun _ : Nat => (0 : Int)) i < 256 := fun _ _ => by show (0 : Int) ≤ 0 ∧ (0 : Int) < 256; omega

theorem Out.no {A : Nat → Prop} {i : Nat} (h : Out A i) (ha : A i) : False := h ha
theorem five_small : 5 ≤ 4611686018427387904 := by decide
theorem zeros_lit : ∀ i, i < 5 → ([0, 0, 0, 0, 0] : List Int).getD i 0 = (fun _ => 0) i := by decide
theorem CodIs.fresh {A : Nat → Prop} {g : Nat} {w W : World} {c : RC} (h : CodIs A g w c) (hf : Fr Non w W) : CodIs (fun k => A k ∨ (w.heap.size ≤ k ∧ k < W.heap.size)) g W c := h.more hf (fun _ e => e.elim)
/-- Finish in a world that grew: what is new stays. -/
theorem cfinish_in {A : Nat → Prop} {g : Nat} {c : RC} {w W : World} (h : CodIs A g w c) (hf : Fr Non w W) (hfit : c.Fit 1073741810) :
    Calls Try.prog 16 #[.pointer (some ⟨g, 0, none⟩)] W fun e w' => FPost A g w c e w' ∧ Fr (Out fun k => A k ∨ (w.heap.size ≤ k ∧ k < W.heap.size)) W w' := by
  refine (cfinish_any _ g c W (h.fresh hf) hfit).mono ?_
  rintro e w' ⟨v, rfl, h1, h2, h3, h4⟩
  exact ⟨⟨v, rfl, h1, fun k hk => ⟨(h2 k hk).1, fun q => (h2 k hk).2 (.inl q)⟩, (hf.any (S := Out A)).trans (h3.mono (fun k _ q e => q (.inl e))), h4.less (fun k q => .inl q)⟩, h3⟩

def cHalf : RC := RC.new.put ⟨0, 1, 1, 2⟩
theorem finHalf : (cHalf.gives 5).out = [0, 127, 255, 255, 255] := by decide +kernel
theorem fin0 : (RC.new.gives 5).out = [0, 0, 0, 0, 0] := by decide +kernel
theorem fitHalf : cHalf.Fit 1073741810 := ⟨by decide +kernel, by decide +kernel, by decide +kernel, by decide +kernel, by decide +kernel⟩
theorem fitnew : RC.new.Fit 1073741810 := ⟨by decide, by decide, by decide, by decide, by decide⟩
theorem pnew5 : RD.pnew (feedNx (fun _ => 0) 5) 0 = ⟨5, 4294967295, 0, false⟩ := by kernel_rfl
theorem place7 : RD.place (⟨5, 4294967295, 0, false⟩ : RD Nat) 7 = (0, ⟨5, 613566756, 0, false⟩) := by kernel_rfl
theorem lit_half : ∀ i, i < 5 → ([0, 127, 255, 255, 255] : List Int).getD i 0 = lit [0, 127, 255, 255, 255] i := fun _ _ => rfl

set_option maxRecDepth 100000 in
set_option maxHeartbeats 40000000 in
theorem awake06_any (w : World) : Calls Try.prog 8 #[] w fun e w' => e = .returned (.bool true) ∧ Fr Non w w' := by
  have hmk : ∀ w : World, (Instr.makeSlice 35 (.int .i64 5) (.int .i64 5)).run Try.prog w = .ok (.slice (some ⟨w.heap.size, 0, none⟩) 5 5) (w.alloc (.cells (arr .u8 5 (fun _ => 0)) 5)) := fun w => make_u8 5 (by decide) w
  go_enter Try.func8, Try.ntmps8
  go_wp2_with fail
  refine (cnew_any _).mono ?_
  rintro e w1 ⟨g, rfl, hg0, hf1, hc1⟩
  have s1 := hf1.size
  have F1 := hid hf1
  have HC1 := hid hc1
  clear hf1 hc1
  go_wp2_with fail
  refine (put_any _ g 5 RC.new ⟨0, 1, 1, 2⟩ _ HC1.out (new_ok 5) (by decide) (.inl ⟨rfl, by decide, by decide, by decide, by decide, by decide⟩)).mono ?_
  rintro e w2 ⟨rfl, hf2, hc2⟩
  have s2 := hf2.size
  have F2 := hid (F1.out.then hf2 (T := Out _) (fun i hi e => (Out.no e hi).elim))
  have HC2 := hid (show CodIs (fun k => k < w.heap.size) g w2 cHalf from hc2)
  clear hf2 hc2
  go_wp2_with fail
  refine (newFeed_any _ 5 5 (fun _ => 0) _ (by decide) (by decide) (fun e => by cases e) (zeros_row w2 5 _ _ (by simp))).mono ?_
  intro e w3 h3
  obtain ⟨fg, a', c', rfl, hf3, hi3, hl3⟩ := feedNew_any _ _ _ (zeros_bd 5) (by decide) _ _ h3
  have hf3' := ((Fr.refl Non w2).alloc (.cells (arr .u8 5 (fun _ => 0)) 5)).trans hf3
  have s3 := hf3'.size
  have F3 := hid hf3'
  have HI3 := hid hi3
  have HL3 := hid hl3
  clear h3 hf3 hf3' hi3 hl3
  go_wp2_with fail
  refine (newF_any w2 w3 5 (fun _ => 0) (zeros_bd 5) fg a' c' F3.out HI3.out (fun k hk => by have := HL3.out k hk; simp at this; omega)).mono ?_
  rintro e w4 ⟨D, rfl, hf4, hd4⟩
  rw [pnew5] at hd4
  obtain ⟨A, hAe⟩ : ∃ A : Nat → Prop, A = fun k => k < w.heap.size ∨ (w2.heap.size ≤ k ∧ k < w4.heap.size) := ⟨_, rfl⟩
  have hc4 := HC2.out.fresh hf4
  rw [← hAe] at hc4
  have HA0 := hid (show ∀ k, k < w.heap.size → A k from fun k hk => by rw [hAe]; exact .inl hk)
  have HAD := hid (show ∀ k, w2.heap.size ≤ k → k < w4.heap.size → ¬ Out A k from fun k h1 h2 e => Out.no e (by rw [hAe]; exact .inr ⟨h1, h2⟩))
  have F4 := hid (F2.out.trans hf4)
  have HC4 := hid hc4
  have HD4 := hid hd4
  have KD : Hid (∀ w', D.Is w' ⟨5, 4294967295, 0, false⟩ → Calls Try.prog 28 #[.pointer (some ⟨D.g, 0, none⟩)] w' fun e w'' => e = .returned (.bool true) ∧ w' = w'') := fun w' h => ddone_any D.s D.g _ w' h
  have KP : Hid (∀ w', D.Is w' ⟨5, 4294967295, 0, false⟩ → Calls Try.prog 20 #[.pointer (some ⟨D.g, 0, none⟩), .int .u32 7] w' fun e w'' => e = .returned (.int .u32 0) ∧ Fr (fun k => w2.heap.size ≤ k) w' w'') := fun w' h => by
    refine (dplace_any D.s D.g _ 7 w' h (by decide) (by decide) (fun _ => by show (16777216 : Int) ≤ 4294967295; decide)).mono ?_
    rintro e w'' ⟨h1, h2, _⟩
    rw [place7] at h1
    exact ⟨h1, h2.mono (fun k _ hk => (D.low k hk).1)⟩
  have s4 := hf4.size
  clear hf4 hd4 hc4 hAe HI3 HL3
  go_wp2_with fail
  go_region_with (first
    | (go_at_call 16; refine (cfinish_in HC6.out (by repeat (first | with_reducible exact Fr.refl _ _ | with_reducible refine Fr.drew ?_ | with_reducible refine Fr.alloc ?_ _)) fitnew).mono ?_; rintro e w7 ⟨⟨v7, rfl, ho, hs, hf, hc⟩, hg⟩; rw [fin0] at ho; obtain ⟨a7, k7, rfl, hn7, hm7, hr⟩ := ho.rowN (n := 5) rfl; have HF7 := hid hf; have HC7 := hid hc; have HG7 := hid hg; have HR7 := hid hr; have S7 := hf.size; have RA7 := hid ((hr.fr ((Fr.refl Non w7).alloc (.cells (arr .u8 5 (fun _ => 0)) 5)) (fun _ _ => id)).mono (B' := w7.heap.size + 1) (by omega)); have RB7 := hid (show RowIn (w7.heap.size + 1) .u8 (w7.alloc (.cells (arr .u8 5 (fun _ => 0)) 5)) (some ⟨w7.heap.size, 0, none⟩) 5 (fun _ => 0) from RowIn.ofArr (k := .u8) (n := 5) (f := fun _ => 0) (blk_new w7 (.cells (arr .u8 5 (fun _ => 0)) 5)) 0 5 (by decide)); clear ho hs hf hc hg hr)
    | (go_at_call 16; refine (cfinish_in HC4.out (by repeat (first | with_reducible exact Fr.refl _ _ | with_reducible refine Fr.drew ?_ | with_reducible refine Fr.alloc ?_ _)) fitHalf).mono ?_; rintro e w5 ⟨⟨v5, rfl, ho, hs, hf, hc⟩, hg⟩; rw [finHalf] at ho; obtain ⟨a5, k5, rfl, hn5, hm5, hr⟩ := ho.rowN (n := 5) rfl; have HF5 := hid hf; have HC5 := hid hc; have HG5 := hid hg; have HR5 := hid hr; have S5 := hf.size; have RA5 := hid ((hr.fr ((Fr.refl Non w5).alloc (.cells #[.int .u8 0, .int .u8 127, .int .u8 255, .int .u8 255, .int .u8 255] 5)) (fun _ _ => id)).mono (B' := w5.heap.size + 1) (by omega)); have RB5 := hid (show RowIn (w5.heap.size + 1) .u8 (w5.alloc (.cells #[.int .u8 0, .int .u8 127, .int .u8 255, .int .u8 255, .int .u8 255] 5)) (some ⟨w5.heap.size, 0, none⟩) 5 (lit [0, 127, 255, 255, 255]) from RowIn.ofList (k := .u8) [0, 127, 255, 255, 255] (blk_new w5 (.cells #[.int .u8 0, .int .u8 127, .int .u8 255, .int .u8 255, .int .u8 255] 5))); clear ho hs hf hc hg hr)
    | (go_at_call 15; with_reducible (show Calls _ _ _ (World.alloc w7 _) _); refine (bytes_yes a7 _ 5 k7 5 _ (fun _ => 0) (w7.alloc (.cells (arr .u8 5 (fun _ => 0)) 5)) five_small (w7.heap.size + 1) RA7.out RB7.out zeros_lit).mono ?_; rintro e w8 ⟨rfl, hf⟩; have F8 := hid (((Fr.refl Non w7).alloc (.cells (arr .u8 5 (fun _ => 0)) 5)).trans hf); clear hf; have W8 := hid ((W6.out.then HF7.out (T := Out A) (fun i hi e => (Out.no e (HA0.out i hi)).elim)).trans F8.out); have HD8 := hid (Deco.any (Deco.keep HD6.out HF7.out HAD.out) F8.out))
    | (go_at_call 15; refine (bytes_yes a7 (some ⟨w6.heap.size, 0, none⟩) 5 k7 5 _ (fun _ => 0) w7 (by decide) w7.heap.size HR7.out (RowIn.mono (B := w6.heap.size + 1) (RowIn.ofArr (k := .u8) (n := 5) (f := fun _ => 0) (HG7.out.blk (g := w6.heap.size) (o := .cells (arr .u8 5 (fun _ => 0)) 5) (blk_new w6 (.cells (arr .u8 5 (fun _ => 0)) 5)) (fun e => Out.no e (.inr ⟨Nat.le_refl _, by simp⟩))) 0 5 (by decide)) (by have := HG7.out.size; simp at this; omega)) zeros_lit).mono ?_; rintro e w8 ⟨rfl, hf⟩; have F8 := hid hf; clear hf; have W8 := hid ((W6.out.then HF7.out (T := Out A) (fun i hi e => (Out.no e (HA0.out i hi)).elim)).trans F8.out); have HD8 := hid (Deco.any (Deco.keep HD6.out HF7.out HAD.out) F8.out))
    | (go_at_call 15; with_reducible (show Calls _ _ _ (World.alloc w5 _) _); refine (bytes_yes a5 _ 5 k5 5 _ (lit [0, 127, 255, 255, 255]) (w5.alloc (.cells #[.int .u8 0, .int .u8 127, .int .u8 255, .int .u8 255, .int .u8 255] 5)) five_small (w5.heap.size + 1) RA5.out RB5.out lit_half).mono ?_; rintro e w6 ⟨rfl, hf⟩; have F6 := hid (((Fr.refl Non w5).alloc (.cells #[.int .u8 0, .int .u8 127, .int .u8 255, .int .u8 255, .int .u8 255] 5)).trans hf); clear hf; have W6 := hid ((F4.out.then HF5.out (T := Out A) (fun i hi e => (Out.no e (HA0.out i hi)).elim)).trans F6.out); have HC6 := hid (HC5.out.any F6.out); have HD6 := hid (Deco.any (Deco.keep HD4.out HF5.out HAD.out) F6.out))
    | (go_at_call 15; refine (bytes_yes a5 (some ⟨w4.heap.size, 0, none⟩) 5 k5 5 _ (lit [0, 127, 255, 255, 255]) w5 (by decide) w5.heap.size HR5.out (RowIn.mono (B := w4.heap.size + 1) (RowIn.ofList (k := .u8) [0, 127, 255, 255, 255] (HG5.out.blk (g := w4.heap.size) (o := .cells #[.int .u8 0, .int .u8 127, .int .u8 255, .int .u8 255, .int .u8 255] 5) (blk_new w4 (.cells #[.int .u8 0, .int .u8 127, .int .u8 255, .int .u8 255, .int .u8 255] 5)) (fun e => Out.no e (.inr ⟨Nat.le_refl _, by simp⟩)))) (by have := HG5.out.size; simp at this; omega)) lit_half).mono ?_; rintro e w6 ⟨rfl, hf⟩; have F6 := hid hf; clear hf; have W6 := hid ((F4.out.then HF5.out (T := Out A) (fun i hi e => (Out.no e (HA0.out i hi)).elim)).trans F6.out); have HC6 := hid (HC5.out.any F6.out); have HD6 := hid (Deco.any (Deco.keep HD4.out HF5.out HAD.out) F6.out))
    | (go_at_call 28; refine (KD.out _ HD8.out).mono ?_; rintro e w9 ⟨rfl, rfl⟩)
    | (go_at_call 20; refine (KP.out _ HD8.out).mono ?_; rintro e w9 ⟨rfl, hf9⟩; have F9 := hid (W8.out.then hf9 (T := fun k => w2.heap.size ≤ k) (fun i hi e => by omega)); clear hf9))
  all_goals
    go_wp2_with fail
    go_ret
    exact ⟨rfl, F9.out⟩
end Go.Proofs.Ytnkdeedbgkcbfaa
