/- Decoders over feeds; law04's first look, awake. -/
import Derived.Test.YtomjagibcdneiaaAsk2
namespace Go.Proofs.Ytomjagibcdneiaa
open Go.RowKit

theorem make_u8 (n : Nat) (hn : n ≤ 1048576) (w : World) : (Instr.makeSlice 42 (.int .i64 n) (.int .i64 n)).run Try.prog w = .ok (.slice (some ⟨w.heap.size, 0, none⟩) n n) (w.alloc (.cells (arr .u8 n (fun _ => 0)) 5)) := by
  obtain ⟨i, hi, hz0, hz1, hz2⟩ := info_parts Try.info_u8
  have h := run_make (P := Try.prog) w 42 5 i (.int .u8 0) Try.underlying42 hi hz0 .i64 .i64 n n (by omega) (by omega) (by rw [hz2]; omega) (by omega)
  simp only [Int.toNat_natCast, hz1, arr_made] at h
  exact h

/-- a decoder at g over a feed of the n bytes f, all its blocks from lo on, below hi. -/
structure Deco (lo hi : Nat) (f : Nat → Int) (n : Nat) where
  fg : Nat
  a : Option Addr
  c : Nat
  g : Nat
  hf : ∀ i, i < n → 0 ≤ f i ∧ f i < 256
  low : ∀ k, decFoot (feed fg a n c f hf) g k → lo ≤ k ∧ k < hi
def Deco.s {lo hi : Nat} {f : Nat → Int} {n : Nat} (D : Deco lo hi f n) : Sour Nat := feed D.fg D.a n D.c f D.hf
def Deco.Is {lo hi : Nat} {f : Nat → Int} {n : Nat} (D : Deco lo hi f n) (w : World) (d : RD Nat) : Prop := DecIs D.s D.g w d

theorem feedNew_any (w : World) (n : Nat) (f : Nat → Int) (hf : ∀ i, i < n → 0 ≤ f i ∧ f i < 256) (hn : n ≤ 1048576) (e : Ending) (w' : World) (h : NewFeedPost w n f e w') :
    ∃ g a' c', e = .returned (.pointer (some ⟨g, 0, none⟩)) ∧ Fr Non w w' ∧ (feed g a' n c' f hf).I w' 0 ∧ ∀ k, (feed g a' n c' f hf).foot k → w.heap.size ≤ k ∧ k < w'.heap.size := by
  obtain ⟨g, a', c', h1, h2, h3, h4, h5⟩ := h
  exact ⟨g, a', c', h1, h2, ⟨Nat.zero_le _, hn, h3, h4⟩, h5⟩
/-- New over a feed. -/
def DecoPost (w0 w : World) (f : Nat → Int) (n : Nat) (e : Ending) (w' : World) : Prop :=
  ∃ D : Deco w0.heap.size w'.heap.size f n, e = .returned (.pointer (some ⟨D.g, 0, none⟩)) ∧ Fr Non w0 w' ∧ D.Is w' (RD.new (feedNx f n) 0)
theorem newF_any (w0 w : World) (n : Nat) (f : Nat → Int) (hf : ∀ i, i < n → 0 ≤ f i ∧ f i < 256) (g : Nat) (a' : Option Addr) (c' : Nat) (hw : Fr Non w0 w) (hi : (feed g a' n c' f hf).I w 0)
    (hl : ∀ k, (feed g a' n c' f hf).foot k → w0.heap.size ≤ k ∧ k < w.heap.size) :
    Calls Try.prog 25 #[.iface 52 (.pointer (some ⟨g, 0, none⟩))] w (DecoPost w0 w f n) := by
  refine (dnew_any (feed g a' n c' f hf) 0 w hi (fun k hk => (hl k hk).2)).mono ?_
  rintro e w' ⟨gd, h1, h2, h3, h4, h5⟩
  have hs := hw.size
  have hs2 := h4.size
  refine ⟨⟨g, a', c', gd, hf, fun k hk => ?_⟩, h3, ?_, h5⟩
  · rcases hk with rfl | hk
    · exact ⟨by omega, h2⟩
    · have := hl k hk; exact ⟨this.1, by omega⟩
  · exact hw.then h4 (fun i hi hk => by have := hl i hk; omega)
theorem Deco.keep {lo hi : Nat} {f : Nat → Int} {n : Nat} {D : Deco lo hi f n} {w w' : World} {d : RD Nat} (h : D.Is w d) {T : Nat → Prop} (hf : Fr T w w') (ht : ∀ k, lo ≤ k → k < hi → ¬ T k) : D.Is w' d :=
  DecIs.keep h hf (fun k hk => ht k (D.low k hk).1 (D.low k hk).2)

theorem zeros_row (w : World) (n : Nat) (t : TypeId) (B : Nat) (hB : w.heap.size < B) : RowIn B .u8 (w.alloc (.cells (arr .u8 n (fun _ => 0)) t)) (some ⟨w.heap.size, 0, none⟩) n (fun _ => 0) :=
  (RowIn.ofArr0 (blk_new w _)).mono hB
theorem zeros_bd (n : Nat) : ∀ i, i < n → 0 ≤ (fun _ : Nat => (0 : Int)) i ∧ (fun _ : Nat => (0 : Int)) i < 256 := fun _ _ => by show (0 : Int) ≤ 0 ∧ (0 : Int) < 256; omega

theorem new5 : RD.new (feedNx (fun _ => 0) 5) 0 = ⟨5, 4294967295, 0, false⟩ := by kernel_rfl
theorem bit5 : RD.bit (feedNx (fun _ => 0) 5) ⟨5, 4294967295, 0, false⟩ 1024 = (0, 1056, ⟨5, 2147482624, 0, false⟩) := by kernel_rfl
theorem bad5 : (RD.new (feedNx (lit [1, 0, 0, 0, 0]) 5) 0).bad = true := by kernel_rfl

set_option maxRecDepth 100000 in
set_option maxHeartbeats 1000000 in
theorem awake04_any (w : World) : Calls Try.prog 24 #[] w fun e w' => e = .returned (.bool true) ∧ Fr Non w w' := by
  have hmk : ∀ w : World, (Instr.makeSlice 42 (.int .i64 5) (.int .i64 5)).run Try.prog w = .ok (.slice (some ⟨w.heap.size, 0, none⟩) 5 5) (w.alloc (.cells (arr .u8 5 (fun _ => 0)) 5)) := fun w => make_u8 5 (by decide) w
  go_enter Try.func24, Try.ntmps24
  go_wp2_with fail
  refine (newFeed_any _ 5 5 (fun _ => 0) _ (by decide) (by decide) (fun e => by cases e) (zeros_row w 5 _ _ (by simp))).mono ?_
  intro e w1 h1
  obtain ⟨fg, a', c', rfl, hf1, hi1, hl1⟩ := feedNew_any _ _ _ (zeros_bd 5) (by decide) _ _ h1
  have HF1 := hid (((Fr.refl Non w).alloc (.cells (arr .u8 5 (fun _ => 0)) 5)).trans hf1)
  have HI1 := hid hi1
  have HL1 := hid hl1
  clear h1 hf1 hi1 hl1
  go_wp2_with fail
  refine (newF_any w w1 5 (fun _ => 0) (zeros_bd 5) fg a' c' HF1.out HI1.out (fun k hk => by have := HL1.out k hk; simp at this; omega)).mono ?_
  rintro e w2 ⟨D, rfl, hf2, hd2⟩
  rw [new5] at hd2
  have HF2 := hid hf2
  have HD2 := hid hd2
  clear hf2 hd2 HI1 HL1 hmk
  go_wp2_with fail
  refine (fresh_any 2 _ (by decide)).mono ?_
  rintro e w3 ⟨gp, hgp, rfl, hf3, hb3⟩
  have HF3 := hid (HF2.out.trans hf3)
  have HD3 := hid (Deco.keep HD2.out hf3 (fun _ _ _ e => e))
  have HB3 := hid hb3
  have s3 := hf3.size
  clear hf3 hb3
  go_wp2_with fail
  refine (fresh_any 600 _ (by decide)).mono ?_
  rintro e w4 ⟨gq, hgq, rfl, hf4, _⟩
  have HF4 := hid (HF3.out.trans hf4)
  have HD4 := hid (Deco.keep HD3.out hf4 (fun _ _ _ e => e))
  have HB4 := hid (hf4.blk HB3.out id)
  have s4 := hf4.size
  clear hf4
  go_wp2_with fail
  refine (newFeed_any _ 5 5 (lit [1, 0, 0, 0, 0]) _ (by decide) (by decide) (fun e => by cases e) ((RowIn.ofList (k := .u8) [1, 0, 0, 0, 0] (blk_new w4 (.cells #[.int .u8 1, .int .u8 0, .int .u8 0, .int .u8 0, .int .u8 0] 5))).mono (by simp))).mono ?_
  intro e w5 h5
  have hlit : ∀ i, i < 5 → 0 ≤ lit [1, 0, 0, 0, 0] i ∧ lit [1, 0, 0, 0, 0] i < 256 := by decide
  obtain ⟨fg2, a2, c2, rfl, hf5, hi5, hl5⟩ := feedNew_any _ _ _ hlit (by decide) _ _ h5
  have F5 := ((Fr.refl Non w4).alloc (.cells #[.int .u8 1, .int .u8 0, .int .u8 0, .int .u8 0, .int .u8 0] 5)).trans hf5
  have HF5 := hid F5
  have HI5 := hid hi5
  have HL5 := hid hl5
  clear h5 hf5 hi5 hl5 F5
  go_wp2_with fail
  refine (newF_any w4 w5 5 (lit [1, 0, 0, 0, 0]) hlit fg2 a2 c2 HF5.out HI5.out (fun k hk => by have := HL5.out k hk; simp at this; omega)).mono ?_
  rintro e w6 ⟨E, rfl, hf6, he6⟩
  have s6 := hf6.size
  have HF6 := hid (HF4.out.trans hf6)
  have HD6 := hid (Deco.keep HD4.out hf6 (fun _ _ _ e => e))
  have HB6 := hid (hf6.blk HB4.out id)
  have HE6 := hid he6
  have hgD : ¬ decFoot D.s D.g gp := fun h => by have := D.low gp h; omega
  have HgD := hid hgD
  have s2 := HF2.out.size
  clear hf6 he6 HI5 HL5 hlit hgD
  go_wp2_with fail
  refine (dbit_any D.s D.g gp 1 _ _ ⟨5, 4294967295, 0, false⟩ 1024 _ HD6.out HgD.out HB6.out (arr_get _ _ _ (by decide)) (by decide) (by decide)).mono ?_
  rintro e w7 ⟨h7, hf7, hd7, hb7⟩
  have eb : RD.bit D.s.nx ⟨5, 4294967295, 0, false⟩ 1024 = (0, 1056, ⟨5, 2147482624, 0, false⟩) := bit5
  rw [eb] at h7 hd7 hb7
  subst h7
  have cp := blk_cell hb7 (j := 1) (v := .int .u16 1056) (by rw [arr_set]; exact arr_get _ _ _ (by decide))
  have h46 := HF4.out.size
  have HE7 := hid (Deco.keep HE6.out hf7 (fun k h1 h2 h3 => by
    rcases h3 with h3 | h3
    · have := D.low k h3; omega
    · have := blk_lt HB4.out; omega))
  have HF7 := hid (HF6.out.then hf7 (fun i hi h3 => by
    rcases h3 with h3 | h3
    · have := D.low i h3; omega
    · have := hgp; omega))
  have HD7 := hid hd7
  clear hf7 hd7 hb7
  go_wp2_with fail
  refine (ddone_any D.s D.g _ _ HD7.out).mono ?_
  rintro e w' ⟨rfl, rfl⟩
  have e1 : RD.done (⟨5, 2147482624, 0, false⟩ : RD Nat) = true := rfl
  rw [e1]
  go_wp2_with fail
  refine (dbadq_any E.s E.g _ _ HE7.out).mono ?_
  rintro e w' ⟨rfl, rfl⟩
  rw [bad5]
  go_wp2_with fail
  go_ret
  exact ⟨rfl, HF7.out⟩
end Go.Proofs.Ytomjagibcdneiaa
