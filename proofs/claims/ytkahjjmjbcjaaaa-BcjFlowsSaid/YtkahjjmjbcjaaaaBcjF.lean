/- bcj: target, turn, for a walk and five bytes in bcj.Filter's own block. (Written by wip/gen_bcjf.py out of XBcj, XBcj2.) -/
import Derived.Test.YtkahjjmjbcjaaaaBcj3
namespace Go.Proofs.Ytkahjjmjbcjaaaa
open Go.RowKit

/-- what else the filter's block holds. -/
structure FX where
  sv : Value
  m : Int
  r : Int
  o : Bool
def filtC (X : FX) (b : BW) (f : Nat → Int) : Array Value :=
  #[X.sv, .int .u32 b.place, .int .i64 b.gap, .int .i64 b.mask, .bool b.code, .int .u8 (f 0), .int .u8 (f 1), .int .u8 (f 2), .int .u8 (f 3), .int .u8 (f 4), .int .i64 X.m, .int .i64 X.r, .bool X.o]
def FBAt (w : World) (g : Nat) (X : FX) (b : BW) (f : Nat → Int) : Prop := w.heap[g]? = some (.cells (filtC X b f) 59)
theorem fbtarget_any (g : Nat) (X : FX) (b : BW) (f : Nat → Int) (s : Int) (w : World) (h : FBAt w g X b f) :
    Calls Try.prog 36 #[.pointer (some ⟨g, 1, none⟩), .int .u32 s] w fun e w' => e = .returned (.int .u32 (b.target s)) ∧ w = w' := by
  have c0 := blk_cell h (j := 1) (v := .int .u32 b.place) rfl
  have c3 := blk_cell h (j := 4) (v := .bool b.code) rfl
  clear h
  unfold BW.target
  cases hc : b.code with
  | true =>
    rw [hc] at c3
    go_enter Try.func36, Try.ntmps36
    go_wp2
    go_ret
    exact ⟨rfl, rfl⟩
  | false =>
    rw [hc] at c3
    go_enter Try.func36, Try.ntmps36
    go_wp2
    go_ret
    exact ⟨rfl, rfl⟩

set_option maxRecDepth 100000 in
theorem fturn_0 (g : Nat) (X : FX) (b : BW) (f : Nat → Int) (w : World) (hm : b.mask = 0) (hb : FBAt w g X b f) (hx : ∀ i, i < 5 → 0 ≤ f i ∧ f i < 256) :
    Calls Try.prog 35 #[.pointer (some ⟨g, 1, none⟩), .pointer (some ⟨g, 5, none⟩)] w fun e w' => e = .returned (.tuple #[]) ∧ Fr (fun k => k = g) w w' ∧ FBAt w' g X b (put4 f (b.turned (wordOf f))) := by
  have c0 := blk_cell hb (j := 1) (v := .int .u32 b.place) rfl
  have c2 := blk_cell hb (j := 3) (v := .int .i64 b.mask) rfl
  have c3 := blk_cell hb (j := 4) (v := .bool b.code) rfl
  have d1 := blk_cell hb (j := 6) (v := .int .u8 (f 1)) rfl
  have d2 := blk_cell hb (j := 7) (v := .int .u8 (f 2)) rfl
  have d3 := blk_cell hb (j := 8) (v := .int .u8 (f 3)) rfl
  have d4 := blk_cell hb (j := 9) (v := .int .u8 (f 4)) rfl
  have f1 := blk_frozen hb 6
  have f2 := blk_frozen hb 7
  have f3 := blk_frozen hb 8
  have f4 := blk_frozen hb 9
  rw [hm] at c2
  have HB := hid hb
  have HX := hid hx
  clear hb hx
  have hwd : _ = wordOf f := word4_or (f 1) (f 2) (f 3) (f 4) (HX.out 1 (by decide)) (HX.out 2 (by decide)) (HX.out 3 (by decide)) (HX.out 4 (by decide))
  go_enter Try.func35, Try.ntmps35
  go_wp2
  go_quiet (fail)
  go_wp2_with fail
  refine (fbtarget_any g X b f _ _ (by exact HB.out)).mono ?_
  rintro e w' ⟨rfl, rfl⟩
  clear hwd
  go_upto_block 0 with fail
  go_cut [5] (fun tv wx => ∃ n, wx = w.drewN n ∧ tv = .int .u32 (b.turned (wordOf f)))
  case first =>
    go_wp2_with fail
    go_loopw [5] (fun tv wr => ∃ x : Int, (x = b.target (wordOf f) ∨ x = b.turned (wordOf f)) ∧ tv = .int .u32 x ∧ ∃ n, wr = w.drewN n) (fun tv _ => if edgeB (topB b.mask (intOf tv)) = true then 1 else 0)
    case atStart => exact ⟨_, .inl rfl, rfl, _, rfl⟩
    case round =>
      obtain ⟨x, hx, rfl, n, rfl⟩ := hrel
      go_wp2_with fail
      go_meet
      refine ⟨n, rfl, ?_⟩
      have e : b.turned (wordOf f) = b.target (wordOf f) := if_pos hm
      rcases hx with h | h
      · rw [h, e]
      · rw [h]
  case rest =>
    obtain ⟨n, hcw, rfl⟩ := hcut
    subst hcw
    have HT := hid (turned_range b (wordOf f))
    generalize hT : b.turned (wordOf f) = T at *
    go_wp2
    go_region
    all_goals go_wp2
    go_end0
    refine ⟨rfl, ?_, ?_⟩
    · repeat (first | exact Fr.refl _ _ | refine Fr.drewN ?_ _ | refine Fr.drew ?_ | refine Fr.setOne ?_ _ _)
    · have e := blk_set (i := 9) (v := .int .u8 (-(T / 16777216 % 2) % 256)) (blk_set (i := 8) (v := .int .u8 (T / 65536 % 256)) (blk_set (i := 7) (v := .int .u8 (T / 256 % 256)) (blk_set (i := 6) (v := .int .u8 (T % 256)) (blk_drewN (n := n + 1) HB.out))))
      rw [and_one_u32 _ (by have := HT.out; omega) (by have := HT.out; omega)]
      rw [hT]
      unfold put4
      exact e

set_option maxRecDepth 100000 in
theorem fturn_1 (g : Nat) (X : FX) (b : BW) (f : Nat → Int) (w : World) (hm : b.mask = 1) (hs : edgeB (topB 1 (wordOf f)) = false) (hb : FBAt w g X b f) (hx : ∀ i, i < 5 → 0 ≤ f i ∧ f i < 256) :
    Calls Try.prog 35 #[.pointer (some ⟨g, 1, none⟩), .pointer (some ⟨g, 5, none⟩)] w fun e w' => e = .returned (.tuple #[]) ∧ Fr (fun k => k = g) w w' ∧ FBAt w' g X b (put4 f (b.turned (wordOf f))) := by
  have c0 := blk_cell hb (j := 1) (v := .int .u32 b.place) rfl
  have c2 := blk_cell hb (j := 3) (v := .int .i64 b.mask) rfl
  have c3 := blk_cell hb (j := 4) (v := .bool b.code) rfl
  have d1 := blk_cell hb (j := 6) (v := .int .u8 (f 1)) rfl
  have d2 := blk_cell hb (j := 7) (v := .int .u8 (f 2)) rfl
  have d3 := blk_cell hb (j := 8) (v := .int .u8 (f 3)) rfl
  have d4 := blk_cell hb (j := 9) (v := .int .u8 (f 4)) rfl
  have f1 := blk_frozen hb 6
  have f2 := blk_frozen hb 7
  have f3 := blk_frozen hb 8
  have f4 := blk_frozen hb 9
  rw [hm] at c2
  have HB := hid hb
  have HX := hid hx
  clear hb hx
  have hwd : _ = wordOf f := word4_or (f 1) (f 2) (f 3) (f 4) (HX.out 1 (by decide)) (HX.out 2 (by decide)) (HX.out 3 (by decide)) (HX.out 4 (by decide))
  go_enter Try.func35, Try.ntmps35
  go_wp2
  go_quiet (fail)
  go_wp2_with fail
  refine (fbtarget_any g X b f _ _ (by exact HB.out)).mono ?_
  rintro e w' ⟨rfl, rfl⟩
  clear hwd
  go_upto_block 0 with fail
  go_cut [5] (fun tv wx => ∃ n, wx = w.drewN n ∧ tv = .int .u32 (b.turned (wordOf f)))
  case first =>
    go_wp2_with fail
    go_loopw [5] (fun tv wr => ∃ x : Int, (x = b.target (wordOf f) ∨ x = b.turned (wordOf f)) ∧ tv = .int .u32 x ∧ ∃ n, wr = w.drewN n) (fun tv _ => if edgeB (topB b.mask (intOf tv)) = true then 1 else 0)
    case atStart => exact ⟨_, .inl rfl, rfl, _, rfl⟩
    case round =>
      obtain ⟨x, hx, rfl, n, rfl⟩ := hrel
      have hx0 : 0 ≤ x ∧ x < 4294967296 := by
        rcases hx with h | h
        · rw [h]; exact target_range _ _
        · rw [h]; exact turned_range _ _
      have hxor : bits .xor .u32 x 16777215 = flipT x 16777216 := xor_low x 24 (by decide) hx0.1 hx0.2
      have htop : topB 1 x = x / 65536 % 256 := rfl
      have H0 := hid hx0
      have HXx := hid hx
      have HXor := hid hxor
      clear hx0 hx hxor
      go_wp2_with fail
      refine (bit_1 _).mono ?_
      rintro e w' ⟨rfl, rfl⟩
      go_wp2_with fail
      refine (bedge_any _ _).mono ?_
      rintro e w' ⟨rfl, rfl⟩
      rw [← htop]
      cases he : edgeB (topB 1 x) with
      | true =>
        have e1 : x = b.target (wordOf f) := by
          rcases HXx.out with h | h
          · exact h
          · exfalso
            have := turned_top b (wordOf f) (by omega) (by rw [hm]; exact hs)
            rw [hm, ← h, he] at this
            cases this
        have e2 : b.target (flipT x 16777216) = b.turned (wordOf f) := by
          unfold BW.turned
          rw [if_neg (by omega), hm, ← e1, if_pos he]
          rfl
        have E1 := hid e1
        have E2 := hid e2
        have HE := hid he
        have hxor := HXor.out
        clear e1 e2 he htop
        go_wp2_with fail
        refine (fbtarget_any g X b f _ _ (by exact HB.out)).mono ?_
        rintro e w' ⟨rfl, rfl⟩
        rw [E2.out]
        go_wp2_with fail
        go_roundw
        case rel => exact ⟨_, .inr rfl, rfl, _, rfl⟩
        case measure =>
          have h1 := turned_top b (wordOf f) (by omega) (by rw [hm]; exact hs)
          have h2 := HE.out
          rw [hm] at h1
          simp only [intOf, hm, h1, h2]
          decide
      | false =>
        have e1 : x = b.turned (wordOf f) := by
          rcases HXx.out with h | h
          · unfold BW.turned
            rw [if_neg (by omega), hm, ← h, if_neg (by rw [he]; decide)]
          · exact h
        clear he htop
        go_wp2_with fail
        go_meet
        exact ⟨_, rfl, by first | rfl | rw [e1]⟩
  case rest =>
    obtain ⟨n, hcw, rfl⟩ := hcut
    subst hcw
    have HT := hid (turned_range b (wordOf f))
    generalize hT : b.turned (wordOf f) = T at *
    go_wp2
    go_region
    all_goals go_wp2
    go_end0
    refine ⟨rfl, ?_, ?_⟩
    · repeat (first | exact Fr.refl _ _ | refine Fr.drewN ?_ _ | refine Fr.drew ?_ | refine Fr.setOne ?_ _ _)
    · have e := blk_set (i := 9) (v := .int .u8 (-(T / 16777216 % 2) % 256)) (blk_set (i := 8) (v := .int .u8 (T / 65536 % 256)) (blk_set (i := 7) (v := .int .u8 (T / 256 % 256)) (blk_set (i := 6) (v := .int .u8 (T % 256)) (blk_drewN (n := n + 1) HB.out))))
      rw [and_one_u32 _ (by have := HT.out; omega) (by have := HT.out; omega)]
      rw [hT]
      unfold put4
      exact e

set_option maxRecDepth 100000 in
theorem fturn_2 (g : Nat) (X : FX) (b : BW) (f : Nat → Int) (w : World) (hm : b.mask = 2) (hs : edgeB (topB 2 (wordOf f)) = false) (hb : FBAt w g X b f) (hx : ∀ i, i < 5 → 0 ≤ f i ∧ f i < 256) :
    Calls Try.prog 35 #[.pointer (some ⟨g, 1, none⟩), .pointer (some ⟨g, 5, none⟩)] w fun e w' => e = .returned (.tuple #[]) ∧ Fr (fun k => k = g) w w' ∧ FBAt w' g X b (put4 f (b.turned (wordOf f))) := by
  have c0 := blk_cell hb (j := 1) (v := .int .u32 b.place) rfl
  have c2 := blk_cell hb (j := 3) (v := .int .i64 b.mask) rfl
  have c3 := blk_cell hb (j := 4) (v := .bool b.code) rfl
  have d1 := blk_cell hb (j := 6) (v := .int .u8 (f 1)) rfl
  have d2 := blk_cell hb (j := 7) (v := .int .u8 (f 2)) rfl
  have d3 := blk_cell hb (j := 8) (v := .int .u8 (f 3)) rfl
  have d4 := blk_cell hb (j := 9) (v := .int .u8 (f 4)) rfl
  have f1 := blk_frozen hb 6
  have f2 := blk_frozen hb 7
  have f3 := blk_frozen hb 8
  have f4 := blk_frozen hb 9
  rw [hm] at c2
  have HB := hid hb
  have HX := hid hx
  clear hb hx
  have hwd : _ = wordOf f := word4_or (f 1) (f 2) (f 3) (f 4) (HX.out 1 (by decide)) (HX.out 2 (by decide)) (HX.out 3 (by decide)) (HX.out 4 (by decide))
  go_enter Try.func35, Try.ntmps35
  go_wp2
  go_quiet (fail)
  go_wp2_with fail
  refine (fbtarget_any g X b f _ _ (by exact HB.out)).mono ?_
  rintro e w' ⟨rfl, rfl⟩
  clear hwd
  go_upto_block 0 with fail
  go_cut [5] (fun tv wx => ∃ n, wx = w.drewN n ∧ tv = .int .u32 (b.turned (wordOf f)))
  case first =>
    go_wp2_with fail
    go_loopw [5] (fun tv wr => ∃ x : Int, (x = b.target (wordOf f) ∨ x = b.turned (wordOf f)) ∧ tv = .int .u32 x ∧ ∃ n, wr = w.drewN n) (fun tv _ => if edgeB (topB b.mask (intOf tv)) = true then 1 else 0)
    case atStart => exact ⟨_, .inl rfl, rfl, _, rfl⟩
    case round =>
      obtain ⟨x, hx, rfl, n, rfl⟩ := hrel
      have hx0 : 0 ≤ x ∧ x < 4294967296 := by
        rcases hx with h | h
        · rw [h]; exact target_range _ _
        · rw [h]; exact turned_range _ _
      have hxor : bits .xor .u32 x 65535 = flipT x 65536 := xor_low x 16 (by decide) hx0.1 hx0.2
      have htop : topB 2 x = x / 256 % 256 := rfl
      have H0 := hid hx0
      have HXx := hid hx
      have HXor := hid hxor
      clear hx0 hx hxor
      go_wp2_with fail
      refine (bit_2 _).mono ?_
      rintro e w' ⟨rfl, rfl⟩
      go_wp2_with fail
      refine (bedge_any _ _).mono ?_
      rintro e w' ⟨rfl, rfl⟩
      rw [← htop]
      cases he : edgeB (topB 2 x) with
      | true =>
        have e1 : x = b.target (wordOf f) := by
          rcases HXx.out with h | h
          · exact h
          · exfalso
            have := turned_top b (wordOf f) (by omega) (by rw [hm]; exact hs)
            rw [hm, ← h, he] at this
            cases this
        have e2 : b.target (flipT x 65536) = b.turned (wordOf f) := by
          unfold BW.turned
          rw [if_neg (by omega), hm, ← e1, if_pos he]
          rfl
        have E1 := hid e1
        have E2 := hid e2
        have HE := hid he
        have hxor := HXor.out
        clear e1 e2 he htop
        go_wp2_with fail
        refine (fbtarget_any g X b f _ _ (by exact HB.out)).mono ?_
        rintro e w' ⟨rfl, rfl⟩
        rw [E2.out]
        go_wp2_with fail
        go_roundw
        case rel => exact ⟨_, .inr rfl, rfl, _, rfl⟩
        case measure =>
          have h1 := turned_top b (wordOf f) (by omega) (by rw [hm]; exact hs)
          have h2 := HE.out
          rw [hm] at h1
          simp only [intOf, hm, h1, h2]
          decide
      | false =>
        have e1 : x = b.turned (wordOf f) := by
          rcases HXx.out with h | h
          · unfold BW.turned
            rw [if_neg (by omega), hm, ← h, if_neg (by rw [he]; decide)]
          · exact h
        clear he htop
        go_wp2_with fail
        go_meet
        exact ⟨_, rfl, by first | rfl | rw [e1]⟩
  case rest =>
    obtain ⟨n, hcw, rfl⟩ := hcut
    subst hcw
    have HT := hid (turned_range b (wordOf f))
    generalize hT : b.turned (wordOf f) = T at *
    go_wp2
    go_region
    all_goals go_wp2
    go_end0
    refine ⟨rfl, ?_, ?_⟩
    · repeat (first | exact Fr.refl _ _ | refine Fr.drewN ?_ _ | refine Fr.drew ?_ | refine Fr.setOne ?_ _ _)
    · have e := blk_set (i := 9) (v := .int .u8 (-(T / 16777216 % 2) % 256)) (blk_set (i := 8) (v := .int .u8 (T / 65536 % 256)) (blk_set (i := 7) (v := .int .u8 (T / 256 % 256)) (blk_set (i := 6) (v := .int .u8 (T % 256)) (blk_drewN (n := n + 1) HB.out))))
      rw [and_one_u32 _ (by have := HT.out; omega) (by have := HT.out; omega)]
      rw [hT]
      unfold put4
      exact e

set_option maxRecDepth 100000 in
theorem fturn_4 (g : Nat) (X : FX) (b : BW) (f : Nat → Int) (w : World) (hm : b.mask = 4) (hs : edgeB (topB 4 (wordOf f)) = false) (hb : FBAt w g X b f) (hx : ∀ i, i < 5 → 0 ≤ f i ∧ f i < 256) :
    Calls Try.prog 35 #[.pointer (some ⟨g, 1, none⟩), .pointer (some ⟨g, 5, none⟩)] w fun e w' => e = .returned (.tuple #[]) ∧ Fr (fun k => k = g) w w' ∧ FBAt w' g X b (put4 f (b.turned (wordOf f))) := by
  have c0 := blk_cell hb (j := 1) (v := .int .u32 b.place) rfl
  have c2 := blk_cell hb (j := 3) (v := .int .i64 b.mask) rfl
  have c3 := blk_cell hb (j := 4) (v := .bool b.code) rfl
  have d1 := blk_cell hb (j := 6) (v := .int .u8 (f 1)) rfl
  have d2 := blk_cell hb (j := 7) (v := .int .u8 (f 2)) rfl
  have d3 := blk_cell hb (j := 8) (v := .int .u8 (f 3)) rfl
  have d4 := blk_cell hb (j := 9) (v := .int .u8 (f 4)) rfl
  have f1 := blk_frozen hb 6
  have f2 := blk_frozen hb 7
  have f3 := blk_frozen hb 8
  have f4 := blk_frozen hb 9
  rw [hm] at c2
  have HB := hid hb
  have HX := hid hx
  clear hb hx
  have hwd : _ = wordOf f := word4_or (f 1) (f 2) (f 3) (f 4) (HX.out 1 (by decide)) (HX.out 2 (by decide)) (HX.out 3 (by decide)) (HX.out 4 (by decide))
  go_enter Try.func35, Try.ntmps35
  go_wp2
  go_quiet (fail)
  go_wp2_with fail
  refine (fbtarget_any g X b f _ _ (by exact HB.out)).mono ?_
  rintro e w' ⟨rfl, rfl⟩
  clear hwd
  go_upto_block 0 with fail
  go_cut [5] (fun tv wx => ∃ n, wx = w.drewN n ∧ tv = .int .u32 (b.turned (wordOf f)))
  case first =>
    go_wp2_with fail
    go_loopw [5] (fun tv wr => ∃ x : Int, (x = b.target (wordOf f) ∨ x = b.turned (wordOf f)) ∧ tv = .int .u32 x ∧ ∃ n, wr = w.drewN n) (fun tv _ => if edgeB (topB b.mask (intOf tv)) = true then 1 else 0)
    case atStart => exact ⟨_, .inl rfl, rfl, _, rfl⟩
    case round =>
      obtain ⟨x, hx, rfl, n, rfl⟩ := hrel
      have hx0 : 0 ≤ x ∧ x < 4294967296 := by
        rcases hx with h | h
        · rw [h]; exact target_range _ _
        · rw [h]; exact turned_range _ _
      have hxor : bits .xor .u32 x 255 = flipT x 256 := xor_low x 8 (by decide) hx0.1 hx0.2
      have htop : topB 4 x = x % 256 := by show x / (256 / 256) % 256 = _; omega
      have H0 := hid hx0
      have HXx := hid hx
      have HXor := hid hxor
      clear hx0 hx hxor
      go_wp2_with fail
      refine (bit_4 _).mono ?_
      rintro e w' ⟨rfl, rfl⟩
      go_wp2_with fail
      refine (bedge_any _ _).mono ?_
      rintro e w' ⟨rfl, rfl⟩
      rw [← htop]
      cases he : edgeB (topB 4 x) with
      | true =>
        have e1 : x = b.target (wordOf f) := by
          rcases HXx.out with h | h
          · exact h
          · exfalso
            have := turned_top b (wordOf f) (by omega) (by rw [hm]; exact hs)
            rw [hm, ← h, he] at this
            cases this
        have e2 : b.target (flipT x 256) = b.turned (wordOf f) := by
          unfold BW.turned
          rw [if_neg (by omega), hm, ← e1, if_pos he]
          rfl
        have E1 := hid e1
        have E2 := hid e2
        have HE := hid he
        have hxor := HXor.out
        clear e1 e2 he htop
        go_wp2_with fail
        refine (fbtarget_any g X b f _ _ (by exact HB.out)).mono ?_
        rintro e w' ⟨rfl, rfl⟩
        rw [E2.out]
        go_wp2_with fail
        go_roundw
        case rel => exact ⟨_, .inr rfl, rfl, _, rfl⟩
        case measure =>
          have h1 := turned_top b (wordOf f) (by omega) (by rw [hm]; exact hs)
          have h2 := HE.out
          rw [hm] at h1
          simp only [intOf, hm, h1, h2]
          decide
      | false =>
        have e1 : x = b.turned (wordOf f) := by
          rcases HXx.out with h | h
          · unfold BW.turned
            rw [if_neg (by omega), hm, ← h, if_neg (by rw [he]; decide)]
          · exact h
        clear he htop
        go_wp2_with fail
        go_meet
        exact ⟨_, rfl, by first | rfl | rw [e1]⟩
  case rest =>
    obtain ⟨n, hcw, rfl⟩ := hcut
    subst hcw
    have HT := hid (turned_range b (wordOf f))
    generalize hT : b.turned (wordOf f) = T at *
    go_wp2
    go_region
    all_goals go_wp2
    go_end0
    refine ⟨rfl, ?_, ?_⟩
    · repeat (first | exact Fr.refl _ _ | refine Fr.drewN ?_ _ | refine Fr.drew ?_ | refine Fr.setOne ?_ _ _)
    · have e := blk_set (i := 9) (v := .int .u8 (-(T / 16777216 % 2) % 256)) (blk_set (i := 8) (v := .int .u8 (T / 65536 % 256)) (blk_set (i := 7) (v := .int .u8 (T / 256 % 256)) (blk_set (i := 6) (v := .int .u8 (T % 256)) (blk_drewN (n := n + 1) HB.out))))
      rw [and_one_u32 _ (by have := HT.out; omega) (by have := HT.out; omega)]
      rw [hT]
      unfold put4
      exact e
end Go.Proofs.Ytkahjjmjbcjaaaa
