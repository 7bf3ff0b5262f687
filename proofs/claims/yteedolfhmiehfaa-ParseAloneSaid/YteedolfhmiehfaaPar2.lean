/- parse.finder: pair, length, elder: each function's contract. -/
import Derived.Test.YteedolfhmiehfaaBase
import Derived.Test.YteedolfhmiehfaaRows
import Derived.Test.YteedolfhmiehfaaPar
import Derived.WalkSpells
import Derived.WalkLawsBesides
import Derived.BigQuiet
import Derived.Deep.QuietTactic
import Derived.BigRegion
import Derived.Outline
import Derived.Laws.BitsAllLaws
import Derived.Deep.CutBlock
import Derived.Deep.DeepCutAuto
namespace Go.Proofs.Yteedolfhmiehfaa
open Go.RowKit

/-- the pair of bytes at a place. -/
def prN (b : Nat → Int) (i : Nat) : Nat := (b i).toNat * 256 + (b (i + 1)).toNat
/-- where the finder lies: its block, that of last, that of ahead; its bytes: their slice. -/
structure FLay where
  g : Nat
  gl : Nat
  ga : Nat
  av : Option Addr
  L : Nat
  c : Nat
  tb : Nat
  dict : Nat
  b : Nat → Int
def FLay.cells (F : FLay) (r : Nat → Nat) (known : Nat) : Array Value :=
  #[.slice F.av F.L F.c, .int .i64 F.tb, .int .i64 F.dict, .int .u32 (r 0), .int .u32 (r 1), .int .u32 (r 2), .int .u32 (r 3), .slice (some ⟨F.gl, 0, none⟩) 65536 65536, .slice (some ⟨F.ga, 0, none⟩) F.L F.L, .int .i64 known]
structure FLay.Ok (F : FLay) : Prop where
  lg : F.gl ≠ F.g
  ag : F.ga ≠ F.g
  la : F.gl ≠ F.ga
  to_ : F.tb ≤ F.L
  len : F.L ≤ 1048576
  dict : F.dict ≤ 9223372036854775807
  byte : ∀ i, i < F.L → 0 ≤ F.b i ∧ F.b i < 256
/-- its block, and its bytes. -/
structure FLay.At (F : FLay) (w : World) (r : Nat → Nat) (known : Nat) : Prop where
  blk : w.heap[F.g]? = some (.cells (F.cells r known) 55)
  row : F.L = 0 ∨ ∃ bb off, F.av = some ⟨bb, off, none⟩ ∧ bb ≠ F.g ∧ bb ≠ F.gl ∧ bb ≠ F.ga ∧ ∀ i, i < F.L → w.cell? ⟨bb, off + i, none⟩ = some (.int .u8 (F.b i))
theorem FLay.At.drewN {F : FLay} {w : World} {r : Nat → Nat} {known : Nat} (h : F.At w r known) (n : Nat) : F.At (w.drewN n) r known := ⟨h.blk, h.row⟩
theorem FLay.At.at {F : FLay} {w : World} {r : Nat → Nat} {known : Nat} (h : F.At w r known) {i : Nat} (hi : i < F.L) :
    ∃ bb off, F.av = some ⟨bb, off, none⟩ ∧ bb ≠ F.g ∧ bb ≠ F.gl ∧ bb ≠ F.ga ∧ ∀ i, i < F.L → w.cell? ⟨bb, off + i, none⟩ = some (.int .u8 (F.b i)) := by
  rcases h.row with h | h
  · omega
  · exact h
theorem ofInt_i64 (a : Nat) (ha : a < 18446744073709551616) : (BitVec.ofInt 64 (a : Int)).toNat = a := by
  rw [BitVec.ofInt_natCast, BitVec.toNat_ofNat]; exact Nat.mod_eq_of_lt (by omega)
theorem i64_or_nat (a b : Nat) (ha : a < 9223372036854775808) (hb : b < 9223372036854775808) : bits .or .i64 (a : Int) (b : Int) = ((a ||| b : Nat) : Int) := by
  have hx : a ||| b < 2 ^ 63 := Nat.or_lt_two_pow (by omega) (by omega)
  show IntKind.i64.wrap ((BitVec.ofInt 64 (a : Int) ||| BitVec.ofInt 64 (b : Int)).toNat : Int) = _
  rw [BitVec.toNat_or, ofInt_i64 a (by omega), ofInt_i64 b (by omega), IntKind.wrap_i64]
  omega
theorem or_byte (x y : Nat) (hx : x < 256) (hy : y < 256) : bits .or .i64 ((x : Int) * 256) (y : Int) = ((x * 256 + y : Nat) : Int) := by
  have e1 : ((x : Int) * 256) = ((x * 256 : Nat) : Int) := by simp
  have e2 : (x * 256 ||| y) = x * 256 + y := by
    have := Nat.two_pow_add_eq_or_of_lt (i := 8) (b := y) (by omega) x
    have e3 : 2 ^ 8 * x = x * 256 := by omega
    rw [e3] at this
    exact this.symm
  rw [e1, i64_or_nat _ _ (by omega) (by omega), e2]

set_option maxRecDepth 100000 in
theorem pair_q (F : FLay) (r : Nat → Nat) (known i : Nat) (w : World) (ok : F.Ok) (hi : i + 1 < F.L) (h : F.At w r known) :
    Calls Try.prog 44 #[.pointer (some ⟨F.g, 0, none⟩), .int .i64 i] w fun e w' => e = .returned (.int .i64 (prN F.b i)) ∧ ∃ m, w' = w.drewN m := by
  obtain ⟨bb, off, hav, _, _, _, hc⟩ := h.at (i := i) (by omega)
  have x0 := hc i (by omega)
  have x1 := hc (i + 1) hi
  have b0 := ok.byte i (by omega)
  have b1 := ok.byte (i + 1) hi
  obtain ⟨u, hu⟩ := Int.eq_ofNat_of_zero_le b0.1
  obtain ⟨v, hv⟩ := Int.eq_ofNat_of_zero_le b1.1
  have hu2 : (u : Int) < 256 := by rw [← hu]; exact b0.2
  have hv2 : (v : Int) < 256 := by rw [← hv]; exact b1.2
  have c0 := blk_cell h.blk (j := 0) (v := .slice F.av F.L F.c) rfl
  have hL := ok.len
  rw [hav] at c0
  rw [hu] at x0
  rw [hv] at x1
  have e : prN F.b i = u * 256 + v := by unfold prN; rw [hu, hv]; rfl
  rw [e]
  have hor := or_byte u v (by omega) (by omega)
  have h0 : (0 : Int) ≤ (i : Int) := by omega
  have h1 : (i : Int) < (F.L : Int) := by omega
  have h2 : (0 : Int) ≤ (i : Int) + 1 := by omega
  have h3 : (i : Int) + 1 < (F.L : Int) := by omega
  have hi1 : IntKind.i64.wrap ((i : Int) + 1) = (i : Int) + 1 := by rw [IntKind.wrap_i64]; omega
  have x1' : w.cell? ⟨bb, off + (i + 1), none⟩ = some (.int .u8 v) := x1
  clear h hc b0 b1 hu hv e hav hi hL
  go_enter Try.func44, Try.ntmps44
  go_wp2
  go_quiet (fail)
  go_wp2
  go_ret
  exact ⟨rfl, _, rfl⟩

set_option maxRecDepth 100000 in
theorem length_q (F : FLay) (r : Nat → Nat) (known i d : Nat) (w : World) (ok : F.Ok) (hi : i ≤ F.tb) (hd : d ≤ 4611686018427387904) (h : F.At w r known) :
    Calls Try.prog 33 #[.pointer (some ⟨F.g, 0, none⟩), .int .i64 i, .int .i64 d] w fun e w' => e = .returned (.int .i64 (lenAt F.b F.tb F.dict i d)) ∧ ∃ m, w' = w.drewN m := by
  have c2 := blk_cell h.blk (j := 2) (v := .int .i64 F.dict) rfl
  have hL := ok.len
  have hto := ok.to_
  by_cases h1 : i ≤ d
  · have e : lenAt F.b F.tb F.dict i d = 0 := if_pos (.inl h1)
    rw [e]
    have h1' : (i : Int) ≤ (d : Int) := by omega
    clear h e
    go_enter Try.func33, Try.ntmps33
    go_wp2
    go_ret
    exact ⟨rfl, 0, rfl⟩
  · by_cases h2 : F.dict ≤ d
    · have e : lenAt F.b F.tb F.dict i d = 0 := if_pos (.inr h2)
      rw [e]
      have h1' : ¬ (i : Int) ≤ (d : Int) := by omega
      have h2' : (F.dict : Int) ≤ (d : Int) := by omega
      clear h e
      go_enter Try.func33, Try.ntmps33
      go_wp2
      go_ret
      exact ⟨rfl, 0, rfl⟩
    · obtain ⟨M, hM⟩ : ∃ M, M = min 273 (F.tb - i) := ⟨_, rfl⟩
      have e : lenAt F.b F.tb F.dict i d = runFrom F.b i d M 0 := by unfold lenAt; rw [if_neg (by omega), hM]
      rw [e]
      have h1' : ¬ (i : Int) ≤ (d : Int) := by omega
      have h2' : ¬ (F.dict : Int) ≤ (d : Int) := by omega
      have c1 := blk_cell h.blk (j := 1) (v := .int .i64 F.tb) rfl
      have c0 := blk_cell h.blk (j := 0) (v := .slice F.av F.L F.c) rfl
      have H := hid h
      have HM := hid hM
      have hMto : i + M ≤ F.L := by omega
      have hM2 : M ≤ 273 := by omega
      have hmin : min (273 : Int) ((F.tb : Int) - (i : Int)) = (M : Int) := by omega
      have hw1 : IntKind.i64.wrap ((F.tb : Int) - (i : Int)) = (F.tb : Int) - (i : Int) := by rw [IntKind.wrap_i64]; omega
      clear h e hM
      go_enter Try.func33, Try.ntmps33
      go_upto_region 3 with fail
      go_cut [7, 8] (fun a7 a8 wx => a7 = .int .i64 0 ∧ a8 = .int .i64 M ∧ ∃ m, wx = w.drewN m)
      case first =>
        by_cases hq : (273 : Int) ≤ (F.tb : Int) - (i : Int)
        · have e : (M : Int) = 273 := by have := HM.out; omega
          clear hmin
          go_region
          all_goals go_wp2
          all_goals go_meet
          all_goals exact ⟨rfl, by rw [e], 1, rfl⟩
        · have e : (M : Int) = (F.tb : Int) - (i : Int) := by have := HM.out; omega
          clear hmin
          go_region
          all_goals go_wp2
          all_goals go_meet
          all_goals exact ⟨rfl, by rw [e], 1, rfl⟩
      case rest =>
        obtain ⟨e7, e8, m0, hm0⟩ := hcut
        subst e7 e8 hm0
        clear hmin hw1 c1 c2
        go_wp2_with fail
        go_loopw [7] (fun v wr => ∃ k m : Nat, k ≤ M ∧ v = .int .i64 k ∧ runFrom F.b i d (M - k) k = runFrom F.b i d M 0 ∧ wr = w.drewN m) (fun v _ => M - (intOf v).toNat)
        case atStart => exact ⟨0, m0, Nat.zero_le _, rfl, rfl, rfl⟩
        case round =>
          obtain ⟨k, m, hk, rfl, hrun, rfl⟩ := hrel
          have HR := hid hrun
          clear hrun
          by_cases hlt : k < M
          · obtain ⟨bb, off, hav, _, _, _, hc⟩ := H.out.at (i := i) (by omega)
            have x0 := hc (i + k) (by omega)
            have x1 := hc (i + k - 1 - d) (by omega)
            rw [hav] at c0
            obtain ⟨q, hq⟩ : ∃ q, q = i + k - 1 - d := ⟨_, rfl⟩
            have hq1 : (i : Int) + (k : Int) - 1 - (d : Int) = (q : Int) := by omega
            have hw1 : IntKind.i64.wrap ((i : Int) + (k : Int)) = ((i + k : Nat) : Int) := by rw [IntKind.wrap_i64]; omega
            have hw2 : IntKind.i64.wrap (((i + k : Nat) : Int) - 1) = ((i + k : Nat) : Int) - 1 := by rw [IntKind.wrap_i64]; omega
            have hw3 : IntKind.i64.wrap (((i + k : Nat) : Int) - 1 - (d : Int)) = (q : Int) := by rw [IntKind.wrap_i64]; omega
            have hqL : (q : Int) < (F.L : Int) := by omega
            have hikL : ((i + k : Nat) : Int) < (F.L : Int) := by omega
            rw [← hq] at x1
            have HQ := hid hq
            clear hc hav hq
            by_cases heq : F.b (i + k) = F.b q
            · go_wp2_with fail
              go_quiet (fail)
              go_wp2_with fail
              go_roundw
              case rel =>
                refine ⟨k + 1, m + nq, by omega, by go_num, ?_, rfl⟩
                rw [← HR.out, show M - k = (M - (k + 1)) + 1 by omega, runFrom, if_pos (by rw [heq, HQ.out])]
              case measure => simp [intOf]; omega
            · go_wp2_with fail
              go_quiet (fail)
              go_wp2_with fail
              go_ret
              have := HR.out
              rw [show M - k = (M - (k + 1)) + 1 by omega, runFrom, if_neg (by rw [← HQ.out]; exact heq)] at this
              exact ⟨by rw [← this]; rfl, m + nq, by simp⟩
          · have e : k = M := by omega
            subst e
            go_wp2_with fail
            go_ret
            have := HR.out
            simp only [Nat.sub_self, runFrom] at this
            exact ⟨by rw [← this]; rfl, m, rfl⟩

theorem best_succ (L : Nat → Nat) (n : Nat) : best L (n + 1) = if (best L n).1 < L n then (L n, n) else best L n := rfl
/-- which copies the elder distances have. -/
def FLay.elders (F : FLay) (i : Nat) (r : Nat → Nat) (h : Nat) : Nat := lenAt F.b F.tb F.dict i (r h)
theorem elder_step {k : Nat} (h : k < 4) : k = 0 ∨ k = 1 ∨ k = 2 ∨ k = 3 := by omega
/-- the elder distances as a value. -/
def repsV (r : Nat → Nat) : Value := .agg #[.int .u32 (r 0), .int .u32 (r 1), .int .u32 (r 2), .int .u32 (r 3)]

set_option maxRecDepth 100000 in
theorem elder_q (F : FLay) (r : Nat → Nat) (known i : Nat) (w : World) (ok : F.Ok) (hi : i ≤ F.tb) (hr : ∀ h, h < 4 → r h < 4294967296) (h : F.At w r known) :
    Calls Try.prog 31 #[.pointer (some ⟨F.g, 0, none⟩), .int .i64 i] w fun e w' => e = .returned (.tuple #[.int .i64 (best (F.elders i r) 4).1, .int .i64 (best (F.elders i r) 4).2]) ∧ ∃ m, w' = w.drewN m := by
  have c3 := blk_cell h.blk (j := 3) (v := .int .u32 (r 0)) rfl
  have c4 := blk_cell h.blk (j := 4) (v := .int .u32 (r 1)) rfl
  have c5 := blk_cell h.blk (j := 5) (v := .int .u32 (r 2)) rfl
  have c6 := blk_cell h.blk (j := 6) (v := .int .u32 (r 3)) rfl
  have H := hid h
  have hL := ok.len
  have hto := ok.to_
  obtain ⟨L, hLdef⟩ : ∃ L, L = F.elders i r := ⟨_, rfl⟩
  rw [← hLdef]
  have HC : ∀ k, k < 4 → ∀ m, Calls Try.prog 33 #[.pointer (some ⟨F.g, 0, none⟩), .int .i64 i, .int .i64 (r k)] (w.drewN m) fun e w' => e = .returned (.int .i64 (L k)) ∧ ∃ m', w' = w.drewN m' := by
    intro k hk m
    refine (length_q F r known i (r k) (w.drewN m) ok hi (by have := hr k hk; omega) (H.out.drewN m)).mono ?_
    rintro e w' ⟨e1, m', e2⟩
    refine ⟨by rw [hLdef]; exact e1, m + m', by rw [e2]; simp⟩
  have HC := hid HC
  have r0 := hr 0 (by decide)
  have r1 := hr 1 (by decide)
  have r2 := hr 2 (by decide)
  have r3 := hr 3 (by decide)
  have r0' : (r 0 : Int) < 4294967296 := by omega
  have r1' : (r 1 : Int) < 4294967296 := by omega
  have r2' : (r 2 : Int) < 4294967296 := by omega
  have r3' : (r 3 : Int) < 4294967296 := by omega
  have i0 : ∀ wx : World, (Instr.index 24 (.agg #[.int .u32 (r 0), .int .u32 (r 1), .int .u32 (r 2), .int .u32 (r 3)]) (.int .i64 0)).run Try.prog wx = .ok (.int .u32 (r 0)) wx := fun wx => by show _ = _; kernel_rfl
  have i1 : ∀ wx : World, (Instr.index 24 (.agg #[.int .u32 (r 0), .int .u32 (r 1), .int .u32 (r 2), .int .u32 (r 3)]) (.int .i64 1)).run Try.prog wx = .ok (.int .u32 (r 1)) wx := fun wx => by show _ = _; kernel_rfl
  have i2 : ∀ wx : World, (Instr.index 24 (.agg #[.int .u32 (r 0), .int .u32 (r 1), .int .u32 (r 2), .int .u32 (r 3)]) (.int .i64 2)).run Try.prog wx = .ok (.int .u32 (r 2)) wx := fun wx => by show _ = _; kernel_rfl
  have i3 : ∀ wx : World, (Instr.index 24 (.agg #[.int .u32 (r 0), .int .u32 (r 1), .int .u32 (r 2), .int .u32 (r 3)]) (.int .i64 3)).run Try.prog wx = .ok (.int .u32 (r 3)) wx := fun wx => by show _ = _; kernel_rfl
  clear hLdef h
  go_enter Try.func31, Try.ntmps31
  go_wp2_with fail
  go_loopw [6, 7, 15] (fun vb vw vk wr => ∃ k m : Nat, k ≤ 4 ∧ vk = .int .i64 k ∧ vb = .int .i64 (best L k).1 ∧ vw = .int .i64 (best L k).2 ∧ wr = w.drewN m) (fun _ _ vk _ => 4 - (intOf vk).toNat)
  case atStart => exact ⟨0, 0, by omega, rfl, rfl, rfl, rfl⟩
  case round =>
    obtain ⟨k, m, hk, rfl, rfl, rfl, rfl⟩ := hrel
    by_cases hlt : k < 4
    · have hs := best_succ L k
      have HS := hid hs
      clear hs
      have hb1 : (best L k).1 < L k ∨ ¬ (best L k).1 < L k := by omega
      rcases elder_step hlt with rfl | rfl | rfl | rfl
      · go_wp2_with fail
        refine (HC.out 0 (by decide) m).mono ?_
        rintro e w' ⟨rfl, m', rfl⟩
        rcases hb1 with hb | hb
        · have hb' : ((best L 0).1 : Int) < (L 0 : Int) := by omega
          go_wp2_with fail
          go_roundw
          case rel => exact ⟨1, m', by omega, by go_num, by rw [HS.out, if_pos hb], by rw [HS.out, if_pos hb]; rfl, rfl⟩
          case measure => simp [intOf]
        · have hb' : ¬ ((best L 0).1 : Int) < (L 0 : Int) := by omega
          go_wp2_with fail
          go_roundw
          case rel => exact ⟨1, m', by omega, by go_num, by rw [HS.out, if_neg hb], by rw [HS.out, if_neg hb], rfl⟩
          case measure => simp [intOf]
      · go_wp2_with fail
        refine (HC.out 1 (by decide) m).mono ?_
        rintro e w' ⟨rfl, m', rfl⟩
        rcases hb1 with hb | hb
        · have hb' : ((best L 1).1 : Int) < (L 1 : Int) := by omega
          go_wp2_with fail
          go_roundw
          case rel => exact ⟨2, m', by omega, by go_num, by rw [HS.out, if_pos hb], by rw [HS.out, if_pos hb]; rfl, rfl⟩
          case measure => simp [intOf]
        · have hb' : ¬ ((best L 1).1 : Int) < (L 1 : Int) := by omega
          go_wp2_with fail
          go_roundw
          case rel => exact ⟨2, m', by omega, by go_num, by rw [HS.out, if_neg hb], by rw [HS.out, if_neg hb], rfl⟩
          case measure => simp [intOf]
      · go_wp2_with fail
        refine (HC.out 2 (by decide) m).mono ?_
        rintro e w' ⟨rfl, m', rfl⟩
        rcases hb1 with hb | hb
        · have hb' : ((best L 2).1 : Int) < (L 2 : Int) := by omega
          go_wp2_with fail
          go_roundw
          case rel => exact ⟨3, m', by omega, by go_num, by rw [HS.out, if_pos hb], by rw [HS.out, if_pos hb]; rfl, rfl⟩
          case measure => simp [intOf]
        · have hb' : ¬ ((best L 2).1 : Int) < (L 2 : Int) := by omega
          go_wp2_with fail
          go_roundw
          case rel => exact ⟨3, m', by omega, by go_num, by rw [HS.out, if_neg hb], by rw [HS.out, if_neg hb], rfl⟩
          case measure => simp [intOf]
      · go_wp2_with fail
        refine (HC.out 3 (by decide) m).mono ?_
        rintro e w' ⟨rfl, m', rfl⟩
        rcases hb1 with hb | hb
        · have hb' : ((best L 3).1 : Int) < (L 3 : Int) := by omega
          go_wp2_with fail
          go_roundw
          case rel => exact ⟨4, m', by omega, by go_num, by rw [HS.out, if_pos hb], by rw [HS.out, if_pos hb]; rfl, rfl⟩
          case measure => simp [intOf]
        · have hb' : ¬ ((best L 3).1 : Int) < (L 3 : Int) := by omega
          go_wp2_with fail
          go_roundw
          case rel => exact ⟨4, m', by omega, by go_num, by rw [HS.out, if_neg hb], by rw [HS.out, if_neg hb], rfl⟩
          case measure => simp [intOf]
    · have e : k = 4 := by omega
      subst e
      go_wp2_with fail
      go_ret2
      exact ⟨rfl, m, rfl⟩
end Go.Proofs.Yteedolfhmiehfaa
