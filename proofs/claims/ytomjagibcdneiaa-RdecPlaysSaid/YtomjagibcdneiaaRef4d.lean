/- The document's decoder (04): Tree, from the least bit on. -/
import Derived.Test.YtomjagibcdneiaaRef4k
namespace Go.Proofs.Ytomjagibcdneiaa
open Go.RowKit

set_option maxRecDepth 100000 in
set_option maxHeartbeats 8000000 in
theorem rrev_any (a : Option Addr) (n cap : Nat) (f : Nat → Int) (hf : ∀ i, i < n → 0 ≤ f i ∧ f i < 256) (lo g gq P B cq : Nat) (x : RD Nat) (q : Nat → Int) (cs : Array Value) (w : World) (hn : n ≤ 1048576) (h : RefIs a n cap f lo g w x)
    (hb : w.heap[gq]? = some (.cells cs 22)) (hc : ∀ j, j < 2 ^ B → cs[P + j]? = some (.int .u16 (q j))) (hp : Pr q (2 ^ B)) (hB : B ≤ 8) (hP : P < 340) (hgq : lo ≤ gq) (hne : gq ≠ g) :
    Calls Try.prog 50 #[.pointer (some ⟨g, 0, none⟩), .slice (some ⟨gq, 0, none⟩) 600 cq, .int .i64 P, .int .i64 B, .bool true] w (RTrPost a n cap f lo g gq P (2 ^ B) cs w (x.rev (feedNx f n) B q)) := by
  have S0 := hid (show RTAt a n cap f lo g gq P (2 ^ B) cs w w x q from ⟨Fr.refl _ _, h, ⟨cs, hb, Win.self hc⟩, hp⟩)
  have Hf := hid hf
  have hne' : g ≠ gq := fun e => hne e.symm
  obtain ⟨L, hL⟩ : ∃ L, L = 2 ^ B := ⟨_, rfl⟩
  rw [← hL] at S0
  have HL := hid hL
  have hL8 : L ≤ 256 := by rw [hL]; exact Nat.pow_le_pow_right (by decide) hB
  clear h hb hc hp hf hL
  go_enter Try.func50, Try.ntmps50
  go_upto_block 0 with fail
  go_cut [12] (fun ov wx => ∃ (out : Nat) (x1 : RD Nat) (q1 : Nat → Int), ov = .int .i64 out ∧ RTAt a n cap f lo g gq P L cs w wx x1 q1 ∧ RD.revGo (feedNx f n) B 0 x q 1 0 = (out, q1, x1))
  case first =>
    go_wp2_with fail
    go_loopw [11, 12, 13, 14] (fun mv ov wv iv wr => ∃ (k m out : Nat) (x1 : RD Nat) (q1 : Nat → Int), k ≤ B ∧ iv = .int .i64 k ∧ mv = .int .i64 m ∧ ov = .int .i64 out ∧ wv = .int .i64 ((2 ^ k : Nat) : Int) ∧ 2 ^ k ≤ m ∧ m < 2 ^ (k + 1) ∧ out < 2 ^ k ∧
        RD.revGo (feedNx f n) (B - k) k x1 q1 m out = RD.revGo (feedNx f n) B 0 x q 1 0 ∧ RTAt a n cap f lo g gq P L cs w wr x1 q1)
      (fun _ _ _ iv _ => B - (intOf iv).toNat)
    case atStart => exact ⟨0, 1, 0, x, q, Nat.zero_le _, rfl, rfl, rfl, rfl, by decide, by decide, by decide, rfl, S0.out⟩
    case round =>
      obtain ⟨k, m, out, x1, q1, hk, rfl, rfl, rfl, rfl, hm0, hm1, ho, hgo, hst⟩ := hrel
      have Hgo := hid hgo
      have ST := hid hst
      clear hgo hst
      have Hm0 := hid hm0
      have Hm1 := hid hm1
      by_cases hlt : k < B
      · have hpow : 2 ^ (k + 1) ≤ 2 ^ B := Nat.pow_le_pow_right (by decide) hlt
        have hmL : m < L := by rw [HL.out]; omega
        have ho8 : out < 256 := by
          have : 2 ^ k ≤ 2 ^ 8 := Nat.pow_le_pow_right (by decide) (by omega)
          omega
        have hbit := ST.out.pr m hmL
        have Ho := hid ho
        clear hm0 hm1 ho hpow
        obtain ⟨y, hy⟩ : ∃ y, y = x1.bit (feedNx f n) (q1 m) := ⟨_, rfl⟩
        have hy1 : y.1 ≤ 1 := by rw [hy]; exact bit_le _ _ _
        have HY := hid hy
        clear hy
        have hPm : P + m < 600 := by omega
        obtain ⟨pm, hpm⟩ : ∃ pm, pm = P + m := ⟨_, rfl⟩
        have hPw : IntKind.i64.wrap ((P : Int) + (m : Int)) = (pm : Int) := by rw [IntKind.wrap_i64]; omega
        have hpm6 : pm < 600 := by omega
        obtain ⟨cs1, h5, h6⟩ := ST.out.blk
        have cP := blk_cell h5 (h6.cell m hmL)
        have H5 := hid h5
        have H6 := hid (h6.cell m hmL)
        rw [← hpm] at cP H6
        have HPM := hid hpm
        clear hpm hPm h5 h6
        obtain ⟨wt, hwt⟩ : ∃ wt, wt = 2 ^ k := ⟨_, rfl⟩
        have hwt8 : wt ≤ 256 := by rw [hwt]; exact Nat.pow_le_pow_right (by decide) (by omega : k ≤ 8)
        rw [← hwt]
        have HWT := hid hwt
        clear hwt
        go_wp2_with fail
        refine (rbit_any a n cap f Hf.out lo g x1 (q1 m) _ hn ST.out.ref (by omega) (by omega)).mono ?_
        rintro e w1 ⟨rfl, hf1, h1⟩
        have HS := hid (ST.out.step hgq hne hmL hf1 h1)
        have k5 := Fr.cell hf1 (p := ⟨gq, pm, none⟩) (by exact cP) hne
        have g5 := Fr.frozen hf1 (p := ⟨gq, pm, none⟩) (by exact blk_lt H5.out) (by exact blk_frozen H5.out pm) hne
        rw [← HPM.out, ← HY.out] at HS
        rw [← HY.out]
        obtain ⟨b, hb⟩ : ∃ b, b = y.1 := ⟨_, rfl⟩
        rw [← hb] at hy1 ⊢
        have HBB := hid hb
        clear hf1 h1 cP hb
        have hbm : (b : Int) * (wt : Int) = ((b * wt : Nat) : Int) := by simp
        have hbl : b * wt ≤ wt := by
          rcases Nat.le_one_iff_eq_zero_or_eq_one.1 hy1 with rfl | rfl <;> simp
        obtain ⟨bw, hbw⟩ : ∃ bw, bw = b * wt := ⟨_, rfl⟩
        rw [← hbw] at hbm hbl
        have HBW := hid hbw
        have hbw8 : bw ≤ 256 := by omega
        have hbmw : IntKind.i64.wrap (bw : Int) = (bw : Int) := by rw [IntKind.wrap_i64]; omega
        have how : IntKind.i64.wrap ((out : Int) + (bw : Int)) = ((out + bw : Nat) : Int) := by rw [IntKind.wrap_i64]; omega
        clear hbw
        go_wp2_with fail
        go_roundw
        case rel =>
          refine ⟨k + 1, 2 * m + b, out + bw, y.2.2, upd q1 m y.2.1, by omega, by go_num, by go_num, by go_num, by rw [Nat.pow_succ, ← HWT.out]; go_num, ?_, ?_, ?_, ?_, HS.out⟩
          · have := Hm0.out; rw [Nat.pow_succ]; omega
          · have := Hm1.out; rw [Nat.pow_succ]; omega
          · have := Ho.out; have := HWT.out; rw [Nat.pow_succ]; omega
          · have := Hgo.out
            rw [show B - k = (B - (k + 1)) + 1 by omega] at this
            rw [HBW.out, HWT.out, HBB.out, HY.out]; exact this
        case measure => simp [intOf]; omega
      · have e : k = B := by omega
        subst e
        have hgo := Hgo.out
        rw [Nat.sub_self] at hgo
        have HG := hid hgo
        have Ho := hid ho
        go_wp2_with fail
        go_meet
        exact ⟨out, x1, q1, rfl, ST.out, HG.out.symm⟩
  case rest =>
    obtain ⟨out, x1, q1, rfl, hst, hgo⟩ := hcut
    have k4 := blk_cell hst.ref.at_ (j := 4) (v := .bool x1.bad) rfl
    have ST := hid hst
    obtain ⟨cs1, h5, h6⟩ := hst.blk
    have H5 := hid h5
    have H6 := hid h6
    have e : x.rev (feedNx f n) B q = (if x1.bad = true then 0 else out, q1, x1) := by
      unfold RD.rev
      rw [hgo]
    have HE := hid e
    clear hst hgo h5 h6 e
    cases hbad : x1.bad with
    | true =>
      rw [hbad] at k4 HE
      go_wp2_with fail
      go_ret
      rw [HE.out, ← HL.out]
      exact ⟨rfl, ST.out.fr, ST.out.ref, cs1, H5.out, H6.out⟩
    | false =>
      rw [hbad] at k4 HE
      go_wp2_with fail
      go_ret
      rw [HE.out, ← HL.out]
      exact ⟨rfl, ST.out.fr, ST.out.ref, cs1, H5.out, H6.out⟩
end Go.Proofs.Ytomjagibcdneiaa
