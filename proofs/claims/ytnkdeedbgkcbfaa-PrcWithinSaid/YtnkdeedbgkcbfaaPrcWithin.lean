/- The walk through PrcWithin. -/
import Derived.Test.YtnkdeedbgkcbfaaPrcGood
namespace Go.Proofs.Ytnkdeedbgkcbfaa
open Go.RowKit

set_option maxRecDepth 100000 in
set_option maxHeartbeats 4000000 in
theorem prcWithin_walk (a : Option Addr) (n cap : Nat) (f : Nat → Int) (al : Option Addr) (nl cl : Nat) (l : Nat → Share) (w : World)
    (hn : n ≤ 65536) (hnc : n ≤ cap) (hnil : a = none → cap = 0) (hr : RowIn w.heap.size .u8 w a n f) (hf : ∀ i, i < n → 0 ≤ f i ∧ f i < 256)
    (hnl : nl ≤ 9223372036854775807) (hl : SharesIn w.heap.size w al nl l) (hwf : ∀ i, i < nl → (l i).wf) :
    Calls Try.prog 5 #[.slice a n cap, .slice al nl cl] w fun e w' => e = .returned (.bool true) ∧ Fr Non w w' := by
  have hn1 : ¬ (65536 : Int) < (n : Int) := by omega
  have H := hid hr
  have Hf := hid hf
  have Hnil := hid hnil
  have HL := hid hl
  have HW := hid hwf
  clear hr hf hnil hl hwf
  go_enter Try.func5, Try.ntmps5
  go_wp2_with fail
  refine (awake06_any _).mono ?_
  rintro e w1 ⟨rfl, hf1⟩
  have s1 := hf1.size
  have F1 := hid hf1
  have H1 := hid (H.out.fr hf1 (fun _ _ => id) |>.mono s1)
  clear hf1
  go_wp2_with fail
  refine (newFeed_any a n cap f _ (by omega) hnc Hnil.out H1.out).mono ?_
  intro e w2 h2
  obtain ⟨fg, a', c', rfl, hf2, hi2, hl2⟩ := feedNew_any _ _ _ Hf.out (by omega) _ _ h2
  have s2 := hf2.size
  have F2 := hid hf2
  have HI2 := hid hi2
  have HL2 := hid hl2
  clear h2 hf2 hi2 hl2
  go_wp2_with fail
  refine (newF_any w1 w2 n f Hf.out fg a' c' F2.out HI2.out HL2.out).mono ?_
  rintro e w3 ⟨D, rfl, hf3, hd3⟩
  have S3 := hid (show StP D w w3 (RD.pnew (feedNx f n) 0) from ⟨F1.out.trans hf3, hd3, pnew_good _ _⟩)
  clear hf3 hd3 HI2 HL2
  go_wp2_with fail

  go_loopw [6] (fun i wr => ∃ k : Nat, k ≤ nl ∧ k ≤ 2000 ∧ i = .int .i64 k ∧ w3.heap.size ≤ wr.heap.size ∧ ∃ d, StP D w wr d) (fun i _ => nl - (intOf i).toNat)
  case atStart => exact ⟨0, Nat.zero_le _, Nat.zero_le _, rfl, Nat.le_refl _, _, S3.out⟩
  case round =>
    obtain ⟨k, hk, hk5, rfl, hsz, d, hst⟩ := hrel
    have Hst := hid hst
    clear hst
    by_cases hlt : k < nl
    · by_cases hlt5 : k < 2000
      · obtain ⟨b, off, rfl, hb, c0, c1, c2, c3⟩ := (HL.out.fr Hst.out.fr (fun _ _ => id)).at hlt
        obtain ⟨hw0, hw1, hw2, hw3⟩ := HW.out k hlt
        go_wp2_with fail
        refine (right_any _ _ _ _ _ hw1 hw2 hw3).mono ?_
        rintro e w5 ⟨rfl, hf5⟩
        have S5 := hid (Hst.out.any (((Fr.refl Non wr).alloc _).trans hf5))
        have hb5 := hf5.blk (blk_new wr (.cells #[.int .i64 (l k).kind, .int .u32 (l k).start, .int .u32 (l k).size, .int .u32 (l k).total] 32)) id
        have x0 := blk_cell hb5 (j := 0) (v := .int .i64 (l k).kind) rfl
        have x1 := blk_cell hb5 (j := 1) (v := .int .u32 (l k).start) rfl
        have x2 := blk_cell hb5 (j := 2) (v := .int .u32 (l k).size) rfl
        have x3 := blk_cell hb5 (j := 3) (v := .int .u32 (l k).total) rfl
        have HB5 := hid hb5
        have s5 : wr.heap.size < w5.heap.size := blk_lt hb5
        clear hf5 hb5 c0 c1 c2 c3
        have eR : Share.rightB ⟨(l k).kind, (l k).start, (l k).size, (l k).total⟩ = (l k).rightB := rfl
        rw [eR]
        clear eR
        cases hR : (l k).rightB with
        | true =>
          have hR2 : (l k).Right := of_decide_eq_true hR
          clear hR
          generalize l k = sh at *
          obtain ⟨kind, start, size, total⟩ := sh
          dsimp only at hw0 hw1 hw2 hw3 x0 x1 x2 x3 HB5
          rcases hR2 with ⟨h1, h2, h3, h4, h5, h6⟩ | ⟨h1, h2, h3, h4, h5, h6⟩
          · simp only at h1 h2 h3 h4 h5 h6
            subst h1
            go_wp2_with fail
            obtain ⟨P, p1, p2, p3, p4, p5⟩ := place_spec d total h2 h3 S5.out.dec.ok S5.out.good
            refine (dplace_any D.s D.g d total _ S5.out.dec h2 h3 (fun hb => (S5.out.good hb).1)).mono ?_
            rintro e w6 ⟨rfl, hf6, hd6⟩
            rw [p1]
            have hnf : ¬ decFoot D.s D.g wr.heap.size := fun hk => by have := D.low _ hk; omega
            have y3 := hf6.cell x3 hnf
            have s6 := hf6.size
            have HF6 := hid hf6
            have HD6 := hid hd6
            have HP4 : Hid ((d.place total).2.bad = false → (P : Int) * (d.place total).2.rng ≤ (d.place total).2.code ∧ (d.place total).2.code < ((P : Int) + ((1 : Nat) : Int)) * (d.place total).2.rng ∧ 1 ≤ (d.place total).2.rng * ((1 : Nat) : Int) ∧ (d.place total).2.rng * ((1 : Nat) : Int) < 4294967296 ∧ 1 ≤ (d.place total).2.rng) := fun hb => by
              obtain ⟨q1, q2, q3, q4⟩ := p4 hb
              have o2 := p5.2.1
              exact ⟨q1, q2, by omega, by omega, q3⟩
            have HP5 := hid p5
            have HP3 := hid p3
            have hge : ¬ (total : Int) ≤ (P : Int) := by omega
            clear hf6 hd6 p1 p3 p4 p5 x0 x1 x2 x3
            have HF66 := hid (S5.out.fr.then HF6.out (fun i hi hk => by have := D.low i hk; omega))
            cases hb : (d.place total).2.bad with
            | true =>
              have hP0 : P = 0 := HP3.out hb
              subst hP0
              have HB := hid hb
              clear hb
              go_wp2_with fail
              refine (dbadq_any D.s D.g _ _ HD6.out).mono ?_
              rintro e w7 ⟨rfl, rfl⟩
              rw [HB.out]
              go_wp2_with fail
              refine (dtake_any D.s D.g (d.place total).2 0 1 _ HD6.out (by omega) (by decide) (fun hb => by have := HP4.out hb; exact ⟨this.1, this.2.2.1, this.2.2.2.1⟩)).mono ?_
              rintro e w8 ⟨rfl, hf8, hd8⟩
              have s8 := hf8.size
              have S8 := hid (show StP D w w8 ((d.place total).2.take D.s.nx (0 : Nat) (1 : Nat)) from ⟨HF66.out.then hf8 (fun i hi hk => by have := D.low i hk; omega), hd8, take_good D.s _ 0 1 HP5.out (fun hb => by have := HP4.out hb; exact ⟨this.1, this.2.1, this.2.2.2.2, this.2.2.2.1⟩)⟩)
              clear hf8 hd8
              go_wp2_with fail
              go_roundw
              case rel => exact ⟨k + 1, by omega, by omega, by go_num, by omega, _, S8.out⟩
              case measure => simp [intOf]; omega
            | false =>
              have HB := hid hb
              clear hb
              go_wp2_with fail
              refine (dbadq_any D.s D.g _ _ HD6.out).mono ?_
              rintro e w7 ⟨rfl, rfl⟩
              rw [HB.out]
              go_wp2_with fail
              refine (dtake_any D.s D.g (d.place total).2 P 1 _ HD6.out (by omega) (by decide) (fun hb => by have := HP4.out hb; exact ⟨this.1, this.2.2.1, this.2.2.2.1⟩)).mono ?_
              rintro e w8 ⟨rfl, hf8, hd8⟩
              have s8 := hf8.size
              have S8 := hid (show StP D w w8 ((d.place total).2.take D.s.nx (P : Nat) (1 : Nat)) from ⟨HF66.out.then hf8 (fun i hi hk => by have := D.low i hk; omega), hd8, take_good D.s _ P 1 HP5.out (fun hb => by have := HP4.out hb; exact ⟨this.1, this.2.1, this.2.2.2.2, this.2.2.2.1⟩)⟩)
              clear hf8 hd8
              go_wp2_with fail
              go_roundw
              case rel => exact ⟨k + 1, by omega, by omega, by go_num, by omega, _, S8.out⟩
              case measure => simp [intOf]; omega
          · simp only at h1 h2 h3 h4 h5 h6
            subst h1
            go_wp2_with fail
            obtain ⟨g1, g2⟩ := pbit_good D.s d size total S5.out.dec.ok S5.out.good h3 h4 h5 h6
            have HG1 := hid g1
            clear g1
            refine (dpbit_any D.s D.g d size total _ S5.out.dec h4 h5 h6 (fun hb => (S5.out.good hb).1)).mono ?_
            rintro e w6 ⟨rfl, hf6, hd6⟩
            have s6 := hf6.size
            have S6 := hid (S5.out.then F1.out.size hf6 hd6 HG1.out)
            clear hf6 hd6
            obtain ⟨x, hx⟩ : ∃ x, x = (d.pbit D.s.nx size total).1 := ⟨_, rfl⟩
            rw [← hx] at g2 ⊢
            clear hx
            rcases Nat.le_one_iff_eq_zero_or_eq_one.1 g2 with rfl | rfl
            · go_wp2_with fail
              go_roundw
              case rel => exact ⟨k + 1, by omega, by omega, by go_num, by omega, _, S6.out⟩
              case measure => simp [intOf]; omega
            · go_wp2_with fail
              go_roundw
              case rel => exact ⟨k + 1, by omega, by omega, by go_num, by omega, _, S6.out⟩
              case measure => simp [intOf]; omega
        | false =>
          clear hR
          go_wp2_with fail
          go_roundw
          case rel => exact ⟨k + 1, by omega, by omega, by go_num, by omega, _, S5.out⟩
          case measure => simp [intOf]; omega
      · have e : k = 2000 := by omega
        subst e
        go_wp2_with fail
        go_ret
        exact ⟨rfl, Hst.out.fr⟩
    · have e : k = nl := by omega
      subst e
      go_wp2_with fail
      go_ret
      exact ⟨rfl, Hst.out.fr⟩

set_option maxRecDepth 100000 in
theorem prcWithin_long (a : Option Addr) (n cap : Nat) (x : Value) (w : World) (hn : 65536 < n) :
    Calls Try.prog 5 #[.slice a n cap, x] w fun e w' => e = .returned (.bool true) ∧ Fr Non w w' := by
  have h : (65536 : Int) < (n : Int) := by omega
  clear hn
  go_enter Try.func5, Try.ntmps5
  go_wp2_with (go_at_call 8; refine (awake06_any _).mono ?_; rintro e w1 ⟨rfl, hf1⟩)
  go_ret
  exact ⟨rfl, hf1⟩
end Go.Proofs.Ytnkdeedbgkcbfaa
