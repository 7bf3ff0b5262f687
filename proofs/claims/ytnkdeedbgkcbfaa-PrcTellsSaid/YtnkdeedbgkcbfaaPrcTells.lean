/- The walk through PrcTells. -/
import Derived.Test.YtnkdeedbgkcbfaaRef6c
import Derived.Test.YtnkdeedbgkcbfaaRef6d
import Derived.Test.YtnkdeedbgkcbfaaRef6e
import Derived.Deep.RegionHeld3
import Derived.BigQuiet
namespace Go.Proofs.Ytnkdeedbgkcbfaa
open Go.RowKit

theorem feedLeft_p (g : Nat) (a : Option Addr) (n c at_ : Nat) (w : World) (hn : n ≤ 1048576) (hat : at_ ≤ n) (h : FeedAt w g a n c at_) :
    Calls Try.prog 27 #[.pointer (some ⟨g, 0, none⟩)] w fun e w' => e = .returned (.int .i64 ((n : Int) - (at_ : Int))) ∧ ∃ m, w' = w.drewN m := by
  have c0 := blk_cell h (j := 0) (v := .slice a n c) rfl
  have c1 := blk_cell h (j := 1) (v := .int .i64 at_) rfl
  have e : ((n : Int) - (at_ : Int)) = ((n - at_ : Nat) : Int) := by omega
  go_enter Try.func27, Try.ntmps27
  go_wp2_with fail
  go_quiet (fail)
  go_wp2_with fail
  go_ret
  exact ⟨by rw [e]; rfl, _, rfl⟩
theorem dbad_same {S : Type} (s : Sour S) (g : Nat) (d : RD S) (w : World) (b : Bool) (h : DecIs s g w d) (hb : d.bad = b) : Calls Try.prog 21 #[.pointer (some ⟨g, 0, none⟩)] w fun e w' => e = .returned (.bool b) ∧ w' = w := by
  subst hb
  exact (dbadq_any s g d w h).mono fun _ _ h => ⟨h.1, h.2.symm⟩
theorem ddone_same {S : Type} (s : Sour S) (g : Nat) (d : RD S) (w : World) (b : Bool) (h : DecIs s g w d) (hb : d.done = b) : Calls Try.prog 28 #[.pointer (some ⟨g, 0, none⟩)] w fun e w' => e = .returned (.bool b) ∧ w' = w := by
  subst hb
  exact (ddone_any s g d w h).mono fun _ _ h => ⟨h.1, h.2.symm⟩
theorem newF_p (w0 w : World) (n : Nat) (f : Nat → Int) (hf : ∀ i, i < n → 0 ≤ f i ∧ f i < 256) (g : Nat) (a' : Option Addr) (c' : Nat) (hw : Fr Non w0 w) (hi : (feed g a' n c' f hf).I w 0)
    (hl : ∀ k, (feed g a' n c' f hf).foot k → w0.heap.size ≤ k ∧ k < w.heap.size) :
    Calls Try.prog 17 #[.iface 45 (.pointer (some ⟨g, 0, none⟩))] w fun e w' => ∃ D : Deco w0.heap.size w'.heap.size f n, D.fg = g ∧ e = .returned (.pointer (some ⟨D.g, 0, none⟩)) ∧ Fr Non w0 w' ∧ D.Is w' (RD.pnew (feedNx f n) 0) := by
  refine (dnew_any (feed g a' n c' f hf) 0 w hi (fun k hk => (hl k hk).2)).mono ?_
  rintro e w' ⟨gd, h1, h2, h3, h4, h5⟩
  have hs := hw.size
  have hs2 := h4.size
  refine ⟨⟨g, a', c', gd, hf, fun k hk => ?_⟩, rfl, h3, ?_, h5⟩
  · rcases hk with rfl | hk
    · exact ⟨by omega, h2⟩
    · have := hl k hk; exact ⟨this.1, by omega⟩
  · exact hw.then h4 (fun i hi hk => by have := hl i hk; omega)
/-- the decoder and the document's. -/
structure StT {lo hi : Nat} {f : Nat → Int} {n : Nat} (D : Deco lo hi f n) (a : Option Addr) (cap g : Nat) (w wr : World) (d x : RD Nat) : Prop where
  fr : Fr Non w wr
  dec : D.Is wr d
  ref : RefIs a n cap f w.heap.size g wr x
theorem StT.any {lo hi : Nat} {f : Nat → Int} {n : Nat} {D : Deco lo hi f n} {a : Option Addr} {cap g : Nat} {w wr w' : World} {d x : RD Nat} (h : StT D a cap g w wr d x) (hf : Fr Non wr w') : StT D a cap g w w' d x :=
  ⟨h.fr.trans hf, h.dec.any hf, h.ref.keep hf id (fun _ _ => id)⟩
theorem StT.one {lo hi : Nat} {f : Nat → Int} {n : Nat} {D : Deco lo hi f n} {a : Option Addr} {cap g : Nat} {w wr w' : World} {d x d' : RD Nat} (h : StT D a cap g w wr d x) (hlo : w.heap.size ≤ lo) (hg : hi ≤ g) (hf : Fr (decFoot D.s D.g) wr w') (hd : D.Is w' d') : StT D a cap g w w' d' x :=
  ⟨h.fr.then hf (fun i hi hk => by have := D.low i hk; omega), hd, h.ref.keep hf (fun e => by have := D.low g e; omega) (fun k hk e => by have := D.low k e; omega)⟩
theorem StT.two {lo hi : Nat} {f : Nat → Int} {n : Nat} {D : Deco lo hi f n} {a : Option Addr} {cap g : Nat} {w wr w' : World} {d x x' : RD Nat} (h : StT D a cap g w wr d x) (hlo : w.heap.size ≤ lo) (hlh : lo ≤ hi) (hg : hi ≤ g) (hf : Fr (fun k => k = g) wr w') (hx : RefIs a n cap f w.heap.size g w' x') : StT D a cap g w w' d x' :=
  ⟨h.fr.then hf (fun i hi hk => by omega), Deco.keep h.dec hf (fun k _ _ e => by omega), hx⟩

theorem take_fits {d1 : RD Nat} {P S Z total : Nat} (h : d1.bad = false → (P : Int) * d1.rng ≤ d1.code ∧ d1.code < ((P : Int) + 1) * d1.rng ∧ 1 ≤ d1.rng ∧ d1.rng * total < 4294967296) (hS : S ≤ P) (h2 : P + 1 ≤ S + Z) (h3 : S + Z ≤ total) (h1 : 1 ≤ Z) :
    d1.bad = false → (S : Int) * d1.rng ≤ d1.code ∧ 1 ≤ d1.rng * (Z : Int) ∧ d1.rng * (Z : Int) < 4294967296 ∧ d1.code < ((S : Int) + (Z : Int)) * d1.rng ∧ 1 ≤ d1.rng := by
  intro hb
  obtain ⟨q1, q2, q3, q4⟩ := h hb
  have e1 : (S : Int) * d1.rng ≤ (P : Int) * d1.rng := Int.mul_le_mul_of_nonneg_right (by omega) (by omega)
  have e2 : 1 * 1 ≤ d1.rng * (Z : Int) := Int.mul_le_mul q3 (by omega) (by omega) (by omega)
  have e3 : d1.rng * (Z : Int) ≤ d1.rng * (total : Int) := Int.mul_le_mul_of_nonneg_left (by omega) (by omega)
  have e4 : ((P : Int) + 1) * d1.rng ≤ ((S : Int) + (Z : Int)) * d1.rng := Int.mul_le_mul_of_nonneg_right (by omega) (by omega)
  exact ⟨by omega, by omega, by omega, by omega, q3⟩

set_option maxRecDepth 100000 in
set_option maxHeartbeats 40000000 in
theorem prcTells_walk (a : Option Addr) (n cap : Nat) (f : Nat → Int) (al : Option Addr) (nl cl : Nat) (l : Nat → Share) (w : World)
    (hn : n ≤ 65536) (hnc : n ≤ cap) (hnil : a = none → cap = 0) (hr : RowIn w.heap.size .u8 w a n f) (hf : ∀ i, i < n → 0 ≤ f i ∧ f i < 256)
    (hnl : nl ≤ 9223372036854775807) (hl : SharesIn w.heap.size w al nl l) (hwf : ∀ i, i < nl → (l i).wf) :
    Calls Try.prog 6 #[.slice a n cap, .slice al nl cl] w fun e w' => e = .returned (.bool true) ∧ Fr Non w w' := by
  have hn1 : ¬ (65536 : Int) < (n : Int) := by omega
  have H := hid hr
  have Hf := hid hf
  have Hnil := hid hnil
  have HL := hid hl
  have HW := hid hwf
  clear hr hf hnil hl hwf
  go_enter Try.func6, Try.ntmps6
  go_wp2_with fail
  refine (awake06_any _).mono ?_
  rintro e w1 ⟨rfl, hf1⟩
  have s1 := hf1.size
  have F1 := hid hf1
  have H1 := hid (H.out.fr hf1 (fun _ _ => id) |>.mono s1)
  clear hf1
  go_wp2_with fail
  refine (newFeed_any a n cap f _ (by omega) hnc Hnil.out H1.out).mono ?_
  intro e w2 h2
  obtain ⟨fg, a', c', rfl, hf2, hi2, hl2⟩ := feedNew_any _ _ _ Hf.out (by omega) _ _ h2
  have s2 := hf2.size
  have F2 := hid hf2
  have HI2 := hid hi2
  have HL2 := hid hl2
  clear h2 hf2 hi2 hl2
  go_wp2_with fail
  refine (newF_p w1 w2 n f Hf.out fg a' c' F2.out HI2.out HL2.out).mono ?_
  rintro e w3 ⟨D, hfg, rfl, hf3, hd3⟩
  have s3 := hf3.size
  have F3 := hid (F1.out.trans hf3)
  have HD3 := hid hd3
  have H3 := hid (H.out.fr F3.out (fun _ _ => id))
  clear hf3 hd3 HI2 HL2
  subst hfg
  go_wp2_with fail
  refine (rnew_any a n cap f Hf.out w.heap.size _ (by omega) H3.out F3.out.size).mono ?_
  rintro e w4 ⟨g, hg0, hg1, rfl, hf4, hr4⟩
  have s4 := hf4.size
  have hw16 := F1.out.size
  have S4 := hid (show StT D a cap g w w4 (RD.pnew (feedNx f n) 0) (RD.pnew (feedNx f n) 0) from ⟨F3.out.trans hf4, HD3.out.any hf4, hr4⟩)
  clear hf4 hr4 HD3
  go_upto_block 0 with fail
  go_cut [] (fun wx => ∃ d, StT D a cap g w wx d d)
  case first =>
    as_aux_lemma =>
      go_wp2_with fail
      go_loopw [8] (fun i wr => ∃ k : Nat, k ≤ nl ∧ k ≤ 2000 ∧ i = .int .i64 k ∧ w4.heap.size ≤ wr.heap.size ∧ ∃ d : RD Nat, d.Good ∧ StT D a cap g w wr d d) (fun i _ => nl - (intOf i).toNat)
      case atStart => exact ⟨0, Nat.zero_le _, Nat.zero_le _, rfl, Nat.le_refl _, _, pnew_good _ _, S4.out⟩
      case round =>
        obtain ⟨k, hk, hk5, rfl, hsz, d, hgd, hst⟩ := hrel
        have Hst := hid hst
        have HGd := hid hgd
        clear hst hgd
        by_cases hlt : k < nl
        · by_cases hlt5 : k < 2000
          · obtain ⟨b, off, rfl, hb, c0, c1, c2, c3⟩ := (HL.out.fr Hst.out.fr (fun _ _ => id)).at hlt
            obtain ⟨hw0, hw1, hw2, hw3⟩ := HW.out k hlt
            go_wp2_with fail
            refine (right_any _ _ _ _ _ hw1 hw2 hw3).mono ?_
            rintro e w5 ⟨rfl, hf5⟩
            have S5 := hid (Hst.out.any (((Fr.refl Non wr).alloc _).trans hf5))
            have hb5 := hf5.blk (blk_new wr (.cells #[.int .i64 (l k).kind, .int .u32 (l k).start, .int .u32 (l k).size, .int .u32 (l k).total] 32)) id
            have x0 := blk_cell hb5 (j := 0) (v := .int .i64 (l k).kind) rfl
            have x2 := blk_cell hb5 (j := 2) (v := .int .u32 (l k).size) rfl
            have x3 := blk_cell hb5 (j := 3) (v := .int .u32 (l k).total) rfl
            have s5 : wr.heap.size < w5.heap.size := blk_lt hb5
            have hnf : ¬ decFoot D.s D.g wr.heap.size := fun hk => by have := D.low _ hk; omega
            have hng : ¬ wr.heap.size = g := by omega
            clear hf5 hb5 c0 c1 c2 c3
            have eR : Share.rightB ⟨(l k).kind, (l k).start, (l k).size, (l k).total⟩ = (l k).rightB := rfl
            rw [eR]
            clear eR
            cases hR : (l k).rightB with
            | true =>
              have hR2 : (l k).Right := of_decide_eq_true hR
              clear hR
              generalize l k = sh at *
              obtain ⟨kind, start, size, total⟩ := sh
              dsimp only at hw0 hw1 hw2 hw3 x0 x2 x3
              go_upto_if 43 with fail
              go_cut [] (fun wx => ∃ d' : RD Nat, d'.Good ∧ w4.heap.size ≤ wx.heap.size ∧ StT D a cap g w wx d' d')
              case first =>
                rcases hR2 with ⟨h1, h2, h3, h4, h5, h6⟩ | ⟨h1, h2, h3, h4, h5, h6⟩
                · simp only at h1 h2 h3 h4 h5 h6
                  subst h1
                  obtain ⟨P, p1, p2, p3, p4, p5⟩ := place_spec d total h2 h3 S5.out.dec.ok HGd.out
                  obtain ⟨d1, hd1⟩ : ∃ d1, d1 = (d.place total).2 := ⟨_, rfl⟩
                  have hcallD := dplace_any D.s D.g d total w5 S5.out.dec h2 h3 (fun hb => (HGd.out hb).1)
                  rw [p1, ← hd1] at hcallD
                  have hcallR : ∀ w0, RefIs a n cap f w.heap.size g w0 d → Calls Try.prog 25 #[.pointer (some ⟨g, 0, none⟩), .int .u32 total] w0 (RPost a n cap f w.heap.size g w0 (.int .u32 P) d1) := fun w0 h0 => by
                    have h := rplace_any a n cap f w.heap.size g total d w0 h0 h2 h3 (fun hb => (HGd.out hb).1)
                    rw [p1, ← hd1] at h
                    exact h
                  rw [← hd1] at p3 p4 p5
                  have HCR := hid hcallR
                  have HP4 := hid p4
                  have HP5 := hid p5
                  have HP3 := hid p3
                  have H6 := hid h6
                  clear hcallR p1 p3 p4 p5 hd1 h6
                  go_wp2_with fail
                  refine hcallD.mono ?_
                  clear hcallD
                  rintro e w6 ⟨rfl, hf6, hd6⟩
                  have s6 := hf6.size
                  have y2 := hf6.cell x2 hnf
                  have y3 := hf6.cell x3 hnf
                  have S6 := hid (S5.out.one hw16 hg0 hf6 hd6)
                  clear hf6 hd6 x0 x2 x3
                  go_wp2_with fail
                  refine (HCR.out _ S6.out.ref).mono ?_
                  rintro e w7 ⟨rfl, hf7, hr7⟩
                  have s7 := hf7.size
                  have z2 := hf7.cell y2 hng
                  have z3 := hf7.cell y3 hng
                  have S7 := hid (S6.out.two hw16 s3 hg0 hf7 hr7)
                  clear hf7 hr7 y2 y3
                  have hA : ((P : Int) - (P : Int) / 2) = ((P - P / 2 : Nat) : Int) := by omega
                  by_cases hmin : (size : Int) ≤ (total : Int) - (P : Int) - 1
                  · obtain ⟨Z, hZ⟩ : ∃ Z, Z = P / 2 + 1 + size := ⟨_, rfl⟩
                    have hB : ((P : Int) / 2 + 1 + (size : Int)) = (Z : Int) := by omega
                    have hZ2 : P + 1 ≤ P - P / 2 + Z := by omega
                    have hZ3 : P - P / 2 + Z ≤ total := by omega
                    have HZ1 := hid (show 1 ≤ Z by omega)
                    have HZ4 := hid (show Z ≤ 2097152 by omega)
                    clear hZ
                    have HA := hid hA
                    have HB := hid hB
                    have HZ2 := hid hZ2
                    have HZ3 := hid hZ3
                    have htk : d1.bad = false → ((P - P / 2 : Nat) : Int) * d1.rng ≤ d1.code ∧ 1 ≤ d1.rng * (Z : Int) ∧ d1.rng * (Z : Int) < 4294967296 ∧ d1.code < (((P - P / 2 : Nat) : Int) + (Z : Int)) * d1.rng ∧ 1 ≤ d1.rng := take_fits HP4.out (by omega) HZ2.out HZ3.out HZ1.out
                    have HTK := hid htk
                    clear hA hB hZ2 hZ3 htk
                    go_wp2_with fail
                    rw [HA.out, HB.out]
                    refine (dtake_any D.s D.g d1 (P - P / 2) Z _ S7.out.dec (by omega) (by have := HZ4.out; omega) (fun hb => ⟨(HTK.out hb).1, (HTK.out hb).2.1, (HTK.out hb).2.2.1⟩)).mono ?_
                    rintro e w8 ⟨rfl, hf8, hd8⟩
                    have s8 := hf8.size
                    have q2 := hf8.cell z2 hnf
                    have q3 := hf8.cell z3 hnf
                    have S8 := hid (S7.out.one hw16 hg0 hf8 hd8)
                    clear hf8 hd8 z2 z3
                    go_wp2_with fail
                    rw [HA.out]
                    refine (rtake_any a n cap f Hf.out w.heap.size g (P - P / 2) Z d1 _ (by omega) S8.out.ref (by omega) (by have := HZ4.out; omega) (fun hb => ⟨(HTK.out hb).1, (HTK.out hb).2.1, (HTK.out hb).2.2.1⟩)).mono ?_
                    rintro e w9 ⟨rfl, hf9, hr9⟩
                    have s9 := hf9.size
                    have S9 := hid (S8.out.two hw16 s3 hg0 hf9 hr9)
                    clear hf9 hr9 q2 q3
                    go_wp2_with fail
                    go_meet
                    exact ⟨_, take_good D.s d1 (P - P / 2) Z S7.out.dec.ok (fun hb => ⟨(HTK.out hb).1, (HTK.out hb).2.2.2.1, (HTK.out hb).2.2.2.2, (HTK.out hb).2.2.1⟩), by omega, S9.out⟩
                  · obtain ⟨Z, hZ⟩ : ∃ Z, Z = P / 2 + 1 + (total - P - 1) := ⟨_, rfl⟩
                    have hB : ((P : Int) / 2 + 1 + ((total : Int) - (P : Int) - 1)) = (Z : Int) := by omega
                    have hZ2 : P + 1 ≤ P - P / 2 + Z := by omega
                    have hZ3 : P - P / 2 + Z ≤ total := by omega
                    have HZ1 := hid (show 1 ≤ Z by omega)
                    have HZ4 := hid (show Z ≤ 2097152 by omega)
                    clear hZ
                    have HA := hid hA
                    have HB := hid hB
                    have HZ2 := hid hZ2
                    have HZ3 := hid hZ3
                    have htk : d1.bad = false → ((P - P / 2 : Nat) : Int) * d1.rng ≤ d1.code ∧ 1 ≤ d1.rng * (Z : Int) ∧ d1.rng * (Z : Int) < 4294967296 ∧ d1.code < (((P - P / 2 : Nat) : Int) + (Z : Int)) * d1.rng ∧ 1 ≤ d1.rng := take_fits HP4.out (by omega) HZ2.out HZ3.out HZ1.out
                    have HTK := hid htk
                    clear hA hB hZ2 hZ3 htk
                    go_wp2_with fail
                    rw [HA.out, HB.out]
                    refine (dtake_any D.s D.g d1 (P - P / 2) Z _ S7.out.dec (by omega) (by have := HZ4.out; omega) (fun hb => ⟨(HTK.out hb).1, (HTK.out hb).2.1, (HTK.out hb).2.2.1⟩)).mono ?_
                    rintro e w8 ⟨rfl, hf8, hd8⟩
                    have s8 := hf8.size
                    have q2 := hf8.cell z2 hnf
                    have q3 := hf8.cell z3 hnf
                    have S8 := hid (S7.out.one hw16 hg0 hf8 hd8)
                    clear hf8 hd8 z2 z3
                    go_wp2_with fail
                    rw [HA.out]
                    refine (rtake_any a n cap f Hf.out w.heap.size g (P - P / 2) Z d1 _ (by omega) S8.out.ref (by omega) (by have := HZ4.out; omega) (fun hb => ⟨(HTK.out hb).1, (HTK.out hb).2.1, (HTK.out hb).2.2.1⟩)).mono ?_
                    rintro e w9 ⟨rfl, hf9, hr9⟩
                    have s9 := hf9.size
                    have S9 := hid (S8.out.two hw16 s3 hg0 hf9 hr9)
                    clear hf9 hr9 q2 q3
                    go_wp2_with fail
                    go_meet
                    exact ⟨_, take_good D.s d1 (P - P / 2) Z S7.out.dec.ok (fun hb => ⟨(HTK.out hb).1, (HTK.out hb).2.2.2.1, (HTK.out hb).2.2.2.2, (HTK.out hb).2.2.1⟩), by omega, S9.out⟩
                · simp only at h1 h2 h3 h4 h5 h6
                  subst h1
                  obtain ⟨g1, g2⟩ := pbit_good D.s d size total S5.out.dec.ok HGd.out h3 h4 h5 h6
                  have HG1 := hid g1
                  have H6 := hid h6
                  have hwt : IntKind.i64.wrap (total : Int) = (total : Int) := by rw [IntKind.wrap_i64]; omega
                  obtain ⟨d1, hd1⟩ : ∃ d1, d1 = d.pbit (feedNx f n) size total := ⟨_, rfl⟩
                  have HD1 := hid hd1
                  have hcallD : ∀ w0, DecIs D.s D.g w0 d → Calls Try.prog 19 #[.pointer (some ⟨D.g, 0, none⟩), .int .u32 size, .int .i64 total] w0 (PBitPost D.s D.g w0 d1) := fun w0 h0 => by
                    have h := dpbit_any D.s D.g d size total w0 h0 h4 h5 h6 (fun hb => (HGd.out hb).1)
                    rw [show d.pbit D.s.nx size total = d1 from hd1.symm] at h
                    exact h
                  have hcallR : ∀ w0, RefIs a n cap f w.heap.size g w0 d → Calls Try.prog 24 #[.pointer (some ⟨g, 0, none⟩), .int .u32 size, .int .i64 total] w0 (RPBitPost a n cap f w.heap.size g w0 d1) := fun w0 h0 => by
                    have h := rpbit_any a n cap f Hf.out w.heap.size g size total d w0 (by omega) h0 h4 h5 h6 (fun hb => (HGd.out hb).1)
                    rw [← hd1] at h
                    exact h
                  have HCD := hid hcallD
                  have HCR := hid hcallR
                  have HG2 := hid (show d1.2.Good by rw [hd1]; exact g1)
                  have hap := hid (show w.heap.size ≤ w1.heap.size ∧ w1.heap.size ≤ w3.heap.size ∧ w3.heap.size ≤ g ∧ g < w4.heap.size from ⟨hw16, s3, hg0, hg1⟩)
                  clear g1 g2 h6 hd1 hcallD hcallR HD1 HG1 H6 x0
                  go_upto_region 14 with fail
                  go_cut [58] (fun bv wx => bv = .bool false ∧ StT D a cap g w wx d1.2 d1.2 ∧ w4.heap.size ≤ wx.heap.size)
                  case first =>
                    go_region_held3 (fun w' => w'.cell? ⟨wr.heap.size, 2, none⟩ = some (.int .u32 size) ∧ w'.cell? ⟨wr.heap.size, 3, none⟩ = some (.int .u32 total)) (first | exact ⟨z2, z3⟩ | exact ⟨y2, y3⟩ | go_keep)
                      (first
                      | (go_at_call 19; (try rw [hwt]); refine (HCD.out _ (by first | exact DecIs.drew S5.out.dec | exact S5.out.dec)).mono ?_; rintro e w6 ⟨rfl, hf6, hd6⟩; have y2 := Fr.cell hf6 (p := ⟨wr.heap.size, 2, none⟩) (by exact x2) hnf; have y3 := Fr.cell hf6 (p := ⟨wr.heap.size, 3, none⟩) (by exact x3) hnf; have S6 := hid ((S5.out.any ((Fr.refl Non _).drew)).one hap.out.1 hap.out.2.2.1 (by exact hf6) hd6); have s6 := hf6.size; clear hf6 hd6)
                      | (go_at_call 24; (try rw [hwt]); refine (HCR.out _ S6.out.ref).mono ?_; rintro e w7 ⟨rfl, hf7, hr7⟩; have z2 := Fr.cell hf7 (p := ⟨wr.heap.size, 2, none⟩) (by exact y2) hng; have z3 := Fr.cell hf7 (p := ⟨wr.heap.size, 3, none⟩) (by exact y3) hng; have S7 := hid (S6.out.two hap.out.1 hap.out.2.1 hap.out.2.2.1 hf7 hr7); have s7 := hf7.size; clear hf7 hr7))
                    all_goals
                      go_wp2_with fail
                      go_meet
                      exact ⟨by simp, S7.out, by simp at s6 s7; omega⟩
                  case rest =>
                    obtain ⟨hbv, hst7, hsz7⟩ := hcut
                    subst hbv
                    have S7 := hid hst7
                    clear hst7
                    go_wp2_with fail
                    go_meet
                    exact ⟨_, HG2.out, hsz7, S7.out⟩
              case rest =>
                obtain ⟨d', hgd', hsz', hst'⟩ := hcut
                obtain ⟨src, rng, code, bad⟩ := d'
                have q1 := blk_cell hst'.ref.at_ (j := 1) (v := .int .i64 src) rfl
                have q4 := blk_cell hst'.ref.at_ (j := 4) (v := .bool bad) rfl
                have hsn : src ≤ n := hst'.ref.src
                have hfa := hst'.dec.src.2.2.1
                have S6 := hid hst'
                have HG6 := hid hgd'
                have HFA := hid hfa
                clear hst' hgd' hfa x0 x2 x3
                have hsw : IntKind.i64.wrap ((n : Int) - (src : Int)) = (n : Int) - (src : Int) := by rw [IntKind.wrap_i64]; omega
                cases bad with
                | true =>
                  · go_upto_region 22 with fail
                    go_quiet (first | (go_at_call 21; exact Calls.quiet_of_same (dbad_same D.s D.g ⟨src, rng, code, true⟩ _ true (by exact Deco.any S6.out.dec ((Fr.refl Non _).drewN _)) rfl)) | (go_at_call 27; exact Calls.quiet_of (feedLeft_p D.fg D.a n D.c src _ (by omega) hsn (by exact HFA.out))))
                    go_wp2_with fail
                    go_roundw
                    case rel => exact ⟨k + 1, by omega, by omega, by go_num, by simp; omega, _, HG6.out, S6.out.any ((Fr.refl Non _).drewN _)⟩
                    case measure => simp [intOf]; omega
                | false =>
                  · go_upto_region 22 with fail
                    go_quiet (first | (go_at_call 21; exact Calls.quiet_of_same (dbad_same D.s D.g ⟨src, rng, code, false⟩ _ false (by exact Deco.any S6.out.dec ((Fr.refl Non _).drewN _)) rfl)) | (go_at_call 27; exact Calls.quiet_of (feedLeft_p D.fg D.a n D.c src _ (by omega) hsn (by exact HFA.out))))
                    go_wp2_with fail
                    go_roundw
                    case rel => exact ⟨k + 1, by omega, by omega, by go_num, by simp; omega, _, HG6.out, S6.out.any ((Fr.refl Non _).drewN _)⟩
                    case measure => simp [intOf]; omega
            | false =>
              clear hR
              go_wp2_with fail
              go_roundw
              case rel => exact ⟨k + 1, by omega, by omega, by go_num, by omega, _, HGd.out, S5.out⟩
              case measure => simp [intOf]; omega
          · have e : k = 2000 := by omega
            subst e
            go_wp2_with fail
            go_meet
            exact ⟨_, Hst.out⟩
        · have e : k = nl := by omega
          subst e
          go_wp2_with fail
          go_meet
          exact ⟨_, Hst.out⟩
  case rest =>
    obtain ⟨d, hst⟩ := hcut
    obtain ⟨src, rng, code, bad⟩ := d
    have q3 := blk_cell hst.ref.at_ (j := 3) (v := .int .u64 code) rfl
    have q4 := blk_cell hst.ref.at_ (j := 4) (v := .bool bad) rfl
    have HST := hid hst
    clear hst
    cases bad with
    | true =>
      go_wp2_with fail
      go_quiet ((go_at_call 28; exact Calls.quiet_of_same (ddone_same D.s D.g ⟨src, rng, code, true⟩ _ false (by exact Deco.any HST.out.dec ((Fr.refl Non _).drewN _)) rfl)))
      go_wp2_with fail
      go_ret
      exact ⟨rfl, Fr.drewN HST.out.fr _⟩
    | false =>
      by_cases hc0 : code = 0
      · subst hc0
        go_wp2_with fail
        go_quiet ((go_at_call 28; exact Calls.quiet_of_same (ddone_same D.s D.g ⟨src, rng, 0, false⟩ _ true (by exact Deco.any HST.out.dec ((Fr.refl Non _).drewN _)) rfl)))
        go_wp2_with fail
        go_ret
        exact ⟨rfl, Fr.drewN HST.out.fr _⟩
      · have hdn : RD.done (⟨src, rng, code, false⟩ : RD Nat) = false := by
          show (!false && code == 0) = false
          simp [hc0]
        have HDn := hid hdn
        have hcb : (code == 0) = false := by simpa using hc0
        clear hdn
        go_wp2_with fail
        go_quiet ((go_at_call 28; exact Calls.quiet_of_same (ddone_same D.s D.g ⟨src, rng, code, false⟩ _ false (by exact Deco.any HST.out.dec ((Fr.refl Non _).drewN _)) HDn.out)))
        go_wp2_with fail
        go_ret
        exact ⟨rfl, Fr.drewN HST.out.fr _⟩
set_option maxRecDepth 100000 in
theorem prcTells_long (a : Option Addr) (n cap : Nat) (x : Value) (w : World) (hn : 65536 < n) :
    Calls Try.prog 6 #[.slice a n cap, x] w fun e w' => e = .returned (.bool true) ∧ Fr Non w w' := by
  have h : (65536 : Int) < (n : Int) := by omega
  clear hn
  go_enter Try.func6, Try.ntmps6
  go_wp2_with (go_at_call 8; refine (awake06_any _).mono ?_; rintro e w1 ⟨rfl, hf1⟩)
  go_ret
  exact ⟨rfl, hf1⟩
end Go.Proofs.Ytnkdeedbgkcbfaa
