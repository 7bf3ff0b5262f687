/- The walk through PrcBack. -/
import Derived.Test.YtnkdeedbgkcbfaaPback
namespace Go.Proofs.Ytnkdeedbgkcbfaa
open Go.RowKit

theorem sync_place {f : Nat → Int} {c : RC} {d : RD Nat} (hs : Sync f c d) (hrng : 16777216 ≤ c.rng) (start size total : Nat) (hr : (⟨0, start, size, total⟩ : Share).Right)
    (h1 : (⟨0, start, size, total⟩ : Share).lo c.rng ≤ d.code) (h2 : d.code < (⟨0, start, size, total⟩ : Share).lo c.rng + (⟨0, start, size, total⟩ : Share).wide c.rng) :
    ∃ p : Nat, d.place total = ((p : Int), ⟨d.src, c.rng / total, d.code, false⟩) ∧ start ≤ p ∧ p < start + size ∧ (start : Int) * (c.rng / total) ≤ d.code ∧ 1 ≤ c.rng / total * size ∧ c.rng / total * size ≤ c.rng := by
  have e1 : (⟨0, start, size, total⟩ : Share).lo c.rng = start * (c.rng / total) := if_pos rfl
  have e2 : (⟨0, start, size, total⟩ : Share).wide c.rng = c.rng / total * size := if_pos rfl
  obtain ⟨f1, f2, f3⟩ := share_fits hr hrng
  rw [e1] at h1 h2 f1 f3
  rw [e2] at h2 f2 f3
  have hr' : 1 ≤ total ∧ total ≤ 1048576 ∧ 1 ≤ size ∧ size ≤ total ∧ start ≤ total - size := by
    rcases hr with ⟨_, r⟩ | ⟨r, _⟩
    · exact r
    · exact absurd r (by show ¬ (0 : Int) = 1; decide)
  obtain ⟨r1, r2, r3, r4, r5⟩ := hr'
  obtain ⟨q, hq⟩ : ∃ q, q = c.rng / (total : Int) := ⟨_, rfl⟩
  have hq1 : 1 ≤ q := by rw [hq]; exact Int.le_ediv_of_mul_le (by omega) (by omega)
  rw [← hq] at h1 h2 f1 f2 f3 ⊢
  have hp1 : (start : Int) ≤ d.code / q := Int.le_ediv_of_mul_le (by omega) h1
  have hp2 : d.code / q < (start : Int) + size := by
    refine Int.ediv_lt_of_lt_mul (by omega) ?_
    rw [Int.add_mul, Int.mul_comm (size : Int)]
    exact h2
  obtain ⟨p, hp⟩ := Int.eq_ofNat_of_zero_le (a := d.code / q) (by omega)
  refine ⟨p, ?_, by omega, by omega, h1, f2, by omega⟩
  unfold RD.place
  rw [if_neg (by rw [hs.bad]; decide), hs.rng, ← hq, if_neg (by omega), hp, hs.bad]
theorem sync_pbit {f : Nat → Int} {n : Nat} {C : RC} (h : Told f n C) {c : RC} {d : RD Nat} {N : Nat} (hs : Sync f c d) (hok : c.Ok N) (hb : c.bytes) (start size total : Nat) (hr : (⟨1, start, size, total⟩ : Share).Right) {k : Nat} (hre : Reach (c.put ⟨1, start, size, total⟩) C k) :
    (d.pbit (feedNx f n) size total).1 = start ∧ Sync f (c.put ⟨1, start, size, total⟩) (d.pbit (feedNx f n) size total).2 := by
  obtain ⟨s1, s2, s3⟩ := sync_put h hs hok hb hr hre
  have hst : start ≤ 1 := by
    rcases hr with ⟨r, _⟩ | ⟨_, r, _⟩
    · exact absurd r (by show ¬ (1 : Int) = 0; decide)
    · exact r
  rcases Nat.le_one_iff_eq_zero_or_eq_one.1 hst with rfl | rfl
  · have e1 : Share.lo ⟨1, 0, size, total⟩ c.rng = 0 := by unfold Share.lo; rw [if_neg (show ¬ (1 : Int) = 0 by decide)]; exact if_pos rfl
    have e2 : Share.wide ⟨1, 0, size, total⟩ c.rng = c.rng / 2 ^ total * size := by unfold Share.wide; rw [if_neg (show ¬ (1 : Int) = 0 by decide)]; exact if_pos rfl
    rw [e1, e2] at s2 s3
    unfold RD.pbit
    rw [if_neg (by rw [hs.bad]; decide), hs.rng, if_pos (by omega), hs.bad]
    rw [Int.sub_zero] at s3
    exact ⟨rfl, s3⟩
  · have e1 : Share.lo ⟨1, 1, size, total⟩ c.rng = c.rng / 2 ^ total * size := by unfold Share.lo; rw [if_neg (show ¬ (1 : Int) = 0 by decide)]; exact if_neg (show ¬ (1 : Nat) = 0 by decide)
    have e2 : Share.wide ⟨1, 1, size, total⟩ c.rng = c.rng - c.rng / 2 ^ total * size := by unfold Share.wide; rw [if_neg (show ¬ (1 : Int) = 0 by decide)]; exact if_neg (show ¬ (1 : Nat) = 0 by decide)
    rw [e1] at s1
    rw [e1, e2] at s3
    unfold RD.pbit
    rw [if_neg (by rw [hs.bad]; decide), hs.rng, if_neg (by omega), hs.bad]
    refine ⟨?_, s3⟩
    rw [if_neg (by rw [s3.bad]; decide)]
theorem feedLeft_any (g : Nat) (a : Option Addr) (n c at_ : Nat) (w : World) (hn : n ≤ 1048576) (hat : at_ ≤ n) (h : FeedAt w g a n c at_) :
    Calls Try.prog 27 #[.pointer (some ⟨g, 0, none⟩)] w fun e w' => e = .returned (.int .i64 ((n - at_ : Nat) : Int)) ∧ Fr Non w w' := by
  have c0 := blk_cell h (j := 0) (v := .slice a n c) rfl
  have c1 := blk_cell h (j := 1) (v := .int .i64 at_) rfl
  have e : ((n : Int) - (at_ : Int)) = ((n - at_ : Nat) : Int) := by omega
  go_enter Try.func27, Try.ntmps27
  go_wp2_with fail
  try (go_quiet (fail))
  try (go_wp2_with fail)
  go_ret
  exact ⟨by rw [← e]; rfl, by repeat (first | exact Fr.refl _ _ | refine Fr.drewN ?_ _ | refine Fr.drew ?_)⟩
theorem newF_fg (w0 w : World) (n : Nat) (f : Nat → Int) (hf : ∀ i, i < n → 0 ≤ f i ∧ f i < 256) (g : Nat) (a' : Option Addr) (c' : Nat) (hw : Fr Non w0 w) (hi : (feed g a' n c' f hf).I w 0)
    (hl : ∀ k, (feed g a' n c' f hf).foot k → w0.heap.size ≤ k ∧ k < w.heap.size) :
    Calls Try.prog 17 #[.iface 45 (.pointer (some ⟨g, 0, none⟩))] w fun e w' => ∃ D : Deco w0.heap.size w'.heap.size f n, D.fg = g ∧ e = .returned (.pointer (some ⟨D.g, 0, none⟩)) ∧ Fr Non w0 w' ∧ D.Is w' (RD.pnew (feedNx f n) 0) := by
  refine (dnew_any (feed g a' n c' f hf) 0 w hi (fun k hk => (hl k hk).2)).mono ?_
  rintro e w' ⟨gd, h1, h2, h3, h4, h5⟩
  have hs := hw.size
  have hs2 := h4.size
  refine ⟨⟨g, a', c', gd, hf, fun k hk => ?_⟩, rfl, h3, ?_, h5⟩
  · rcases hk with rfl | hk
    · exact ⟨by omega, h2⟩
    · have := hl k hk; exact ⟨this.1, by omega⟩
  · exact hw.then h4 (fun i hi hk => by have := hl i hk; omega)
/-- the decoder behind k shares. -/
structure StB {lo hi : Nat} {f : Nat → Int} {n : Nat} (D : Deco lo hi f n) (w wr : World) (l : Nat → Share) (k : Nat) (d : RD Nat) : Prop where
  fr : Fr Non w wr
  dec : D.Is wr d
  syn : Sync f (encP l k) d
theorem StB.any {lo hi : Nat} {f : Nat → Int} {n : Nat} {D : Deco lo hi f n} {w wr w' : World} {l : Nat → Share} {k : Nat} {d : RD Nat} (h : StB D w wr l k d) (hf : Fr Non wr w') : StB D w w' l k d :=
  ⟨h.fr.trans hf, h.dec.any hf, h.syn⟩

set_option maxRecDepth 100000 in
set_option maxHeartbeats 40000000 in
theorem prcBack_walk (al : Option Addr) (nl cl : Nat) (l : Nat → Share) (am : Option Addr) (nm cm : Nat) (fm : Nat → Int) (w : World) (hnl : nl ≤ 9223372036854775807) (hl : SharesIn w.heap.size w al nl l) (hwf : ∀ i, i < nl → (l i).wf)
    (hnm : nm ≤ 4096) (hncm : nm ≤ cm) (hnilm : am = none → cm = 0) (hrm : RowIn w.heap.size .u8 w am nm fm) (hfm : ∀ i, i < nm → 0 ≤ fm i ∧ fm i < 256) :
    Calls Try.prog 7 #[.slice al nl cl, .slice am nm cm] w fun e w' => e = .returned (.bool true) ∧ Fr Non w w' := by
  have hn1 : ¬ (4096 : Int) < (nm : Int) := by omega
  have HL := hid hl
  have HW := hid hwf
  have HM := hid hrm
  have Hfm := hid hfm
  have Hnilm := hid hnilm
  clear hl hwf hrm hfm hnilm
  go_enter Try.func7, Try.ntmps7
  go_wp2_with fail
  refine (awake06_any _).mono ?_
  rintro e w1 ⟨rfl, hf1⟩
  have s1 := hf1.size
  have F1 := hid hf1
  clear hf1
  go_wp2_with fail
  refine (cnew_any _).mono ?_
  rintro e w2 ⟨g, rfl, hg0, hf2, hc2⟩
  have s2 := hf2.size
  have F2 := hid hf2
  have HC2 := hid hc2
  clear hf2 hc2
  have S4 := hid (show StC (fun k => k < w1.heap.size) g w w2 RC.new 0 from ⟨F1.out.trans F2.out, HC2.out, new_ok 0, new_bytes⟩)
  have HA0 := hid (show ∀ k, k < w.heap.size → (fun k => k < w1.heap.size) k from fun k hk => Nat.lt_of_lt_of_le hk F1.out.size)
  obtain ⟨A, hAe⟩ : ∃ A : Nat → Prop, A = fun k => k < w1.heap.size := ⟨_, rfl⟩
  rw [← hAe] at S4 HA0
  clear hAe
  obtain ⟨m, hm⟩ : ∃ m, m = min nl 2000 := ⟨_, rfl⟩
  have HMm := hid hm
  clear hm
  go_upto_block 0 with fail
  go_cut [] (fun wx => StC A g w wx (encP l m) (3 * m))
  case first =>
    as_aux_lemma =>
      go_wp2_with fail
      go_loopw [6] (fun i wr => ∃ k : Nat, k ≤ nl ∧ k ≤ 2000 ∧ i = .int .i64 k ∧ StC A g w wr (encP l k) (3 * k)) (fun i _ => nl - (intOf i).toNat)
      case atStart => exact ⟨0, Nat.zero_le _, Nat.zero_le _, rfl, S4.out⟩
      case round =>
        obtain ⟨k, hk, hk5, rfl, hst⟩ := hrel
        have Hst := hid hst
        clear hst
        by_cases hlt : k < nl
        · by_cases hlt5 : k < 2000
          · obtain ⟨b, off, rfl, hb, c0, c1, c2, c3⟩ := (HL.out.fr Hst.out.fr (fun _ _ => id)).at hlt
            go_wp2_with fail
            refine (right_any _ _ _ _ _ (HW.out k hlt).2.1 (HW.out k hlt).2.2.1 (HW.out k hlt).2.2.2).mono ?_
            rintro e w5 ⟨rfl, hf5⟩
            have d0 := hf5.cell c0 id
            have d1 := hf5.cell c1 id
            have d2 := hf5.cell c2 id
            have d3 := hf5.cell c3 id
            have S5 := hid (Hst.out.any hf5)
            clear hf5 c0 c1 c2 c3
            have eR : Share.rightB ⟨(l k).kind, (l k).start, (l k).size, (l k).total⟩ = (l k).rightB := rfl
            rw [eR]
            clear eR
            cases hR : (l k).rightB with
            | true =>
              have hR2 : (l k).Right := of_decide_eq_true hR
              have eE : encP l (k + 1) = (encP l k).put (l k) := if_pos hR
              have HE := hid eE
              have HR := hid hR2
              clear hR hR2 eE
              go_wp2_with fail
              refine (S5.out.put HA0.out (by omega) (l k) HR.out).mono ?_
              rintro e w7 ⟨rfl, hs7⟩
              rw [← HE.out] at hs7
              have S7 := hid hs7
              clear hs7 d0 d1 d2 d3
              go_wp2_with fail
              go_roundw
              case rel => exact ⟨k + 1, by omega, by omega, by go_num, S7.out⟩
              case measure => simp [intOf]; omega
            | false =>
              have eE : encP l (k + 1) = encP l k := if_neg (by rw [hR]; decide)
              have HE := hid eE
              clear hR eE
              go_wp2_with fail
              go_roundw
              case rel => exact ⟨k + 1, by omega, by omega, by go_num, by rw [HE.out]; exact { S5.out with ok := S5.out.ok.mono (by omega) }⟩
              case measure => simp [intOf]; omega
          · have e : k = 2000 := by omega
            subst e
            have em : m = 2000 := by have := HMm.out; omega
            go_wp2_with fail
            go_meet
            rw [em]; exact Hst.out
        · have e : k = nl := by omega
          subst e
          have em : m = k := by have := HMm.out; omega
          go_wp2_with fail
          go_meet
          rw [em]; exact Hst.out
  case rest =>
    as_aux_lemma =>
      have S5 := hid hcut
      have hm2 : m ≤ 2000 := by have := HMm.out; omega
      clear hcut S4
      go_wp2_with fail
      refine (cfinish_any A g (encP l m) _ S5.out.cod (S5.out.ok.fit.mono (by omega))).mono ?_
      rintro e w6 ⟨v6, rfl, ho6, hs6, hf6, hc6⟩
      obtain ⟨gx1, gx2, gx3⟩ := gives_out (S5.out.ok.fin S5.out.bytes)
      obtain ⟨a6, k6, rfl, hn6, hm6, hr6⟩ := ho6.rowN gx2
      have hlen : (encP l m).len ≤ 192005 := by have := S5.out.ok.size; unfold RC.len; omega
      have F6 := hid (S5.out.fr.then hf6 (T := Out A) (fun i hi e => (Out.no e (HA0.out i hi)).elim))
      have HR6 := hid hr6
      have HGX := hid gx3
      obtain ⟨L, hL⟩ : ∃ L, L = (encP l m).len := ⟨_, rfl⟩
      rw [← hL] at hlen hn6 HR6 ⊢
      have HLe := hid hL
      have HM6 := hid ((HM.out.fr F6.out (fun _ _ => id)).mono F6.out.size)
      have hnil6 : a6 = none → k6 = 0 := by
        intro e
        subst e
        rcases ho6.2 with ⟨h1, _⟩ | ⟨gg, cap', cur, h1, _⟩
        · have e2 := congrArg (fun v => match v with | .slice _ _ c => c | _ => 0) h1
          simpa using e2
        · have e2 := congrArg (fun v => match v with | .slice o _ _ => o.isSome | _ => true) h1
          simp at e2
      have HN6 := hid hnil6
      clear hf6 hc6 ho6 hs6 hr6 gx1 gx2 gx3 hL hnil6 S5
      have F6' := F6.out
      have hbase : w.heap.size ≤ w6.heap.size := F6'.size
      go_wp2_with (first
        | (refine opAppendRow (some 44) rfl rfl (.tmp 42) (.tmp 43) 35 rfl w6.heap.size .u8 5 1 Try.underlying35 Try.info_u8 (.slice (some ⟨w6.heap.size, 0, none⟩) 0 0) [] rfl (Own.empty _ _ .u8 5 (Nat.le_refl _)) w6.heap.size a6 L k6 (fun i => ((encP l m).gives 5).out.getD i 0) rfl HN6.out hn6 (HR6.out.fr ((Fr.refl Non _).alloc _) (fun _ _ => id)) (by decide) (by simp; omega) (by simp) ?_; intro v7 w7 hown7 hg7; have F7 := clone_fr hg7; have s7 := F7.size)
        | (refine opAppendRow (some 46) rfl rfl (.tmp 44) (.tmp 45) 35 rfl w6.heap.size .u8 5 1 Try.underlying35 Try.info_u8 v7 _ rfl hown7 w6.heap.size am nm cm fm rfl Hnilm.out hncm (HM6.out.fr F7 (fun _ _ => id)) (by decide) (by simp; omega) (by omega) ?_; intro v8 w8 hown8 hg8))
      obtain ⟨ao, co, rfl, hlo, _, hro⟩ := hown8.rowN (n := L + nm) (by simp)
      obtain ⟨gg, hgg⟩ : ∃ gg : Nat → Int, gg = fun i => ([] ++ (List.range L).map (fun i => ((encP l m).gives 5).out.getD i 0) ++ (List.range nm).map fm).getD i 0 := ⟨_, rfl⟩
      rw [← hgg] at hro
      have hg1 : ∀ i, i < L → gg i = ((encP l m).gives 5).out.getD i 0 := by
        intro i hi
        rw [hgg]
        simp [List.getD, List.getElem?_append, hi]
      have hg2 : ∀ i, i < L + nm → 0 ≤ gg i ∧ gg i < 256 := by
        intro i hi
        by_cases h : i < L
        · rw [hg1 i h]
          obtain ⟨_, q2, q3⟩ := gives_out ((encP_ok l m).1.fin (encP_ok l m).2)
          have hi2 : i < ((encP l m).gives 5).out.length := by rw [q2, ← HLe.out]; exact h
          refine q3 _ ?_
          rw [show ((encP l m).gives 5).out.getD i 0 = ((encP l m).gives 5).out[i] by simp [List.getD, hi2]]
          exact List.getElem_mem hi2
        · have e : gg i = fm (i - L) := by
            rw [hgg]
            simp [List.getD, List.getElem?_append, h, show i - L < nm by omega]
          rw [e]; exact Hfm.out _ (by omega)
      have hf8 : Fr Non w6 w8 := F7.grown hg8 (fun i hi hlt => absurd (hown7.block i hi).1 (by omega))
      have s8 := hf8.size
      have HRO := hid hro
      have HG1 := hid hg1
      have HG2 := hid hg2
      have F8 := hid (F6.out.trans hf8)
      have hnil8 : ao = none → co = 0 := by
        intro e
        subst e
        rcases hown8.2 with ⟨h1, _⟩ | ⟨gg, cap', cur, h1, _⟩
        · have e2 := congrArg (fun v => match v with | .slice _ _ c => c | _ => 0) h1
          simpa using e2
        · have e2 := congrArg (fun v => match v with | .slice o _ _ => o.isSome | _ => true) h1
          simp at e2
      have Hnil8 := hid hnil8
      clear hown7 hg7 hown8 hg8 hro hgg hg1 hg2 hf8 hnil8 F7 F6'
      go_wp2_with fail
      refine (newFeed_any ao (L + nm) co gg _ (by omega) hlo Hnil8.out HRO.out).mono ?_
      intro e w9 h9
      obtain ⟨fg, a', c', rfl, hf9, hi9, hl9⟩ := feedNew_any _ _ _ HG2.out (by omega) _ _ h9
      have s9 := hf9.size
      have F9 := hid hf9
      have HI9 := hid hi9
      have HL9 := hid hl9
      clear h9 hf9 hi9 hl9
      go_wp2_with fail
      refine (newF_fg w8 w9 (L + nm) gg HG2.out fg a' c' F9.out HI9.out HL9.out).mono ?_
      rintro e w10 ⟨D, hfg, rfl, hf10, hd10⟩
      have HFG := hid hfg
      clear hfg
      have s10 := hf10.size
      have F10 := hid (F8.out.trans hf10)
      have HD10 := hid hd10
      clear hf10 hd10 HI9 HL9
      have hTold : Told gg (L + nm) (encP l m) := told_of l m (L + nm) gg (by rw [← HLe.out]; omega) HG2.out (fun i hi => HG1.out i (by rw [HLe.out]; exact hi))
      obtain ⟨kk, hkk⟩ := encP_reach l 0 m
      rw [Nat.zero_add] at hkk
      have S11 := hid (show StB D w w10 l 0 (RD.pnew (feedNx gg (L + nm)) 0) from ⟨F10.out, HD10.out, sync_new hTold hkk⟩)
      have HT := hid hTold
      clear hTold hkk
      go_upto_block 2 with fail
      go_cut [] (fun wx => ∃ d, StB D w wx l m d)
      case first =>
        as_aux_lemma =>
          go_wp2_with fail
          go_loopw [10] (fun i wr => ∃ k : Nat, k ≤ nl ∧ k ≤ 2000 ∧ k ≤ m ∧ i = .int .i64 k ∧ w10.heap.size ≤ wr.heap.size ∧ ∃ d, StB D w wr l k d) (fun i _ => nl - (intOf i).toNat)
          case atStart => exact ⟨0, Nat.zero_le _, Nat.zero_le _, Nat.zero_le _, rfl, Nat.le_refl _, _, S11.out⟩
          case round =>
            obtain ⟨k, hk, hk5, hkm, rfl, hsz, d, hst⟩ := hrel
            have Hst := hid hst
            clear hst
            by_cases hlt : k < nl
            · by_cases hlt5 : k < 2000
              · obtain ⟨b, off, rfl, hb, c0, c1, c2, c3⟩ := (HL.out.fr Hst.out.fr (fun _ _ => id)).at hlt
                have hkm1 : k + 1 ≤ m := by have := HMm.out; omega
                obtain ⟨hw0, hw1, hw2, hw3⟩ := HW.out k hlt
                go_wp2_with fail
                refine (right_any _ _ _ _ _ hw1 hw2 hw3).mono ?_
                rintro e w12 ⟨rfl, hf12⟩
                have hb12 := hf12.blk (blk_new wr (.cells #[.int .i64 (l k).kind, .int .u32 (l k).start, .int .u32 (l k).size, .int .u32 (l k).total] 32)) id
                have x0 := blk_cell hb12 (j := 0) (v := .int .i64 (l k).kind) rfl
                have x1 := blk_cell hb12 (j := 1) (v := .int .u32 (l k).start) rfl
                have x2 := blk_cell hb12 (j := 2) (v := .int .u32 (l k).size) rfl
                have x3 := blk_cell hb12 (j := 3) (v := .int .u32 (l k).total) rfl
                have s12 : wr.heap.size < w12.heap.size := blk_lt hb12
                have S12 := hid (Hst.out.any (((Fr.refl Non wr).alloc _).trans hf12))
                have hnf : ¬ decFoot D.s D.g wr.heap.size := fun hk => by have := D.low _ hk; omega
                have eR : Share.rightB ⟨(l k).kind, (l k).start, (l k).size, (l k).total⟩ = (l k).rightB := rfl
                rw [eR]
                clear hf12 hb12 c0 c1 c2 c3 eR
                cases hR : (l k).rightB with
                | false =>
                  have eE : encP l (k + 1) = encP l k := if_neg (by rw [hR]; decide)
                  have HS1 := hid (show StB D w w12 l (k + 1) d from ⟨S12.out.fr, S12.out.dec, by rw [eE]; exact S12.out.syn⟩)
                  clear hR eE
                  go_wp2_with fail
                  go_roundw
                  case rel => exact ⟨k + 1, by omega, by omega, by omega, by go_num, by omega, _, HS1.out⟩
                  case measure => simp [intOf]; omega
                | true =>
                  have hR2 : (l k).Right := of_decide_eq_true hR
                  have eE : encP l (k + 1) = (encP l k).put (l k) := if_pos hR
                  obtain ⟨kn, hkn⟩ := encP_reach l (k + 1) (m - (k + 1))
                  rw [show k + 1 + (m - (k + 1)) = m by omega, eE] at hkn
                  obtain ⟨okk, byk⟩ := encP_ok l k
                  have hnew : ∀ w13 d', Sync gg ((encP l k).put (l k)) d' → Fr (decFoot D.s D.g) w12 w13 → D.Is w13 d' → StB D w w13 l (k + 1) d' := fun w13 d' hd' hf13 hdc => ⟨S12.out.fr.then hf13 (fun i hi hk => by have := D.low i hk; omega), hdc, by rw [eE]; exact hd'⟩
                  have HNW := hid hnew
                  have HOK := hid okk
                  have HBY := hid byk
                  have HRE := hid hkn
                  have SY := hid S12.out.syn
                  have SD := hid S12.out.dec
                  clear hR eE hkn okk byk hnew
                  generalize hc : encP l k = c at *
                  generalize l k = sh at *
                  obtain ⟨kind, start, size, total⟩ := sh
                  dsimp only at x0 x1 x2 x3 hw0 hw1 hw2 hw3
                  have hgd : d.bad = false → 16777216 ≤ d.rng := fun _ => by rw [SY.out.rng]; exact HOK.out.rng0
                  have HGD := hid hgd
                  have HR2 := hid hR2
                  clear hgd hc
                  rcases hR2 with ⟨h1, h2, h3, h4, h5, h6⟩ | ⟨h1, h2, h3, h4, h5, h6⟩
                  · dsimp only at h1 h2 h3 h4 h5 h6
                    subst h1
                    obtain ⟨y1, y2, y3⟩ := sync_put HT.out SY.out HOK.out HBY.out HR2.out HRE.out
                    obtain ⟨p, p1, p2, p3, p4, p5, p6⟩ := sync_place SY.out HOK.out.rng0 start size total HR2.out y1 y2
                    have e1 : (⟨0, start, size, total⟩ : Share).lo c.rng = start * (c.rng / total) := if_pos rfl
                    have e2 : (⟨0, start, size, total⟩ : Share).wide c.rng = c.rng / total * size := if_pos rfl
                    rw [e1, e2] at y3
                    have Y3 := hid y3
                    have P1 := hid p1
                    have o2 := HOK.out.rng1
                    clear y1 y2 y3 p1 e1 e2
                    go_wp2_with fail
                    refine (dplace_any D.s D.g d total _ SD.out h2 h3 HGD.out).mono ?_
                    rw [P1.out]
                    intro e w13 h13
                    dsimp only at h13
                    obtain ⟨rfl, hf13, hd13⟩ := h13
                    have z1 := hf13.cell x1 hnf
                    have z2 := hf13.cell x2 hnf
                    have s13 := hf13.size
                    have HF13 := hid hf13
                    have HD13 := hid hd13
                    have hq1 : decide (p < start) = false := by simp; omega
                    have hq2 : decide (start + size ≤ p) = false := by simp; omega
                    have hq3 : decide ((p : Int) < (start : Int)) = false := by simp; omega
                    have hq4 : decide ((start : Int) + (size : Int) ≤ (p : Int)) = false := by simp; omega
                    have hs32 : (start : Int) + (size : Int) < 4294967296 := by omega
                    have hs33 : IntKind.u32.wrap ((start : Int) + (size : Int)) = (start : Int) + (size : Int) := by rw [IntKind.wrap_u32']; omega
                    clear hf13 hd13 x0 x1 x2 x3
                    have P4 := hid p4
                    have P5 := hid p5
                    have P6 := hid p6
                    have P2 := hid p2
                    have P3 := hid p3
                    have H6 := hid h6
                    clear p4 p5 p6 p2 p3 h6
                    go_upto_region 23 with fail
                    go_cut [98] (fun bv wx => bv = .bool false ∧ wx = w13)
                    case first =>
                      go_wp2_with fail
                      go_meet
                      exact ⟨by simp [hq4, hs33], rfl⟩
                    case rest =>
                      obtain ⟨hbv, hwx⟩ := hcut
                      subst hbv hwx
                      go_wp2_with fail
                      refine (dtake_any D.s D.g ⟨d.src, c.rng / total, d.code, false⟩ start size _ HD13.out (by omega) (by omega) (fun _ => ⟨P4.out, P5.out, by have := P6.out; show c.rng / total * size < _; omega⟩)).mono ?_
                      rintro e w14 ⟨rfl, hf14, hd14⟩
                      have ht : (⟨d.src, c.rng / total, d.code, false⟩ : RD Nat).take D.s.nx (start : Nat) (size : Nat) = RD.plevel D.s.nx ⟨d.src, c.rng / total * size, d.code - start * (c.rng / total), false⟩ := if_neg (show ¬ (false = true) from Bool.false_ne_true)
                      rw [ht] at hd14
                      have s14 := hf14.size
                      have HD14 := hid hd14
                      have HNEW := hid (HNW.out w14 _ Y3.out (HF13.out.trans hf14) hd14)
                      have hbad : (RD.plevel D.s.nx ⟨d.src, c.rng / total * size, d.code - start * (c.rng / total), false⟩).bad = false := Y3.out.bad
                      have HBAD := hid hbad
                      clear hf14 hd14 ht hbad
                      go_wp2_with fail
                      refine (dbadq_any D.s D.g _ _ HD14.out).mono ?_
                      rintro e w15 ⟨rfl, rfl⟩
                      rw [HBAD.out]
                      go_wp2_with fail
                      go_roundw
                      case rel => exact ⟨k + 1, by omega, by omega, by omega, by go_num, by omega, _, HNEW.out⟩
                      case measure => simp [intOf]; omega
                  · dsimp only at h1 h2 h3 h4 h5 h6
                    subst h1
                    obtain ⟨b1, b2⟩ := sync_pbit HT.out SY.out HOK.out HBY.out start size total HR2.out HRE.out
                    have B1 := hid (show (d.pbit D.s.nx size total).1 = start from b1)
                    have B2 := hid (show Sync gg (c.put ⟨1, start, size, total⟩) (d.pbit D.s.nx size total).2 from b2)
                    clear b1 b2
                    have H6 := hid h6
                    clear h6
                    have hwt : IntKind.i64.wrap (total : Int) = (total : Int) := by rw [IntKind.wrap_i64]; omega
                    have hws : IntKind.i64.wrap (start : Int) = (start : Int) := by rw [IntKind.wrap_i64]; omega
                    go_upto_region 20 with fail
                    go_cut [81] (fun bv wx => bv = .bool false ∧ w10.heap.size ≤ wx.heap.size ∧ ∃ d', StB D w wx l (k + 1) d')
                    case first =>
                      go_region_with (go_at_call 19; (try rw [hwt]); (refine Calls.mono (dpbit_any D.s D.g d size total w12.drew (DecIs.drew SD.out) h4 h5 H6.out HGD.out) ?_); rintro e w13 ⟨rfl, hf13, hd13⟩; rw [B1.out]; have z1 := Fr.cell (p := ⟨wr.heap.size, 1, none⟩) (w := w12.drew) hf13 (by exact x1) hnf; have s13 := hf13.size; clear x0 x1 x2 x3)
                      all_goals
                        have hf13' : Fr (decFoot D.s D.g) w12 w13 := Fr.trans (Fr.refl _ _).drew hf13
                        have s13' := hf13'.size
                        have HNEW := hid (HNW.out w13 _ B2.out hf13' hd13)
                        clear hf13 hf13' hd13
                        go_wp2_with fail
                        go_meet
                        exact ⟨by simp, by omega, _, HNEW.out⟩
                    case rest =>
                      obtain ⟨hbv, hsz2, d', hst2⟩ := hcut
                      subst hbv
                      have HST3 := hid hst2
                      clear hst2
                      go_wp2_with fail
                      go_roundw
                      case rel => exact ⟨k + 1, by omega, by omega, by omega, by go_num, hsz2, _, HST3.out⟩
                      case measure => simp [intOf]; omega
              · have e : k = 2000 := by omega
                subst e
                have em : m = 2000 := by have := HMm.out; omega
                go_wp2_with fail
                go_meet
                rw [em]; exact ⟨_, Hst.out⟩
            · have e : k = nl := by omega
              subst e
              have em : m = k := by have := HMm.out; omega
              go_wp2_with fail
              go_meet
              rw [em]; exact ⟨_, Hst.out⟩
      case rest =>
        as_aux_lemma =>
          obtain ⟨d, hst⟩ := hcut
          have HST2 := hid hst
          clear hst S11
          have hdone : d.done = true := by
            unfold RD.done
            rw [HST2.out.syn.bad, HST2.out.syn.code, HT.out.val, Int.sub_self]
            rfl
          have HDn := hid hdone
          clear hdone
          go_wp2_with fail
          refine (ddone_any D.s D.g d _ HST2.out.dec).mono ?_
          rintro e w14 ⟨rfl, rfl⟩
          rw [HDn.out]
          have hsrc : d.src = L := by rw [HST2.out.syn.src, HLe.out]
          obtain ⟨i1, i2, i3, i4⟩ := HST2.out.dec.src
          go_wp2_with fail
          rw [← HFG.out]
          refine (feedLeft_any D.fg D.a (L + nm) D.c d.src _ (by omega) i1 i3).mono ?_
          rintro e w15 ⟨rfl, hf15⟩
          rw [hsrc, show L + nm - L = nm by omega]
          have F15 := hid (HST2.out.fr.trans hf15)
          clear hf15 i3 i4
          go_wp2_with fail
          go_ret
          exact ⟨rfl, F15.out⟩
end Go.Proofs.Ytnkdeedbgkcbfaa
