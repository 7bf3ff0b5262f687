/- The walk through RencBack. -/
import Derived.Test.YtomjagibcdneiaaBack2
namespace Go.Proofs.Ytomjagibcdneiaa
open Go.RowKit

theorem deco_fr {lo hi : Nat} {f : Nat → Int} {n : Nat} {D : Deco lo hi f n} {w w5 w6 : World} {gq : Nat} (h : Fr Non w w5) (h6 : Fr (bitFoot D.s D.g gq) w5 w6) (hlo : w.heap.size ≤ lo) (hgq : w.heap.size ≤ gq) : Fr Non w w6 :=
  h.then h6 (fun i hi hk => by
    rcases hk with hk | hk
    · have := D.low i hk; omega
    · omega)
theorem feedLeft_any (g : Nat) (a : Option Addr) (n c at_ : Nat) (w : World) (hn : n ≤ 1048576) (hat : at_ ≤ n) (h : FeedAt w g a n c at_) :
    Calls Try.prog 33 #[.pointer (some ⟨g, 0, none⟩)] w fun e w' => e = .returned (.int .i64 ((n - at_ : Nat) : Int)) ∧ Fr Non w w' := by
  have c0 := blk_cell h (j := 0) (v := .slice a n c) rfl
  have c1 := blk_cell h (j := 1) (v := .int .i64 at_) rfl
  have e : ((n : Int) - (at_ : Int)) = ((n - at_ : Nat) : Int) := by omega
  go_enter Try.func33, Try.ntmps33
  go_wp2_with fail
  try (go_quiet (fail))
  try (go_wp2_with fail)
  go_ret
  exact ⟨by rw [← e]; rfl, by repeat (first | exact Fr.refl _ _ | refine Fr.drewN ?_ _ | refine Fr.drew ?_)⟩
theorem newF_fg (w0 w : World) (n : Nat) (f : Nat → Int) (hf : ∀ i, i < n → 0 ≤ f i ∧ f i < 256) (g : Nat) (a' : Option Addr) (c' : Nat) (hw : Fr Non w0 w) (hi : (feed g a' n c' f hf).I w 0)
    (hl : ∀ k, (feed g a' n c' f hf).foot k → w0.heap.size ≤ k ∧ k < w.heap.size) :
    Calls Try.prog 25 #[.iface 52 (.pointer (some ⟨g, 0, none⟩))] w fun e w' => ∃ D : Deco w0.heap.size w'.heap.size f n, D.fg = g ∧ e = .returned (.pointer (some ⟨D.g, 0, none⟩)) ∧ Fr Non w0 w' ∧ D.Is w' (RD.new (feedNx f n) 0) := by
  refine (dnew_any (feed g a' n c' f hf) 0 w hi (fun k hk => (hl k hk).2)).mono ?_
  rintro e w' ⟨gd, h1, h2, h3, h4, h5⟩
  have hs := hw.size
  have hs2 := h4.size
  refine ⟨⟨g, a', c', gd, hf, fun k hk => ?_⟩, rfl, h3, ?_, h5⟩
  · rcases hk with rfl | hk
    · exact ⟨by omega, h2⟩
    · have := hl k hk; exact ⟨this.1, by omega⟩
  · exact hw.then h4 (fun i hi hk => by have := hl i hk; omega)
/-- the decoder, its probabilities and the coder's, behind k questions. -/
structure StB {lo hi : Nat} {f : Nat → Int} {n : Nat} (D : Deco lo hi f n) (gp gq : Nat) (w wr : World) (l : Nat → Ask) (m k : Nat) (d : RD Nat) : Prop where
  fr : Fr Non w wr
  dec : D.Is wr d
  blq : wr.heap[gq]? = some (.cells (arr .u16 600 (encR l k).2) 22)
  blp : wr.heap[gp]? = some (.cells (arr .u16 600 (encR l m).2) 22)
  syn : Sync f (encR l k).1 d
theorem StB.any {lo hi : Nat} {f : Nat → Int} {n : Nat} {D : Deco lo hi f n} {gp gq : Nat} {w wr w' : World} {l : Nat → Ask} {m k : Nat} {d : RD Nat} (h : StB D gp gq w wr l m k d) (hf : Fr Non wr w') : StB D gp gq w w' l m k d :=
  ⟨h.fr.trans hf, Deco.keep h.dec hf (fun _ _ _ e => e), hf.blk h.blq id, hf.blk h.blp id, h.syn⟩

set_option maxRecDepth 100000 in
set_option maxHeartbeats 8000000 in
theorem rencBack_walk (al : Option Addr) (nl cl : Nat) (l : Nat → Ask) (am : Option Addr) (nm cm : Nat) (fm : Nat → Int) (w : World) (hnl : nl ≤ 9223372036854775807) (hl : AsksIn w.heap.size w al nl l) (hwf : ∀ i, i < nl → (l i).wf)
    (hnm : nm ≤ 4096) (hncm : nm ≤ cm) (hnilm : am = none → cm = 0) (hrm : RowIn w.heap.size .u8 w am nm fm) (hfm : ∀ i, i < nm → 0 ≤ fm i ∧ fm i < 256) :
    Calls Try.prog 11 #[.slice al nl cl, .slice am nm cm] w fun e w' => e = .returned (.bool true) ∧ Fr Non w w' := by
  have hn1 : ¬ (4096 : Int) < (nm : Int) := by omega
  have HL := hid hl
  have HW := hid hwf
  have HM := hid hrm
  have Hfm := hid hfm
  have Hnilm := hid hnilm
  clear hl hwf hrm hfm hnilm
  go_enter Try.func11, Try.ntmps11
  go_wp2_with fail
  refine (awake05_any _).mono ?_
  rintro e w1 ⟨rfl, hf1⟩
  have s1 := hf1.size
  have F1 := hid hf1
  clear hf1
  go_wp2_with fail
  refine (cnew_any _).mono ?_
  rintro e w2 ⟨g, rfl, hg0, hf2, hc2⟩
  have s2 := hf2.size
  have F2 := hid hf2
  have HC2 := hid hc2
  clear hf2 hc2
  go_wp2_with fail
  refine (fresh_any 600 _ (by decide)).mono ?_
  rintro e w4 ⟨gp, hgp, rfl, hf4, hb4⟩
  obtain ⟨A, hA, hA0, hs4⟩ := first_new w1 w F1.out F2.out HC2.out hf4 hgp hb4
  have S4 := hid hs4
  have HA := hid hA
  have HA0 := hid hA0
  clear hs4 hf4 hb4 hA hA0
  obtain ⟨m, hm⟩ : ∃ m, m = min nl 2000 := ⟨_, rfl⟩
  have HMm := hid hm
  clear hm
  go_upto_block 0 with fail
  go_cut [] (fun wx => StC A g gp w wx (encR l m) (96 * m))
  case first =>
    as_aux_lemma =>
      go_wp2_with fail
      go_loopw [7] (fun i wr => ∃ k : Nat, k ≤ nl ∧ k ≤ 2000 ∧ i = .int .i64 k ∧ StC A g gp w wr (encR l k) (96 * k)) (fun i _ => nl - (intOf i).toNat)
      case atStart => exact ⟨0, Nat.zero_le _, Nat.zero_le _, rfl, S4.out⟩
      case round =>
        obtain ⟨k, hk, hk5, rfl, hst⟩ := hrel
        have Hst := hid hst
        clear hst
        by_cases hlt : k < nl
        · by_cases hlt5 : k < 2000
          · obtain ⟨b, off, rfl, hb, c0, c1, c2, c3⟩ := (HL.out.fr Hst.out.fr (fun _ _ => id)).at hlt
            go_wp2_with fail
            refine (right_any _ _ _ _ _).mono ?_
            rintro e w5 ⟨rfl, hf5⟩
            have d0 := hf5.cell c0 id
            have d1 := hf5.cell c1 id
            have d2 := hf5.cell c2 id
            have d3 := hf5.cell c3 id
            have S5 := hid (Hst.out.any hf5)
            clear hf5 c0 c1 c2 c3
            have eR : Ask.rightB ⟨(l k).kind, (l k).at_, (l k).bits, (l k).val⟩ = (l k).rightB := rfl
            rw [eR]
            clear eR
            cases hR : (l k).rightB with
            | true =>
              have hR2 : (l k).Right := of_decide_eq_true hR
              have eE : encR l (k + 1) = (((encR l k).1.ask (encR l k).2 (l k)).2, ((encR l k).1.ask (encR l k).2 (l k)).1) := if_pos hR
              have HE := hid eE
              have HR := hid hR2
              clear hR hR2 eE
              go_wp2_with fail
              refine (S5.out.put HA.out HA0.out (by omega) (by omega) (l k) HR.out (HW.out k hlt)).mono ?_
              rintro e w7 ⟨rfl, hs7, _⟩
              rw [← HE.out] at hs7
              have S7 := hid hs7
              clear hs7 d0 d1 d2 d3
              go_wp2_with fail
              go_roundw
              case rel => exact ⟨k + 1, by omega, by omega, by go_num, S7.out⟩
              case measure => simp [intOf]; omega
            | false =>
              have eE : encR l (k + 1) = encR l k := if_neg (by rw [hR]; decide)
              have HE := hid eE
              clear hR eE
              go_wp2_with fail
              go_roundw
              case rel => exact ⟨k + 1, by omega, by omega, by go_num, by rw [HE.out]; exact { S5.out with ok := S5.out.ok.mono (by omega) }⟩
              case measure => simp [intOf]; omega
          · have e : k = 2000 := by omega
            subst e
            have em : m = 2000 := by have := HMm.out; omega
            go_wp2_with fail
            go_meet
            rw [em]; exact Hst.out
        · have e : k = nl := by omega
          subst e
          have em : m = k := by have := HMm.out; omega
          go_wp2_with fail
          go_meet
          rw [em]; exact Hst.out
  case rest =>
    as_aux_lemma =>
      have S5 := hid hcut
      have hm2 : m ≤ 2000 := by have := HMm.out; omega
      clear hcut S4
      go_wp2_with fail
      refine (cfinish_any A g (encR l m).1 _ S5.out.cod (S5.out.ok.fit.mono (by omega))).mono ?_
      rintro e w6 ⟨v6, rfl, ho6, hs6, hf6, hc6⟩
      obtain ⟨gx1, gx2, gx3⟩ := gives_out (S5.out.ok.fin S5.out.bytes)
      obtain ⟨a6, k6, rfl, hn6, hm6, hr6⟩ := ho6.rowN gx2
      have hlen : (encR l m).1.len ≤ 192005 := by have := S5.out.ok.size; unfold RC.len; omega
      have hbp6 := hf6.blk S5.out.blk (fun e => Out.no e HA.out)
      have F6 := hid (S5.out.fr.then hf6 (T := Out A) (fun i hi e => (Out.no e (HA0.out i hi)).elim))
      have HR6 := hid hr6
      have HBP6 := hid hbp6
      have HGX := hid gx3
      obtain ⟨L, hL⟩ : ∃ L, L = (encR l m).1.len := ⟨_, rfl⟩
      rw [← hL] at hlen hn6 HR6 ⊢
      have HLe := hid hL
      have HM6 := hid ((HM.out.fr F6.out (fun _ _ => id)).mono F6.out.size)
      have hnil6 : a6 = none → k6 = 0 := by
        intro e
        subst e
        rcases ho6.2 with ⟨h1, _⟩ | ⟨gg, cap', cur, h1, _⟩
        · have e2 := congrArg (fun v => match v with | .slice _ _ c => c | _ => 0) h1
          simpa using e2
        · have e2 := congrArg (fun v => match v with | .slice o _ _ => o.isSome | _ => true) h1
          simp at e2
      have HN6 := hid hnil6
      clear hf6 hc6 ho6 hs6 hr6 hbp6 gx1 gx2 gx3 hL hnil6 S5
      have F6' := F6.out
      have hbase : w.heap.size ≤ w6.heap.size := F6'.size
      go_wp2_with (first
        | (refine opAppendRow (some 50) rfl rfl (.tmp 48) (.tmp 49) 42 rfl w6.heap.size .u8 5 1 Try.underlying42 Try.info_u8 (.slice (some ⟨w6.heap.size, 0, none⟩) 0 0) [] rfl (Own.empty _ _ .u8 5 (Nat.le_refl _)) w6.heap.size a6 L k6 (fun i => ((encR l m).1.gives 5).out.getD i 0) rfl HN6.out hn6 (HR6.out.fr ((Fr.refl Non _).alloc _) (fun _ _ => id)) (by decide) (by simp; omega) (by simp) ?_; intro v7 w7 hown7 hg7; have F7 := clone_fr hg7; have s7 := F7.size)
        | (refine opAppendRow (some 52) rfl rfl (.tmp 50) (.tmp 51) 42 rfl w6.heap.size .u8 5 1 Try.underlying42 Try.info_u8 v7 _ rfl hown7 w6.heap.size am nm cm fm rfl Hnilm.out hncm (HM6.out.fr F7 (fun _ _ => id)) (by decide) (by simp; omega) (by omega) ?_; intro v8 w8 hown8 hg8))
      obtain ⟨ao, co, rfl, hlo, _, hro⟩ := hown8.rowN (n := L + nm) (by simp)
      obtain ⟨gg, hgg⟩ : ∃ gg : Nat → Int, gg = fun i => ([] ++ (List.range L).map (fun i => ((encR l m).1.gives 5).out.getD i 0) ++ (List.range nm).map fm).getD i 0 := ⟨_, rfl⟩
      rw [← hgg] at hro
      have hg1 : ∀ i, i < L → gg i = ((encR l m).1.gives 5).out.getD i 0 := by
        intro i hi
        rw [hgg]
        simp [List.getD, List.getElem?_append, hi]
      have hg2 : ∀ i, i < L + nm → 0 ≤ gg i ∧ gg i < 256 := by
        intro i hi
        by_cases h : i < L
        · rw [hg1 i h]
          obtain ⟨_, q2, q3⟩ := gives_out ((encR_ok l m).1.fin (encR_ok l m).2.1)
          have hi2 : i < ((encR l m).1.gives 5).out.length := by rw [q2, ← HLe.out]; exact h
          refine q3 _ ?_
          rw [show ((encR l m).1.gives 5).out.getD i 0 = ((encR l m).1.gives 5).out[i] by simp [List.getD, hi2]]
          exact List.getElem_mem hi2
        · have e : gg i = fm (i - L) := by
            rw [hgg]
            simp [List.getD, List.getElem?_append, h, show i - L < nm by omega]
          rw [e]; exact Hfm.out _ (by omega)
      have hf8 : Fr Non w6 w8 := F7.grown hg8 (fun i hi hlt => absurd (hown7.block i hi).1 (by omega))
      have s8 := hf8.size
      have HRO := hid hro
      have HG1 := hid hg1
      have HG2 := hid hg2
      have F8 := hid (F6.out.trans hf8)
      have HBP8 := hid (hf8.blk HBP6.out id)
      have hnil8 : ao = none → co = 0 := by
        intro e
        subst e
        rcases hown8.2 with ⟨h1, _⟩ | ⟨gg, cap', cur, h1, _⟩
        · have e2 := congrArg (fun v => match v with | .slice _ _ c => c | _ => 0) h1
          simpa using e2
        · have e2 := congrArg (fun v => match v with | .slice o _ _ => o.isSome | _ => true) h1
          simp at e2
      have Hnil8 := hid hnil8
      clear hown7 hg7 hown8 hg8 hro hgg hg1 hg2 hf8 hnil8 F7 F6'
      go_wp2_with fail
      refine (newFeed_any ao (L + nm) co gg _ (by omega) hlo Hnil8.out HRO.out).mono ?_
      intro e w9 h9
      obtain ⟨fg, a', c', rfl, hf9, hi9, hl9⟩ := feedNew_any _ _ _ HG2.out (by omega) _ _ h9
      have s9 := hf9.size
      have F9 := hid hf9
      have HI9 := hid hi9
      have HL9 := hid hl9
      clear h9 hf9 hi9 hl9
      go_wp2_with fail
      refine (newF_fg w8 w9 (L + nm) gg HG2.out fg a' c' F9.out HI9.out HL9.out).mono ?_
      rintro e w10 ⟨D, hfg, rfl, hf10, hd10⟩
      have HFG := hid hfg
      clear hfg
      have s10 := hf10.size
      have F10 := hid (F8.out.trans hf10)
      have HD10 := hid hd10
      have HBP10 := hid (hf10.blk HBP8.out id)
      clear hf10 hd10 HI9 HL9
      go_wp2_with fail
      refine (fresh_any 600 _ (by decide)).mono ?_
      rintro e w11 ⟨gq, hgq, rfl, hf11, hb11⟩
      have hgD : ¬ decFoot D.s D.g gq := fun h => by have := D.low gq h; omega
      have HgD := hid hgD
      have hTold : Told gg (L + nm) (encR l m).1 := told_of l m (L + nm) gg (by rw [← HLe.out]; omega) HG2.out (fun i hi => HG1.out i (by rw [HLe.out]; exact hi))
      obtain ⟨kk, hkk⟩ := encR_reach l 0 m
      rw [Nat.zero_add] at hkk
      have hs11 : StB D gp gq w w11 l m 0 (RD.new (feedNx gg (L + nm)) 0) := ⟨F10.out.trans hf11, Deco.keep HD10.out hf11 (fun _ _ _ e => e), hb11, hf11.blk HBP10.out id, sync_new hTold hkk⟩
      have S11 := hid hs11
      have HT := hid hTold
      have hgpq : gp < w8.heap.size := blk_lt HBP8.out
      clear hgD hs11 hf11 hb11 hTold hkk
      go_upto_block 2 with fail
      go_cut [] (fun wx => ∃ d, StB D gp gq w wx l m m d)
      case first =>
        as_aux_lemma =>
          go_wp2_with fail
          go_loopw [12] (fun i wr => ∃ k : Nat, k ≤ nl ∧ k ≤ 2000 ∧ k ≤ m ∧ i = .int .i64 k ∧ ∃ d, StB D gp gq w wr l m k d) (fun i _ => nl - (intOf i).toNat)
          case atStart => exact ⟨0, Nat.zero_le _, Nat.zero_le _, Nat.zero_le _, rfl, _, S11.out⟩
          case round =>
            obtain ⟨k, hk, hk5, hkm, rfl, d, hst⟩ := hrel
            have Hst := hid hst
            clear hst
            by_cases hlt : k < nl
            · by_cases hlt5 : k < 2000
              · obtain ⟨b, off, rfl, hb, c0, c1, c2, c3⟩ := (HL.out.fr Hst.out.fr (fun _ _ => id)).at hlt
                have hkm1 : k + 1 ≤ m := by have := HMm.out; omega
                go_wp2_with fail
                refine (right_any _ _ _ _ _).mono ?_
                rintro e w12 ⟨rfl, hf12⟩
                have hb12 := hf12.blk (blk_new wr (.cells #[.int .i64 (l k).kind, .int .i64 (l k).at_, .int .i64 (l k).bits, .int .u32 (l k).val] 39)) id
                have x0 := blk_cell hb12 (j := 0) (v := .int .i64 (l k).kind) rfl
                have x1 := blk_cell hb12 (j := 1) (v := .int .i64 (l k).at_) rfl
                have x2 := blk_cell hb12 (j := 2) (v := .int .i64 (l k).bits) rfl
                have x3 := blk_cell hb12 (j := 3) (v := .int .u32 (l k).val) rfl
                have S12 := hid (Hst.out.any (((Fr.refl Non wr).alloc _).trans hf12))
                have hwk := HW.out k hlt
                have eR : Ask.rightB ⟨(l k).kind, (l k).at_, (l k).bits, (l k).val⟩ = (l k).rightB := rfl
                rw [eR]
                clear hf12 hb12 c0 c1 c2 c3 eR
                cases hR : (l k).rightB with
                | false =>
                  have eE : encR l (k + 1) = encR l k := if_neg (by rw [hR]; decide)
                  have HS1 := hid (show StB D gp gq w w12 l m (k + 1) d from ⟨S12.out.fr, S12.out.dec, by rw [eE]; exact S12.out.blq, S12.out.blp, by rw [eE]; exact S12.out.syn⟩)
                  clear hR eE
                  go_wp2_with fail
                  go_roundw
                  case rel => exact ⟨k + 1, by omega, by omega, by omega, by go_num, _, HS1.out⟩
                  case measure => simp [intOf]; omega
                | true =>
                  have hR2 : (l k).Right := of_decide_eq_true hR
                  have eE : encR l (k + 1) = (((encR l k).1.ask (encR l k).2 (l k)).2, ((encR l k).1.ask (encR l k).2 (l k)).1) := if_pos hR
                  obtain ⟨kn, hkn⟩ := encR_reach l (k + 1) (m - (k + 1))
                  rw [show k + 1 + (m - (k + 1)) = m by omega] at hkn
                  obtain ⟨okk, byk, prk⟩ := encR_ok l k
                  have hsy := sync_ask HT.out hR2 S12.out.syn okk byk prk ⟨kn, by rw [eE] at hkn; exact hkn⟩
                  have hnew : ∀ w13 d', d' = (d.ask (feedNx gg (L + nm)) (encR l k).2 (l k)).2.2 → Fr (bitFoot D.s D.g gq) w12 w13 → D.Is w13 d' → w13.heap[gq]? = some (.cells (arr .u16 600 (d.ask (feedNx gg (L + nm)) (encR l k).2 (l k)).2.1) 22) → StB D gp gq w w13 l m (k + 1) d' := fun w13 d' hd' hf13 hdc hbq => by
                    refine ⟨deco_fr S12.out.fr hf13 (by omega) (by omega), hdc, ?_, ?_, ?_⟩
                    · rw [hbq, hsy.2.1, eE]
                    · refine hf13.blk S12.out.blp (fun e => ?_)
                      rcases e with e | e
                      · have := D.low _ e; omega
                      · omega
                    · rw [hd', eE]; exact hsy.2.2
                  have HNW := hid hnew
                  have HSY0 := hid hsy
                  have HPR := hid prk
                  clear hR eE hkn okk byk prk hsy hnew
                  generalize hq : (encR l k).2 = q at *
                  have S12d := hid S12.out.dec
                  have S12q := S12.out.blq
                  rw [hq] at S12q
                  have S12Q := hid S12q
                  clear S12q hq
                  generalize l k = sh at *
                  obtain ⟨kind, at0, bits, val⟩ := sh
                  obtain ⟨wf0, wf1, wf2, wf3, wf4⟩ := hwk
                  dsimp only at x0 x1 x2 x3 wf0 wf1 wf2 wf3 wf4
                  obtain ⟨V, rfl⟩ := Int.eq_ofNat_of_zero_le wf3
                  rcases hR2 with ⟨h1, h2, h3⟩ | ⟨h1, h2, h3, h4, h5⟩ | ⟨h1, h2, h3⟩
                  · dsimp only at h1 h2 h3
                    subst h1
                    obtain ⟨P, rfl⟩ := Int.eq_ofNat_of_zero_le h2
                    have hP : P < 600 := by omega
                    have hpa := HPR.out P hP
                    have eD : d.ask (feedNx gg (L + nm)) q ⟨0, P, bits, V⟩ = ((d.bit (feedNx gg (L + nm)) (q P)).1, upd q P (d.bit (feedNx gg (L + nm)) (q P)).2.1, (d.bit (feedNx gg (L + nm)) (q P)).2.2) := if_pos rfl
                    have hsy := HSY0.out
                    rw [eD] at hsy
                    obtain ⟨e1, _, e3⟩ := hsy
                    obtain ⟨bb, hbb⟩ : ∃ bb, bb = V % 2 := ⟨_, rfl⟩
                    have e1' : (d.bit (feedNx gg (L + nm)) (q P)).1 = bb := by rw [hbb]; exact e1
                    have hbI : (V : Int) % 2 = (bb : Int) := by omega
                    have hb2 : bb < 2 := by omega
                    have HSY := hid (show Sync gg _ (d.bit D.s.nx (q P)).2.2 from e3)
                    have HED := hid eD
                    have E1 := hid (show (d.bit D.s.nx (q P)).1 = bb from e1')
                    have hneq : ((bb : Int) != (V : Int) % 2) = false := by rw [hbI]; simp
                    clear e1 e1' e3 eD hbb HSY0
                    go_wp2_with fail
                    refine (dbit_any D.s D.g gq P _ _ d (q P) _ S12d.out HgD.out S12Q.out (arr_get _ _ _ hP) (by omega) (by omega)).mono ?_
                    rintro e w13 ⟨rfl, hf13, hd13, hb13⟩
                    rw [E1.out]
                    have HD := hid hd13
                    have HNEW := hid (HNW.out w13 _ (by rw [HED.out]; rfl) hf13 hd13 (by rw [HED.out]; rw [arr_set] at hb13; exact hb13))
                    clear hf13 hd13 hb13
                    go_wp2_with fail
                    refine (dbadq_any D.s D.g _ _ HD.out).mono ?_
                    rintro e w14 ⟨rfl, rfl⟩
                    rw [HSY.out.bad]
                    go_wp2_with fail
                    go_roundw
                    case rel => exact ⟨k + 1, by omega, by omega, by omega, by go_num, _, HNEW.out⟩
                    case measure => simp [intOf]; omega
                  · dsimp only at h1 h2 h3 h4 h5
                    obtain ⟨P, rfl⟩ := Int.eq_ofNat_of_zero_le h2
                    obtain ⟨B, rfl⟩ := Int.eq_ofNat_of_zero_le (a := bits) (by omega)
                    have hP : P < 340 := by omega
                    have hB2 : B ≤ 8 := by omega
                    have hB16 : B ≤ 16 := by omega
                    have hP8 : 2 ^ B ≤ 256 := by
                      have : 2 ^ B ≤ 2 ^ 8 := Nat.pow_le_pow_right (by decide) hB2
                      omega
                    have hBL : 2 ^ B ≤ 600 - P := by omega
                    have HPr2 : Hid (Pr (fun j => q (P + j)) (2 ^ B)) := fun j hj => HPR.out (P + j) (by omega)
                    have HCell : Hid (∀ j, j < 2 ^ B → (arr .u16 600 q)[P + j]? = some (.int .u16 (q (P + j)))) := fun j hj => arr_get _ _ _ (by omega)
                    have hA6 : ¬ 600 = P := by omega
                    have hA0 : (0 : Int) ≤ (P : Int) := by omega
                    have hA1 : (P : Int) ≤ 600 := by omega
                    obtain ⟨PB, hPB⟩ : ∃ PB, PB = 2 ^ B := ⟨_, rfl⟩
                    have hPB1 : 1 ≤ PB := by rw [hPB]; exact Nat.pow_pos (by decide)
                    have hPB2 : PB ≤ 256 := by omega
                    have hPBI : (2 : Int) ^ B = (PB : Int) := by rw [hPB]; simp
                    have hB31' : (B : Int) < 32 := by omega
                    have HPB := hid hPB
                    have HBL := hid hBL
                    have HP8 := hid hP8
                    clear hPB hBL hP8
                    rcases h1 with hk | hk
                    · subst hk
                      have eD : d.ask (feedNx gg (L + nm)) q ⟨1, P, B, V⟩ = ((d.tree (feedNx gg (L + nm)) B (fun j => q (P + j))).1, spliceQ q P (2 ^ B) (d.tree (feedNx gg (L + nm)) B (fun j => q (P + j))).2.1, (d.tree (feedNx gg (L + nm)) B (fun j => q (P + j))).2.2) := by
                        unfold RD.ask; rw [if_neg (by show ¬ (1 : Int) = 0; decide), if_pos rfl]; rfl
                      have hsy := HSY0.out
                      rw [eD] at hsy
                      obtain ⟨e1, _, e3⟩ := hsy
                      obtain ⟨bb, hbb⟩ : ∃ bb, bb = V % 2 ^ B := ⟨_, rfl⟩
                      have e1' : (d.tree (feedNx gg (L + nm)) B (fun j => q (P + j))).1 = bb := by rw [hbb]; exact e1
                      have hb2 : bb < 256 := by have h8 := HP8.out; rw [hbb]; have := Nat.mod_lt V (show 0 < 2 ^ B from Nat.pow_pos (by decide)); omega
                      have hbI : (V : Int) % (PB : Int) = (bb : Int) := by rw [hbb, HPB.out]; simp
                      have HSY := hid (show Sync gg _ (d.tree D.s.nx B (fun j => q (P + j))).2.2 from e3)
                      have HED := hid eD
                      have E1 := hid (show (d.tree D.s.nx B (fun j => q (P + j))).1 = bb from e1')
                      have hneq : ((bb : Int) != (V : Int) % (PB : Int)) = false := by rw [hbI]; simp
                      clear e1 e1' e3 eD hbb HSY0
                      go_wp2_with fail
                      go_region_with (go_at_call 35; refine (dtree_any D.s D.g gq P (600 - P) (600 - P) B _ _ d (fun j => q (P + j)) _ (by first | exact S12d.out.drew | exact S12d.out) HgD.out (by exact S12Q.out) HCell.out HPr2.out hB16 HBL.out (by omega)).mono ?_; rintro e w13 ⟨rfl, hf13, hd13, cs13, hb13, hw13⟩; rw [E1.out])
                      all_goals
                        have hf13' : Fr (bitFoot D.s D.g gq) w12 w13 := by
                          refine Fr.trans ?_ hf13
                          first | exact Fr.refl _ _ | exact (Fr.refl _ _).drew
                        rw [win_arr hw13 (by have := HP8.out; omega)] at hb13
                        have HD := hid hd13
                        have HNEW := hid (HNW.out w13 _ (by rw [HED.out]; rfl) hf13' hd13 (by rw [HED.out]; exact hb13))
                        clear hf13 hf13' hd13 hb13 hw13
                        go_wp2_with fail
                        refine (dbadq_any D.s D.g _ _ HD.out).mono ?_
                        rintro e w14 ⟨rfl, rfl⟩
                        rw [HSY.out.bad]
                        go_wp2_with fail
                        go_roundw
                        case rel => exact ⟨k + 1, by omega, by omega, by omega, by go_num, _, HNEW.out⟩
                        case measure => simp [intOf]; omega
                    · subst hk
                      have eD : d.ask (feedNx gg (L + nm)) q ⟨2, P, B, V⟩ = ((d.rev (feedNx gg (L + nm)) B (fun j => q (P + j))).1, spliceQ q P (2 ^ B) (d.rev (feedNx gg (L + nm)) B (fun j => q (P + j))).2.1, (d.rev (feedNx gg (L + nm)) B (fun j => q (P + j))).2.2) := by
                        unfold RD.ask; rw [if_neg (by show ¬ (2 : Int) = 0; decide), if_neg (by show ¬ (2 : Int) = 1; decide), if_pos rfl]; rfl
                      have hsy := HSY0.out
                      rw [eD] at hsy
                      obtain ⟨e1, _, e3⟩ := hsy
                      obtain ⟨bb, hbb⟩ : ∃ bb, bb = V % 2 ^ B := ⟨_, rfl⟩
                      have e1' : (d.rev (feedNx gg (L + nm)) B (fun j => q (P + j))).1 = bb := by rw [hbb]; exact e1
                      have hb2 : bb < 256 := by have h8 := HP8.out; rw [hbb]; have := Nat.mod_lt V (show 0 < 2 ^ B from Nat.pow_pos (by decide)); omega
                      have hbI : (V : Int) % (PB : Int) = (bb : Int) := by rw [hbb, HPB.out]; simp
                      have HSY := hid (show Sync gg _ (d.rev D.s.nx B (fun j => q (P + j))).2.2 from e3)
                      have HED := hid eD
                      have E1 := hid (show (d.rev D.s.nx B (fun j => q (P + j))).1 = bb from e1')
                      have hneq : ((bb : Int) != (V : Int) % (PB : Int)) = false := by rw [hbI]; simp
                      clear e1 e1' e3 eD hbb HSY0
                      go_wp2_with fail
                      go_region_with (go_at_call 36; refine (drev_any D.s D.g gq P (600 - P) (600 - P) B _ _ d (fun j => q (P + j)) _ (by first | exact S12d.out.drew | exact S12d.out) HgD.out (by exact S12Q.out) HCell.out HPr2.out hB16 HBL.out (by omega)).mono ?_; rintro e w13 ⟨rfl, hf13, hd13, cs13, hb13, hw13⟩; rw [E1.out])
                      all_goals
                        have hf13' : Fr (bitFoot D.s D.g gq) w12 w13 := by
                          refine Fr.trans ?_ hf13
                          first | exact Fr.refl _ _ | exact (Fr.refl _ _).drew
                        rw [win_arr hw13 (by have := HP8.out; omega)] at hb13
                        have HD := hid hd13
                        have HNEW := hid (HNW.out w13 _ (by rw [HED.out]; rfl) hf13' hd13 (by rw [HED.out]; exact hb13))
                        clear hf13 hf13' hd13 hb13 hw13
                        go_wp2_with fail
                        refine (dbadq_any D.s D.g _ _ HD.out).mono ?_
                        rintro e w14 ⟨rfl, rfl⟩
                        rw [HSY.out.bad]
                        go_wp2_with fail
                        go_roundw
                        case rel => exact ⟨k + 1, by omega, by omega, by omega, by go_num, _, HNEW.out⟩
                        case measure => simp [intOf]; omega
                  · dsimp only at h1 h2 h3
                    subst h1
                    obtain ⟨B, rfl⟩ := Int.eq_ofNat_of_zero_le h2
                    have hB32 : B ≤ 32 := by omega
                    have eD : d.ask (feedNx gg (L + nm)) q ⟨3, at0, B, V⟩ = ((d.str (feedNx gg (L + nm)) B).1, q, (d.str (feedNx gg (L + nm)) B).2) := by
                      unfold RD.ask; rw [if_neg (by show ¬ (3 : Int) = 0; decide), if_neg (by show ¬ (3 : Int) = 1; decide), if_neg (by show ¬ (3 : Int) = 2; decide)]; rfl
                    have hsy := HSY0.out
                    rw [eD] at hsy
                    obtain ⟨e1, _, e3⟩ := hsy
                    have HSY := hid (show Sync gg _ (d.str D.s.nx B).2 from e3)
                    have HED := hid eD
                    have e1x : (d.str (feedNx gg (L + nm)) B).1 = V % 2 ^ B := e1
                    clear e1 e3 eD HSY0
                    by_cases hB31 : B < 32
                    · obtain ⟨PB, hPB⟩ : ∃ PB, PB = 2 ^ B := ⟨_, rfl⟩
                      have hPB1 : 1 ≤ PB := by rw [hPB]; exact Nat.pow_pos (by decide)
                      have hPB2 : PB ≤ 2147483648 := by
                        have : 2 ^ B ≤ 2 ^ 31 := Nat.pow_le_pow_right (by decide) (by omega)
                        omega
                      have hPBI : (2 : Int) ^ B = (PB : Int) := by rw [hPB]; simp
                      obtain ⟨bb, hbb⟩ : ∃ bb, bb = V % PB := ⟨_, rfl⟩
                      have E1 := hid (show (d.str D.s.nx B).1 = bb by rw [hbb, hPB]; exact e1x)
                      have hbI : (V : Int) % (PB : Int) = (bb : Int) := by rw [hbb]; simp
                      have hneq : ((bb : Int) != (V : Int) % (PB : Int)) = false := by rw [hbI]; simp
                      have hB31' : (B : Int) < 32 := by omega
                      clear e1x hbb hPB
                      go_wp2_with fail
                      refine (dstr_any D.s D.g B d _ S12d.out hB32).mono ?_
                      rintro e w13 ⟨rfl, hf13, hd13⟩
                      rw [E1.out]
                      have HD := hid hd13
                      have HNEW := hid (HNW.out w13 _ (by rw [HED.out]; rfl) (hf13.mono fun _ _ h => .inl h) hd13 (by rw [HED.out]; exact hf13.blk S12Q.out HgD.out))
                      clear hf13 hd13
                      go_wp2_with fail
                      refine (dbadq_any D.s D.g _ _ HD.out).mono ?_
                      rintro e w14 ⟨rfl, rfl⟩
                      rw [HSY.out.bad]
                      go_wp2_with fail
                      go_roundw
                      case rel => exact ⟨k + 1, by omega, by omega, by omega, by go_num, _, HNEW.out⟩
                      case measure => simp [intOf]; omega
                    · have hB : B = 32 := by omega
                      subst hB
                      have E1 := hid (show (d.str D.s.nx 32).1 = V by rw [show (d.str D.s.nx 32).1 = V % 2 ^ 32 from e1x]; omega)
                      clear e1x hB31
                      go_wp2_with fail
                      refine (dstr_any D.s D.g 32 d _ S12d.out hB32).mono ?_
                      rintro e w13 ⟨rfl, hf13, hd13⟩
                      rw [E1.out]
                      have HD := hid hd13
                      have HNEW := hid (HNW.out w13 _ (by rw [HED.out]; rfl) (hf13.mono fun _ _ h => .inl h) hd13 (by rw [HED.out]; exact hf13.blk S12Q.out HgD.out))
                      clear hf13 hd13
                      go_wp2_with fail
                      refine (dbadq_any D.s D.g _ _ HD.out).mono ?_
                      rintro e w14 ⟨rfl, rfl⟩
                      rw [HSY.out.bad]
                      go_wp2_with fail
                      go_roundw
                      case rel => exact ⟨k + 1, by omega, by omega, by omega, by go_num, _, HNEW.out⟩
                      case measure => simp [intOf]; omega
              · have e : k = 2000 := by omega
                subst e
                have em : m = 2000 := by have := HMm.out; omega
                go_wp2_with fail
                go_meet
                rw [em] at Hst ⊢; exact ⟨_, Hst.out⟩
            · have e : k = nl := by omega
              subst e
              have em : m = k := by have := HMm.out; omega
              go_wp2_with fail
              go_meet
              rw [em] at Hst ⊢; exact ⟨_, Hst.out⟩
      case rest =>
        as_aux_lemma =>
          obtain ⟨d, hst⟩ := hcut
          have HST := hid hst
          clear hst S11
          go_wp2_with fail
          go_loopw [16] (fun i wr => ∃ k : Nat, k ≤ 600 ∧ i = .int .i64 k ∧ StB D gp gq w wr l m m d) (fun i _ => 600 - (intOf i).toNat)
          case atStart => exact ⟨0, Nat.zero_le _, rfl, HST.out⟩
          case round =>
            obtain ⟨k, hk, rfl, hst⟩ := hrel
            by_cases hlt : k < 600
            · have y1 := blk_cell hst.blp (arr_get .u16 600 _ hlt)
              have y2 := blk_cell hst.blq (arr_get .u16 600 _ hlt)
              have HST2 := hid hst
              have h0 : (0 : Int) ≤ (k : Int) := by omega
              have h1 : (k : Int) < 600 := by omega
              clear hst
              go_wp2_with fail
              go_quiet (fail)
              go_wp2_with fail
              go_roundw
              case rel => exact ⟨k + 1, by omega, by go_num, HST2.out.any ((Fr.refl _ _).drewN _)⟩
              case measure => simp [intOf]; omega
            · have e : k = 600 := by omega
              subst e
              have HST2 := hid hst
              clear hst
              go_wp2_with fail
              have hdone : d.done = true := by
                unfold RD.done
                rw [HST2.out.syn.bad, HST2.out.syn.code, HT.out.val, Int.sub_self]
                rfl
              have HDn := hid hdone
              clear hdone
              refine (ddone_any D.s D.g d _ HST2.out.dec).mono ?_
              rintro e w14 ⟨rfl, rfl⟩
              rw [HDn.out]
              have hsrc : d.src = L := by rw [HST2.out.syn.src, HLe.out]
              obtain ⟨i1, i2, i3, i4⟩ := HST2.out.dec.src
              go_wp2_with fail
              rw [← HFG.out]
              refine (feedLeft_any D.fg D.a (L + nm) D.c d.src _ (by omega) i1 i3).mono ?_
              rintro e w15 ⟨rfl, hf15⟩
              rw [hsrc, show L + nm - L = nm by omega]
              have F15 := hid (HST2.out.fr.trans hf15)
              clear hf15 i3 i4
              go_wp2_with fail
              go_ret
              exact ⟨rfl, F15.out⟩
end Go.Proofs.Ytomjagibcdneiaa
