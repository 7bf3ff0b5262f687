/- The walk through Bcj2Flows. -/
import Derived.Test.YtphdnfilenkanaaBqXQ
namespace Go.Proofs.Ytphdnfilenkanaa
open Go.RowKit

theorem next_again {R : Four} {f : FQ} (h : (f.next R.L).2.1 = false) : ((f.next R.L).2.2).bad = true ∨ ((f.next R.L).2.2).told = ((f.next R.L).2.2).size := by
  by_cases hov : f.bad = true ∨ f.told = f.size
  · rw [nextQ_over hov]; exact hov
  · by_cases hw : 0 < f.waits
    · rw [nextQ_wait hov hw] at h; cases h
    · obtain ⟨r, hr⟩ : ∃ r, r = R.L.s0.nx f.m := ⟨_, rfl⟩
      obtain ⟨y, ok, m'⟩ := r
      cases ok with
      | false => rw [nextQ_short hov hw hr.symm]; exact .inl rfl
      | true =>
        exfalso
        have plain : (whichQ f.ahead y = none ∨ ¬ f.told + 1 < f.size) → False := fun hk => by
          rw [nextQ_plain hov hw hr.symm hk] at h; cases h
        cases hk : whichQ f.ahead y with
        | none => exact plain (.inl hk)
        | some k =>
          by_cases hs : f.told + 1 < f.size
          · rw [nextQ_bit hov hw hr.symm hk hs] at h
            split at h <;> cases h
          · exact plain (.inr hs)
set_option maxRecDepth 100000 in
set_option maxHeartbeats 8000000 in
theorem bcj2Flows_walk (q : Fq) (x : Int) (w : World) (h : q.wf w) (hx : (Lit.int .i64 x).wf = true) :
    Calls Try.prog 6 #[q.val, .int .i64 x] w fun e w' => e = .returned (.bool true) ∧ Fr Non w w' := by
  obtain ⟨a0, a1, a2, a3, n0, n1, n2, n3, c0, c1, c2, c3, F0, F1, F2, F3⟩ := q
  obtain ⟨hx0, hx1⟩ := wf_i64 hx
  have HWF := hid h
  clear h hx
  unfold Fq.val
  dsimp only
  go_enter Try.func6, Try.ntmps6
  go_wp2_with fail
  refine (awake15_any _).mono ?_
  rintro e w1 ⟨rfl, hf1⟩
  have hb1 := hf1.blk (blk_new w (.cells #[.slice a0 n0 c0, .slice a1 n1 c1, .slice a2 n2 c2, .slice a3 n3 c3] 24)) id
  have k0 := blk_cell hb1 (j := 0) (v := .slice a0 n0 c0) rfl
  have k1 := blk_cell hb1 (j := 1) (v := .slice a1 n1 c1) rfl
  have k2 := blk_cell hb1 (j := 2) (v := .slice a2 n2 c2) rfl
  have k3 := blk_cell hb1 (j := 3) (v := .slice a3 n3 c3) rfl
  have F1' := hid (show Fr Non w w1 from ((Fr.refl Non w).alloc _).trans hf1)
  have HB1 := hid hb1
  clear hf1 hb1
  by_cases l0 : 8192 < n0
  · have g0 : (8192 : Int) < (n0 : Int) := by omega
    clear l0
    go_wp2_with fail
    go_ret
    exact ⟨rfl, F1'.out⟩
  have g0 : ¬ (8192 : Int) < (n0 : Int) := by omega
  by_cases l1 : 8192 < n1
  · have g1 : (8192 : Int) < (n1 : Int) := by omega
    clear l1
    go_wp2_with fail
    go_ret
    exact ⟨rfl, F1'.out⟩
  have g1 : ¬ (8192 : Int) < (n1 : Int) := by omega
  by_cases l2 : 8192 < n2
  · have g2 : (8192 : Int) < (n2 : Int) := by omega
    clear l2
    go_wp2_with fail
    go_ret
    exact ⟨rfl, F1'.out⟩
  have g2 : ¬ (8192 : Int) < (n2 : Int) := by omega
  by_cases l3 : 8192 < n3
  · have g3 : (8192 : Int) < (n3 : Int) := by omega
    clear l3
    go_wp2_with fail
    go_ret
    exact ⟨rfl, F1'.out⟩
  have g3 : ¬ (8192 : Int) < (n3 : Int) := by omega
  obtain ⟨R, rfl, rfl, rfl, rfl, h4⟩ : ∃ R : Four, n0 = R.n0 ∧ n1 = R.n1 ∧ n2 = R.n2 ∧ n3 = R.n3 ∧ FourAt R w1.heap.size w1 a0 a1 a2 a3 c0 c1 c2 c3 :=
    ⟨⟨n0, n1, n2, n3, F0, F1, F2, F3, HWF.out.r0.2.2.2.2, HWF.out.r1.2.2.2.2, HWF.out.r2.2.2.2.2, HWF.out.r3.2.2.2.2⟩, rfl, rfl, rfl, rfl,
      FourAt.mono (B := w.heap.size) ⟨HWF.out.r0.2.2.2.1.fr F1'.out (fun _ _ e => e), HWF.out.r1.2.2.2.1.fr F1'.out (fun _ _ e => e), HWF.out.r2.2.2.2.1.fr F1'.out (fun _ _ e => e), HWF.out.r3.2.2.2.1.fr F1'.out (fun _ _ e => e), HWF.out.r0.1, HWF.out.r1.1, HWF.out.r2.1, HWF.out.r3.1, HWF.out.r0.2.2.1, HWF.out.r1.2.2.1, HWF.out.r2.2.2.1, HWF.out.r3.2.2.1, by show n0 ≤ _; omega, by show n1 ≤ _; omega, by show n2 ≤ _; omega, by show n3 ≤ _; omega⟩ F1'.out.size⟩
  have H4 := hid h4
  clear h4 l0 l1 l2 l3
  go_upto_region 5 with fail
  have hx63 : x.toNat ≤ 9223372036854775807 := by omega
  go_cut [5] (fun v wx => MadeQ R x.toNat w1 v wx)
  case first =>
    go_region_held3 (fun wx => wx.cell? ⟨w.heap.size, 0, none⟩ = some (.slice a0 R.n0 c0) ∧ wx.cell? ⟨w.heap.size, 1, none⟩ = some (.slice a1 R.n1 c1) ∧ wx.cell? ⟨w.heap.size, 2, none⟩ = some (.slice a2 R.n2 c2) ∧ wx.cell? ⟨w.heap.size, 3, none⟩ = some (.slice a3 R.n3 c3)) (first | exact kk | exact ⟨Fr.cell (S := Non) (by repeat (first | exact Fr.refl _ _ | refine Fr.drew ?_ | refine Fr.trans ?_ (by assumption))) k0 (fun e => e), Fr.cell (S := Non) (by repeat (first | exact Fr.refl _ _ | refine Fr.drew ?_ | refine Fr.trans ?_ (by assumption))) k1 (fun e => e), Fr.cell (S := Non) (by repeat (first | exact Fr.refl _ _ | refine Fr.drew ?_ | refine Fr.trans ?_ (by assumption))) k2 (fun e => e), Fr.cell (S := Non) (by repeat (first | exact Fr.refl _ _ | refine Fr.drew ?_ | refine Fr.trans ?_ (by assumption))) k3 (fun e => e)⟩) (first
      | (go_at_call 16; (first
          | (with_reducible refine (newFeed_any a0 R.n0 c0 R.F0 _ (by have := H4.out.m0; omega) H4.out.l0 H4.out.z0 (H4.out.r0.up (Nat.le_refl _) (by repeat (first | exact Fr.refl _ _ | refine Fr.drew ?_ | refine Fr.trans ?_ (by assumption))))).mono ?_; intro e x0 h0; obtain ⟨g0, b0, d0, rfl, hf0, hi0, hl0⟩ := feedNew_q _ _ _ R.h0 (by have := H4.out.m0; omega) _ _ h0; have HI0 := hid hi0; have HL0 := hid hl0; clear h0 hi0 hl0)
          | (with_reducible refine (newFeed_any a1 R.n1 c1 R.F1 _ (by have := H4.out.m1; omega) H4.out.l1 H4.out.z1 (H4.out.r1.up (Nat.le_refl _) (by repeat (first | exact Fr.refl _ _ | refine Fr.drew ?_ | refine Fr.trans ?_ (by assumption))))).mono ?_; intro e x1 h1; obtain ⟨g1, b1, d1, rfl, hf1, hi1, hl1⟩ := feedNew_q _ _ _ R.h1 (by have := H4.out.m1; omega) _ _ h1; have HI1 := hid hi1; have HL1 := hid hl1; clear h1 hi1 hl1)
          | (with_reducible refine (newFeed_any a2 R.n2 c2 R.F2 _ (by have := H4.out.m2; omega) H4.out.l2 H4.out.z2 (H4.out.r2.up (Nat.le_refl _) (by repeat (first | exact Fr.refl _ _ | refine Fr.drew ?_ | refine Fr.trans ?_ (by assumption))))).mono ?_; intro e x2 h2; obtain ⟨g2, b2, d2, rfl, hf2, hi2, hl2⟩ := feedNew_q _ _ _ R.h2 (by have := H4.out.m2; omega) _ _ h2; have HI2 := hid hi2; have HL2 := hid hl2; clear h2 hi2 hl2)
          | (with_reducible refine (newFeed_any a3 R.n3 c3 R.F3 _ (by have := H4.out.m3; omega) H4.out.l3 H4.out.z3 (H4.out.r3.up (Nat.le_refl _) (by repeat (first | exact Fr.refl _ _ | refine Fr.drew ?_ | refine Fr.trans ?_ (by assumption))))).mono ?_; intro e x3 h3; obtain ⟨g3, b3, d3, rfl, hf3, hi3, hl3⟩ := feedNew_q _ _ _ R.h3 (by have := H4.out.m3; omega) _ _ h3; have HI3 := hid hi3; have HL3 := hid hl3; clear h3 hi3 hl3)))
      | (go_at_call 15; refine (newQ_feeds R x hx0 hx1 g0 g1 g2 g3 b0 b1 b2 b3 d0 d1 d2 d3 _ ((feed g0 b0 R.n0 d0 R.F0 R.h0).keep _ _ _ Non HI0.out (by repeat (first | exact Fr.refl _ _ | refine Fr.drew ?_ | refine Fr.trans ?_ (by assumption))) (fun _ _ e => e)) ((feed g1 b1 R.n1 d1 R.F1 R.h1).keep _ _ _ Non HI1.out (by repeat (first | exact Fr.refl _ _ | refine Fr.drew ?_ | refine Fr.trans ?_ (by assumption))) (fun _ _ e => e)) ((feed g2 b2 R.n2 d2 R.F2 R.h2).keep _ _ _ Non HI2.out (by repeat (first | exact Fr.refl _ _ | refine Fr.drew ?_ | refine Fr.trans ?_ (by assumption))) (fun _ _ e => e)) ((feed g3 b3 R.n3 d3 R.F3 R.h3).keep _ _ _ Non HI3.out (by repeat (first | exact Fr.refl _ _ | refine Fr.drew ?_ | refine Fr.trans ?_ (by assumption))) (fun _ _ e => e)) (by have s0 := hf0.size; have s1 := hf1.size; have s2 := hf2.size; have s3 := hf3.size; exact ⟨fun k hk => by have := HL0.out k hk; omega, fun k hk => by have := HL1.out k hk; omega, fun k hk => by have := HL2.out k hk; omega, fun k hk => by have := HL3.out k hk; omega, fun k h1 h2 => by have := HL0.out k h1; have := HL1.out k h2; omega, fun k h1 h2 => by have := HL0.out k h1; have := HL2.out k h2; omega, fun k h1 h2 => by have := HL0.out k h1; have := HL3.out k h2; omega, fun k h1 h2 => by have := HL1.out k h1; have := HL2.out k h2; omega, fun k h1 h2 => by have := HL1.out k h1; have := HL3.out k h2; omega, fun k h1 h2 => by have := HL2.out k h1; have := HL3.out k h2; omega⟩)).mono ?_; rintro e x4 ⟨g, gr, rfl, hg0, hg1, hr0, hr1, hf4, hap, hfq⟩; have s0 := hf0.size; have s1 := hf1.size; have s2 := hf2.size; have s3 := hf3.size; have hwz := (show w.heap.size < w1.drew.heap.size from blk_lt HB1.out); have hng : ¬ (feed g3 b3 R.n3 d3 R.F3 R.h3).foot w.heap.size := (fun e => by have := HL3.out _ e; omega); have kk := And.intro (hf4.cell (p := ⟨w.heap.size, 0, none⟩) (Fr.cell (S := Non) (by repeat (first | exact Fr.refl _ _ | refine Fr.drew ?_ | refine Fr.trans ?_ (by assumption))) k0 (fun e => e)) hng) (And.intro (hf4.cell (p := ⟨w.heap.size, 1, none⟩) (Fr.cell (S := Non) (by repeat (first | exact Fr.refl _ _ | refine Fr.drew ?_ | refine Fr.trans ?_ (by assumption))) k1 (fun e => e)) hng) (And.intro (hf4.cell (p := ⟨w.heap.size, 2, none⟩) (Fr.cell (S := Non) (by repeat (first | exact Fr.refl _ _ | refine Fr.drew ?_ | refine Fr.trans ?_ (by assumption))) k2 (fun e => e)) hng) (hf4.cell (p := ⟨w.heap.size, 3, none⟩) (Fr.cell (S := Non) (by repeat (first | exact Fr.refl _ _ | refine Fr.drew ?_ | refine Fr.trans ?_ (by assumption))) k3 (fun e => e)) hng))); clear s0 s1 s2 s3 hwz hng))
    all_goals
      have s0 := hf0.size
      have s1 := hf1.size
      have s2 := hf2.size
      have s3 := hf3.size
      have s4 := hf4.size
      have hw0 : w1.heap.size ≤ w1.drew.heap.size := Nat.le_refl _
      have HFW := hid (show Fr Non w1 x4 from Fr.then (S := Non) (b := _) (show Fr Non w1 _ from (by repeat (first | exact Fr.refl _ _ | refine Fr.drew ?_ | refine Fr.trans ?_ (by assumption)))) hf4 (fun i hi e => by have := HL3.out i e; omega))
      have HAP := hid hap
      have HFQ := hid hfq
      have HFT := hid (show ∀ k, (⟨g, gr, feed g0 b0 R.n0 d0 R.F0 R.h0, feed g1 b1 R.n1 d1 R.F1 R.h1, feed g2 b2 R.n2 d2 R.F2 R.h2, feed g3 b3 R.n3 d3 R.F3 R.h3⟩ : BQ).foot k → w1.heap.size ≤ k ∧ k < x4.heap.size from by
        rintro k (e | e | e | e | e | e)
        · have : k = g := e; omega
        · have := HL0.out k e; omega
        · have := HL1.out k e; omega
        · have := HL2.out k e; omega
        · have : k = gr := e; omega
        · have := HL3.out k e; omega)
      clear kk hf0 hf1 hf2 hf3 hf4 hap hfq s0 s1 s2 s3 s4 hw0 hg0 hg1 hr0 hr1 k0 k1 k2 k3
      go_wp2_with fail
      go_meet
      exact ⟨⟨g, gr, feed g0 b0 R.n0 d0 R.F0 R.h0, feed g1 b1 R.n1 d1 R.F1 R.h1, feed g2 b2 R.n2 d2 R.F2 R.h2, feed g3 b3 R.n3 d3 R.F3 R.h3⟩, rfl, HAP.out, ⟨rfl, rfl, rfl, rfl⟩, HFQ.out, HFW.out, HFT.out⟩
  case rest =>
    obtain ⟨L, rfl, hap, hsm, hfq, hfr, hft⟩ := hcut
    have HAP := hid hap
    have HSM := hid hsm
    have HFQ := hid hfq
    have HFR := hid hfr
    have HFT := hid hft
    have hsz := hfr.size
    have HP := hid (R.start_pos x.toNat (by omega))
    have hm0 := H4.out.m0
    have hm1 := H4.out.m1
    have hm2 := H4.out.m2
    clear hap hsm hfq hfr hft k0 k1 k2 k3
    have hw1 : w.heap.size < w1.heap.size := blk_lt HB1.out
    have HW1 := hid hw1
    have hg : R.n0 + R.n1 + R.n2 ≤ 24576 := by omega
    clear g0 g1 g2 g3 hm0 hm1 hm2 hw1
    go_wp2_with fail
    go_loopw [6, 7] (fun v iv wr => ∃ k, iv = .int .i64 (k : Nat) ∧ (∀ i, i < k → (R.start x.toNat).okAt R i = true) ∧ FQIs L wr ((R.start x.toNat).it R k) ∧ Own wr wc.heap.size .u8 5 v (bytesQ R (R.start x.toNat) k) ∧ Fr Non w1 wr ∧ wc.heap.size ≤ wr.heap.size) (fun v iv _ => 40000 - (intOf iv).toNat)
    case atStart => exact ⟨0, rfl, (fun i hi => by omega), HFQ.out, Own.nil _ _ _ _, HFR.out, Nat.le_refl _⟩
    case round =>
      obtain ⟨k, rfl, hks, hfk, hok, hfr, hwz⟩ := hrel
      have HKS := hid hks
      have HFK := hid hfk
      have HOW := hid hok
      have HFW := hid hfr
      have hcnt := HP.out.count k hks
      rw [R.start_mu] at hcnt
      have hk0 : (0 : Int) ≤ (k : Int) := by omega
      have hk1 : (k : Int) ≤ 24576 := by omega
      have HSEP := hid (show ∀ b, Value.ownBlock u6 = some b → ¬ L.foot b from fun b hb e => by have := (hok.block b hb).1; have := (HFT.out b e).2; omega)
      clear hks hfk hok hfr hcnt
      go_wp2_with fail
      refine (fnextq_any L HAP.out _ (HP.out.it k).ok _ HFK.out).mono ?_
      rintro e w5 ⟨rfl, hf5, h5⟩
      rw [HSM.out.next] at h5 ⊢
      have h5' : FQIs L w5 ((R.start x.toNat).it R (k + 1)) := h5
      have hb : (((R.start x.toNat).it R k).next R.L).1 = (R.start x.toNat).byteAt R k := rfl
      have ho : (((R.start x.toNat).it R k).next R.L).2.1 = (R.start x.toNat).okAt R k := rfl
      rw [hb, ho]
      clear hb ho h5
      have HF5 := hid hf5
      have H5 := hid h5'
      have hs5 := hf5.size
      have HF := hid (HFW.out.then hf5 (fun i hi e => by have := (HFT.out i e).1; omega))
      clear hf5 h5'
      cases hcase : (R.start x.toNat).okAt R k with
      | true =>
        have HC := hid hcase
        have HO5 := hid (HOW.out.fr HF5.out HSEP.out)
        have hc2 := HP.out.count (k + 1) (fun i hi => by
          by_cases e : i = k
          · rw [e]; exact hcase
          · exact HKS.out i (by omega))
        rw [R.start_mu] at hc2
        clear hcase
        go_wp2_with (refine opAppend1 (some 73) rfl rfl (.tmp 70) (.tmp 72) 22 rfl wc.heap.size .u8 5 1 Try.underlying22 Try.info_u8q _ _ rfl (by exact HO5.out.alloc _) ⟨_, 0, none⟩ 1 _ rfl (cell_new1 _ _ _) (by decide) (by rw [bytesQ_len]; omega) (by simp; omega) ?_; intro v' w6 hown6 hg6)
        have hs6 := hg6.size
        simp at hs6
        have hlt := HOW.out.block
        have HL := hid hlt
        clear hlt
        have HF6 := hid (Fr.grown (HF.out.alloc _) hg6 (fun b hb hlt => by have := (HL.out b hb).1; have := HFR.out.size; omega))
        have H6 := hid (H5.out.keep (Fr.grown ((Fr.refl (fun b => Value.ownBlock u6 = some b) w5).alloc _) hg6 (fun b hb _ => hb)) (fun b hb e => HSEP.out b e hb))
        rw [← bytesQ_snoc] at hown6
        have HO6 := hid hown6
        have HKS' := hid (show ∀ i, i < k + 1 → (R.start x.toNat).okAt R i = true from fun i hi => by
          by_cases e : i = k
          · rw [e]; exact HC.out
          · exact HKS.out i (by omega))
        clear hown6 hg6
        go_roundw
        case rel => exact ⟨k + 1, by go_num, HKS'.out, H6.out, HO6.out, HF6.out, by omega⟩
        case measure => simp [intOf]; omega
      | false =>
        have HC := hid hcase
        have hover := next_again (R := R) (f := (R.start x.toNat).it R k) hcase
        have HOV := hid (show ((R.start x.toNat).it R (k + 1)).bad = true ∨ ((R.start x.toNat).it R (k + 1)).told = ((R.start x.toNat).it R (k + 1)).size from hover)
        have HO5 := hid (HOW.out.fr HF5.out HSEP.out)
        clear hcase hover
        go_wp2_with fail
        refine (fnextq_over L _ _ HOV.out H5.out).mono ?_
        rintro e w6 ⟨rfl, hf6⟩
        have HF6 := hid (HF.out.trans hf6)
        have H6 := hid (H5.out.keep hf6 (fun _ _ e => e))
        have HO6 := hid (HO5.out.fr hf6 (fun _ e => id))
        have HB6 := hid (HF6.out.blk HB1.out id)
        have H46 := hid ((H4.out.fr HF6.out (fun _ _ e => e)).mono HF6.out.size)
        have hs6 := hf6.size
        clear hf6
        go_wp2_with (refine wpList_load_row rfl 24 _ rfl w.heap.size rfl 24 #[.slice a0 R.n0 c0, .slice a1 R.n1 c1, .slice a2 R.n2 c2, .slice a3 R.n3 c3] (0, 0) _ (by exact HB6.out) Try.underlying24 rfl (by kernel_rfl) ?_)
        refine (rdecodeQ_any R a0 a1 a2 a3 c0 c1 c2 c3 x x.toNat rfl hx1 _ (by exact H46.out)).mono ?_
        rintro e w7 ⟨hf7, hcase⟩
        obtain ⟨v7, c7, rfl, h7⟩ : ∃ (v7 : Value) (c7 : Int), e = .returned (.tuple #[v7, .int .i64 c7]) ∧ ((((R.start x.toNat).it R (k + 1)).ends R.L = false ∧ c7 = 12) ∨ (((R.start x.toNat).it R (k + 1)).ends R.L = true ∧ c7 = 0 ∧ Own w7 w6.heap.size .u8 5 v7 (bytesQ R (R.start x.toNat) k))) := by
          rcases hcase with ⟨⟨j, hj1, hj2, hj3⟩, rfl⟩ | ⟨j, hj1, hj2, hj3, v2, rfl, ho2⟩
          · have e := first_eq HKS.out HC.out hj1 hj2
            subst e
            exact ⟨_, 12, rfl, .inl ⟨hj3, rfl⟩⟩
          · have e := first_eq HKS.out HC.out hj1 hj2
            subst e
            exact ⟨v2, 0, rfl, .inr ⟨hj3, rfl, ho2⟩⟩
        have HF7 := hid (HF6.out.trans hf7)
        have H7 := hid (H6.out.keep hf7 (fun _ _ e => e))
        have HO7 := hid (HO6.out.fr hf7 (fun _ e => id))
        have H77 := hid h7
        have hs7 := hf7.size
        clear hf7 hcase h7
        go_wp2_with fail
        refine (ffin_any L HAP.out _ _ H7.out).mono ?_
        rintro e w8 ⟨rfl, hf8, f8, hb8, hq8⟩
        rw [HSM.out.ends]
        have HF8 := hid (HF7.out.then hf8 (fun i hi e => by have := (HFT.out i e).1; omega))
        have HO8 := hid (HO7.out.fr hf8 HSEP.out)
        have H8 := hid hq8
        have HB8 := hid hb8
        have HFF := hid hf8
        have hs8 := hf8.size
        clear hf8 hb8 hq8
        go_wp2_with fail
        refine (fnextq_over L _ _ (.inl HB8.out) H8.out).mono ?_
        rintro e w9 ⟨rfl, hf9⟩
        have HF9 := hid (HF8.out.trans hf9)
        have HO9 := hid (HO8.out.fr hf9 (fun _ e => id))
        have H9 := hid (H8.out.keep hf9 (fun _ _ e => e))
        have HFG := hid hf9
        have HEN := hid (ends_bad (L := R.L) HB8.out)
        clear hf9
        rcases H77.out with ⟨he, rfl⟩ | ⟨he, rfl, ho7⟩
        · rw [he]
          clear he
          go_wp2_with fail
          refine (ffin_any L HAP.out _ _ H9.out).mono ?_
          rintro e w10 ⟨rfl, hf10, -⟩
          rw [HSM.out.ends, HEN.out]
          have HF10 := hid (HF9.out.then hf10 (fun i hi e => by have := (HFT.out i e).1; omega))
          clear hf10
          go_wp2_with fail
          go_ret
          exact ⟨rfl, F1'.out.trans HF10.out⟩
        · rw [he]
          have hfn : ∀ b, v7.ownBlock = some b → ¬ L.foot b := fun b hb e => by have := (ho7.block b hb).1; have := (HFT.out b e).2; omega
          have O9 := hid ((ho7.fr HFF.out hfn).fr HFG.out (fun _ e => id))
          clear he ho7 hfn
          obtain ⟨a5, c5, h5, _, _, hr5⟩ := HO9.out.rowN (n := k) (bytesQ_len _ _ _)
          obtain ⟨a6, c6, rfl, _, _, hr6⟩ := O9.out.rowN (n := k) (bytesQ_len _ _ _)
          have R5 := hid hr5
          have R6 := hid hr6
          subst h5
          clear hr5 hr6
          go_wp2_with fail
          refine (bytes_q a5 a6 k c5 c6 _ _ _ (by omega) w9.heap.size R5.out R6.out (fun _ _ => rfl)).mono ?_
          rintro e w10 ⟨rfl, m10, rfl⟩
          go_wp2_with fail
          refine (ffin_any L HAP.out _ _ (by exact H9.out.keep ((Fr.refl Non _).drewN m10) (fun _ _ e => e))).mono ?_
          rintro e w11 ⟨rfl, hf11, -⟩
          rw [HSM.out.ends, HEN.out]
          have HF11 := hid ((HF9.out.drewN m10).then hf11 (fun i hi e => by have := (HFT.out i e).1; omega))
          clear hf11
          go_wp2_with fail
          go_ret
          exact ⟨rfl, F1'.out.trans HF11.out⟩
end Go.Proofs.Ytphdnfilenkanaa
