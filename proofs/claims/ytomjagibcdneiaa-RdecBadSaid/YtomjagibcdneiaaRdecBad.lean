/- The walk through RdecBad. -/
import Derived.Test.YtomjagibcdneiaaLaw04c
namespace Go.Proofs.Ytomjagibcdneiaa
open Go.RowKit

set_option maxRecDepth 100000 in
set_option maxHeartbeats 1000000 in
theorem rdecBad_walk (a : Option Addr) (n cap : Nat) (f : Nat → Int) (al : Option Addr) (nl cl : Nat) (l : Nat → Ask) (at_ : Option Addr) (nt ct : Nat) (t : Nat → Ask) (w : World)
    (hn : n ≤ 4096) (hnc : n ≤ cap) (hnil : a = none → cap = 0) (hr : RowIn w.heap.size .u8 w a n f) (hf : ∀ i, i < n → 0 ≤ f i ∧ f i < 256)
    (hnl : nl ≤ 9223372036854775807) (hl : AsksIn w.heap.size w al nl l) (hnt : nt ≤ 9223372036854775807) (ht : AsksIn w.heap.size w at_ nt t) :
    Calls Try.prog 8 #[.slice a n cap, .slice al nl cl, .slice at_ nt ct] w fun e w' => e = .returned (.bool true) ∧ Fr Non w w' := by
  have hn1 : ¬ (4096 : Int) < (n : Int) := by omega
  have H := hid hr
  have Hf := hid hf
  have Hnil := hid hnil
  have HL := hid hl
  have HT := hid ht
  clear hr hf hnil hl ht
  go_enter Try.func8, Try.ntmps8
  go_wp2_with fail
  refine (awake04_any _).mono ?_
  rintro e w1 ⟨rfl, hf1⟩
  have s1 := hf1.size
  have F1 := hid hf1
  have H1 := hid (H.out.fr hf1 (fun _ _ => id) |>.mono s1)
  clear hf1
  go_wp2_with fail
  refine (newFeed_any a n cap f _ (by omega) hnc Hnil.out H1.out).mono ?_
  intro e w2 h2
  obtain ⟨fg, a', c', rfl, hf2, hi2, hl2⟩ := feedNew_any _ _ _ Hf.out (by omega) _ _ h2
  have s2 := hf2.size
  have F2 := hid hf2
  have HI2 := hid hi2
  have HL2 := hid hl2
  clear h2 hf2 hi2 hl2
  go_wp2_with fail
  refine (newF_any w1 w2 n f Hf.out fg a' c' F2.out HI2.out HL2.out).mono ?_
  rintro e w3 ⟨D, rfl, hf3, hd3⟩
  have s3 := hf3.size
  have F3 := hid (F1.out.trans hf3)
  have HD3 := hid hd3
  clear hf3 hd3 HI2 HL2
  go_wp2_with fail
  refine (fresh_any 600 _ (by decide)).mono ?_
  rintro e w4 ⟨gp, hgp, rfl, hf4, hb4⟩
  have hgD : ¬ decFoot D.s D.g gp := fun h => by have := D.low gp h; omega
  have HgD := hid hgD
  have hs4 : St D gp w w4 (RD.new (feedNx f n) 0, fun _ => 1024) := ⟨F3.out.trans hf4, Deco.keep HD3.out hf4 (fun _ _ _ e => e), hb4, fresh_pr⟩
  have S4 := hid hs4
  clear hgD hs4 hf4 hb4
  obtain ⟨d0, hd0⟩ : ∃ d0, d0 = RD.new (feedNx f n) 0 := ⟨_, rfl⟩
  rw [← hd0] at S4
  clear hd0
  go_upto_block 0 with fail
  go_cut [] (fun wx => ∃ r, St D gp w wx r)
  case first =>
    go_wp2_with fail
    go_loopw [9] (fun i wr => ∃ k : Nat, k ≤ nl ∧ k ≤ 500 ∧ i = .int .i64 k ∧ ∃ r, St D gp w wr r) (fun i _ => nl - (intOf i).toNat)
    case atStart => exact ⟨0, Nat.zero_le _, Nat.zero_le _, rfl, _, S4.out⟩
    case round =>
      obtain ⟨k, hk, hk5, rfl, r, hst⟩ := hrel
      have Hst := hid hst
      clear hst
      by_cases hlt : k < nl
      · by_cases hlt5 : k < 500
        · obtain ⟨b, off, rfl, hb, c0, c1, c2, c3⟩ := (HL.out.fr Hst.out.fr (fun _ _ => id)).at hlt
          go_wp2_with fail
          refine (right_any _ _ _ _ _).mono ?_
          rintro e w5 ⟨rfl, hf5⟩
          have d0 := hf5.cell c0 id
          have d1 := hf5.cell c1 id
          have d2 := hf5.cell c2 id
          have d3 := hf5.cell c3 id
          have S5 := hid (Hst.out.any hf5)
          clear hf5 c0 c1 c2 c3
          have eR : Ask.rightB ⟨(l k).kind, (l k).at_, (l k).bits, (l k).val⟩ = (l k).rightB := rfl
          rw [eR]
          clear eR
          cases hR : (l k).rightB with
          | true =>
            have hR2 : (l k).Right := of_decide_eq_true hR
            have HR := hid hR2
            clear hR hR2
            go_wp2_with fail
            refine (S5.out.ask (by omega) (by omega) HgD.out (l k) HR.out).mono ?_
            rintro e w6 ⟨rfl, hs6, _⟩
            have S6 := hid hs6
            clear hs6
            go_wp2_with fail
            go_roundw
            case rel => exact ⟨k + 1, by omega, by omega, by go_num, _, S6.out⟩
            case measure => simp [intOf]; omega
          | false =>
            clear hR
            go_wp2_with fail
            go_roundw
            case rel => exact ⟨k + 1, by omega, by omega, by go_num, _, S5.out⟩
            case measure => simp [intOf]; omega
        · have e : k = 500 := by omega
          subst e
          go_wp2_with fail
          go_meet
          exact ⟨r, Hst.out⟩
      · have e : k = nl := by omega
        subst e
        go_wp2_with fail
        go_meet
        exact ⟨r, Hst.out⟩
  case rest =>
    obtain ⟨r, hst⟩ := hcut
    have S5 := hid hst
    clear hst S4
    go_wp2_with fail
    refine (dbadq_any D.s D.g r.1 _ S5.out.dec).mono ?_
    rintro e w' ⟨rfl, rfl⟩
    cases hbad : r.1.bad with
    | false =>
      clear hbad
      go_wp2_with fail
      go_ret
      exact ⟨rfl, S5.out.fr⟩
    | true =>
      have HB := hid hbad
      clear hbad
      have hrow := RowIn.ofArr0 S5.out.blk
      have Hrow := hid hrow
      have hgs := blk_lt S5.out.blk
      clear hrow
      go_upto_block 2 with (refine opAppendRow (some 49) rfl rfl (.tmp 47) (.tmp 48) 26 rfl wc.heap.size .u16 22 2 Try.underlying26 Try.info_u16 (.slice (some ⟨wc.heap.size, 0, none⟩) 0 0) [] rfl (Own.empty _ _ .u16 22 (Nat.le_refl _)) (gp + 1) (some ⟨gp, 0, none⟩) 600 600 r.2 rfl (fun e => by cases e) (by decide) (Hrow.out.fr ((Fr.refl Non _).alloc _) (fun _ _ => id)) (by decide) (by decide) (by simp) ?_; intro v6 w6 hown6 hg6)
      obtain ⟨ao, co, rfl, _, _, hro⟩ := hown6.rowN (n := 600) (by simp)
      have hro2 := list_row hro
      obtain ⟨b6, o6, rfl, hb6, hat⟩ := hro2.resolve_left (by decide)
      have hbb := (hown6.block b6 rfl).1
      have hat2 : RowAt .u16 w6 b6 o6 600 r.2 := hat
      have HAT := hid hat2
      have F6 := clone_fr hg6
      have S6 := hid (S5.out.any F6)
      have s3r := S5.out.fr.size
      clear hro hro2 hat hat2 hown6 hg6 F6 Hrow
      go_cut [] (fun wx => St D gp w wx r ∧ RowAt .u16 wx b6 o6 600 r.2)
      case first =>
        go_wp2_with fail
        go_loopw [11] (fun i wq => ∃ k : Nat, k ≤ nt ∧ k ≤ 500 ∧ i = .int .i64 k ∧ St D gp w wq r ∧ RowAt .u16 wq b6 o6 600 r.2) (fun i _ => nt - (intOf i).toNat)
        case atStart => exact ⟨0, Nat.zero_le _, Nat.zero_le _, rfl, S6.out, HAT.out⟩
        case round =>
          obtain ⟨k, hk, hk5, rfl, hst, hat⟩ := hrel
          have Hst := hid hst
          have Hat := hid hat
          clear hst hat
          by_cases hlt : k < nt
          · by_cases hlt5 : k < 500
            · obtain ⟨b, off, rfl, hb, c0, c1, c2, c3⟩ := (HT.out.fr Hst.out.fr (fun _ _ => id)).at hlt
              go_wp2_with fail
              refine (right_any _ _ _ _ _).mono ?_
              rintro e w7 ⟨rfl, hf7⟩
              have d0 := hf7.cell c0 id
              have d1 := hf7.cell c1 id
              have d2 := hf7.cell c2 id
              have d3 := hf7.cell c3 id
              have S7 := hid (Hst.out.any hf7)
              have A7 := hid (Hat.out.fr hf7 id)
              clear hf7 c0 c1 c2 c3
              have eR : Ask.rightB ⟨(t k).kind, (t k).at_, (t k).bits, (t k).val⟩ = (t k).rightB := rfl
              rw [eR]
              clear eR
              cases hR : (t k).rightB with
              | true =>
                have hR2 : (t k).Right := of_decide_eq_true hR
                have HR := hid hR2
                clear hR hR2
                have hask := S7.out.ask (by omega) (by omega) HgD.out (t k) HR.out
                rw [ask_bad _ _ _ _ HB.out] at hask
                go_wp2_with fail
                refine hask.mono ?_
                clear hask
                rintro e w8 ⟨rfl, hs8, hf8⟩
                have S8 := hid hs8
                have A8 := hid (A7.out.fr hf8 (fun h => by omega))
                clear hs8 hf8
                go_wp2_with fail
                go_roundw
                case rel => exact ⟨k + 1, by omega, by omega, by go_num, S8.out, A8.out⟩
                case measure => simp [intOf]; omega
              | false =>
                clear hR
                go_wp2_with fail
                go_roundw
                case rel => exact ⟨k + 1, by omega, by omega, by go_num, S7.out, A7.out⟩
                case measure => simp [intOf]; omega
            · have e : k = 500 := by omega
              subst e
              go_wp2_with fail
              go_meet
              exact ⟨Hst.out, Hat.out⟩
          · have e : k = nt := by omega
            subst e
            go_wp2_with fail
            go_meet
            exact ⟨Hst.out, Hat.out⟩
      case rest =>
        obtain ⟨hst, hat⟩ := hcut
        have Hst := hid hst
        have Hat := hid hat
        clear hst hat
        go_wp2_with fail
        refine (dbadq_any D.s D.g r.1 _ Hst.out.dec).mono ?_
        rintro e w' ⟨rfl, rfl⟩
        rw [HB.out]
        go_wp2_with fail
        refine (ddone_any D.s D.g r.1 _ Hst.out.dec).mono ?_
        rintro e w' ⟨rfl, rfl⟩
        have ed : r.1.done = false := by unfold RD.done; rw [HB.out]; rfl
        rw [ed]
        clear ed
        go_wp2_with fail
        refine (same_yes (some ⟨gp, 0, none⟩) (some ⟨b6, o6, none⟩) 600 600 co r.2 r.2 _ (by decide) (gp + b6 + 1) ((RowIn.ofArr0 Hst.out.blk).mono (by omega)) (Hat.out.row.mono (by omega)) (fun _ _ => rfl)).mono ?_
        rintro e w' ⟨rfl, m, rfl⟩
        go_wp2_with fail
        go_ret
        exact ⟨rfl, Hst.out.fr.drewN _⟩

set_option maxRecDepth 100000 in
theorem rdecBad_long (a : Option Addr) (n cap : Nat) (x y : Value) (w : World) (hn : 4096 < n) :
    Calls Try.prog 8 #[.slice a n cap, x, y] w fun e w' => e = .returned (.bool true) ∧ Fr Non w w' := by
  have h : (4096 : Int) < (n : Int) := by omega
  clear hn
  go_enter Try.func8, Try.ntmps8
  go_wp2_with (go_at_call 24; refine (awake04_any _).mono ?_; rintro e w1 ⟨rfl, hf1⟩)
  go_ret
  exact ⟨rfl, hf1⟩
end Go.Proofs.Ytomjagibcdneiaa
