/- The walk through RdecBehind. -/
import Derived.Test.YtomjagibcdneiaaBehind
namespace Go.Proofs.Ytomjagibcdneiaa
open Go.RowKit

theorem ask_zero {S : Type} (nx : S → Int × Bool × S) (d : RD S) (q : Nat → Int) (a : Ask) (h : (d.ask nx q a).2.2.bad = true) : (d.ask nx q a).1 = 0 := by
  unfold RD.ask at h ⊢
  by_cases h0 : a.kind = 0
  · rw [if_pos h0] at h ⊢
    unfold RD.bit at h ⊢
    by_cases hb : d.bad = true
    · rw [if_pos hb]
    · rw [if_neg hb] at h ⊢
      by_cases hc : d.code < d.rng / 2048 * q a.at_.toNat
      · rw [if_pos hc]
      · rw [if_neg hc] at h ⊢
        exact if_pos h
  · rw [if_neg h0] at h ⊢
    by_cases h1 : a.kind = 1
    · rw [if_pos h1] at h ⊢
      exact if_pos h
    · rw [if_neg h1] at h ⊢
      by_cases h2 : a.kind = 2
      · rw [if_pos h2] at h ⊢
        exact if_pos h
      · rw [if_neg h2] at h ⊢
        exact if_pos h
theorem St.keep {lo hi : Nat} {f : Nat → Int} {n : Nat} {D : Deco lo hi f n} {gp : Nat} {w wr w' : World} {r : RD Nat × (Nat → Int)} (h : St D gp w wr r) (hw : Fr Non w w') {T : Nat → Prop} (hf : Fr T wr w') (ht : ∀ k, lo ≤ k → k < hi → ¬ T k) (hg : ¬ T gp) : St D gp w w' r :=
  ⟨hw, Deco.keep h.dec hf ht, hf.blk h.blk hg, h.pr⟩

set_option maxRecDepth 100000 in
set_option maxHeartbeats 2000000 in
theorem rdecBehind_walk (a : Option Addr) (n cap : Nat) (f : Nat → Int) (am : Option Addr) (nm cm : Nat) (fm : Nat → Int) (al : Option Addr) (nl cl : Nat) (l : Nat → Ask) (w : World)
    (hn : n ≤ 32768) (hnc : n ≤ cap) (hnil : a = none → cap = 0) (hr : RowIn w.heap.size .u8 w a n f) (hf : ∀ i, i < n → 0 ≤ f i ∧ f i < 256)
    (hnm : nm ≤ 32768) (hncm : nm ≤ cm) (hnilm : am = none → cm = 0) (hrm : RowIn w.heap.size .u8 w am nm fm) (hfm : ∀ i, i < nm → 0 ≤ fm i ∧ fm i < 256)
    (hnl : nl ≤ 9223372036854775807) (hl : AsksIn w.heap.size w al nl l) :
    Calls Try.prog 7 #[.slice a n cap, .slice am nm cm, .slice al nl cl] w fun e w' => e = .returned (.bool true) ∧ Fr Non w w' := by
  have hn1 : ¬ (32768 : Int) < (n : Int) := by omega
  have hn2 : ¬ (32768 : Int) < (nm : Int) := by omega
  have H := hid hr
  have Hf := hid hf
  have Hnil := hid hnil
  have HM := hid hrm
  have Hfm := hid hfm
  have Hnilm := hid hnilm
  have HL := hid hl
  clear hr hf hnil hl hrm hfm hnilm
  go_enter Try.func7, Try.ntmps7
  go_wp2_with fail
  refine (awake04_any _).mono ?_
  rintro e w1 ⟨rfl, hf1⟩
  have s1 := hf1.size
  have F1 := hid hf1
  have H1 := hid (H.out.fr hf1 (fun _ _ => id) |>.mono s1)
  clear hf1
  go_wp2_with fail
  refine (newFeed_any a n cap f _ (by omega) hnc Hnil.out H1.out).mono ?_
  intro e w2 h2
  obtain ⟨fg, a', c', rfl, hf2, hi2, hl2⟩ := feedNew_any _ _ _ Hf.out (by omega) _ _ h2
  have s2 := hf2.size
  have F2 := hid hf2
  have HI2 := hid hi2
  have HL2 := hid hl2
  clear h2 hf2 hi2 hl2
  go_wp2_with fail
  refine (newF_any w1 w2 n f Hf.out fg a' c' F2.out HI2.out HL2.out).mono ?_
  rintro e w3 ⟨D, rfl, hf3, hd3⟩
  have s3 := hf3.size
  have F3 := hid (F1.out.trans hf3)
  have HD3 := hid hd3
  have H3 := hid ((H.out.fr F3.out (fun _ _ => id)).mono F3.out.size)
  have HM3 := hid ((HM.out.fr F3.out (fun _ _ => id)).mono F3.out.size)
  clear hf3 hd3 HI2 HL2
  go_wp2_with (first
    | (refine opAppendRow (some 30) rfl rfl (.tmp 28) (.tmp 29) 42 rfl w3.heap.size .u8 5 1 Try.underlying42 Try.info_u8 (.slice (some ⟨w3.heap.size, 0, none⟩) 0 0) [] rfl (Own.empty _ _ .u8 5 (Nat.le_refl _)) w3.heap.size a n cap f rfl Hnil.out hnc (H3.out.fr ((Fr.refl Non _).alloc _) (fun _ _ => id)) (by decide) (by simp; omega) (by simp) ?_; intro v6 w6 hown6 hg6; have F6 := clone_fr hg6; have s6 := F6.size)
    | (refine opAppendRow (some 32) rfl rfl (.tmp 30) (.tmp 31) 42 rfl w3.heap.size .u8 5 1 Try.underlying42 Try.info_u8 v6 _ rfl hown6 w3.heap.size am nm cm fm rfl Hnilm.out hncm (HM3.out.fr F6 (fun _ _ => id)) (by decide) (by simp; omega) (by omega) ?_; intro v7 w7 hown7 hg7))
  obtain ⟨ao, co, rfl, hlo, _, hro⟩ := hown7.rowN (n := n + nm) (by simp)
  obtain ⟨gg, hgg⟩ : ∃ gg : Nat → Int, gg = fun i => ([] ++ (List.range n).map f ++ (List.range nm).map fm).getD i 0 := ⟨_, rfl⟩
  rw [← hgg] at hro
  have hg1 : ∀ i, i < n → gg i = f i := by
    intro i hi
    rw [hgg]
    simp [List.getD, List.getElem?_append, hi]
  have hg2 : ∀ i, i < n + nm → 0 ≤ gg i ∧ gg i < 256 := by
    intro i hi
    by_cases h : i < n
    · rw [hg1 i h]; exact Hf.out i h
    · have e : gg i = fm (i - n) := by
        rw [hgg]
        simp [List.getD, List.getElem?_append, h, show i - n < nm by omega]
      rw [e]; exact Hfm.out _ (by omega)
  have hf7 : Fr Non w3 w7 := F6.grown hg7 (fun i hi hlt => absurd (hown6.block i hi).1 (by omega))
  have s7 := hf7.size
  have HRO := hid hro
  have HG1 := hid hg1
  have HG2 := hid hg2
  have F7 := hid hf7
  have hnil7 : ao = none → co = 0 := by
    intro e
    subst e
    rcases hown7.2 with ⟨h1, _⟩ | ⟨g, cap', cur, h1, _⟩
    · have e2 := congrArg (fun v => match v with | .slice _ _ c => c | _ => 0) h1
      simpa using e2
    · have e2 := congrArg (fun v => match v with | .slice o _ _ => o.isSome | _ => true) h1
      simp at e2
  have Hnil7 := hid hnil7
  clear hown6 hg6 hown7 hg7 hro hgg hg1 hg2 hf7 hnil7 F6 H3 HM3 HM Hfm Hnilm
  refine (newFeed_any ao (n + nm) co gg _ (by omega) hlo Hnil7.out HRO.out).mono ?_
  intro e w8 h8
  obtain ⟨fg2, a2, c2, rfl, hf8, hi8, hl8⟩ := feedNew_any _ _ _ HG2.out (by omega) _ _ h8
  have F8 := hid (F7.out.trans hf8)
  have HI8 := hid hi8
  have HL8 := hid hl8
  have s8 := hf8.size
  clear h8 hf8 hi8 hl8
  go_wp2_with fail
  refine (newF_any w3 w8 (n + nm) gg HG2.out fg2 a2 c2 F8.out HI8.out (fun k hk => by have := HL8.out k hk; omega)).mono ?_
  rintro e w9 ⟨E, rfl, hf9, he9⟩
  have s9 := hf9.size
  have F9 := hid (F3.out.trans hf9)
  have HD9 := hid (Deco.keep HD3.out hf9 (fun _ _ _ e => e))
  have HE9 := hid he9
  clear hf9 he9 HI8 HL8 F8 F7
  go_wp2_with fail
  refine (fresh_any 600 _ (by decide)).mono ?_
  rintro e w10 ⟨gp, hgp, rfl, hf10, hb10⟩
  have s10 := hf10.size
  have hgpl := blk_lt hb10
  have SD10 := hid (show St D gp w w10 (RD.new (feedNx f n) 0, fun _ => 1024) from ⟨F9.out.trans hf10, Deco.keep HD9.out hf10 (fun _ _ _ e => e), hb10, fresh_pr⟩)
  have HE10 := hid (Deco.keep HE9.out hf10 (fun _ _ _ e => e))
  clear hf10 hb10
  go_wp2_with fail
  refine (fresh_any 600 _ (by decide)).mono ?_
  rintro e w11 ⟨gq, hgq, rfl, hf11, hb11⟩
  have hgD : ¬ decFoot D.s D.g gp := fun h => by have := D.low gp h; omega
  have hgE : ¬ decFoot E.s E.g gq := fun h => by have := E.low gq h; omega
  have HgD := hid hgD
  have HgE := hid hgE
  have SD11 := hid (SD10.out.any hf11)
  have SE11 := hid (show St E gq w w11 (RD.new (feedNx gg (n + nm)) 0, fun _ => 1024) from ⟨SD10.out.fr.trans hf11, Deco.keep HE10.out hf11 (fun _ _ _ e => e), hb11, fresh_pr⟩)
  have HH := hid (feed_like f gg n (n + nm) (by omega) HG1.out)
  have hlike : Like (RD.new (feedNx f n) 0, fun _ => 1024) (RD.new (feedNx gg (n + nm)) 0, fun _ => 1024) := by
    cases hb : (RD.new (feedNx f n) 0).bad with
    | true => exact .inl hb
    | false => exact .inr (by rw [new_same _ _ HH.out 0 hb])
  have HLike := hid hlike
  clear hgD hgE hf11 hb11 hlike
  go_upto_block 0 with fail
  go_cut [] (fun wx => ∃ r r', St D gp w wx r ∧ St E gq w wx r' ∧ Like r r')
  case first =>
    go_wp2_with fail
    go_loopw [11] (fun i wr => ∃ k : Nat, k ≤ nl ∧ k ≤ 2000 ∧ i = .int .i64 k ∧ ∃ r r', St D gp w wr r ∧ St E gq w wr r' ∧ Like r r') (fun i _ => nl - (intOf i).toNat)
    case atStart => exact ⟨0, Nat.zero_le _, Nat.zero_le _, rfl, _, _, SD11.out, SE11.out, HLike.out⟩
    case round =>
      obtain ⟨k, hk, hk5, rfl, r, r', hsd, hse, hlk⟩ := hrel
      have SD := hid hsd
      have SE := hid hse
      have LK := hid hlk
      clear hsd hse hlk SD11 SE11 HLike
      by_cases hlt : k < nl
      · by_cases hlt5 : k < 2000
        · obtain ⟨b, off, rfl, hb, c0, c1, c2, c3⟩ := (HL.out.fr SD.out.fr (fun _ _ => id)).at hlt
          go_wp2_with fail
          refine (right_any _ _ _ _ _).mono ?_
          rintro e w5 ⟨rfl, hf5⟩
          have d0 := hf5.cell c0 id
          have d1 := hf5.cell c1 id
          have d2 := hf5.cell c2 id
          have d3 := hf5.cell c3 id
          have SD5 := hid (SD.out.any hf5)
          have SE5 := hid (SE.out.any hf5)
          clear hf5 c0 c1 c2 c3
          have eR : Ask.rightB ⟨(l k).kind, (l k).at_, (l k).bits, (l k).val⟩ = (l k).rightB := rfl
          rw [eR]
          clear eR
          cases hR : (l k).rightB with
          | false =>
            clear hR
            go_wp2_with fail
            go_roundw
            case rel => exact ⟨k + 1, by omega, by omega, by go_num, _, _, SD5.out, SE5.out, LK.out⟩
            case measure => simp [intOf]; omega
          | true =>
            have hR2 : (l k).Right := of_decide_eq_true hR
            have HR := hid hR2
            clear hR hR2
            obtain ⟨X, hX⟩ : ∃ X, X = RD.ask (feedNx f n) r.1 r.2 (l k) := ⟨_, rfl⟩
            obtain ⟨Y, hY⟩ : ∃ Y, Y = RD.ask (feedNx gg (n + nm)) r'.1 r'.2 (l k) := ⟨_, rfl⟩
            have hask := SD5.out.ask (by omega) (by omega) HgD.out (l k) HR.out
            rw [← hX] at hask
            have hbad : X.2.2.bad = true → X.1 = 0 := by rw [hX]; exact ask_zero _ _ _ _
            have hsame : X.2.2.bad = false → Y = X := by
              intro h
              rw [hX] at h
              have hrb : r.1.bad = false := by
                cases hx : r.1.bad with
                | false => rfl
                | true => rw [ask_bad _ _ _ _ hx] at h; exact absurd hx (by rw [h]; decide)
              rcases LK.out with h2 | h2
              · rw [hrb] at h2; cases h2
              · rw [hY, hX, h2]; exact ask_same _ _ HH.out _ _ _ h
            have HX := hid hbad
            have HS := hid hsame
            have HY := hid hY
            clear hX hY hbad hsame
            go_wp2_with fail
            refine hask.mono ?_
            clear hask
            rintro e w6 ⟨rfl, hs6, hf6⟩
            have hnb : ¬ ((w1.heap.size ≤ b ∧ b < w3.heap.size) ∨ b = gp) := by omega
            have e0 := hf6.cell d0 hnb
            have e1 := hf6.cell d1 hnb
            have e2 := hf6.cell d2 hnb
            have e3 := hf6.cell d3 hnb
            have SD6 := hid hs6
            have SE6 := hid (SE5.out.keep hs6.fr hf6 (fun k h1 h2 h3 => by omega) (fun h3 => by omega))
            clear hs6 hf6 d0 d1 d2 d3 hnb
            have hask := SE6.out.ask (by omega) (by omega) HgE.out (l k) HR.out
            rw [← HY.out] at hask
            go_wp2_with fail
            refine hask.mono ?_
            clear hask
            rintro e w7' ⟨rfl, hs7, hf7⟩
            have SE7 := hid hs7
            have SD7 := hid (SD6.out.keep hs7.fr hf7 (fun k h1 h2 h3 => by omega) (fun h3 => by omega))
            clear hs7 hf7
            go_wp2_with fail
            refine (dbadq_any D.s D.g _ _ SD7.out.dec).mono ?_
            rintro e w' ⟨rfl, rfl⟩
            cases hb2 : X.2.2.bad with
            | true =>
              have hx0 := HX.out hb2
              rw [hx0]
              clear hx0 hb2
              go_wp2_with fail
              go_ret
              exact ⟨rfl, SD7.out.fr⟩
            | false =>
              have hyx := HS.out hb2
              subst hyx
              have HB2 := hid hb2
              clear hb2
              go_wp2_with fail
              refine (dbadq_any E.s E.g _ _ SE7.out.dec).mono ?_
              rintro e w' ⟨rfl, rfl⟩
              rw [HB2.out]
              go_wp2_with fail
              refine (ddone_any D.s D.g _ _ SD7.out.dec).mono ?_
              rintro e w' ⟨rfl, rfl⟩
              go_wp2_with fail
              refine (ddone_any E.s E.g _ _ SE7.out.dec).mono ?_
              rintro e w' ⟨rfl, rfl⟩
              go_wp2_with fail
              go_roundw
              case rel => exact ⟨k + 1, by omega, by omega, by go_num, _, _, SD7.out, SE7.out, .inr rfl⟩
              case measure => simp [intOf]; omega
        · have e : k = 2000 := by omega
          subst e
          go_wp2_with fail
          go_meet
          exact ⟨r, r', SD.out, SE.out, LK.out⟩
      · have e : k = nl := by omega
        subst e
        go_wp2_with fail
        go_meet
        exact ⟨r, r', SD.out, SE.out, LK.out⟩
  case rest =>
    obtain ⟨r, r', hsd, hse, hlk⟩ := hcut
    have SD := hid hsd
    have SE := hid hse
    have LK := hid hlk
    clear hsd hse hlk SD11 SE11 HLike
    go_wp2_with fail
    refine (dbadq_any D.s D.g _ _ SD.out.dec).mono ?_
    rintro e w' ⟨rfl, rfl⟩
    cases hb2 : r.1.bad with
    | true =>
      clear hb2
      go_wp2_with fail
      go_ret
      exact ⟨rfl, SD.out.fr⟩
    | false =>
      have hrr : r' = r := LK.out.resolve_left (by rw [hb2]; decide)
      subst hrr
      clear hb2
      go_wp2_with fail
      refine (same_yes (some ⟨gp, 0, none⟩) (some ⟨gq, 0, none⟩) 600 600 600 r'.2 r'.2 _ (by decide) (gp + gq + 1) ((RowIn.ofArr0 SD.out.blk).mono (by omega)) ((RowIn.ofArr0 SE.out.blk).mono (by omega)) (fun _ _ => rfl)).mono ?_
      rintro e w' ⟨rfl, m, rfl⟩
      go_wp2_with fail
      go_ret
      exact ⟨rfl, SD.out.fr.drewN _⟩
theorem rdecBehind_long (a : Option Addr) (n cap : Nat) (v1 v2 : Value) (w : World) (hn : 32768 < n) :
    Calls Try.prog 7 #[.slice a n cap, v1, v2] w fun e w' => e = .returned (.bool true) ∧ Fr Non w w' := by
  have hn1 : (32768 : Int) < (n : Int) := by omega
  go_enter Try.func7, Try.ntmps7
  go_wp2_with fail
  refine (awake04_any _).mono ?_
  rintro e w1 ⟨rfl, hf1⟩
  go_wp2_with fail
  go_ret
  exact ⟨rfl, hf1⟩
theorem rdecBehind_long2 (a : Option Addr) (n cap : Nat) (am : Option Addr) (nm cm : Nat) (v2 : Value) (w : World) (hn : n ≤ 32768) (hnm : 32768 < nm) :
    Calls Try.prog 7 #[.slice a n cap, .slice am nm cm, v2] w fun e w' => e = .returned (.bool true) ∧ Fr Non w w' := by
  have hn1 : ¬ (32768 : Int) < (n : Int) := by omega
  have hn2 : (32768 : Int) < (nm : Int) := by omega
  go_enter Try.func7, Try.ntmps7
  go_wp2_with fail
  refine (awake04_any _).mono ?_
  rintro e w1 ⟨rfl, hf1⟩
  go_wp2_with fail
  go_ret
  exact ⟨rfl, hf1⟩
end Go.Proofs.Ytomjagibcdneiaa
