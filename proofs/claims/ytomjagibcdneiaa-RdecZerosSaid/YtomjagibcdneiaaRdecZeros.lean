/- The walk through RdecZeros. -/
import Derived.Test.YtomjagibcdneiaaZeros
namespace Go.Proofs.Ytomjagibcdneiaa
open Go.RowKit

set_option maxRecDepth 100000 in
set_option maxHeartbeats 2000000 in
theorem rdecZeros_walk (al : Option Addr) (nl cl : Nat) (l : Nat → Ask) (w : World) (hnl : nl ≤ 9223372036854775807) (hl : AsksIn w.heap.size w al nl l) :
    Calls Try.prog 9 #[.slice al nl cl] w fun e w' => e = .returned (.bool true) ∧ Fr Non w w' := by
  have hmk : ∀ w : World, (Instr.makeSlice 42 (.int .i64 3000) (.int .i64 3000)).run Try.prog w = .ok (.slice (some ⟨w.heap.size, 0, none⟩) 3000 3000) (w.alloc (.cells (arr .u8 3000 (fun _ => 0)) 5)) := fun w => make_u8 3000 (by decide) w
  have HL := hid hl
  clear hl
  go_enter Try.func9, Try.ntmps9
  go_wp2_with fail
  refine (awake04_any _).mono ?_
  rintro e w1 ⟨rfl, hf1⟩
  have s1 := hf1.size
  have F1 := hid hf1
  clear hf1
  go_wp2_with fail
  refine (newFeed_any _ 3000 3000 (fun _ => 0) _ (by decide) (by decide) (fun e => by cases e) (zeros_row w1 3000 _ _ (by simp))).mono ?_
  intro e w2 h2
  obtain ⟨fg, a', c', rfl, hf2, hi2, hl2⟩ := feedNew_any _ _ _ (zeros_bd 3000) (by decide) _ _ h2
  have hf2' := ((Fr.refl Non w1).alloc (.cells (arr .u8 3000 (fun _ => 0)) 5)).trans hf2
  have s2 := hf2'.size
  have F2 := hid hf2'
  have HI2 := hid hi2
  have HL2 := hid hl2
  clear h2 hf2 hf2' hi2 hl2 hmk
  go_wp2_with fail
  refine (newF_any w1 w2 3000 (fun _ => 0) (zeros_bd 3000) fg a' c' F2.out HI2.out (fun k hk => by have := HL2.out k hk; simp at this; omega)).mono ?_
  rintro e w3 ⟨D, rfl, hf3, hd3⟩
  have s3 := hf3.size
  have F3 := hid (F1.out.trans hf3)
  have HD3 := hid hd3
  clear hf3 hd3 HI2 HL2
  go_wp2_with fail
  refine (fresh_any 600 _ (by decide)).mono ?_
  rintro e w4 ⟨gp, hgp, rfl, hf4, hb4⟩
  have hgD : ¬ decFoot D.s D.g gp := fun h => by have := D.low gp h; omega
  have HgD := hid hgD
  have hs4 : St D gp w w4 (RD.new znx 0, fun _ => 1024) := ⟨F3.out.trans hf4, Deco.keep HD3.out hf4 (fun _ _ _ e => e), hb4, fresh_pr⟩
  rw [znew] at hs4
  have S4 := hid hs4
  clear hgD hs4 hf4 hb4
  go_upto_block 0 with fail
  go_cut [] (fun wx => ∃ r, St D gp w wx r ∧ r.1.done = true)
  case first =>
    go_wp2_with fail
    go_loopw [5] (fun i wr => ∃ k : Nat, k ≤ nl ∧ k ≤ 500 ∧ i = .int .i64 k ∧ ∃ r, St D gp w wr r ∧ Zd (32 * k) r.1 ∧ Zq r.2 600) (fun i _ => nl - (intOf i).toNat)
    case atStart => exact ⟨0, Nat.zero_le _, Nat.zero_le _, rfl, _, S4.out, znew_d, fresh_zq⟩
    case round =>
      obtain ⟨k, hk, hk5, rfl, r, hst, hzd, hzq⟩ := hrel
      have Hst := hid hst
      have Hzd := hid hzd
      have Hzq := hid hzq
      clear hst hzd hzq
      by_cases hlt : k < nl
      · by_cases hlt5 : k < 500
        · obtain ⟨b, off, rfl, hb, c0, c1, c2, c3⟩ := (HL.out.fr Hst.out.fr (fun _ _ => id)).at hlt
          go_wp2_with fail
          refine (right_any _ _ _ _ _).mono ?_
          rintro e w5 ⟨rfl, hf5⟩
          have d0 := hf5.cell c0 id
          have d1 := hf5.cell c1 id
          have d2 := hf5.cell c2 id
          have d3 := hf5.cell c3 id
          have S5 := hid (Hst.out.any hf5)
          clear hf5 c0 c1 c2 c3
          have eR : Ask.rightB ⟨(l k).kind, (l k).at_, (l k).bits, (l k).val⟩ = (l k).rightB := rfl
          rw [eR]
          clear eR
          cases hR : (l k).rightB with
          | true =>
            have hR2 : (l k).Right := of_decide_eq_true hR
            have HR := hid hR2
            clear hR hR2
            have hask := S5.out.ask (by omega) (by omega) HgD.out (l k) HR.out
            have hz := zask Hzd.out Hzq.out (l k) HR.out (by omega)
            have hz1 : (RD.ask (feedNx (fun _ => 0) 3000) r.1 r.2 (l k)).1 = 0 := hz.1
            rw [hz1] at hask
            have HZ := hid hz
            clear hz hz1
            go_wp2_with fail
            refine hask.mono ?_
            clear hask
            rintro e w6 ⟨rfl, hs6, _⟩
            have S6 := hid hs6
            clear hs6
            go_wp2_with fail
            refine (ddone_any D.s D.g _ _ S6.out.dec).mono ?_
            rintro e w' ⟨rfl, rfl⟩
            have ed := HZ.out.2.2.done
            have ed2 : (RD.ask (feedNx (fun _ => 0) 3000) r.1 r.2 (l k)).2.2.done = true := ed
            rw [ed2]
            clear ed ed2
            go_wp2_with fail
            go_roundw
            case rel => exact ⟨k + 1, by omega, by omega, by go_num, _, S6.out, HZ.out.2.2, HZ.out.2.1⟩
            case measure => simp [intOf]; omega
          | false =>
            clear hR
            go_wp2_with fail
            go_roundw
            case rel => exact ⟨k + 1, by omega, by omega, by go_num, _, S5.out, Hzd.out.mono (by omega), Hzq.out⟩
            case measure => simp [intOf]; omega
        · have e : k = 500 := by omega
          subst e
          go_wp2_with fail
          go_meet
          exact ⟨r, Hst.out, Hzd.out.done⟩
      · have e : k = nl := by omega
        subst e
        go_wp2_with fail
        go_meet
        exact ⟨r, Hst.out, Hzd.out.done⟩
  case rest =>
    obtain ⟨r, hst, hdn⟩ := hcut
    have S5 := hid hst
    have HD := hid hdn
    clear hst hdn S4
    go_wp2_with fail
    refine (ddone_any D.s D.g r.1 _ S5.out.dec).mono ?_
    rintro e w' ⟨rfl, rfl⟩
    rw [HD.out]
    go_wp2_with fail
    go_ret
    exact ⟨rfl, S5.out.fr⟩
end Go.Proofs.Ytomjagibcdneiaa
