/- The walk through RencCodes. -/
import Derived.Test.YtomjagibcdneiaaPair
namespace Go.Proofs.Ytomjagibcdneiaa
open Go.RowKit

set_option maxRecDepth 100000 in
set_option maxHeartbeats 40000000 in
theorem rencCodes_walk (al : Option Addr) (nl cl : Nat) (l : Nat → Ask) (am : Option Addr) (nm cm : Nat) (m : Nat → Ask) (w : World) (hnl : nl ≤ 9223372036854775807) (hl : AsksIn w.heap.size w al nl l) (hwf : ∀ i, i < nl → (l i).wf)
    (hnm : nm ≤ 9223372036854775807) (hm : AsksIn w.heap.size w am nm m) (hwm : ∀ i, i < nm → (m i).wf) :
    Calls Try.prog 4 #[.slice al nl cl, .slice am nm cm] w fun e w' => e = .returned (.bool true) ∧ Fr Non w w' := by
  have HL := hid hl
  have HW := hid hwf
  have HM := hid hm
  have HWM := hid hwm
  clear hl hwf hm hwm
  go_enter Try.func4, Try.ntmps4
  go_wp2_with fail
  refine (awake05_any _).mono ?_
  rintro e w1 ⟨rfl, hf1⟩
  have s1 := hf1.size
  have F1 := hid hf1
  clear hf1
  go_wp2_with fail
  refine (cnew_any _).mono ?_
  rintro e w2 ⟨g, rfl, hg0, hf2, hc2⟩
  have s2 := hf2.size
  have F2 := hid hf2
  have HC2 := hid hc2
  clear hf2 hc2
  go_wp2_with fail
  obtain ⟨W, hW⟩ : ∃ W, W = w2.alloc (.cells #[.slice al nl cl, .slice am nm cm] 32) := ⟨_, rfl⟩
  rw [← hW]
  have hfW : Fr Non w2 W := by rw [hW]; exact (Fr.refl Non w2).alloc _
  have HGA := hid (show W.heap[w2.heap.size]? = some (.cells #[.slice al nl cl, .slice am nm cm] 32) by rw [hW]; exact blk_new w2 _)
  have sW : w2.heap.size < W.heap.size := blk_lt HGA.out
  obtain ⟨A1, hA1⟩ : ∃ A1, A1 = Since (fun k => k < w1.heap.size) w2 W := ⟨_, rfl⟩
  have HC := hid (show CodIs A1 g W RC.new by rw [hA1]; exact HC2.out.gone hfW (fun _ _ e => e.elim))
  have HA0 := hid (show ∀ k, k < w.heap.size → A1 k from fun k hk => by rw [hA1]; exact .inl (Nat.lt_of_lt_of_le hk s1))
  have HAG := hid (show A1 w2.heap.size by rw [hA1]; exact .inr ⟨Nat.le_refl _, sW⟩)
  have FW := hid ((F1.out.trans F2.out).trans hfW)
  clear hA1 hfW hW HC2 F1 F2
  go_loopw [7] (fun kv wr => ∃ k : Nat, k ≤ 2 ∧ kv = .int .i64 k ∧ CodIs A1 g wr RC.new ∧ Fr (Out A1) W wr) (fun kv _ => 2 - (intOf kv).toNat)
  case atStart => exact ⟨0, by omega, rfl, HC.out, Fr.refl _ _⟩
  case round =>
    obtain ⟨k, hk, rfl, hcod, hfr⟩ := hrel
    have HCod := hid hcod
    have HFr := hid hfr
    clear hcod hfr
    by_cases hk2 : k < 2
    · obtain ⟨ak, nk, ck, lk, hcell, hnk, HLk, HWk⟩ : ∃ (ak : Option Addr) (nk ck : Nat) (lk : Nat → Ask), (#[Value.slice al nl cl, Value.slice am nm cm] : Array Value)[k]? = some (Value.slice ak nk ck) ∧ nk ≤ 9223372036854775807 ∧ Hid (AsksIn w.heap.size w ak nk lk) ∧ Hid (∀ i, i < nk → (lk i).wf) := by
        have : k = 0 ∨ k = 1 := by omega
        rcases this with rfl | rfl
        · exact ⟨al, nl, cl, l, rfl, hnl, HL, HW⟩
        · exact ⟨am, nm, cm, m, rfl, hnm, HM, HWM⟩
      have HCE := hid hcell
      clear hcell
      go_wp2_with fail
      refine (enew_any _).mono ?_
      rintro e w4 ⟨ge, rfl, hge, hf4, he4⟩
      have s4 := hf4.size
      have HF4 := hid hf4
      have HE4 := hid he4
      clear hf4 he4
      go_wp2_with fail
      refine (fresh_any 600 _ (by decide)).mono ?_
      rintro e w5 ⟨gp, hgp, rfl, hf5, hb5⟩
      have s5 := hf5.size
      have HF5 := hid hf5
      have HB5 := hid hb5
      clear hf5 hb5
      go_wp2_with fail
      refine (rfresh_any 600 _ (by decide)).mono ?_
      rintro e w6 ⟨v6, rfl, ho6, hf6⟩
      obtain ⟨gq, cq, rfl, hq0, hq1, hq⟩ := rowQ_of ho6
      have S6 := hid (pair_start HCod.out HFr.out hge HF4.out HE4.out hgp HF5.out HB5.out hq0 hf6 hq)
      have s6 := hf6.size
      clear ho6 hf6 hq HF4 HE4 HF5 HB5
      obtain ⟨mk, hmk⟩ : ∃ mk, mk = min nk 2000 := ⟨_, rfl⟩
      have HMk := hid hmk
      clear hmk
      go_upto_block 2 with fail
      go_cut [] (fun wx => ∃ Ac Ae, PairA A1 g ge gp gq W Ac Ae wx (encR lk mk) (encR lk mk))
      case first =>
        as_aux_lemma =>
          go_wp2_with fail
          go_loopw [11] (fun iv wx => ∃ i : Nat, i ≤ nk ∧ i ≤ 2000 ∧ iv = .int .i64 i ∧ ∃ Ac Ae, PairA A1 g ge gp gq W Ac Ae wx (encR lk i) (encR lk i)) (fun iv _ => nk - (intOf iv).toNat)
          case atStart => exact ⟨0, Nat.zero_le _, Nat.zero_le _, rfl, _, _, S6.out⟩
          case round =>
            obtain ⟨i, hi, hi5, rfl, Ac, Ae, hst⟩ := hrel
            have Hst := hid hst
            have kc := blk_cell (hst.fr.blk HGA.out (fun e => e HAG.out)) HCE.out
            clear hst
            by_cases hlt : i < nk
            · by_cases hlt5 : i < 2000
              · have HLW := hid ((HLk.out.fr FW.out (fun _ _ => id)).fr Hst.out.fr (fun j hj e => e (HA0.out j hj)))
                obtain ⟨b, off, rfl, hb, c0, c1, c2, c3⟩ := HLW.out.at hlt
                clear HLW
                have hAb : A1 b := HA0.out b hb
                go_wp2_with fail
                refine (right_any _ _ _ _ _).mono ?_
                rintro e w7 ⟨rfl, hf7⟩
                have d0 := hf7.cell c0 id
                have d1 := hf7.cell c1 id
                have d2 := hf7.cell c2 id
                have d3 := hf7.cell c3 id
                have S7 := hid (Hst.out.any hf7)
                have kd := blk_cell (S7.out.fr.blk HGA.out (fun e => e HAG.out)) HCE.out
                clear hf7 c0 c1 c2 c3 kc
                have eR : Ask.rightB ⟨(lk i).kind, (lk i).at_, (lk i).bits, (lk i).val⟩ = (lk i).rightB := rfl
                rw [eR]
                clear eR
                cases hR : (lk i).rightB with
                | true =>
                  have hR2 : (lk i).Right := of_decide_eq_true hR
                  have eE : encR lk (i + 1) = (((encR lk i).1.ask (encR lk i).2 (lk i)).2, ((encR lk i).1.ask (encR lk i).2 (lk i)).1) := if_pos hR
                  have HE := hid eE
                  have HR := hid hR2
                  have hok := encR_ok lk i
                  have HOK := hid hok
                  clear hR hR2 eE hok
                  go_wp2_with fail
                  refine (put_any _ g gp (96 * i) (encR lk i).1 (encR lk i).2 (lk i) _ S7.out.cod S7.out.ap.1 HOK.out.1 (by omega) S7.out.rp HOK.out.2.2 HR.out (HWk.out i hlt).2.2.2).mono ?_
                  rintro e w8 ⟨rfl, hf8, hd8, hb8⟩
                  have S8 := hid (S7.out.put (r' := (((encR lk i).1.ask (encR lk i).2 (lk i)).2, ((encR lk i).1.ask (encR lk i).2 (lk i)).1)) hf8 hd8 hb8)
                  have hnb : ¬ (¬ Since Ac wr w7 b ∨ b = gp) := fun e => e.elim (fun e => e (S7.out.low b hAb).1) (fun e => S7.out.np.1 (by rw [← e]; exact hAb))
                  have e0 := hf8.cell d0 hnb
                  have e1 := hf8.cell d1 hnb
                  have e2 := hf8.cell d2 hnb
                  have e3 := hf8.cell d3 hnb
                  have ke := blk_cell (S8.out.fr.blk HGA.out (fun e => e HAG.out)) HCE.out
                  clear hf8 hd8 hb8 d0 d1 d2 d3 kd
                  go_wp2_with fail
                  refine (eask_any _ ge gq (96 * i) cq (encR lk i).1 (encR lk i).2 (lk i) _ S8.out.enc S8.out.aq.2 HOK.out.1 HOK.out.2.1 (by omega) S8.out.rq HOK.out.2.2 HR.out (HWk.out i hlt).2.2.2).mono ?_
                  rintro e w9 ⟨rfl, hf9, he9, hq9⟩
                  have S9 := hid (S8.out.ask (s' := (((encR lk i).1.ask (encR lk i).2 (lk i)).2, ((encR lk i).1.ask (encR lk i).2 (lk i)).1)) hf9 he9 hq9)
                  rw [← HE.out] at S9
                  clear hf9 he9 hq9 e0 e1 e2 e3 ke
                  go_wp2_with fail
                  go_roundw
                  case rel => exact ⟨i + 1, by omega, by omega, by go_num, _, _, S9.out⟩
                  case measure => simp [intOf]; omega
                | false =>
                  have eE : encR lk (i + 1) = encR lk i := if_neg (by rw [hR]; decide)
                  have S9 := S7
                  rw [← eE] at S9
                  clear hR eE d0 d1 d2 d3 kd
                  go_wp2_with fail
                  go_roundw
                  case rel => exact ⟨i + 1, by omega, by omega, by go_num, _, _, S9.out⟩
                  case measure => simp [intOf]; omega
              · have e : i = 2000 := by omega
                subst e
                have em : mk = 2000 := by have := HMk.out; omega
                go_wp2_with fail
                go_meet
                rw [em]; exact ⟨_, _, Hst.out⟩
            · have e : i = nk := by omega
              subst e
              have em : mk = i := by have := HMk.out; omega
              go_wp2_with fail
              go_meet
              rw [em]; exact ⟨_, _, Hst.out⟩
      case rest =>
        obtain ⟨Ac0, Ae0, hst0⟩ := hcut
        have HP0 := hid hst0
        clear hst0
        go_upto_region 17 with fail
        go_cut [73] (fun bv wy => bv = .bool false ∧ ∃ Ac Ae, PairA A1 g ge gp gq W Ac Ae wy (encR lk mk) (encR lk mk))
        case first =>
          as_aux_lemma =>
            have hcut : ∃ Ac Ae, PairA A1 g ge gp gq W Ac Ae _ (encR lk mk) (encR lk mk) := ⟨_, _, HP0.out⟩
            obtain ⟨Ac, Ae, hst⟩ := hcut
            obtain ⟨hok, hby, _⟩ := encR_ok lk mk
            have hmk2 : mk ≤ 2000 := by have := HMk.out; omega
            have HP := hid hst
            obtain ⟨v, B, hv, hB, hlen, hval⟩ := hst.enc
            obtain ⟨c, hc⟩ : ∃ c, c = (encR lk mk).1 := ⟨_, rfl⟩
            have HCod2 := hid hst.cod
            rw [← hc] at hv hlen hval hok hby HCod2
            have hsz : c.out.length + c.more ≤ 192000 := by have := hok.size; omega
            obtain ⟨L, hL⟩ : ∃ L, L = c.len := ⟨_, rfl⟩
            obtain ⟨ab, cb, rfl, hLc, hcm, hrow⟩ := hv.own.rowN (n := L) (by rw [hlen, hL])
            have k0 := blk_cell hv.at_ (j := 0) (v := .slice ab L cb) rfl
            have HV := hid hv
            have HO := hid hok
            have HBy := hid hby
            have HSame := hid (same_bytes (hok.fin hby) hB hlen hval)
            have HRow := hid hrow
            have hLe : ((c.out.length + c.more + 5 : Nat) : Int) = (L : Int) := by rw [hL]; rfl
            have HL2 := hid hL
            have HLe := hid hLe
            clear hst hv hB hlen hval hok hby hrow hc hL hLe
            go_region_with (go_at_call 16; refine (ccount_any Ac g c _ (by first | exact HCod2.out.drew | exact HCod2.out) (by omega)).mono ?_; rintro e w10 ⟨rfl, hf10⟩; rw [HLe.out]; have k1 := Fr.cell hf10 (p := ⟨ge, 0, none⟩) (v := .slice ab L cb) (by exact k0) id; have HF10 := hid (((Fr.refl Non _).drew).trans hf10); clear hf10)
            all_goals
              go_wp2_with fail
              go_meet
              exact ⟨by simp, _, _, HP.out.any HF10.out⟩
        case rest =>
          obtain ⟨hbv, hcut⟩ := hcut
          subst hbv
          obtain ⟨Ac, Ae, hst⟩ := hcut
          obtain ⟨hok, hby, _⟩ := encR_ok lk mk
          have hmk2 : mk ≤ 2000 := by have := HMk.out; omega
          have HP := hid hst
          obtain ⟨v, B, hv, hB, hlen, hval⟩ := hst.enc
          obtain ⟨c, hc⟩ : ∃ c, c = (encR lk mk).1 := ⟨_, rfl⟩
          have HCod2 := hid hst.cod
          rw [← hc] at hv hlen hval hok hby HCod2
          have hsz : c.out.length + c.more ≤ 192000 := by have := hok.size; omega
          obtain ⟨L, hL⟩ : ∃ L, L = c.len := ⟨_, rfl⟩
          obtain ⟨ab, cb, rfl, hLc, hcm, hrow⟩ := hv.own.rowN (n := L) (by rw [hlen, hL])
          have k0 := blk_cell hv.at_ (j := 0) (v := .slice ab L cb) rfl
          have HV := hid hv
          have HO := hid hok
          have HBy := hid hby
          have HSame := hid (same_bytes (hok.fin hby) hB hlen hval)
          have HRow := hid hrow
          have hLe : ((c.out.length + c.more + 5 : Nat) : Int) = (L : Int) := by rw [hL]; rfl
          have HL2 := hid hL
          have HLe := hid hLe
          clear hst hv hB hlen hval hok hby hrow hc hL hLe
          have hgl := blk_lt HV.out.at_
          have hAge : Ac ge := (HP.out.cov ge hgl).resolve_right HV.out.not
          have hAb : ∀ q, (Value.slice ab L cb).ownBlock = some q → Ac q := fun q hq => (HP.out.cov q (HV.out.own.block q hq).2).resolve_right (HV.out.sep q hq).2
          have HAb := hid hAb
          have hBl : B.length = L := by
            obtain ⟨h1, _⟩ := HV.out.own
            have h2 := HSame.out
            obtain ⟨_, q2, _⟩ := gives_out (HO.out.fin HBy.out)
            rw [← h2, q2, HL2.out]
          have HBl := hid hBl
          have HA1c := hid (show ∀ k, A1 k → Ac k from fun k hk => (HP.out.low k hk).1)
          have HL62 := hid (show L ≤ 4611686018427387904 by have := HLe.out; omega)
          clear hAb hBl
          go_upto_region 19 with fail
          go_cut [86] (fun bv wy => bv = .bool false ∧ CodIs A1 g wy RC.new ∧ Fr (Out A1) W wy)
          case first =>
            as_aux_lemma =>
              go_region_with (first
                | (go_at_call 23; refine (cfinish_any Ac g c _ (by first | exact HCod2.out.drew | exact HCod2.out) (HO.out.fit.mono (by omega))).mono ?_; rintro e w11 ⟨v6, rfl, ho6, hs6, hf6, hc6⟩; rw [HSame.out] at ho6; obtain ⟨a6, k6, rfl, _, _, hr6⟩ := ho6.rowN (n := L) HBl.out; have k1 := Fr.cell hf6 (p := ⟨ge, 0, none⟩) (v := .slice ab L cb) (by exact k0) (fun e => Out.no e hAge); have hf7 := ((Fr.refl (Out Ac) _).drew).trans hf6; have HV2 := hid (HV.out.keep hf7 (fun e => Out.no e hAge) (fun q hq e => Out.no e (HAb.out q hq))); obtain ⟨_, _, hx, _, _, hr7⟩ := HV2.out.own.rowN (n := L) HBl.out; injection hx with hx1 hx2 hx3; subst hx1; have HR6 := hid hr6; have HR7 := hid hr7; have HC6 := hid hc6; have HF7 := hid hf7; clear hx2 hx3 hr6 hr7 hc6 hf6 hf7 hs6 ho6)
                | (go_at_call 22; refine (bytes_yes _ _ L _ _ _ _ _ HL62.out _ HR6.out HR7.out (fun i _ => rfl)).mono ?_; rintro e w12 ⟨rfl, hf12⟩; have HF12 := hid hf12; have HC12 := hid (HC6.out.any hf12); clear hf12)
                | (go_at_call 16; refine (ccount_any Ac g RC.new _ HC12.out (by decide)).mono ?_; rintro e w13 ⟨rfl, hf13⟩; have HF13 := hid hf13; have HC13 := hid (HC12.out.any hf13); clear hf13))
              all_goals
                go_wp2_with fail
                go_meet
                exact ⟨by simp [RC.new], HC13.out.less HA1c.out, HP.out.fr.then ((HF7.out.trans HF12.out.any).trans HF13.out.any) (fun i _ e h => e (HA1c.out i h))⟩
          case rest =>
            obtain ⟨hbv, hc9, hf9⟩ := hcut
            subst hbv
            have HC9 := hid hc9
            have HF9 := hid hf9
            clear hc9 hf9
            go_wp2_with fail
            go_roundw
            case rel => exact ⟨k + 1, by omega, by go_num, HC9.out, HF9.out⟩
            case measure => simp [intOf]; omega
    · have e : k = 2 := by omega
      subst e
      go_wp2_with fail
      go_ret
      exact ⟨rfl, FW.out.then HFr.out (fun i hi e => e (HA0.out i hi))⟩
end Go.Proofs.Ytomjagibcdneiaa
