/- The walk through PrcPuts. -/
import Derived.Test.YtnkdeedbgkcbfaaEnc6h
namespace Go.Proofs.Ytnkdeedbgkcbfaa
open Go.RowKit

set_option maxRecDepth 100000 in
set_option maxHeartbeats 40000000 in
theorem prcPuts_walk (al : Option Addr) (nl cl : Nat) (l : Nat → Share) (am : Option Addr) (nm cm : Nat) (m : Nat → Share) (w : World) (hnl : nl ≤ 9223372036854775807) (hl : SharesIn w.heap.size w al nl l) (hwf : ∀ i, i < nl → (l i).wf)
    (hnm : nm ≤ 9223372036854775807) (hm : SharesIn w.heap.size w am nm m) (hwm : ∀ i, i < nm → (m i).wf) :
    Calls Try.prog 3 #[.slice al nl cl, .slice am nm cm] w fun e w' => e = .returned (.bool true) ∧ Fr Non w w' := by
  have HL := hid hl
  have HW := hid hwf
  have HM := hid hm
  have HWM := hid hwm
  clear hl hwf hm hwm
  go_enter Try.func3, Try.ntmps3
  go_wp2_with fail
  refine (awake06_any _).mono ?_
  rintro e w1 ⟨rfl, hf1⟩
  have s1 := hf1.size
  have F1 := hid hf1
  clear hf1
  go_wp2_with fail
  refine (cnew_any _).mono ?_
  rintro e w2 ⟨g, rfl, hg0, hf2, hc2⟩
  have s2 := hf2.size
  have F2 := hid hf2
  have HC2 := hid hc2
  clear hf2 hc2
  go_wp2_with fail
  obtain ⟨W, hW⟩ : ∃ W, W = w2.alloc (.cells #[.slice al nl cl, .slice am nm cm] 22) := ⟨_, rfl⟩
  rw [← hW]
  have hfW : Fr Non w2 W := by rw [hW]; exact (Fr.refl Non w2).alloc _
  have HGA := hid (show W.heap[w2.heap.size]? = some (.cells #[.slice al nl cl, .slice am nm cm] 22) by rw [hW]; exact blk_new w2 _)
  have sW : w2.heap.size < W.heap.size := blk_lt HGA.out
  obtain ⟨A1, hA1⟩ : ∃ A1, A1 = Since (fun k => k < w1.heap.size) w2 W := ⟨_, rfl⟩
  have HC := hid (show CodIs A1 g W RC.new by rw [hA1]; exact HC2.out.gone hfW (fun _ _ e => e.elim))
  have HA0 := hid (show ∀ k, k < w.heap.size → A1 k from fun k hk => by rw [hA1]; exact .inl (Nat.lt_of_lt_of_le hk s1))
  have HAG := hid (show A1 w2.heap.size by rw [hA1]; exact .inr ⟨Nat.le_refl _, sW⟩)
  have FW := hid ((F1.out.trans F2.out).trans hfW)
  clear hA1 hfW hW HC2 F1 F2
  go_loopw [7] (fun kv wr => ∃ k : Nat, k ≤ 2 ∧ kv = .int .i64 k ∧ CodIs A1 g wr RC.new ∧ Fr (Out A1) W wr) (fun kv _ => 2 - (intOf kv).toNat)
  case atStart => exact ⟨0, by omega, rfl, HC.out, Fr.refl _ _⟩
  case round =>
    obtain ⟨k, hk, rfl, hcod, hfr⟩ := hrel
    have HCod := hid hcod
    have HFr := hid hfr
    clear hcod hfr
    by_cases hk2 : k < 2
    · obtain ⟨ak, nk, ck, lk, hcell, hnk, HLk, HWk⟩ : ∃ (ak : Option Addr) (nk ck : Nat) (lk : Nat → Share), (#[Value.slice al nl cl, Value.slice am nm cm] : Array Value)[k]? = some (Value.slice ak nk ck) ∧ nk ≤ 9223372036854775807 ∧ Hid (SharesIn w.heap.size w ak nk lk) ∧ Hid (∀ i, i < nk → (lk i).wf) := by
        have : k = 0 ∨ k = 1 := by omega
        rcases this with rfl | rfl
        · exact ⟨al, nl, cl, l, rfl, hnl, HL, HW⟩
        · exact ⟨am, nm, cm, m, rfl, hnm, HM, HWM⟩
      have HCE := hid hcell
      clear hcell
      go_wp2_with fail
      refine (enew_any _).mono ?_
      rintro e w4 ⟨ge, rfl, hge, hf4, he4⟩
      have s4 := hf4.size
      have HF4 := hid hf4
      have HE4 := hid he4
      clear hf4 he4
      have S6 := hid (pair_start HCod.out HFr.out HF4.out HE4.out)
      clear HF4 HE4
      obtain ⟨mk, hmk⟩ : ∃ mk, mk = min nk 2000 := ⟨_, rfl⟩
      have HMk := hid hmk
      clear hmk
      go_upto_block 2 with fail
      go_cut [] (fun wx => ∃ Ac Ae, PairA A1 g ge W Ac Ae wx (encP lk mk) (encP lk mk))
      case first =>
        as_aux_lemma =>
          go_wp2_with fail
          go_loopw [9] (fun iv wx => ∃ i : Nat, i ≤ nk ∧ i ≤ 2000 ∧ iv = .int .i64 i ∧ ∃ Ac Ae, PairA A1 g ge W Ac Ae wx (encP lk i) (encP lk i)) (fun iv _ => nk - (intOf iv).toNat)
          case atStart => exact ⟨0, Nat.zero_le _, Nat.zero_le _, rfl, _, _, S6.out⟩
          case round =>
            obtain ⟨i, hi, hi5, rfl, Ac, Ae, hst⟩ := hrel
            have Hst := hid hst
            have kc := blk_cell (hst.fr.blk HGA.out (fun e => e HAG.out)) HCE.out
            clear hst
            by_cases hlt : i < nk
            · by_cases hlt5 : i < 2000
              · have HLW := hid ((HLk.out.fr FW.out (fun _ _ => id)).fr Hst.out.fr (fun j hj e => e (HA0.out j hj)))
                obtain ⟨b, off, rfl, hb, c0, c1, c2, c3⟩ := HLW.out.at hlt
                clear HLW
                have hAb : A1 b := HA0.out b hb
                go_wp2_with fail
                refine (right_any _ _ _ _ _ (HWk.out i hlt).2.1 (HWk.out i hlt).2.2.1 (HWk.out i hlt).2.2.2).mono ?_
                rintro e w7 ⟨rfl, hf7⟩
                have d0 := hf7.cell c0 id
                have d1 := hf7.cell c1 id
                have d2 := hf7.cell c2 id
                have d3 := hf7.cell c3 id
                have S7 := hid (Hst.out.any hf7)
                have kd := blk_cell (S7.out.fr.blk HGA.out (fun e => e HAG.out)) HCE.out
                clear hf7 c0 c1 c2 c3 kc
                have eR : Share.rightB ⟨(lk i).kind, (lk i).start, (lk i).size, (lk i).total⟩ = (lk i).rightB := rfl
                rw [eR]
                clear eR
                cases hR : (lk i).rightB with
                | true =>
                  have hR2 : (lk i).Right := of_decide_eq_true hR
                  have eE : encP lk (i + 1) = (encP lk i).put (lk i) := if_pos hR
                  have HE := hid eE
                  have HR := hid hR2
                  have hok := encP_ok lk i
                  have HOK := hid hok
                  clear hR hR2 eE hok
                  go_wp2_with fail
                  refine (put_any _ g (3 * i) (encP lk i) (lk i) _ S7.out.cod HOK.out.1 (by omega) HR.out).mono ?_
                  rintro e w8 ⟨rfl, hf8, hd8⟩
                  have S8 := hid (S7.out.put hf8 hd8)
                  have hnb : ¬ Out (Since Ac wr w7) b := fun e => e (S7.out.low b hAb).1
                  have e0 := hf8.cell d0 hnb
                  have e1 := hf8.cell d1 hnb
                  have e2 := hf8.cell d2 hnb
                  have e3 := hf8.cell d3 hnb
                  have ke := blk_cell (S8.out.fr.blk HGA.out (fun e => e HAG.out)) HCE.out
                  clear hf8 hd8 d0 d1 d2 d3 kd
                  go_wp2_with fail
                  refine (eput_any _ ge (3 * i) (encP lk i) (lk i) _ S8.out.enc HOK.out.1 HOK.out.2 (by omega) HR.out).mono ?_
                  rintro e w9 ⟨rfl, hf9, he9⟩
                  have S9 := hid (S8.out.ask hf9 he9)
                  rw [← HE.out] at S9
                  clear hf9 he9 e0 e1 e2 e3 ke
                  go_wp2_with fail
                  go_roundw
                  case rel => exact ⟨i + 1, by omega, by omega, by go_num, _, _, S9.out⟩
                  case measure => simp [intOf]; omega
                | false =>
                  have eE : encP lk (i + 1) = encP lk i := if_neg (by rw [hR]; decide)
                  have S9 := S7
                  rw [← eE] at S9
                  clear hR eE d0 d1 d2 d3 kd
                  go_wp2_with fail
                  go_roundw
                  case rel => exact ⟨i + 1, by omega, by omega, by go_num, _, _, S9.out⟩
                  case measure => simp [intOf]; omega
              · have e : i = 2000 := by omega
                subst e
                have em : mk = 2000 := by have := HMk.out; omega
                go_wp2_with fail
                go_meet
                rw [em]; exact ⟨_, _, Hst.out⟩
            · have e : i = nk := by omega
              subst e
              have em : mk = i := by have := HMk.out; omega
              go_wp2_with fail
              go_meet
              rw [em]; exact ⟨_, _, Hst.out⟩
      case rest =>
        obtain ⟨Ac, Ae, hst⟩ := hcut
        obtain ⟨hok, hby⟩ := encP_ok lk mk
        have hmk2 : mk ≤ 2000 := by have := HMk.out; omega
        have HP := hid hst
        obtain ⟨v, B, hv, hB, hlen, hval⟩ := hst.enc
        obtain ⟨c, hc⟩ : ∃ c, c = encP lk mk := ⟨_, rfl⟩
        have HCod2 := hid hst.cod
        rw [← hc] at hv hlen hval hok hby HCod2
        have hsz : c.out.length + c.more ≤ 192000 := by have := hok.size; omega
        obtain ⟨L, hL⟩ : ∃ L, L = c.len := ⟨_, rfl⟩
        obtain ⟨ab, cb, rfl, hLc, hcm, hrow⟩ := hv.own.rowN (n := L) (by rw [hlen, hL])
        have k0 := blk_cell hv.at_ (j := 0) (v := .slice ab L cb) rfl
        have HV := hid hv
        have HO := hid hok
        have HBy := hid hby
        have HSame := hid (same_bytes (hok.fin hby) hB hlen hval)
        have HRow := hid hrow
        have hLe : ((c.out.length + c.more + 5 : Nat) : Int) = (L : Int) := by rw [hL]; rfl
        have HL2 := hid hL
        have HLe := hid hLe
        clear hst hv hB hlen hval hok hby hrow hc hL hLe
        have hgl := blk_lt HV.out.at_
        have hAge : Ac ge := (HP.out.cov ge hgl).resolve_right HV.out.not
        have hAb : ∀ q, (Value.slice ab L cb).ownBlock = some q → Ac q := fun q hq => (HP.out.cov q (HV.out.own.block q hq).2).resolve_right (HV.out.sep q hq).2
        have HAb := hid hAb
        have hBl : B.length = L := by
          obtain ⟨h1, _⟩ := HV.out.own
          have h2 := HSame.out
          obtain ⟨_, q2, _⟩ := gives_out (HO.out.fin HBy.out)
          rw [← h2, q2, HL2.out]
        have HBl := hid hBl
        have HA1c := hid (show ∀ k, A1 k → Ac k from fun k hk => (HP.out.low k hk).1)
        have HL62 := hid (show L ≤ 4611686018427387904 by have := HLe.out; omega)
        clear hAb hBl
        go_upto_region 15 with fail
        go_cut [77] (fun bv wy => bv = .bool false ∧ CodIs A1 g wy RC.new ∧ Fr (Out A1) W wy)
        case first =>
          · go_region_with (first
              | (go_at_call 14; refine (ccount_any Ac g c _ (by first | exact HCod2.out.any ((Fr.refl Non _).drew) | exact HCod2.out) (by omega)).mono ?_; rintro e w10 ⟨rfl, hf10⟩; rw [HLe.out]; have k1 := Fr.cell hf10 (p := ⟨ge, 0, none⟩) (v := .slice ab L cb) (by exact k0) id; have HF10 := hid (((Fr.refl Non _).drew).trans hf10); have HC10 := hid (HCod2.out.any HF10.out); have HV10 := hid (HV.out.keep HF10.out id (fun _ _ => id)); clear hf10)
              | (go_at_call 16; refine (cfinish_any Ac g c _ HC10.out (HO.out.fit.mono (by omega))).mono ?_; rintro e w11 ⟨v6, rfl, ho6, hs6, hf6, hc6⟩; rw [HSame.out] at ho6; obtain ⟨a6, k6, rfl, _, _, hr6⟩ := ho6.rowN (n := L) HBl.out; have k2 := Fr.cell hf6 (p := ⟨ge, 0, none⟩) (v := .slice ab L cb) (by exact k1) (fun e => Out.no e hAge); have HV2 := hid (HV10.out.keep hf6 (fun e => Out.no e hAge) (fun q hq e => Out.no e (HAb.out q hq))); obtain ⟨_, _, hx, _, _, hr7⟩ := HV2.out.own.rowN (n := L) HBl.out; injection hx with hx1 hx2 hx3; subst hx1; have HR6 := hid hr6; have HR7 := hid hr7; have HC6 := hid hc6; have HF7 := hid hf6; clear hx2 hx3 hr6 hr7 hc6 hf6 hs6 ho6)
              | (go_at_call 15; refine (bytes_yes _ _ L _ _ _ _ _ HL62.out _ HR6.out HR7.out (fun i _ => rfl)).mono ?_; rintro e w12 ⟨rfl, hf12⟩; have HF12 := hid hf12; have HC12 := hid (HC6.out.any hf12); clear hf12))
            all_goals
              go_wp2_with fail
              go_meet
              exact ⟨by simp, HC12.out.less HA1c.out, HP.out.fr.then ((HF10.out.any.trans HF7.out).trans HF12.out.any) (fun i _ e h => e (HA1c.out i h))⟩
        case rest =>
          obtain ⟨hbv, hc9, hf9⟩ := hcut
          subst hbv
          have HC9 := hid hc9
          have HF9 := hid hf9
          clear hc9 hf9
          go_wp2_with fail
          go_roundw
          case rel => exact ⟨k + 1, by omega, by go_num, HC9.out, HF9.out⟩
          case measure => simp [intOf]; omega
    · have e : k = 2 := by omega
      subst e
      go_wp2_with fail
      go_ret
      exact ⟨rfl, FW.out.then HFr.out (fun i hi e => e (HA0.out i hi))⟩
end Go.Proofs.Ytnkdeedbgkcbfaa
