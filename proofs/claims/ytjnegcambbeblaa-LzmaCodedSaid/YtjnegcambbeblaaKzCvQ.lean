/- LzmaCoded's walk. -/
import Derived.Test.YtjnegcambbeblaaMg22
import Derived.Test.YtjnegcambbeblaaMg23
namespace Go.Proofs.Ytjnegcambbeblaa
open Go.RowKit

theorem RowIn.less {B : Nat} {w : World} {k : IntKind} {a : Option Addr} {n m : Nat} {f : Nat → Int} (h : RowIn B k w a n f) (hm : m ≤ n) : RowIn B k w a m f := by
  rcases h with h | ⟨b, off, h1, h2, h3⟩
  · exact .inl (by omega)
  · exact .inr ⟨b, off, h1, h2, fun i hi => h3 i (by omega)⟩
theorem RowIn.up {w w' : World} {k : IntKind} {a : Option Addr} {n : Nat} {f : Nat → Int} (h : RowIn w.heap.size k w a n f) (hf : Fr Non w w') : RowIn w'.heap.size k w' a n f := (h.fr hf (fun _ _ => id)).mono hf.size
/-- Unpack of a row, by much memory. -/
theorem lun_row (p : Lset) (hp : p.Light) (size : Nat) (hs : size ≤ 6000) (a : Option Addr) (n c : Nat) (f : Nat → Int) (hf : ∀ i, i < n → 0 ≤ f i ∧ f i < 256) (gm : Nat) (W w : World) (hW : Fr Non W w) (hgW : W.heap.size ≤ gm) (h : MAt w gm MUCH) (hn : n ≤ 60000) (hnc : n ≤ c) (hnil : a = none → c = 0) (hr : RowIn w.heap.size .u8 w a n f) :
    Calls Try.prog 17 #[.slice a n c, .agg #[.int .i64 p.lc, .int .i64 p.lp, .int .i64 p.pb, .int .i64 p.dict], .int .i64 size, .pointer (some ⟨gm, 0, none⟩)] w (KUnPost (lunpack (feedNx f n) 0 p p.dict.toNat size) W) := by
  obtain ⟨N, hN⟩ : ∃ N, N = wsize (min p.dict (size : Int)) := ⟨_, rfl⟩
  have hMM := much_mem (a := p.need) (b := N) hp.need_le (by rw [hN]; unfold wsize; omega)
  have h1 := lunpack6_any gm MUCH p (size : Int) size (Int.toNat_natCast _) a n c f hf w N hN h MUCH_ok hp (by omega) (by omega) hn hnc hnil hr hMM.1 hMM.2
  rw [show lunpack (feedNx f n) 0 p N size = lunpack (feedNx f n) 0 p p.dict.toNat size by rw [hN]; exact lunpack_size _ _ p (size : Int) size (Int.toNat_natCast _) (by have := hp.may.d0; omega)] at h1
  refine h1.mono ?_
  rintro e w' ⟨h1, h2, h3, h4⟩
  refine ⟨hW.then h1 (fun i hi e => by have e' : i = gm := e; omega), ?_⟩
  rcases h4 with h4 | ⟨xs, v, h5, h6, h7⟩
  · exact .inl h4
  · exact .inr ⟨xs, v, h5, h6, h7.low hW.size⟩
theorem kun_some {R : Option (List Int)} {H : List Int} {w : World} {e : Ending} {w' : World} (hR : R = some H) (h : KUnPost R w e w') : Fr Non w w' ∧ ∃ v, e = .returned (.tuple #[v, .int .i64 0]) ∧ RowO w' w.heap.size v H := by
  obtain ⟨h1, h2⟩ := h
  refine ⟨h1, ?_⟩
  rcases h2 with ⟨h3, _⟩ | ⟨xs, v, h3, h4, h5⟩
  · rw [hR] at h3; cases h3
  · rw [hR] at h3
    injection h3 with h3
    exact ⟨v, h4, by rw [h3]; exact h5⟩
theorem kun_none {R : Option (List Int)} {w : World} {e : Ending} {w' : World} (hR : R = none) (h : KUnPost R w e w') : Fr Non w w' ∧ e = .returned (.tuple #[.slice none 0 0, .int .i64 12]) := by
  obtain ⟨h1, h2⟩ := h
  refine ⟨h1, ?_⟩
  rcases h2 with ⟨_, h3⟩ | ⟨xs, v, h3, _⟩
  · exact h3
  · rw [hR] at h3; cases h3
set_option maxRecDepth 100000 in
set_option maxHeartbeats 32000000 in
theorem lzmaCoded_walk (p : Lset) (a : Option Addr) (n cap : Nat) (f : Nat → PkV) (en : Bool) (w : World) (hr : PvIn w.heap.size w a n f) (hf : ∀ i, i < n → (f i).wf) (hn63 : (n : Int) ≤ 9223372036854775807) :
    Calls Try.prog 3 #[p.val, .slice a n cap, .bool en] w fun e w' => e = .returned (.bool true) ∧ Fr Non w w' := by
  have HV := hid (show p.val = .agg #[.int .i64 p.lc, .int .i64 p.lp, .int .i64 p.pb, .int .i64 p.dict] from rfl)
  rw [HV.out]
  have HR := hid hr
  have Hf := hid hf
  clear hr hf
  go_enter Try.func3, Try.ntmps3
  go_wp2_with fail
  refine (awake08_any _).mono ?_
  rintro e w1 ⟨rfl, hf1⟩
  have HB1 := hid (hf1.blk (blk_new w (.cells #[.int .i64 p.lc, .int .i64 p.lp, .int .i64 p.pb, .int .i64 p.dict] 23)) id)
  have F1 := hid (((Fr.refl Non w).alloc _).trans hf1)
  clear hf1
  have k0 := blk_cell HB1.out (j := 0) (v := .int .i64 p.lc) rfl
  have k1 := blk_cell HB1.out (j := 1) (v := .int .i64 p.lp) rfl
  have k2 := blk_cell HB1.out (j := 2) (v := .int .i64 p.pb) rfl
  have k3 := blk_cell HB1.out (j := 3) (v := .int .i64 p.dict) rfl
  go_wp2_with fail
  refine (show Calls Try.prog 14 #[.agg #[.int .i64 p.lc, .int .i64 p.lp, .int .i64 p.pb, .int .i64 p.dict]] _ _ from rmay_any p _).mono ?_
  rintro e w2 ⟨rfl, hf2⟩
  have HB2 := hid (hf2.blk HB1.out id)
  have F2 := hid (F1.out.trans hf2)
  clear hf2 k0 k1 k2 k3
  cases hmay : p.may with
  | false =>
    clear hmay
    go_wp2_with fail
    go_ret
    exact ⟨rfl, F2.out⟩
  | true =>
    have HMAY := hid hmay
    clear hmay
    have k0 := blk_cell HB2.out (j := 0) (v := .int .i64 p.lc) rfl
    have k1 := blk_cell HB2.out (j := 1) (v := .int .i64 p.lp) rfl
    have k2 := blk_cell HB2.out (j := 2) (v := .int .i64 p.pb) rfl
    have k3 := blk_cell HB2.out (j := 3) (v := .int .i64 p.dict) rfl
    go_wp2_with fail
    refine (show Calls Try.prog 15 #[.agg #[.int .i64 p.lc, .int .i64 p.lp, .int .i64 p.pb, .int .i64 p.dict]] _ _ from light_any p _).mono ?_
    rintro e w3 ⟨rfl, hf3⟩
    have F3 := hid (F2.out.trans hf3)
    have HB3 := hid (hf3.blk HB2.out id)
    obtain ⟨li, hli⟩ : ∃ li, li = (!p.may || decide (p.lc + p.lp ≤ 6)) := ⟨_, rfl⟩
    rw [← hli]
    have HLI := hid hli
    clear hli hf3 k0 k1 k2 k3
    cases li with
    | false =>
      go_wp2_with fail
      go_ret
      exact ⟨rfl, F3.out⟩
    | true =>
      have HP := hid (show p.Light from ⟨Lset.may_iff.1 HMAY.out, by have h := HLI.out; rw [HMAY.out] at h; exact of_decide_eq_true h.symm⟩)
      by_cases hlong : 300 < n
      · have hl : (300 : Int) < (n : Int) := by omega
        clear hlong
        go_wp2_with fail
        go_ret
        exact ⟨rfl, F3.out⟩
      have hl : ¬ (300 : Int) < (n : Int) := by omega
      have HN := hid (show n ≤ 300 by omega)
      clear hlong hn63
      go_wp2_with fail
      have hn3 : (n : Int) ≤ 300 := by omega
      clear hl
      go_loopw [7, 8] (fun lv iv wr => ∃ i : Nat, iv = .int .i64 i ∧ i ≤ n ∧ PvOwn wr w3.heap.size lv (keepL f i) ∧ Fr Non w3 wr) (fun _ iv _ => n - (intOf iv).toNat)
      case atStart => exact ⟨0, rfl, Nat.zero_le _, PvOwn.nil _ _, Fr.refl _ _⟩
      case round =>
        obtain ⟨i, rfl, hin, hown, hfr⟩ := hrel
        obtain ⟨la, lc, hlv, _⟩ := hown.rowN (n := (keepL f i).length) rfl
        obtain ⟨ln, hln⟩ : ∃ ln, ln = (keepL f i).length := ⟨_, rfl⟩
        rw [← hln] at hlv
        subst hlv
        have HOWN := hid hown
        have HFR := hid hfr
        have HLN := hid hln
        clear hown hfr hln
        by_cases hlt : i < n
        · obtain ⟨b, off, ha, hbw, q0, q1, q2, q3⟩ := ((HR.out.fr F3.out (fun _ _ => id)).fr HFR.out (fun _ _ => id)).at hlt
          subst ha
          obtain ⟨⟨kind, byte, len, dist⟩, hq⟩ : ∃ q, q = f i := ⟨_, rfl⟩
          rw [← hq] at q0 q1 q2 q3
          dsimp only at q0 q1 q2 q3
          have HQ := hid hq
          have HLT := hid hlt
          have hlti : (i : Int) < (n : Int) := by omega
          clear hq hlt hbw
          by_cases hk : kind = 7
          · have HK := hid (show (f i).kind = 7 by rw [← HQ.out]; exact hk)
            subst hk
            go_wp2_with fail
            exact ⟨⟨i + 1, by push_cast; rfl, by have := HLT.out; omega, by rw [keepL_no HK.out]; exact HOWN.out, HFR.out⟩, by simp [intOf]; have := HLT.out; omega⟩
          · have HK := hid (show (f i).kind ≠ 7 by rw [← HQ.out]; exact hk)
            have hk7 : (kind != 7) = true := by simpa using hk
            clear hk
            go_wp2_with (at_builtin; refine opAppendPv (some 50) rfl rfl (.tmp 44) (.tmp 49) rfl w3.heap.size (.slice la ln lc) (keepL f i) rfl (by exact HOWN.out.fr ((Fr.refl Non _).alloc _) (fun _ _ _ => id)) _ _ ⟨kind, byte, len, dist⟩ _ rfl (by exact blk_new _ _) (by have := keepL_len f i; have := HN.out; omega) (by have := HFR.out.size; simp; omega) ?_; intro v5 w5 hown5 hg5)
            have HF5 := hid (Fr.grown (HFR.out.alloc _) hg5 (fun b hb hlt => by have := (HOWN.out.block b hb).1; omega))
            have HO5 := hid hown5
            clear hown5 hg5
            go_wp2_with fail
            exact ⟨⟨i + 1, by push_cast; rfl, by have := HLT.out; omega, by rw [keepL_yes HK.out, ← HQ.out]; exact HO5.out, HF5.out⟩, by simp [intOf]; have := HLT.out; omega⟩
        · have hlti : ¬ (i : Int) < (n : Int) := by omega
          have hie : i = n := by omega
          subst hie
          clear hlt hin
          go_upto_if 51 with fail
          go_cut [7] (fun lv wx => ∃ la ln lc, lv = .slice la ln lc ∧ PvOwn wx w3.heap.size lv (if en = true then keepL f i ++ [pend] else keepL f i) ∧ Fr Non w3 wx)
          case first =>
            cases en with
            | false =>
              go_wp2_with fail
              go_meet
              exact ⟨_, _, _, rfl, by rw [if_neg (by decide)]; exact HOWN.out, HFR.out⟩
            | true =>
              go_wp2_with (at_builtin; refine opAppendPv (some 55) rfl rfl (.tmp 52) (.tmp 54) rfl w3.heap.size (.slice la ln lc) (keepL f i) rfl (by exact HOWN.out.fr ((Fr.refl Non _).alloc _) (fun _ _ _ => id)) _ _ pend _ rfl (by exact blk_new _ _) (by have := keepL_len f i; have := HN.out; omega) (by have := HFR.out.size; simp; omega) ?_; intro v5 w5 hown5 hg5)
              have HF5 := hid (Fr.grown (HFR.out.alloc _) hg5 (fun b hb hlt => by have := (HOWN.out.block b hb).1; omega))
              have HO5 := hid hown5
              clear hown5 hg5
              obtain ⟨la5, lc5, hlv5, _⟩ := HO5.out.rowN (n := (keepL f i ++ [pend]).length) rfl
              go_wp2_with fail
              go_meet
              exact ⟨_, _, _, hlv5, by first | (rw [if_pos rfl]; exact HO5.out) | (rw [if_pos trivial]; exact HO5.out), HF5.out⟩
          case rest =>
            obtain ⟨la5, ln5, lc5, rfl, ho5, hf5⟩ := hcut
            obtain ⟨w5, hw5⟩ : ∃ x, x = wc := ⟨_, rfl⟩
            rw [← hw5] at ho5 hf5 ⊢
            obtain ⟨L, hL⟩ : ∃ L, L = (if en = true then keepL f i ++ [pend] else keepL f i) := ⟨_, rfl⟩
            rw [← hL] at ho5
            have F5 := hid (F3.out.trans hf5)
            have HB5 := hid (hf5.blk HB3.out id)
            obtain ⟨la6, lc6, hl6, hl7, hl8, hli⟩ := ho5.rowN (n := L.length) rfl
            injection hl6 with hl61 hl62 hl63
            subst hl61 hl62 hl63
            have HLI := hid hli
            have HLL := hid (show L.length ≤ 301 by rw [hL]; have := keepL_len f i; have := HN.out; split <;> simp <;> omega)
            have HLW := hid (show ∀ q ∈ L, q.wf by
              intro q hq
              rw [hL] at hq
              have h0 := fun h => (keepL_mem Hf.out q h).1
              split at hq
              · rcases List.mem_append.1 hq with h1 | h1
                · exact h0 h1
                · rw [List.mem_singleton.1 h1]
                  exact ⟨⟨by decide, by decide⟩, by decide, by decide, ⟨by decide, by decide⟩, by decide⟩
              · exact h0 hq)
            have HLE := hid hL
            obtain ⟨ln, hln⟩ : ∃ ln, ln = L.length := ⟨_, rfl⟩
            rw [← hln]
            have HLN := hid hln
            have HCODE := hid (show Calls Try.prog 16 #[.agg #[.int .i64 p.lc, .int .i64 p.lp, .int .i64 p.pb, .int .i64 p.dict], .slice la5 ln lc5, .int .i64 5000] w5 _ from kcode_any p HP.out la5 ln lc5 (fun j => L.getD j pv0) w5 (by have := HLL.out; omega) (by rw [hln]; exact HLI.out) (fun j hj => by
              have hj2 : j < L.length := by rw [← hln]; exact hj
              have e : L.getD j pv0 = L[j] := by simp [List.getD, hj2]
              rw [e]
              exact HLW.out _ (List.getElem_mem hj2)))
            clear ho5 hf5 hw5 hli hL hln hl7 hl8
            have k0 := blk_cell HB5.out (j := 0) (v := .int .i64 p.lc) rfl
            have k1 := blk_cell HB5.out (j := 1) (v := .int .i64 p.lp) rfl
            have k2 := blk_cell HB5.out (j := 2) (v := .int .i64 p.pb) rfl
            have k3 := blk_cell HB5.out (j := 3) (v := .int .i64 p.dict) rfl
            go_wp2_with fail
            refine HCODE.out.mono ?_
            rintro e w6 ⟨ge, hf6, hlen6, hfew, v, u, rfl, hv, hu⟩
            rw [HLN.out, range_getDv] at hlen6 hfew hv hu
            obtain ⟨y, hy⟩ : ∃ y, y = kcode (cdrE w5.heap.size ge) tcode L (bare (lstart p), RC.new) := ⟨_, rfl⟩
            rw [← hy] at hlen6 hfew hv hu
            have hco := coded_all w5.heap.size ge p (by have := HP.out.may.d0; omega) tcode_fit (keepL f i) (by have := keepL_len f i; have := HN.out; omega) (fun q hq => ⟨⟨(keepL_mem Hf.out q hq).1.2.2.2.2⟩, (keepL_mem Hf.out q hq).2⟩) en
            rw [← HLE.out, ← hy] at hco
            have hrows := hco.rows
            have hBl : (y.2.gives 5).out.length ≤ 55000 := by
              obtain ⟨N, hN⟩ := hco.ok
              have := (gives_out (hN.fin hco.by_)).2.1
              omega
            obtain ⟨B, hB⟩ : ∃ B, B = (y.2.gives 5).out := ⟨_, rfl⟩
            obtain ⟨H, hH⟩ : ∃ H, H = y.1.H := ⟨_, rfl⟩
            rw [← hB] at hrows hBl hv
            rw [← hH] at hrows hfew hu
            obtain ⟨va, vc, rfl, v1, v2, v3, _⟩ := hv
            obtain ⟨ua, uc, rfl, u1, u2, u3, _⟩ := hu
            obtain ⟨nb, hnb⟩ : ∃ nb, nb = B.length := ⟨_, rfl⟩
            obtain ⟨nh, hnh⟩ : ∃ nh, nh = H.length := ⟨_, rfl⟩
            rw [← hnb] at v1 v3 hBl
            have hb5 : 5 ≤ nb := by have := hrows.len; omega
            obtain ⟨vb, vo, hva, _, _⟩ := v3.at (show 0 < nb by omega)
            subst hva
            rw [← hnh] at u1 u3 hfew
            rw [← hnb, ← hnh]
            have F6 := hid (F5.out.trans hf6)
            have HB6 := hid (hf6.blk HB5.out id)
            have HVR := hid (And.intro v1 (And.intro v2 v3))
            have HUR := hid (And.intro u1 (And.intro u2 u3))
            have HROWS := hid hrows
            have HNB := hid (And.intro hnb hnh)
            have hnb6 : (nb : Int) ≤ 55000 := by omega
            have hnh5 : (nh : Int) ≤ 6000 := by omega
            have HBB := hid (And.intro hBl hfew)
            clear hf6 hlen6 hy hco hrows hfew hBl hB hH v1 v2 v3 u1 u2 u3 hnb hnh k0 k1 k2 k3
            have HU1 := hid (fun (gm : Nat) (W : World) (hW : Fr Non w6 W) (hg : w6.heap.size ≤ gm) (hm : MAt W gm MUCH) => lun_row p HP.out nh (by have := HBB.out.2; omega) (some ⟨vb, vo, none⟩) nb vc (fun j => B.getD j 0) (fun j hj => getD_by HROWS.out.by_ j (by rw [← HNB.out.1]; exact hj)) gm w6 W hW hg hm (by have := HBB.out.1; omega) HVR.out.1 HVR.out.2.1 (HVR.out.2.2.up hW))
            have HS1 := hid (show lunpack (feedNx (fun j => B.getD j 0) nb) 0 p p.dict.toNat nh = some H by have := HROWS.out.same; rw [← HNB.out.1, ← HNB.out.2] at this; exact this)
            have k0 := blk_cell HB6.out (j := 0) (v := .int .i64 p.lc) rfl
            have k1 := blk_cell HB6.out (j := 1) (v := .int .i64 p.lp) rfl
            have k2 := blk_cell HB6.out (j := 2) (v := .int .i64 p.pb) rfl
            have k3 := blk_cell HB6.out (j := 3) (v := .int .i64 p.dict) rfl
            go_upto_region 14 with fail
            go_cut [11, 12] (fun v q wx => q = .int .i64 0 ∧ Fr Non w6 wx ∧ RowO wx w6.heap.size v H)
            case first =>
              go_region_held3 (fun wx => wx.cell? ⟨w.heap.size, 0, none⟩ = some (.int .i64 p.lc) ∧ wx.cell? ⟨w.heap.size, 1, none⟩ = some (.int .i64 p.lp) ∧ wx.cell? ⟨w.heap.size, 2, none⟩ = some (.int .i64 p.pb) ∧ wx.cell? ⟨w.heap.size, 3, none⟩ = some (.int .i64 p.dict)) (first | (show World.cell? wn _ = _ ∧ _; exact ⟨hWn.cell k0 id, hWn.cell k1 id, hWn.cell k2 id, hWn.cell k3 id⟩) | exact ⟨Fr.cell (S := Non) (w := w6) (by repeat (first | exact Fr.refl _ _ | refine Fr.drew ?_ | refine Fr.drewN ?_ _ | refine Fr.alloc ?_ _ | refine Fr.trans ?_ (by assumption))) k0 id, Fr.cell (S := Non) (w := w6) (by repeat (first | exact Fr.refl _ _ | refine Fr.drew ?_ | refine Fr.drewN ?_ _ | refine Fr.alloc ?_ _ | refine Fr.trans ?_ (by assumption))) k1 id, Fr.cell (S := Non) (w := w6) (by repeat (first | exact Fr.refl _ _ | refine Fr.drew ?_ | refine Fr.drewN ?_ _ | refine Fr.alloc ?_ _ | refine Fr.trans ?_ (by assumption))) k2 id, Fr.cell (S := Non) (w := w6) (by repeat (first | exact Fr.refl _ _ | refine Fr.drew ?_ | refine Fr.drewN ?_ _ | refine Fr.alloc ?_ _ | refine Fr.trans ?_ (by assumption))) k3 id⟩) (first
                | (go_at_call 18; refine (much_any _).mono ?_; rintro e wm ⟨gm, rfl, hgm, hfm, hmm⟩; have hgW : w6.heap.size ≤ gm := Nat.le_trans (Fr.size (S := Non) (by repeat (first | exact Fr.refl _ _ | refine Fr.drew ?_ | refine Fr.drewN ?_ _ | refine Fr.alloc ?_ _ | refine Fr.trans ?_ (by assumption)))) hgm)
                | (go_at_call 17; refine (HU1.out gm _ (by repeat (first | exact Fr.refl _ _ | refine Fr.drew ?_ | refine Fr.drewN ?_ _ | refine Fr.alloc ?_ _ | refine Fr.trans ?_ (by assumption))) hgW (by first | exact hmm | exact blk_alloc hmm)).mono ?_; rintro e wn hpn; obtain ⟨hWn, v9, rfl, hro⟩ := kun_some HS1.out hpn))
              all_goals
                have HWN := hid hWn
                have HRO := hid hro
                clear hpn hWn hro hfm hmm hgm hgW k0 k1 k2 k3
                go_wp2_with fail
                go_meet
                exact ⟨rfl, HWN.out, HRO.out⟩
            case rest =>
              obtain ⟨rfl, hf7, hro7⟩ := hcut
              obtain ⟨w7, hw7⟩ : ∃ x, x = wc := ⟨_, rfl⟩
              rw [← hw7] at hf7 hro7 ⊢
              have F7 := hid (F6.out.trans hf7)
              have HB7 := hid (hf7.blk HB6.out id)
              obtain ⟨xa, xc, rfl, x1, x2, x3, _⟩ := hro7
              rw [← HNB.out.2] at x3 ⊢
              have HX7 := hid x3
              have HV7 := hid (HVR.out.2.2.up hf7)
              have HU7 := hid (HUR.out.2.2.up hf7)
              clear hf7 hw7 x1 x2 x3 k0 k1 k2 k3
              have HS2 := hid (show lunpack (feedNx (fun j => (B ++ [0]).getD j 0) (B ++ [0]).length) 0 p p.dict.toNat nh = none by have := HROWS.out.more; rw [← HNB.out.2] at this; exact this)
              have HU2 := hid (fun (gm : Nat) (W : World) (va2 : Option Addr) (n2 vc2 : Nat) (hn2 : n2 = (B ++ [0]).length) (hW : Fr Non w7 W) (hg : w7.heap.size ≤ gm) (hm : MAt W gm MUCH) (hnc : n2 ≤ vc2) (hnil : va2 = none → vc2 = 0) (hr : RowIn W.heap.size .u8 W va2 n2 (fun j => (B ++ [0]).getD j 0)) => (show Calls Try.prog 17 #[.slice va2 n2 vc2, .agg #[.int .i64 p.lc, .int .i64 p.lp, .int .i64 p.pb, .int .i64 p.dict], .int .i64 nh, .pointer (some ⟨gm, 0, none⟩)] W (KUnPost none w7) by
                have h := lun_row p HP.out nh (by have := HBB.out.2; omega) va2 n2 vc2 (fun j => (B ++ [0]).getD j 0) (fun j hj => getD_by (fun b hb => by
                  rcases List.mem_append.1 hb with h1 | h1
                  · exact HROWS.out.by_ b h1
                  · rw [List.mem_singleton.1 h1]; decide) j (by rw [← hn2]; exact hj)) gm w7 W hW hg hm (by have := HBB.out.1; rw [hn2, List.length_append, ← HNB.out.1]; show nb + 1 ≤ 60000; omega) hnc hnil hr
                have hR : lunpack (feedNx (fun j => (B ++ [0]).getD j 0) n2) 0 p p.dict.toNat nh = none := by rw [hn2]; exact HS2.out
                rw [hR] at h
                exact h))
              have k0 := blk_cell HB7.out (j := 0) (v := .int .i64 p.lc) rfl
              have k1 := blk_cell HB7.out (j := 1) (v := .int .i64 p.lp) rfl
              have k2 := blk_cell HB7.out (j := 2) (v := .int .i64 p.pb) rfl
              have k3 := blk_cell HB7.out (j := 3) (v := .int .i64 p.dict) rfl
              go_upto_region 15 with fail
              go_cut [13, 14] (fun v q wx => q = .int .i64 12 ∧ Fr Non w7 wx)
              case first =>
                have HBR := hid (show [] ++ (List.range nb).map (fun j => B.getD j 0) = B by rw [List.nil_append, HNB.out.1, range_getDi])
                have HBZ := hid (show B ++ (List.range 1).map (fun _ => (0 : Int)) = B ++ [0] from rfl)
                have HBN := hid (show (B ++ [0]).length = nb + 1 by rw [List.length_append, ← HNB.out.1]; rfl)
                go_region_held3 (fun wx => wx.cell? ⟨w.heap.size, 0, none⟩ = some (.int .i64 p.lc) ∧ wx.cell? ⟨w.heap.size, 1, none⟩ = some (.int .i64 p.lp) ∧ wx.cell? ⟨w.heap.size, 2, none⟩ = some (.int .i64 p.pb) ∧ wx.cell? ⟨w.heap.size, 3, none⟩ = some (.int .i64 p.dict)) (first | (show World.cell? wn _ = _ ∧ _; exact ⟨hWn.cell k0 id, hWn.cell k1 id, hWn.cell k2 id, hWn.cell k3 id⟩) | (show World.cell? wm _ = _ ∧ _; exact ⟨(Fr.trans f79 hfm).cell k0 id, (Fr.trans f79 hfm).cell k1 id, (Fr.trans f79 hfm).cell k2 id, (Fr.trans f79 hfm).cell k3 id⟩) | (show World.cell? w9 _ = _ ∧ _; exact ⟨f79.cell k0 id, f79.cell k1 id, f79.cell k2 id, f79.cell k3 id⟩) | (show World.cell? w8 _ = _ ∧ _; exact ⟨f78.cell k0 id, f78.cell k1 id, f78.cell k2 id, f78.cell k3 id⟩) | exact ⟨Fr.cell (S := Non) (w := w7) (by repeat (first | exact Fr.refl _ _ | refine Fr.drew ?_ | refine Fr.drewN ?_ _ | refine Fr.alloc ?_ _ | refine Fr.trans ?_ (by assumption))) k0 id, Fr.cell (S := Non) (w := w7) (by repeat (first | exact Fr.refl _ _ | refine Fr.drew ?_ | refine Fr.drewN ?_ _ | refine Fr.alloc ?_ _ | refine Fr.trans ?_ (by assumption))) k1 id, Fr.cell (S := Non) (w := w7) (by repeat (first | exact Fr.refl _ _ | refine Fr.drew ?_ | refine Fr.drewN ?_ _ | refine Fr.alloc ?_ _ | refine Fr.trans ?_ (by assumption))) k2 id, Fr.cell (S := Non) (w := w7) (by repeat (first | exact Fr.refl _ _ | refine Fr.drew ?_ | refine Fr.drewN ?_ _ | refine Fr.alloc ?_ _ | refine Fr.trans ?_ (by assumption))) k3 id⟩) (first
                  | ((with_reducible show @ite _ _ _ (Oper.wp _ _ _ (World.drew (World.alloc w7 _)) _ _) _); refine step_rowN rfl (.tmp 72) (.tmp 73) 30 rfl w7.heap.size .u8 5 1 Try.underlying30 Try.info_u8q (.slice (some ⟨w7.heap.size, 0, none⟩) 0 0) [] rfl w7.heap.size (some ⟨vb, vo, none⟩) nb vc (fun j => B.getD j 0) rfl (by exact (Own.empty w7 _ .u8 5 (Nat.le_refl _)).fr (S := Non) ((Fr.refl Non _).drew) (fun _ _ => id)) HVR.out.2.1 HVR.out.1 (by exact HV7.out.fr (S := Non) (((Fr.refl Non w7).alloc _).drew) (fun _ _ => id)) (by decide) (by have := HBB.out.1; simp; omega) (by simp) ?_; intro v8 w8 hown8 hg8; rw [HBR.out] at hown8; obtain ⟨a8, c8, hv8, _⟩ := hown8.rowO; rw [← HNB.out.1] at hv8; subst hv8; have f78 : Fr Non w7 w8 := Fr.grown (((Fr.refl Non w7).alloc _).drew) hg8 (fun k hk hlt => by simp [Value.ownBlock] at hk; omega); clear hg8)
                  | ((with_reducible show @ite _ _ _ (Oper.wp _ _ _ (World.drew (World.alloc (World.alloc w7 (Obj.cells #[] _)) _)) _ _) _); refine step_rowN rfl (.tmp 72) (.tmp 73) 30 rfl w7.heap.size .u8 5 1 Try.underlying30 Try.info_u8q (.slice (some ⟨w7.heap.size, 0, none⟩) 0 0) [] rfl w7.heap.size (some ⟨vb, vo, none⟩) nb vc (fun j => B.getD j 0) rfl (by exact (Own.empty w7 _ .u8 5 (Nat.le_refl _)).fr (S := Non) (((Fr.refl Non _).alloc _).drew) (fun _ _ => id)) HVR.out.2.1 HVR.out.1 (by exact HV7.out.fr (S := Non) ((((Fr.refl Non w7).alloc _).alloc _).drew) (fun _ _ => id)) (by decide) (by have := HBB.out.1; simp; omega) (by simp; omega) ?_; intro v8 w8 hown8 hg8; rw [HBR.out] at hown8; obtain ⟨a8, c8, hv8, _⟩ := hown8.rowO; rw [← HNB.out.1] at hv8; subst hv8; have f78 : Fr Non w7 w8 := Fr.grown ((((Fr.refl Non w7).alloc _).alloc _).drew) hg8 (fun k hk hlt => by simp [Value.ownBlock] at hk; omega); have hc8 : w8.cell? ⟨w7.heap.size + 1, 0, none⟩ = some (.int .u8 0) := (Fr.grew hg8).cell (by have h := cell_new1 (w7.alloc (.cells #[] 5)) (.int .u8 0) 5; rw [show (w7.alloc (.cells #[] 5)).heap.size = w7.heap.size + 1 by simp] at h; exact h) (fun e => by have e2 : some w7.heap.size = some (w7.heap.size + 1) := e; injection e2 with e3; omega); clear hg8)
                  | ((with_reducible show @ite _ _ _ (Oper.wp _ _ _ (World.drew (World.alloc (World.alloc w7 (Obj.cells #[_] _)) _)) _ _) _); refine step_rowN rfl (.tmp 72) (.tmp 73) 30 rfl w7.heap.size .u8 5 1 Try.underlying30 Try.info_u8q (.slice (some ⟨w7.heap.size + 1, 0, none⟩) 0 0) [] rfl w7.heap.size (some ⟨vb, vo, none⟩) nb vc (fun j => B.getD j 0) rfl (by have h := Own.empty (w7.alloc (.cells #[.int .u8 0] 5)) w7.heap.size .u8 5 (by simp); rw [show (w7.alloc (.cells #[.int .u8 0] 5)).heap.size = w7.heap.size + 1 by simp] at h; exact h.fr (S := Non) ((Fr.refl Non _).drew) (fun _ _ => id)) HVR.out.2.1 HVR.out.1 (by exact HV7.out.fr (S := Non) ((((Fr.refl Non w7).alloc _).alloc _).drew) (fun _ _ => id)) (by decide) (by have := HBB.out.1; simp; omega) (by simp; omega) ?_; intro v8 w8 hown8 hg8; rw [HBR.out] at hown8; obtain ⟨a8, c8, hv8, _⟩ := hown8.rowO; rw [← HNB.out.1] at hv8; subst hv8; have f78 : Fr Non w7 w8 := Fr.grown ((((Fr.refl Non w7).alloc _).alloc _).drew) hg8 (fun k hk hlt => by simp [Value.ownBlock] at hk; omega); have hc8 : w8.cell? ⟨w7.heap.size, 0, none⟩ = some (.int .u8 0) := (Fr.grew hg8).cell (by exact blk_cell (blk_alloc (blk_new w7 _)) rfl) (fun e => by have e2 : some (w7.heap.size + 1) = some w7.heap.size := e; injection e2 with e3; omega); clear hg8)
                  | ((with_reducible show @ite _ _ _ (Oper.wp _ _ _ (World.alloc w8 _) _ _) _); refine step_rowN rfl (.tmp 74) (.tmp 75) 30 rfl w7.heap.size .u8 5 1 Try.underlying30 Try.info_u8q (.slice a8 nb c8) B rfl (w8.heap.size + 1) (some ⟨w8.heap.size, 0, none⟩) 1 1 (fun _ => 0) rfl (by exact hown8.fr (S := Non) ((Fr.refl Non w8).alloc _) (fun _ _ => id)) (fun e => by cases e) (Nat.le_refl _) (.inr ⟨_, 0, rfl, Nat.lt_succ_self _, fun i hi => by obtain rfl : i = 0 := (by omega); exact cell_new1 w8 _ _⟩) (by decide) (by have := HBB.out.1; rw [← HNB.out.1]; omega) (by have := f78.size; simp; omega) ?_; intro v9 w9 hown9 hg9; rw [HBZ.out] at hown9; obtain ⟨a9, c9, hv9, hro9a, hro9b, hro9c, _⟩ := hown9.rowO; rw [HBN.out] at hv9 hro9a hro9c; subst hv9; have hro9 := And.intro hro9a (And.intro hro9b hro9c); have f79 : Fr Non w7 w9 := Fr.grown (f78.trans ((Fr.refl Non w8).alloc _)) hg9 (fun k hk hlt => by have := (hown8.block k hk).1; omega); clear hg9 hown8 f78 hro9a hro9b hro9c)
                  | ((with_reducible show @ite _ _ _ (Oper.wp _ _ _ w8 _ _) _); refine step_rowN rfl (.tmp 74) (.tmp 75) 30 rfl w7.heap.size .u8 5 1 Try.underlying30 Try.info_u8q (.slice a8 nb c8) B rfl (w8.heap.size + 1) (some ⟨w7.heap.size + 1, 0, none⟩) 1 1 (fun _ => 0) rfl (by exact hown8) (fun e => by cases e) (Nat.le_refl _) (.inr ⟨_, 0, rfl, by have h9 : w7.heap.size + 1 < w8.heap.size := block_lt_of_cell hc8; omega, fun i hi => by obtain rfl : i = 0 := (by omega); exact hc8⟩) (by decide) (by have := HBB.out.1; rw [← HNB.out.1]; omega) (by have := f78.size; simp; omega) ?_; intro v9 w9 hown9 hg9; rw [HBZ.out] at hown9; obtain ⟨a9, c9, hv9, hro9a, hro9b, hro9c, _⟩ := hown9.rowO; rw [HBN.out] at hv9 hro9a hro9c; subst hv9; have hro9 := And.intro hro9a (And.intro hro9b hro9c); have f79 : Fr Non w7 w9 := Fr.grown f78 hg9 (fun k hk hlt => by have := (hown8.block k hk).1; omega); clear hg9 hown8 f78 hro9a hro9b hro9c)
                  | ((with_reducible show @ite _ _ _ (Oper.wp _ _ _ w8 _ _) _); refine step_rowN rfl (.tmp 74) (.tmp 75) 30 rfl w7.heap.size .u8 5 1 Try.underlying30 Try.info_u8q (.slice a8 nb c8) B rfl (w8.heap.size + 1) (some ⟨w7.heap.size, 0, none⟩) 1 1 (fun _ => 0) rfl (by exact hown8) (fun e => by cases e) (Nat.le_refl _) (.inr ⟨_, 0, rfl, by have h9 : w7.heap.size < w8.heap.size := block_lt_of_cell hc8; omega, fun i hi => by obtain rfl : i = 0 := (by omega); exact hc8⟩) (by decide) (by have := HBB.out.1; rw [← HNB.out.1]; omega) (by have := f78.size; simp; omega) ?_; intro v9 w9 hown9 hg9; rw [HBZ.out] at hown9; obtain ⟨a9, c9, hv9, hro9a, hro9b, hro9c, _⟩ := hown9.rowO; rw [HBN.out] at hv9 hro9a hro9c; subst hv9; have hro9 := And.intro hro9a (And.intro hro9b hro9c); have f79 : Fr Non w7 w9 := Fr.grown f78 hg9 (fun k hk hlt => by have := (hown8.block k hk).1; omega); clear hg9 hown8 f78 hro9a hro9b hro9c)
                  | ((with_reducible show Calls Try.prog 18 _ _ _); refine (much_any _).mono ?_; rintro e wm ⟨gm, rfl, hgm, hfm, hmm⟩; have hgW : w7.heap.size ≤ gm := Nat.le_trans (Fr.size (S := Non) (by repeat (first | exact Fr.refl _ _ | refine Fr.drew ?_ | refine Fr.drewN ?_ _ | refine Fr.alloc ?_ _ | refine Fr.trans ?_ (by assumption)))) hgm)
                  | ((with_reducible show Calls Try.prog 17 _ _ _); (refine (HU2.out gm _ a9 (nb + 1) c9 HBN.out.symm (by repeat (first | exact Fr.refl _ _ | refine Fr.drew ?_ | refine Fr.drewN ?_ _ | refine Fr.alloc ?_ _ | refine Fr.trans ?_ (by assumption))) hgW (by first | exact hmm | exact blk_alloc hmm) hro9.1 hro9.2.1 (hro9.2.2.up (by repeat (first | exact Fr.refl _ _ | refine Fr.drew ?_ | refine Fr.drewN ?_ _ | refine Fr.alloc ?_ _ | refine Fr.trans ?_ (by assumption))))).mono ?_; rintro e wn hpn; obtain ⟨hWn, rfl⟩ := kun_none rfl hpn)))
                all_goals
                  have HWN := hid hWn
                  clear hpn hWn hfm hmm hgm hgW k0 k1 k2 k3
                  go_wp2_with fail
                  go_meet
                  exact ⟨rfl, HWN.out⟩
              case rest =>
                obtain ⟨rfl, hf8⟩ := hcut
                obtain ⟨w8, hw8⟩ : ∃ x, x = wc := ⟨_, rfl⟩
                rw [← hw8] at hf8 ⊢
                have F8 := hid (F7.out.trans hf8)
                have HB8 := hid (hf8.blk HB7.out id)
                have HX8 := hid (HX7.out.up hf8)
                have HV8 := hid (HV7.out.up hf8)
                have HUR8 := hid (HU7.out.up hf8)
                obtain ⟨n1, hn1⟩ : ∃ k, nb = k + 1 := ⟨nb - 1, by omega⟩
                have hnn : (nb : Int) - 1 = (n1 : Int) := by omega
                have hwn : IntKind.i64.wrap ((nb : Int) - 1) = (n1 : Int) := by rw [IntKind.wrap_i64]; omega
                have hwn1 : IntKind.i64.wrap (n1 : Int) = (n1 : Int) := by rw [IntKind.wrap_i64]; omega
                have hn1c : (n1 : Int) ≤ (vc : Int) := by have := HVR.out.1; omega
                have hn1N : n1 ≤ vc := by have := HVR.out.1; omega
                have HN1 := hid hn1
                have HS3 := hid (show lunpack (feedNx (fun j => B.getD j 0) n1) 0 p p.dict.toNat nh = none by have h := HROWS.out.fewer; rw [← HNB.out.2, ← HNB.out.1, HN1.out] at h; exact h)
                clear hf8 hw8 hn1 k0 k1 k2 k3
                have HU3 := hid (fun (gm : Nat) (W : World) (hW : Fr Non w8 W) (hg : w8.heap.size ≤ gm) (hm : MAt W gm MUCH) => (show Calls Try.prog 17 #[.slice (some ⟨vb, vo, none⟩) n1 vc, .agg #[.int .i64 p.lc, .int .i64 p.lp, .int .i64 p.pb, .int .i64 p.dict], .int .i64 nh, .pointer (some ⟨gm, 0, none⟩)] W (KUnPost none w8) by
                  have h := lun_row p HP.out nh (by have := HBB.out.2; omega) (some ⟨vb, vo, none⟩) n1 vc (fun j => B.getD j 0) (fun j hj => getD_by HROWS.out.by_ j (by rw [← HNB.out.1, HN1.out]; omega)) gm w8 W hW hg hm (by have := HBB.out.1; have := HN1.out; omega) hn1N (fun e => by cases e) ((HV8.out.up hW).less (by have := HN1.out; omega))
                  rw [HS3.out] at h
                  exact h))
                have k0 := blk_cell HB8.out (j := 0) (v := .int .i64 p.lc) rfl
                have k1 := blk_cell HB8.out (j := 1) (v := .int .i64 p.lp) rfl
                have k2 := blk_cell HB8.out (j := 2) (v := .int .i64 p.pb) rfl
                have k3 := blk_cell HB8.out (j := 3) (v := .int .i64 p.dict) rfl
                go_upto_region 16 with fail
                go_cut [15, 16] (fun v q wx => q = .int .i64 12 ∧ Fr Non w8 wx)
                case first =>
                  go_region_held3 (fun wx => wx.cell? ⟨w.heap.size, 0, none⟩ = some (.int .i64 p.lc) ∧ wx.cell? ⟨w.heap.size, 1, none⟩ = some (.int .i64 p.lp) ∧ wx.cell? ⟨w.heap.size, 2, none⟩ = some (.int .i64 p.pb) ∧ wx.cell? ⟨w.heap.size, 3, none⟩ = some (.int .i64 p.dict)) (first | (show World.cell? wn _ = _ ∧ _; exact ⟨hWn.cell k0 id, hWn.cell k1 id, hWn.cell k2 id, hWn.cell k3 id⟩) | exact ⟨Fr.cell (S := Non) (w := w8) (by repeat (first | exact Fr.refl _ _ | refine Fr.drew ?_ | refine Fr.drewN ?_ _ | refine Fr.alloc ?_ _ | refine Fr.trans ?_ (by assumption))) k0 id, Fr.cell (S := Non) (w := w8) (by repeat (first | exact Fr.refl _ _ | refine Fr.drew ?_ | refine Fr.drewN ?_ _ | refine Fr.alloc ?_ _ | refine Fr.trans ?_ (by assumption))) k1 id, Fr.cell (S := Non) (w := w8) (by repeat (first | exact Fr.refl _ _ | refine Fr.drew ?_ | refine Fr.drewN ?_ _ | refine Fr.alloc ?_ _ | refine Fr.trans ?_ (by assumption))) k2 id, Fr.cell (S := Non) (w := w8) (by repeat (first | exact Fr.refl _ _ | refine Fr.drew ?_ | refine Fr.drewN ?_ _ | refine Fr.alloc ?_ _ | refine Fr.trans ?_ (by assumption))) k3 id⟩) (first
                    | (go_at_call 18; refine (much_any _).mono ?_; rintro e wm ⟨gm, rfl, hgm, hfm, hmm⟩; have hgW : w8.heap.size ≤ gm := Nat.le_trans (Fr.size (S := Non) (by repeat (first | exact Fr.refl _ _ | refine Fr.drew ?_ | refine Fr.drewN ?_ _ | refine Fr.alloc ?_ _ | refine Fr.trans ?_ (by assumption)))) hgm)
                    | (go_at_call 17; refine (HU3.out gm _ (by repeat (first | exact Fr.refl _ _ | refine Fr.drew ?_ | refine Fr.drewN ?_ _ | refine Fr.alloc ?_ _ | refine Fr.trans ?_ (by assumption))) hgW (by first | exact hmm | exact blk_alloc hmm)).mono ?_; rintro e wn hpn; obtain ⟨hWn, rfl⟩ := kun_none rfl hpn))
                  all_goals
                    have HWN := hid hWn
                    clear hpn hWn hfm hmm hgm hgW k0 k1 k2 k3
                    go_wp2_with fail
                    go_meet
                    exact ⟨rfl, HWN.out⟩
                case rest =>
                  obtain ⟨rfl, hf9⟩ := hcut
                  obtain ⟨w9, hw9⟩ : ∃ x, x = wc := ⟨_, rfl⟩
                  rw [← hw9] at hf9 ⊢
                  have F9 := hid (F8.out.trans hf9)
                  have HX9 := hid (HX8.out.up hf9)
                  have HU9 := hid (HUR8.out.up hf9)
                  clear hf9 hw9 k0 k1 k2 k3 hwn hnn hwn1
                  go_wp2_with fail
                  refine (bytes_yes xa ua nh xc uc (fun j => H.getD j 0) (fun j => H.getD j 0) w9 (by have := HBB.out.2; omega) w9.heap.size HX9.out HU9.out (fun _ _ => rfl)).mono ?_
                  rintro e w10 ⟨rfl, hf10⟩
                  go_wp2_with fail
                  go_ret
                  exact ⟨rfl, F9.out.trans hf10⟩
end Go.Proofs.Ytjnegcambbeblaa
