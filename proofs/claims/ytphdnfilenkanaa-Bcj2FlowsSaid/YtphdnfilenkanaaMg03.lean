/- Texts of this proof, one behind the other. -/
import Derived.Test.YtphdnfilenkanaaMg02
import Derived.Test.YtphdnfilenkanaaMg01
import Derived.Deep.RegionLaw

/- bcj2.Filter.Next. -/
namespace Go.Proofs.Ytphdnfilenkanaa
open Go.RowKit

def NextQPost (L : BQ) (w : World) (r : Int × Bool × FQ) (e : Ending) (w' : World) : Prop := e = .returned (.tuple #[.int .u8 r.1, .bool r.2.1]) ∧ Fr L.foot w w' ∧ FQIs L w' r.2.2
theorem nextQ_over {L : BQ} {f : FQ} (h : f.bad = true ∨ f.told = f.size) : f.next L = (0, false, f) := if_pos h
theorem nextQ_wait {L : BQ} {f : FQ} (h : ¬ (f.bad = true ∨ f.told = f.size)) (hw : 0 < f.waits) : f.next L = (f.word (4 - f.waits), true, { f with waits := f.waits - 1, told := f.told + 1 }) := by
  unfold FQ.next; rw [if_neg h, if_pos hw]
theorem nextQ_short {L : BQ} {f : FQ} (h : ¬ (f.bad = true ∨ f.told = f.size)) (hw : ¬ 0 < f.waits) {x : Int} {m' : Nat} (hn : L.s0.nx f.m = (x, false, m')) : f.next L = (0, false, { f with m := m', bad := true }) := by
  unfold FQ.next; rw [if_neg h, if_neg hw, hn]; rfl
theorem nextQ_plain {L : BQ} {f : FQ} (h : ¬ (f.bad = true ∨ f.told = f.size)) (hw : ¬ 0 < f.waits) {x : Int} {m' : Nat} (hn : L.s0.nx f.m = (x, true, m')) (hk : whichQ f.ahead x = none ∨ ¬ f.told + 1 < f.size) :
    f.next L = (x, true, { f with m := m', told := f.told + 1, ahead := x.toNat }) := by
  unfold FQ.next
  rw [if_neg h, if_neg hw, hn]
  simp only [if_neg (show ¬ (true = false) by decide)]
  rcases hk with hk | hk
  · rw [hk]
  · cases hq : whichQ f.ahead x with
    | none => rfl
    | some k => simp only [if_neg hk]
/-- the state behind an instruction's bit. -/
def FQ.bitted (L : BQ) (f : FQ) (x : Int) (m' k : Nat) : FQ :=
  { f with m := m', told := f.told + 1, ahead := x.toNat, d := (f.d.bit L.s3.nx (f.q k)).2.2, q := upd f.q k (f.d.bit L.s3.nx (f.q k)).2.1, bad := (f.d.bit L.s3.nx (f.q k)).2.2.bad }
theorem nextQ_bit {L : BQ} {f : FQ} (h : ¬ (f.bad = true ∨ f.told = f.size)) (hw : ¬ 0 < f.waits) {x : Int} {m' k : Nat} (hn : L.s0.nx f.m = (x, true, m')) (hk : whichQ f.ahead x = some k) (hs : f.told + 1 < f.size) :
    f.next L = if (f.d.bit L.s3.nx (f.q k)).1 = 1 then (x, true, (f.bitted L x m' k).target L.s1.nx L.s2.nx x) else (x, true, f.bitted L x m' k) := by
  unfold FQ.next
  rw [if_neg h, if_neg hw, hn]
  simp only [if_neg (show ¬ (true = false) by decide), hk, if_pos hs]
  rfl

set_option maxRecDepth 100000 in
theorem fnextq_over (L : BQ) (f : FQ) (w : World) (hov : f.bad = true ∨ f.told = f.size) (h : FQIs L w f) :
    Calls Try.prog 17 #[.pointer (some ⟨L.g, 0, none⟩)] w fun e w' => e = .returned (.tuple #[.int .u8 0, .bool false]) ∧ Fr Non w w' := by
  have d1 := h.get_ 1 (v := .int .i64 f.size) rfl
  have d2 := h.get_ 2 (v := .int .i64 f.told) rfl
  have d8 := h.get_ 8 (v := .bool f.bad) rfl
  clear h
  cases hb : f.bad with
  | true =>
    rw [hb] at d8
    clear hov hb
    go_enter Try.func17, Try.ntmps17
    go_wp2_with fail
    go_quiet (fail)
    go_wp2_with fail
    go_ret2
    exact ⟨rfl, (Fr.refl _ _).drewN _⟩
  | false =>
    rw [hb] at d8
    have e : f.told = f.size := hov.resolve_left (by rw [hb]; decide)
    have q : ((f.told : Int) == (f.size : Int)) = true := by simp; omega
    clear hov hb e
    go_enter Try.func17, Try.ntmps17
    go_wp2_with fail
    go_quiet (fail)
    go_wp2_with fail
    go_ret2
    exact ⟨rfl, (Fr.refl _ _).drewN _⟩
set_option maxRecDepth 100000 in
set_option maxHeartbeats 2000000 in
theorem fnextq_wait (L : BQ) (ha : L.Apart) (f : FQ) (hok : f.Ok) (w : World) (hb : f.bad = false) (ht : f.told < f.size) (hw : 0 < f.waits) (h : FQIs L w f) :
    Calls Try.prog 17 #[.pointer (some ⟨L.g, 0, none⟩)] w (NextQPost L w (f.word (4 - f.waits), true, { f with waits := f.waits - 1, told := f.told + 1 })) := by
  have d2 := h.get_ 2 (v := .int .i64 f.told) rfl
  have d1 := h.get_ 1 (v := .int .i64 f.size) rfl
  have d8 := h.get_ 8 (v := .bool f.bad) rfl
  have d7 := h.get_ 7 (v := .int .i64 f.waits) rfl
  have z7 := h.froz_ 7
  have z2 := h.froz_ 2
  have e0 := h.get_ 3 (v := .int .u8 (f.word 0)) rfl
  have e1 := h.get_ 4 (v := .int .u8 (f.word 1)) rfl
  have e2 := h.get_ 5 (v := .int .u8 (f.word 2)) rfl
  have e3 := h.get_ 6 (v := .int .u8 (f.word 3)) rfl
  have hw4 := hok.waits
  have hs := hok.size
  have q : ((f.told : Int) == (f.size : Int)) = false := by simp; omega
  have q2 : (f.told : Int) < 9223372036854775807 := by omega
  have HS := hid (FQIs.cell_ (f' := { f with waits := f.waits - 1, told := f.told + 1 }) ha (FQIs.cell_ (f' := { f with waits := f.waits - 1 }) ha h 7 (.int .i64 ((f.waits - 1 : Nat) : Int)) rfl rfl rfl rfl rfl rfl) 2 (.int .i64 ((f.told + 1 : Nat) : Int)) rfl rfl rfl rfl rfl rfl)
  have HFW : f.waits = 1 ∨ f.waits = 2 ∨ f.waits = 3 ∨ f.waits = 4 := by omega
  rw [hb] at d8
  clear h ha hok hb ht hw hs hw4
  rcases HFW with e | e | e | e
  all_goals
    rw [e] at d7
    have HE := hid e
    clear e
    go_enter Try.func17, Try.ntmps17
    go_wp2_with fail
    go_quiet (fail)
    go_wp2_with fail
    go_quiet (fail)
    go_wp2_with fail
    go_ret2
    have HS' := HS.out
    rw [HE.out] at HS' ⊢
    exact ⟨rfl, (((Fr.refl _ _).drewN _).setCell (fun _ => .inl rfl) _).setCell (fun _ => .inl rfl) _, HS'.keep (T := Non) ⟨rfl, rfl, rfl, Nat.le_refl _, fun _ _ _ => rfl⟩ (fun _ _ e => e)⟩
theorem ftarget_any (L : BQ) (ha : L.Apart) (f : FQ) (hok : f.Ok) (x : Int) (w : World) (h : FQIs L w f) :
    Calls Try.prog 35 #[.pointer (some ⟨L.g, 0, none⟩), .int .u8 x] w (TgtPost L w (f.target L.s1.nx L.s2.nx x)) := by
  by_cases hx : x = 232
  · subst hx; exact ftarget_call L ha f hok w h
  · exact ftarget_jump L ha f hok x hx w h
theorem meetq_none (g off a : Nat) (b : Int) (cs : Array Value) (T : TypeId) (w : World) (hk : whichQ a b = none) (hb : w.heap[g]? = some (.cells cs T)) (hc : cs[off + 258]? = some (.int .u8 (a : Int))) (ha : a < 256) (h0 : 0 ≤ b) (h1 : b < 256) :
    Calls Try.prog 25 #[.pointer (some ⟨g, off, none⟩), .int .u8 b] w fun e w' => e = .returned (.pointer none) ∧ w' = w.setCell ⟨g, off + 258, none⟩ (.int .u8 b) := by
  have h := meetq_any g off a b cs T w hb hc ha h0 h1
  rw [hk] at h
  exact h
theorem meetq_some (g off a : Nat) (b : Int) (cs : Array Value) (T : TypeId) (w : World) (k : Nat) (hk : whichQ a b = some k) (hb : w.heap[g]? = some (.cells cs T)) (hc : cs[off + 258]? = some (.int .u8 (a : Int))) (ha : a < 256) (h0 : 0 ≤ b) (h1 : b < 256) :
    Calls Try.prog 25 #[.pointer (some ⟨g, off, none⟩), .int .u8 b] w fun e w' => e = .returned (.pointer (some ⟨g, off + k, none⟩)) ∧ w' = w.setCell ⟨g, off + 258, none⟩ (.int .u8 b) := by
  have h := meetq_any g off a b cs T w hb hc ha h0 h1
  rw [hk] at h
  exact h
set_option maxRecDepth 100000 in
set_option maxHeartbeats 4000000 in
theorem fnextq_main (L : BQ) (ha : L.Apart) (f : FQ) (hok : f.Ok) (w : World) (hb : f.bad = false) (ht : f.told < f.size) (hw : f.waits = 0) (h : FQIs L w f) :
    Calls Try.prog 17 #[.pointer (some ⟨L.g, 0, none⟩)] w (NextQPost L w (f.next L)) := by
  have d2 := h.get_ 2 (v := .int .i64 f.told) rfl
  have d1 := h.get_ 1 (v := .int .i64 f.size) rfl
  have d8 := h.get_ 8 (v := .bool f.bad) rfl
  have d7 := h.get_ 7 (v := .int .i64 f.waits) rfl
  have c0 := blk_cell h.at_ (j := 0) (v := .iface L.s0.ty L.s0.val) (by rw [cellsQ_head _ _ (by decide)]; rfl)
  have hs := hok.size
  have HN := hid (show ¬ (f.bad = true ∨ f.told = f.size) by rintro (e | e); rw [hb] at e; cases e; omega)
  have HW0 := hid (show ¬ 0 < f.waits by omega)
  have q : ((f.told : Int) == (f.size : Int)) = false := by simp; omega
  have q2 : (f.told : Int) < 9223372036854775807 := by omega
  have q3 : (0 : Int) ≤ (f.told : Int) := by omega
  rw [hb] at d8
  rw [hw] at d7
  have H := hid h
  have HA := hid ha
  have HOK := hid hok
  have HBD := hid hb
  have HT := hid ht
  clear h ha hok hb ht hw hs
  go_enter Try.func17, Try.ntmps17
  go_wp2_with fail
  go_quiet (fail)
  go_wp2_with (refine opInvoke rfl (.tmp 59) "Next" rfl L.s0.ty L.s0.val rfl L.s0.fid L.s0.val L.s0.meth L.s0.enter ?_; intro K hK)
  refine (L.s0.call _ f.m (by exact L.s0.keep _ _ _ Non H.out.main ((Fr.refl _ _).drewN _) (fun _ _ e => e))).mono ?_
  rintro e w1 ⟨rfl, hf1, hi1⟩
  have hb := L.s0.byte f.m
  obtain ⟨nx, hnx⟩ : ∃ nx, nx = L.s0.nx f.m := ⟨_, rfl⟩
  rw [← hnx] at hb hi1 ⊢
  have HNX := hid hnx
  obtain ⟨x, ok, m'⟩ := nx
  obtain ⟨hb0, hb1⟩ := hb
  dsimp only at hb0 hb1 hi1
  have hfr1 : Fr L.s0.foot w w1 := (Fr.drewN (Fr.refl _ w) _).trans hf1
  have HF1 := hid hfr1
  have H1 := hid (H.out.main_ HA.out hfr1 hi1)
  clear hf1 hi1 hnx hfr1 c0 d1 d2 d7 d8
  dsimp only
  cases ok with
  | false =>
    have d8 := H1.out.get_ 8 (v := .bool f.bad) rfl
    have z8 := H1.out.froz_ 8
    refine hK _ _ ?_
    clear hK K
    go_wp2_with fail
    go_ret2
    rw [nextQ_short HN.out HW0.out HNX.out.symm]
    exact ⟨rfl, (HF1.out.mono (fun k _ e => .inr (.inl e))).setCell (fun _ => .inl rfl) _, FQIs.cell_ HA.out H1.out 8 (.bool true) rfl rfl rfl rfl rfl rfl⟩
  | true =>
    obtain ⟨xn, rfl⟩ := Int.eq_ofNat_of_zero_le hb0
    have d2 := H1.out.get_ 2 (v := .int .i64 f.told) rfl
    have z2 := H1.out.froz_ 2
    have H2 := hid (FQIs.cell_ (f' := { f with m := m', told := f.told + 1 }) HA.out H1.out 2 (.int .i64 ((f.told : Int) + 1)) rfl rfl rfl rfl rfl rfl)
    have H3 := hid (FQIs.cell_ (f' := { f with m := m', told := f.told + 1, ahead := xn }) HA.out H2.out 0 (.int .u8 (xn : Int)) rfl rfl rfl rfl rfl rfl)
    have F3 := hid (Fr.setCell (Fr.setCell (HF1.out.mono (S' := L.foot) (fun k _ e => .inr (.inl e))) (p := ⟨L.g, 265, none⟩) (fun _ => .inl rfl) (.int .i64 ((f.told : Int) + 1))) (p := ⟨L.g, 263, none⟩) (fun _ => .inl rfl) (.int .u8 (xn : Int)))
    have e1 := H3.out.get_ 1 (v := .int .i64 f.size) rfl
    have e2 := H3.out.get_ 2 (v := .int .i64 ((f.told : Int) + 1)) rfl
    have e8 := H3.out.get_ 8 (v := .bool f.bad) rfl
    have e4 := blk_cell H3.out.at_ (j := 4) (v := .pointer (some ⟨L.gr, 0, none⟩)) (by rw [cellsQ_head _ _ (by decide)]; rfl)
    refine hK _ _ ?_
    clear hK K
    go_wp2_with fail
    cases hk : whichQ f.ahead (xn : Int) with
    | none =>
      have HNP := hid (nextQ_plain HN.out HW0.out HNX.out.symm (.inl hk))
      refine (meetq_none L.g 5 f.ahead _ _ _ _ hk (by exact H2.out.at_) (by exact cellsQ_tail (i := 0) _ _) HOK.out.ahead hb0 hb1).mono ?_
      rintro e w2 ⟨rfl, rfl⟩
      clear hk
      go_wp2_with fail
      go_quiet (fail)
      go_wp2_with fail
      go_ret2
      rw [HNP.out]
      exact ⟨rfl, F3.out.drewN _, H3.out.keep ((Fr.refl Non _).drewN _) (fun _ _ e => e)⟩
    | some k =>
      have hk258 := whichQ_lt HOK.out.ahead hk
      by_cases hlt : f.told + 1 < f.size
      · have q5 : (f.told : Int) + 1 < (f.size : Int) := by omega
        have HNP := hid (nextQ_bit HN.out HW0.out HNX.out.symm hk hlt)
        refine (meetq_some L.g 5 f.ahead _ _ _ _ k hk (by exact H2.out.at_) (by exact cellsQ_tail (i := 0) _ _) HOK.out.ahead hb0 hb1).mono ?_
        rintro e w2 ⟨rfl, rfl⟩
        have hp := HOK.out.pr k hk258
        have HLT := hid hlt
        clear hk hlt
        go_wp2_with fail
        go_quiet (fail)
        go_wp2_with fail
        refine (dbit_any L.s3 L.gr L.g (5 + k) (L.cells { f with m := m', told := f.told + 1, ahead := xn }) _ f.d (f.q k) _ (by exact DecIs.drewN H3.out.dec _) HA.out.gd (by exact H3.out.at_) (cellsQ_p _ _ hk258) (by omega) (by omega)).mono ?_
        rintro e w3 ⟨rfl, hf3, hd3, hb3⟩
        have hble := bit_le L.s3.nx f.d (f.q k)
        have hbp := bit_prob L.s3.nx f.d (f.q k) (by omega) (by omega)
        have HBT : f.bitted L (xn : Int) m' k = { f with m := m', told := f.told + 1, ahead := xn, d := (f.d.bit L.s3.nx (f.q k)).2.2, q := upd f.q k (f.d.bit L.s3.nx (f.q k)).2.1, bad := (f.d.bit L.s3.nx (f.q k)).2.2.bad } := by unfold FQ.bitted; rw [Int.toNat_natCast]
        rw [HBT] at HNP
        clear HBT
        generalize f.d.bit L.s3.nx (f.q k) = r at *
        obtain ⟨bt, pv, dd⟩ := r
        dsimp only at hf3 hd3 hb3 hble hbp
        rw [cellsQ_set_p _ _ hk258] at hb3
        have H4 := hid (FQIs.rc_ (f' := { f with m := m', told := f.told + 1, ahead := xn, d := dd, q := upd f.q k pv }) HA.out (H3.out.keep ((Fr.refl Non _).drewN _) (fun _ _ e => e)) hf3 hd3 hb3 rfl rfl rfl)
        have F4 := hid ((F3.out.drewN _).then hf3 (fun i hi e => e.elim (fun e => .inr (.inr (.inr (.inr e)))) (fun e => .inl e)))
        have g8 := H4.out.get_ 8 (v := .bool f.bad) rfl
        have y8 := H4.out.froz_ 8
        have g4 := blk_cell H4.out.at_ (j := 4) (v := .pointer (some ⟨L.gr, 0, none⟩)) (by rw [cellsQ_head _ _ (by decide)]; rfl)
        have H5 := hid (FQIs.cell_ (f' := { f with m := m', told := f.told + 1, ahead := xn, d := dd, q := upd f.q k pv, bad := dd.bad }) HA.out H4.out 8 (.bool dd.bad) rfl rfl rfl rfl rfl rfl)
        have OK5 := hid (show FQ.Ok { f with m := m', told := f.told + 1, ahead := xn, d := dd, q := upd f.q k pv, bad := dd.bad } from ⟨HOK.out.pr.upd k hbp.1 hbp.2, by show xn < 256; omega, HOK.out.size, by show f.told + 1 ≤ f.size; have := HLT.out; omega, HOK.out.waits⟩)
        clear hf3 hd3 hb3 hbp e1 e2 e4 e8
        have hbt : bt = 0 ∨ bt = 1 := by omega
        clear hble
        rcases hbt with rfl | rfl
        · have HNQ := hid (show f.next L = ((xn : Int), true, { f with m := m', told := f.told + 1, ahead := xn, d := dd, q := upd f.q k pv, bad := dd.bad }) from HNP.out.trans (if_neg (by show ¬ (0 : Nat) = 1; decide)))
          clear HNP
          go_wp2_with fail
          refine (dbadq_any L.s3 L.gr dd _ H4.out.dec).mono ?_
          rintro e w4 ⟨rfl, rfl⟩
          go_wp2_with fail
          go_ret2
          rw [HNQ.out]
          exact ⟨rfl, F4.out.setCell (fun _ => .inl rfl) _, H5.out⟩
        · have HNQ := hid (show f.next L = ((xn : Int), true, FQ.target L.s1.nx L.s2.nx { f with m := m', told := f.told + 1, ahead := xn, d := dd, q := upd f.q k pv, bad := dd.bad } (xn : Int)) from HNP.out.trans (if_pos rfl))
          clear HNP
          go_wp2_with fail
          refine (dbadq_any L.s3 L.gr dd _ H4.out.dec).mono ?_
          rintro e w4 ⟨rfl, rfl⟩
          go_wp2_with fail
          refine (ftarget_any L HA.out _ OK5.out (xn : Int) _ H5.out).mono ?_
          rintro e w5 ⟨rfl, hf5, h5⟩
          have HF5 := hid hf5
          have H6 := hid h5
          clear hf5 h5
          go_wp2_with fail
          go_ret2
          rw [HNQ.out]
          exact ⟨rfl, (F4.out.setCell (p := ⟨L.g, 271, none⟩) (fun _ => .inl rfl) _).trans HF5.out, H6.out⟩
      · replace e1 : ((w1.setCell ⟨L.g, 263 + 2, none⟩ (.int .i64 ((f.told : Int) + 1))).setCell ⟨L.g, 263 + 0, none⟩ (.int .u8 (xn : Int))).cell? ⟨L.g, 263 + 1, none⟩ = some (.int .i64 ((f.told : Int) + 1)) := by
          rw [e1]
          have := HT.out
          rw [show (f.size : Int) = (f.told : Int) + 1 from by omega]
        have HNP := hid (nextQ_plain HN.out HW0.out HNX.out.symm (.inr hlt))
        refine (meetq_some L.g 5 f.ahead _ _ _ _ k hk (by exact H2.out.at_) (by exact cellsQ_tail (i := 0) _ _) HOK.out.ahead hb0 hb1).mono ?_
        rintro e w2 ⟨rfl, rfl⟩
        clear hk hlt
        go_wp2_with fail
        go_quiet (fail)
        go_wp2_with fail
        go_ret2
        rw [HNP.out]
        exact ⟨rfl, F3.out.drewN _, H3.out.keep ((Fr.refl Non _).drewN _) (fun _ _ e => e)⟩
theorem fnextq_any (L : BQ) (ha : L.Apart) (f : FQ) (hok : f.Ok) (w : World) (h : FQIs L w f) :
    Calls Try.prog 17 #[.pointer (some ⟨L.g, 0, none⟩)] w (NextQPost L w (f.next L)) := by
  by_cases hov : f.bad = true ∨ f.told = f.size
  · rw [nextQ_over hov]
    exact (fnextq_over L f w hov h).mono fun e w' ⟨h1, h2⟩ => ⟨h1, h2.any, h.keep h2 (fun _ _ e => e)⟩
  · have hb : f.bad = false := by cases hf : f.bad with | false => rfl | true => exact absurd (.inl hf) hov
    have ht : f.told < f.size := by have := hok.told; have : ¬ f.told = f.size := fun e => hov (.inr e); omega
    by_cases hw : 0 < f.waits
    · rw [nextQ_wait hov hw]
      exact fnextq_wait L ha f hok w hb ht hw h
    · exact fnextq_main L ha f hok w hb ht (by omega) h
end Go.Proofs.Ytphdnfilenkanaa

/- bcj2.New, bcj2.Filter.Finish. -/
namespace Go.Proofs.Ytphdnfilenkanaa
open Go.RowKit

def zerosQ : Array Value := arr .u16 258 (fun _ => 0)
theorem srcs_built (v0 v1 v2 v3 : Value) (r : Operand → Value) (t0 t1 t2 t3 : Nat) (h0 : r (.tmp t0) = v0) (h1 : r (.tmp t1) = v1) (h2 : r (.tmp t2) = v2) (h3 : r (.tmp t3) = v3)
    (ty0 ty1 ty2 ty3 : TypeId) (x0 x1 x2 x3 : Value) (e0 : v0 = .iface ty0 x0) (e1 : v1 = .iface ty1 x1) (e2 : v2 = .iface ty2 x2) (e3 : v3 = .iface ty3 x3) :
    Try.prog.built 73 ((#[(0, Operand.tmp t0), (1, Operand.tmp t1), (2, Operand.tmp t2), (3, Operand.tmp t3)].map fun (i, x) => (i, r x)).toList) = some #[v0, v1, v2, v3] := by
  subst e0 e1 e2 e3
  have : Try.prog.built 73 [(0, .iface ty0 x0), (1, .iface ty1 x1), (2, .iface ty2 x2), (3, .iface ty3 x3)] = some #[.iface ty0 x0, .iface ty1 x1, .iface ty2 x2, .iface ty3 x3] := by kernel_rfl
  simpa [h0, h1, h2, h3] using this
def FQ.new (m c j : Nat) (d : RD Nat) (size : Nat) : FQ := ⟨m, c, j, d, fun _ => 0, 0, size, 0, fun _ => 0, 0, false⟩
theorem filtq_built (L : BQ) (m c j : Nat) (d : RD Nat) (n : Nat) (r : Operand → Value) (t0 t1 t2 : Nat) (h0 : r (.tmp t0) = .agg #[.iface L.s0.ty L.s0.val, .iface L.s1.ty L.s1.val, .iface L.s2.ty L.s2.val, .iface L.s3.ty L.s3.val])
    (h1 : r (.tmp t1) = .pointer (some ⟨L.gr, 0, none⟩)) (h2 : r (.tmp t2) = .int .i64 n) :
    Try.prog.built 78 ((#[(0, Operand.tmp t0), (1, Operand.tmp t1), (3, Operand.tmp t2)].map fun (i, x) => (i, r x)).toList) = some (L.cells (FQ.new m c j d n)) := by
  have : Try.prog.built 78 [(0, .agg #[.iface L.s0.ty L.s0.val, .iface L.s1.ty L.s1.val, .iface L.s2.ty L.s2.val, .iface L.s3.ty L.s3.val]), (1, .pointer (some ⟨L.gr, 0, none⟩)), (3, .int .i64 n)] = some (L.cells (FQ.new m c j d n)) := by kernel_rfl
  simpa [h0, h1, h2] using this
theorem filtq_box (w : World) (cs : Array Value) : (Instr.box 78 (.agg cs)).run Try.prog w = .ok (.pointer (some ⟨w.heap.size, 0, none⟩)) (w.alloc (.cells cs 78)) := by
  kernel_rfl
def NewQPost (s0 s1 s2 s3 : Sour Nat) (f : FQ) (w : World) (e : Ending) (w' : World) : Prop :=
  ∃ g gr, e = .returned (.pointer (some ⟨g, 0, none⟩)) ∧ w.heap.size ≤ g ∧ g < w'.heap.size ∧ w.heap.size ≤ gr ∧ gr < w'.heap.size ∧ Fr s3.foot w w' ∧ (⟨g, gr, s0, s1, s2, s3⟩ : BQ).Apart ∧ FQIs ⟨g, gr, s0, s1, s2, s3⟩ w' f
structure SrcsQ (s0 s1 s2 s3 : Sour Nat) (w : World) : Prop where
  l0 : ∀ k, s0.foot k → k < w.heap.size
  l1 : ∀ k, s1.foot k → k < w.heap.size
  l2 : ∀ k, s2.foot k → k < w.heap.size
  l3 : ∀ k, s3.foot k → k < w.heap.size
  a01 : ∀ k, s0.foot k → ¬ s1.foot k
  a02 : ∀ k, s0.foot k → ¬ s2.foot k
  a03 : ∀ k, s0.foot k → ¬ s3.foot k
  a12 : ∀ k, s1.foot k → ¬ s2.foot k
  a13 : ∀ k, s1.foot k → ¬ s3.foot k
  a23 : ∀ k, s2.foot k → ¬ s3.foot k
def FQ.start (nx : Nat → Int × Bool × Nat) (m c j t n : Nat) : FQ := ⟨m, c, j, RD.new nx t, fun _ => 1024, 0, n, 0, fun _ => 0, 0, false⟩
set_option maxRecDepth 100000 in
set_option maxHeartbeats 1000000 in
theorem fnewq_neg (s0 s1 s2 s3 : Sour Nat) (m c j t : Nat) (x : Int) (hneg : x < 0) (_hx0 : -9223372036854775808 ≤ x) (w : World) (i0 : s0.I w m) (i1 : s1.I w c) (i2 : s2.I w j) (i3 : s3.I w t) (hs : SrcsQ s0 s1 s2 s3 w) :
    Calls Try.prog 15 #[.iface s0.ty s0.val, .iface s1.ty s1.val, .iface s2.ty s2.val, .iface s3.ty s3.val, .int .i64 x] w (NewQPost s0 s1 s2 s3 (FQ.start s3.nx m c j t 0) w) := by
  have I0 := hid i0
  have I1 := hid i1
  have I2 := hid i2
  have I3 := hid i3
  have HS := hid hs
  clear i0 i1 i2 i3 hs
  go_enter Try.func15, Try.ntmps15
  go_wp2_with (first
    | (refine opRun (some 16) rfl rfl (.agg #[.iface s0.ty s0.val, .iface s1.ty s1.val, .iface s2.ty s2.val, .iface s3.ty s3.val]) _ (by unfold execOp; simp only []; rw [run_bind_ok (run_build _ _ _ _ (srcs_built _ _ _ _ _ 12 13 14 15 rfl rfl rfl rfl _ _ _ _ _ _ _ _ rfl rfl rfl rfl))]; rfl) ?_))
  refine (dnew_any s3 t _ I3.out HS.out.l3).mono ?_
  rintro e w1 ⟨gr, hgr0, hgr1, rfl, hf1, hd1⟩
  have HF1 := hid hf1
  have HD1 := hid hd1
  have hs1 := hf1.size
  clear hf1 hd1
  go_wp2_with (first
    | (refine opRun (some 21) rfl rfl (.agg ((⟨0, gr, s0, s1, s2, s3⟩ : BQ).cells (FQ.new m c j (RD.new s3.nx t) 0))) _ (by unfold execOp; simp only []; rw [run_bind_ok (run_build _ _ _ _ (filtq_built ⟨0, gr, s0, s1, s2, s3⟩ m c j (RD.new s3.nx t) 0 _ 16 18 20 rfl rfl rfl))]; rfl) ?_)
    | (refine opRun (some 22) rfl rfl (.pointer (some ⟨w1.heap.size, 0, none⟩)) _ (by unfold execOp; simp only []; rw [run_bind_ok (filtq_box _ _)]; rfl) ?_))
  obtain ⟨g, hg⟩ : ∃ g, g = w1.heap.size := ⟨_, rfl⟩
  have HB2 := hid (show (w1.alloc (.cells ((⟨0, gr, s0, s1, s2, s3⟩ : BQ).cells (FQ.new m c j (RD.new s3.nx t) 0)) 78)).heap[g]? = some _ from by rw [hg]; exact blk_new _ _)
  rw [← hg]
  have HG := hid hg
  clear hg
  refine (beginq_any g 5 (⟨0, gr, s0, s1, s2, s3⟩ : BQ).headC (FQ.new m c j (RD.new s3.nx t) 0).tail (fun _ => 0) _ _ rfl (by exact HB2.out)).mono ?_
  rintro e w3 ⟨rfl, hf3, hb3⟩
  have HF3 := hid hf3
  have HB3 := hid hb3
  clear hf3 hb3
  go_wp2_with fail
  go_ret
  have eg := HG.out
  have F2 : Fr Non w1 (w1.alloc (.cells ((⟨0, gr, s0, s1, s2, s3⟩ : BQ).cells (FQ.new m c j (RD.new s3.nx t) 0)) 78)) := (Fr.refl _ _).alloc _
  have F13 : Fr (fun k => k = g) w1 w3 := F2.any.trans HF3.out
  have hsz := HF3.out.size
  simp at hsz
  have hlt : ∀ k, (s0.foot k ∨ s1.foot k ∨ s2.foot k ∨ s3.foot k) → k < w.heap.size := by
    rintro k (e | e | e | e)
    · exact HS.out.l0 k e
    · exact HS.out.l1 k e
    · exact HS.out.l2 k e
    · exact HS.out.l3 k e
  refine ⟨g, gr, rfl, by omega, by omega, hgr0, by omega, HF1.out.then F13 (fun i hi e => by have : i = g := e; omega), ?_, ?_⟩
  · refine ⟨fun e => ?_, fun e => ?_, fun e => ?_, fun e => ?_, HS.out.a01, HS.out.a02, fun k h e => ?_, HS.out.a12, fun k h e => ?_, fun k h e => ?_⟩
    · have := HS.out.l0 _ e; have : g < w.heap.size := this; omega
    · have := HS.out.l1 _ e; have : g < w.heap.size := this; omega
    · have := HS.out.l2 _ e; have : g < w.heap.size := this; omega
    · rcases e with e | e
      · have : g = gr := e; omega
      · have := HS.out.l3 _ e; have : g < w.heap.size := this; omega
    · rcases e with e | e
      · have := HS.out.l0 k h; have : k = gr := e; omega
      · exact HS.out.a03 k h e
    · rcases e with e | e
      · have := HS.out.l1 k h; have : k = gr := e; omega
      · exact HS.out.a13 k h e
    · rcases e with e | e
      · have := HS.out.l2 k h; have : k = gr := e; omega
      · exact HS.out.a23 k h e
  · have k0 : ∀ (s : Sour Nat) (v : Nat), s.I w v → (∀ k, s.foot k → ¬ s3.foot k) → (∀ k, s.foot k → k < w.heap.size) → s.I w3 v := fun s v hi ha hl =>
      s.keep _ _ _ (fun k => k = g) (s.keep _ _ _ _ hi HF1.out ha) F13 (fun k hk e => by have := hl k hk; omega)
    exact ⟨HB3.out, k0 s0 m I0.out HS.out.a03 HS.out.l0, k0 s1 c I1.out HS.out.a13 HS.out.l1, k0 s2 j I2.out HS.out.a23 HS.out.l2, HD1.out.keep F13 (fun k hk e => by
      rcases hk with hk | hk
      · omega
      · have := HS.out.l3 k hk; omega)⟩
set_option maxRecDepth 100000 in
set_option maxHeartbeats 1000000 in
theorem fnewq_nat (s0 s1 s2 s3 : Sour Nat) (m c j t n : Nat) (hx1 : (n : Int) ≤ 9223372036854775807) (w : World) (i0 : s0.I w m) (i1 : s1.I w c) (i2 : s2.I w j) (i3 : s3.I w t) (hs : SrcsQ s0 s1 s2 s3 w) :
    Calls Try.prog 15 #[.iface s0.ty s0.val, .iface s1.ty s1.val, .iface s2.ty s2.val, .iface s3.ty s3.val, .int .i64 n] w (NewQPost s0 s1 s2 s3 (FQ.start s3.nx m c j t n) w) := by
  have I0 := hid i0
  have I1 := hid i1
  have I2 := hid i2
  have I3 := hid i3
  have HS := hid hs
  clear i0 i1 i2 i3 hs
  go_enter Try.func15, Try.ntmps15
  go_wp2_with (first
    | (refine opRun (some 16) rfl rfl (.agg #[.iface s0.ty s0.val, .iface s1.ty s1.val, .iface s2.ty s2.val, .iface s3.ty s3.val]) _ (by unfold execOp; simp only []; rw [run_bind_ok (run_build _ _ _ _ (srcs_built _ _ _ _ _ 12 13 14 15 rfl rfl rfl rfl _ _ _ _ _ _ _ _ rfl rfl rfl rfl))]; rfl) ?_))
  refine (dnew_any s3 t _ I3.out HS.out.l3).mono ?_
  rintro e w1 ⟨gr, hgr0, hgr1, rfl, hf1, hd1⟩
  have HF1 := hid hf1
  have HD1 := hid hd1
  have hs1 := hf1.size
  clear hf1 hd1
  go_wp2_with (first
    | (refine opRun (some 21) rfl rfl (.agg ((⟨0, gr, s0, s1, s2, s3⟩ : BQ).cells (FQ.new m c j (RD.new s3.nx t) n))) _ (by unfold execOp; simp only []; rw [run_bind_ok (run_build _ _ _ _ (filtq_built ⟨0, gr, s0, s1, s2, s3⟩ m c j (RD.new s3.nx t) n _ 16 18 20 rfl rfl rfl))]; rfl) ?_)
    | (refine opRun (some 22) rfl rfl (.pointer (some ⟨w1.heap.size, 0, none⟩)) _ (by unfold execOp; simp only []; rw [run_bind_ok (filtq_box _ _)]; rfl) ?_))
  obtain ⟨g, hg⟩ : ∃ g, g = w1.heap.size := ⟨_, rfl⟩
  have HB2 := hid (show (w1.alloc (.cells ((⟨0, gr, s0, s1, s2, s3⟩ : BQ).cells (FQ.new m c j (RD.new s3.nx t) n)) 78)).heap[g]? = some _ from by rw [hg]; exact blk_new _ _)
  rw [← hg]
  have HG := hid hg
  clear hg
  refine (beginq_any g 5 (⟨0, gr, s0, s1, s2, s3⟩ : BQ).headC (FQ.new m c j (RD.new s3.nx t) n).tail (fun _ => 0) _ _ rfl (by exact HB2.out)).mono ?_
  rintro e w3 ⟨rfl, hf3, hb3⟩
  have HF3 := hid hf3
  have HB3 := hid hb3
  clear hf3 hb3
  go_wp2_with fail
  go_ret
  have eg := HG.out
  have F2 : Fr Non w1 (w1.alloc (.cells ((⟨0, gr, s0, s1, s2, s3⟩ : BQ).cells (FQ.new m c j (RD.new s3.nx t) n)) 78)) := (Fr.refl _ _).alloc _
  have F13 : Fr (fun k => k = g) w1 w3 := F2.any.trans HF3.out
  have hsz := HF3.out.size
  simp at hsz
  have hlt : ∀ k, (s0.foot k ∨ s1.foot k ∨ s2.foot k ∨ s3.foot k) → k < w.heap.size := by
    rintro k (e | e | e | e)
    · exact HS.out.l0 k e
    · exact HS.out.l1 k e
    · exact HS.out.l2 k e
    · exact HS.out.l3 k e
  refine ⟨g, gr, rfl, by omega, by omega, hgr0, by omega, HF1.out.then F13 (fun i hi e => by have : i = g := e; omega), ?_, ?_⟩
  · refine ⟨fun e => ?_, fun e => ?_, fun e => ?_, fun e => ?_, HS.out.a01, HS.out.a02, fun k h e => ?_, HS.out.a12, fun k h e => ?_, fun k h e => ?_⟩
    · have := HS.out.l0 _ e; have : g < w.heap.size := this; omega
    · have := HS.out.l1 _ e; have : g < w.heap.size := this; omega
    · have := HS.out.l2 _ e; have : g < w.heap.size := this; omega
    · rcases e with e | e
      · have : g = gr := e; omega
      · have := HS.out.l3 _ e; have : g < w.heap.size := this; omega
    · rcases e with e | e
      · have := HS.out.l0 k h; have : k = gr := e; omega
      · exact HS.out.a03 k h e
    · rcases e with e | e
      · have := HS.out.l1 k h; have : k = gr := e; omega
      · exact HS.out.a13 k h e
    · rcases e with e | e
      · have := HS.out.l2 k h; have : k = gr := e; omega
      · exact HS.out.a23 k h e
  · have k0 : ∀ (s : Sour Nat) (v : Nat), s.I w v → (∀ k, s.foot k → ¬ s3.foot k) → (∀ k, s.foot k → k < w.heap.size) → s.I w3 v := fun s v hi ha hl =>
      s.keep _ _ _ (fun k => k = g) (s.keep _ _ _ _ hi HF1.out ha) F13 (fun k hk e => by have := hl k hk; omega)
    exact ⟨HB3.out, k0 s0 m I0.out HS.out.a03 HS.out.l0, k0 s1 c I1.out HS.out.a13 HS.out.l1, k0 s2 j I2.out HS.out.a23 HS.out.l2, HD1.out.keep F13 (fun k hk e => by
      rcases hk with hk | hk
      · omega
      · have := HS.out.l3 k hk; omega)⟩
theorem fnewq_any (s0 s1 s2 s3 : Sour Nat) (m c j t : Nat) (x : Int) (hx0 : -9223372036854775808 ≤ x) (hx1 : x ≤ 9223372036854775807) (w : World) (i0 : s0.I w m) (i1 : s1.I w c) (i2 : s2.I w j) (i3 : s3.I w t) (hs : SrcsQ s0 s1 s2 s3 w) :
    Calls Try.prog 15 #[.iface s0.ty s0.val, .iface s1.ty s1.val, .iface s2.ty s2.val, .iface s3.ty s3.val, .int .i64 x] w (NewQPost s0 s1 s2 s3 (FQ.start s3.nx m c j t x.toNat) w) := by
  by_cases h : x < 0
  · rw [show x.toNat = 0 from by omega]
    exact fnewq_neg s0 s1 s2 s3 m c j t x h hx0 w i0 i1 i2 i3 hs
  · obtain ⟨n, rfl⟩ := Int.eq_ofNat_of_zero_le (show 0 ≤ x by omega)
    rw [Int.toNat_natCast]
    exact fnewq_nat s0 s1 s2 s3 m c j t n hx1 w i0 i1 i2 i3 hs
end Go.Proofs.Ytphdnfilenkanaa

/- bcj2.Filter.Finish. -/
namespace Go.Proofs.Ytphdnfilenkanaa
open Go.RowKit

/-- whether the streams end, so far as the first k are asked. -/
def FQ.ends0 (f : FQ) : Bool := !f.bad && (decide (f.told = f.size) && f.d.done)
def FQ.ends1 (L : BQ) (f : FQ) : Bool := f.ends0 && !(L.s0.nx f.m).2.1
def FQ.ends2 (L : BQ) (f : FQ) : Bool := f.ends1 L && !(L.s1.nx f.c).2.1
def FQ.ends3 (L : BQ) (f : FQ) : Bool := f.ends2 L && !(L.s2.nx f.j).2.1
def FQ.ends (L : BQ) (f : FQ) : Bool := f.ends3 L && !(L.s3.nx f.d.src).2.1
def FQ.endsN (L : BQ) (f : FQ) (k : Nat) : Bool := match k with | 0 => f.ends0 | 1 => f.ends1 L | 2 => f.ends2 L | 3 => f.ends3 L | _ => f.ends L
/-- what is as it was ahead of the k-th source. -/
def RelF (f fk : FQ) (k : Nat) : Prop := (k ≤ 0 → fk.m = f.m) ∧ (k ≤ 1 → fk.c = f.c) ∧ (k ≤ 2 → fk.j = f.j) ∧ (k ≤ 3 → fk.d = f.d)
def FinQPost (L : BQ) (w : World) (v : Bool) (e : Ending) (w' : World) : Prop := e = .returned (.bool v) ∧ Fr L.foot w w' ∧ ∃ f', f'.bad = true ∧ FQIs L w' f'
theorem FQIs.code_ {L : BQ} (ha : L.Apart) {w w' : World} {f : FQ} (h : FQIs L w f) {t : Nat} (hf : Fr L.s3.foot w w') (hi : L.s3.I w' t) : FQIs L w' { f with d := ⟨t, f.d.rng, f.d.code, f.d.bad⟩ } :=
  ⟨hf.blk h.at_ (fun e => ha.gd (.inr e)), L.s0.keep _ _ _ _ h.main hf (fun k hk e => ha.a0d k hk (.inr e)), L.s1.keep _ _ _ _ h.calls hf (fun k hk e => ha.a1d k hk (.inr e)), L.s2.keep _ _ _ _ h.jumps hf (fun k hk e => ha.a2d k hk (.inr e)),
   ⟨hf.blk h.dec.at_ h.dec.apart, hi, h.dec.ok, h.dec.apart⟩⟩
def SrcA (L : BQ) : Value := .agg #[.iface L.s0.ty L.s0.val, .iface L.s1.ty L.s1.val, .iface L.s2.ty L.s2.val, .iface L.s3.ty L.s3.val]
theorem src_at0 (ty0 ty1 ty2 ty3 : TypeId) (x0 x1 x2 x3 : Value) (w : World) : (Instr.index 73 (.agg #[.iface ty0 x0, .iface ty1 x1, .iface ty2 x2, .iface ty3 x3]) (.int .i64 0)).run Try.prog w = .ok (.iface ty0 x0) w := by show _ = _; kernel_rfl
theorem src_at1 (ty0 ty1 ty2 ty3 : TypeId) (x0 x1 x2 x3 : Value) (w : World) : (Instr.index 73 (.agg #[.iface ty0 x0, .iface ty1 x1, .iface ty2 x2, .iface ty3 x3]) (.int .i64 1)).run Try.prog w = .ok (.iface ty1 x1) w := by show _ = _; kernel_rfl
theorem src_at2 (ty0 ty1 ty2 ty3 : TypeId) (x0 x1 x2 x3 : Value) (w : World) : (Instr.index 73 (.agg #[.iface ty0 x0, .iface ty1 x1, .iface ty2 x2, .iface ty3 x3]) (.int .i64 2)).run Try.prog w = .ok (.iface ty2 x2) w := by show _ = _; kernel_rfl
theorem src_at3 (ty0 ty1 ty2 ty3 : TypeId) (x0 x1 x2 x3 : Value) (w : World) : (Instr.index 73 (.agg #[.iface ty0 x0, .iface ty1 x1, .iface ty2 x2, .iface ty3 x3]) (.int .i64 3)).run Try.prog w = .ok (.iface ty3 x3) w := by show _ = _; kernel_rfl
theorem mirrorq {P : Program} {f : FuncId} {args : Array Value} {w : World} {v : Value} (h : Calls P f args w fun e w' => e = .returned v ∧ w = w') : Calls P f args w fun e w' => e = .returned v ∧ w' = w :=
  h.mono fun _ _ ⟨h1, h2⟩ => ⟨h1, h2.symm⟩
set_option maxRecDepth 100000 in
set_option maxHeartbeats 4000000 in
theorem ffin_any (L : BQ) (ha : L.Apart) (f : FQ) (w : World) (h : FQIs L w f) :
    Calls Try.prog 18 #[.pointer (some ⟨L.g, 0, none⟩)] w (FinQPost L w (f.ends L)) := by
  have d2 := h.get_ 2 (v := .int .i64 f.told) rfl
  have d1 := h.get_ 1 (v := .int .i64 f.size) rfl
  have d8 := h.get_ 8 (v := .bool f.bad) rfl
  have c0 := blk_cell h.at_ (j := 0) (v := .iface L.s0.ty L.s0.val) (by rw [cellsQ_head _ _ (by decide)]; rfl)
  have c1 := blk_cell h.at_ (j := 1) (v := .iface L.s1.ty L.s1.val) (by rw [cellsQ_head _ _ (by decide)]; rfl)
  have c2 := blk_cell h.at_ (j := 2) (v := .iface L.s2.ty L.s2.val) (by rw [cellsQ_head _ _ (by decide)]; rfl)
  have c3 := blk_cell h.at_ (j := 3) (v := .iface L.s3.ty L.s3.val) (by rw [cellsQ_head _ _ (by decide)]; rfl)
  have c4 := blk_cell h.at_ (j := 4) (v := .pointer (some ⟨L.gr, 0, none⟩)) (by rw [cellsQ_head _ _ (by decide)]; rfl)
  have H := hid h
  have HA := hid ha
  clear h ha
  go_enter Try.func18, Try.ntmps18
  go_upto_region 1 with fail
  go_cut [3] (fun v wx => v = .bool (f.ends0) ∧ ∃ n, wx = w.drewN n)
  case first =>
    cases hb : f.bad with
    | true =>
      rw [hb] at d8
      have HE := hid (show f.ends0 = false by show (!f.bad && _) = false; rw [hb]; rfl)
      clear hb
      go_quiet (fail)
      go_wp2_with fail
      go_meet
      exact ⟨by rw [HE.out], _, rfl⟩
    | false =>
      rw [hb] at d8
      by_cases ht : f.told = f.size
      · have q : ((f.told : Int) == (f.size : Int)) = true := by simp; omega
        have HE := hid (show f.ends0 = f.d.done by show (!f.bad && (decide _ && _)) = _; rw [hb, decide_eq_true ht]; simp)
        clear hb ht
        go_quiet ((go_at_call 36; exact Calls.quiet_of_same (mirrorq (ddone_any L.s3 L.gr f.d _ (by exact H.out.dec.drewN _)))))
        go_wp2_with fail
        go_meet
        exact ⟨by rw [HE.out], _, rfl⟩
      · have q : ((f.told : Int) == (f.size : Int)) = false := by simp; omega
        have HE := hid (show f.ends0 = false by show (!f.bad && (decide _ && _)) = _; rw [decide_eq_false ht]; simp)
        clear hb ht
        go_quiet (fail)
        go_wp2_with fail
        go_meet
        exact ⟨by rw [HE.out], _, rfl⟩
  case rest =>
    obtain ⟨rfl, n, rfl⟩ := hcut
    go_wp2_with fail
    go_loopw [3, 35] (fun v kv wr => ∃ k : Nat, k ≤ 4 ∧ kv = .int .i64 k ∧ v = .bool (f.endsN L k) ∧ ∃ fk, RelF f fk k ∧ FQIs L wr fk ∧ Fr L.foot w wr) (fun _ kv _ => 4 - (intOf kv).toNat)
    case atStart => exact ⟨0, by omega, rfl, rfl, f, ⟨fun _ => rfl, fun _ => rfl, fun _ => rfl, fun _ => rfl⟩, H.out.keep ((Fr.refl Non _).drewN _) (fun _ _ e => e), (Fr.refl _ _).drewN _⟩
    case round =>
      obtain ⟨k, hk, rfl, rfl, fk, hrl, hfk, hfr⟩ := hrel
      have HRL := hid hrl
      have HFK := hid hfk
      have HFR := hid hfr
      clear hrl hfk hfr
      have hk5 : k = 0 ∨ k = 1 ∨ k = 2 ∨ k = 3 ∨ k = 4 := by omega
      rcases hk5 with rfl | rfl | rfl | rfl | rfl
      · have hix := src_at0 L.s0.ty L.s1.ty L.s2.ty L.s3.ty L.s0.val L.s1.val L.s2.val L.s3.val
        have q1 : f.endsN L 0 = f.ends0 := rfl
        rw [q1]
        have hst : fk.m = f.m := HRL.out.1 (by decide)
        have HST := hid hst
        clear hst q1
        cases he : f.ends0 with
        | false =>
          have HE := hid (show f.endsN L 1 = false by show (f.ends0 && _) = false; rw [he]; rfl)
          clear he
          go_wp2_with fail
          go_roundw
          case rel => exact ⟨1, by omega, rfl, by rw [HE.out], fk, ⟨fun e => absurd e (by decide), fun _ => HRL.out.2.1 (by decide), fun _ => HRL.out.2.2.1 (by decide), fun _ => HRL.out.2.2.2 (by decide)⟩, HFK.out, HFR.out⟩
          case measure => simp [intOf]
        | true =>
          have HE := hid (show f.endsN L 1 = !(L.s0.nx f.m).2.1 by show (f.ends0 && _) = _; rw [he]; rfl)
          clear he
          go_wp2_with (refine opInvoke rfl (.tmp 40) "Next" rfl L.s0.ty L.s0.val rfl L.s0.fid L.s0.val L.s0.meth L.s0.enter ?_; intro K hK)
          refine (L.s0.call _ fk.m HFK.out.main).mono ?_
          rintro e w1 ⟨rfl, hf1, hi1⟩
          rw [HST.out] at hi1 ⊢
          have HF1 := hid hf1
          have H1 := hid (HFK.out.main_ HA.out hf1 hi1)
          clear hf1 hi1 hix
          generalize L.s0.nx f.m = nx at *
          obtain ⟨x, ok, m'⟩ := nx
          refine hK _ _ ?_
          clear hK K
          dsimp only
          go_wp2_with fail
          go_roundw
          case rel => exact ⟨1, by omega, rfl, by rw [HE.out], { fk with m := m' }, ⟨fun e => absurd e (by decide), fun _ => HRL.out.2.1 (by decide), fun _ => HRL.out.2.2.1 (by decide), fun _ => HRL.out.2.2.2 (by decide)⟩, H1.out, HFR.out.then HF1.out (fun i hi e => .inr (.inl e))⟩
          case measure => simp [intOf]
      · have hix := src_at1 L.s0.ty L.s1.ty L.s2.ty L.s3.ty L.s0.val L.s1.val L.s2.val L.s3.val
        have q1 : f.endsN L 1 = f.ends1 L := rfl
        rw [q1]
        have hst : fk.c = f.c := HRL.out.2.1 (by decide)
        have HST := hid hst
        clear hst q1
        cases he : f.ends1 L with
        | false =>
          have HE := hid (show f.endsN L 2 = false by show (f.ends1 L && _) = false; rw [he]; rfl)
          clear he
          go_wp2_with fail
          go_roundw
          case rel => exact ⟨2, by omega, rfl, by rw [HE.out], fk, ⟨fun e => absurd e (by decide), fun e => absurd e (by decide), fun _ => HRL.out.2.2.1 (by decide), fun _ => HRL.out.2.2.2 (by decide)⟩, HFK.out, HFR.out⟩
          case measure => simp [intOf]
        | true =>
          have HE := hid (show f.endsN L 2 = !(L.s1.nx f.c).2.1 by show (f.ends1 L && _) = _; rw [he]; rfl)
          clear he
          go_wp2_with (refine opInvoke rfl (.tmp 40) "Next" rfl L.s1.ty L.s1.val rfl L.s1.fid L.s1.val L.s1.meth L.s1.enter ?_; intro K hK)
          refine (L.s1.call _ fk.c HFK.out.calls).mono ?_
          rintro e w1 ⟨rfl, hf1, hi1⟩
          rw [HST.out] at hi1 ⊢
          have HF1 := hid hf1
          have H1 := hid (HFK.out.calls_ HA.out hf1 hi1)
          clear hf1 hi1 hix
          generalize L.s1.nx f.c = nx at *
          obtain ⟨x, ok, m'⟩ := nx
          refine hK _ _ ?_
          clear hK K
          dsimp only
          go_wp2_with fail
          go_roundw
          case rel => exact ⟨2, by omega, rfl, by rw [HE.out], { fk with c := m' }, ⟨fun e => absurd e (by decide), fun e => absurd e (by decide), fun _ => HRL.out.2.2.1 (by decide), fun _ => HRL.out.2.2.2 (by decide)⟩, H1.out, HFR.out.then HF1.out (fun i hi e => .inr (.inr (.inl e)))⟩
          case measure => simp [intOf]
      · have hix := src_at2 L.s0.ty L.s1.ty L.s2.ty L.s3.ty L.s0.val L.s1.val L.s2.val L.s3.val
        have q1 : f.endsN L 2 = f.ends2 L := rfl
        rw [q1]
        have hst : fk.j = f.j := HRL.out.2.2.1 (by decide)
        have HST := hid hst
        clear hst q1
        cases he : f.ends2 L with
        | false =>
          have HE := hid (show f.endsN L 3 = false by show (f.ends2 L && _) = false; rw [he]; rfl)
          clear he
          go_wp2_with fail
          go_roundw
          case rel => exact ⟨3, by omega, rfl, by rw [HE.out], fk, ⟨fun e => absurd e (by decide), fun e => absurd e (by decide), fun e => absurd e (by decide), fun _ => HRL.out.2.2.2 (by decide)⟩, HFK.out, HFR.out⟩
          case measure => simp [intOf]
        | true =>
          have HE := hid (show f.endsN L 3 = !(L.s2.nx f.j).2.1 by show (f.ends2 L && _) = _; rw [he]; rfl)
          clear he
          go_wp2_with (refine opInvoke rfl (.tmp 40) "Next" rfl L.s2.ty L.s2.val rfl L.s2.fid L.s2.val L.s2.meth L.s2.enter ?_; intro K hK)
          refine (L.s2.call _ fk.j HFK.out.jumps).mono ?_
          rintro e w1 ⟨rfl, hf1, hi1⟩
          rw [HST.out] at hi1 ⊢
          have HF1 := hid hf1
          have H1 := hid (HFK.out.jumps_ HA.out hf1 hi1)
          clear hf1 hi1 hix
          generalize L.s2.nx f.j = nx at *
          obtain ⟨x, ok, m'⟩ := nx
          refine hK _ _ ?_
          clear hK K
          dsimp only
          go_wp2_with fail
          go_roundw
          case rel => exact ⟨3, by omega, rfl, by rw [HE.out], { fk with j := m' }, ⟨fun e => absurd e (by decide), fun e => absurd e (by decide), fun e => absurd e (by decide), fun _ => HRL.out.2.2.2 (by decide)⟩, H1.out, HFR.out.then HF1.out (fun i hi e => .inr (.inr (.inr (.inl e))))⟩
          case measure => simp [intOf]
      · have hix := src_at3 L.s0.ty L.s1.ty L.s2.ty L.s3.ty L.s0.val L.s1.val L.s2.val L.s3.val
        have q1 : f.endsN L 3 = f.ends3 L := rfl
        rw [q1]
        have hst : fk.d.src = f.d.src := congrArg RD.src (HRL.out.2.2.2 (by decide))
        have HST := hid hst
        clear hst q1
        cases he : f.ends3 L with
        | false =>
          have HE := hid (show f.endsN L 4 = false by show (f.ends3 L && _) = false; rw [he]; rfl)
          clear he
          go_wp2_with fail
          go_roundw
          case rel => exact ⟨4, by omega, rfl, by rw [HE.out], fk, ⟨fun e => absurd e (by decide), fun e => absurd e (by decide), fun e => absurd e (by decide), fun e => absurd e (by decide)⟩, HFK.out, HFR.out⟩
          case measure => simp [intOf]
        | true =>
          have HE := hid (show f.endsN L 4 = !(L.s3.nx f.d.src).2.1 by show (f.ends3 L && _) = _; rw [he]; rfl)
          clear he
          go_wp2_with (refine opInvoke rfl (.tmp 40) "Next" rfl L.s3.ty L.s3.val rfl L.s3.fid L.s3.val L.s3.meth L.s3.enter ?_; intro K hK)
          refine (L.s3.call _ fk.d.src HFK.out.dec.src).mono ?_
          rintro e w1 ⟨rfl, hf1, hi1⟩
          rw [HST.out] at hi1 ⊢
          have HF1 := hid hf1
          have H1 := hid (HFK.out.code_ HA.out hf1 hi1)
          clear hf1 hi1 hix
          generalize L.s3.nx f.d.src = nx at *
          obtain ⟨x, ok, m'⟩ := nx
          refine hK _ _ ?_
          clear hK K
          dsimp only
          go_wp2_with fail
          go_roundw
          case rel => exact ⟨4, by omega, rfl, by rw [HE.out], { fk with d := ⟨m', fk.d.rng, fk.d.code, fk.d.bad⟩ }, ⟨fun e => absurd e (by decide), fun e => absurd e (by decide), fun e => absurd e (by decide), fun e => absurd e (by decide)⟩, H1.out, HFR.out.then HF1.out (fun i hi e => .inr (.inr (.inr (.inr (.inr e)))))⟩
          case measure => simp [intOf]
      · replace HRL : Hid (RelF f fk 4) := HRL
        have e8 := HFK.out.get_ 8 (v := .bool fk.bad) rfl
        have z8 := HFK.out.froz_ 8
        have q1 : f.endsN L 4 = f.ends L := rfl
        rw [q1]
        go_wp2_with fail
        go_ret
        exact ⟨rfl, HFR.out.setCell (fun _ => .inl rfl) _, { fk with bad := true }, rfl, HFK.out.bad_ HA.out true⟩
end Go.Proofs.Ytphdnfilenkanaa

/- bcj2.Filter in plain words: how it goes on from byte to byte. -/
namespace Go.Proofs.Ytphdnfilenkanaa
open Go.RowKit

/-- four rows of bytes: Main, Call, Jump, Code. -/
structure Four where
  n0 : Nat
  n1 : Nat
  n2 : Nat
  n3 : Nat
  F0 : Nat → Int
  F1 : Nat → Int
  F2 : Nat → Int
  F3 : Nat → Int
  h0 : ∀ i, i < n0 → 0 ≤ F0 i ∧ F0 i < 256
  h1 : ∀ i, i < n1 → 0 ≤ F1 i ∧ F1 i < 256
  h2 : ∀ i, i < n2 → 0 ≤ F2 i ∧ F2 i < 256
  h3 : ∀ i, i < n3 → 0 ≤ F3 i ∧ F3 i < 256
/-- a layout that says nothing of where. -/
def Four.L (R : Four) : BQ := ⟨0, 0, feed 0 none R.n0 0 R.F0 R.h0, feed 0 none R.n1 0 R.F1 R.h1, feed 0 none R.n2 0 R.F2 R.h2, feed 0 none R.n3 0 R.F3 R.h3⟩
structure SameQ (R : Four) (L : BQ) : Prop where
  e0 : L.s0.nx = feedNx R.F0 R.n0
  e1 : L.s1.nx = feedNx R.F1 R.n1
  e2 : L.s2.nx = feedNx R.F2 R.n2
  e3 : L.s3.nx = feedNx R.F3 R.n3
theorem SameQ.next {R : Four} {L : BQ} (h : SameQ R L) (f : FQ) : f.next L = f.next R.L := by
  unfold FQ.next
  rw [h.e0, h.e1, h.e2, h.e3]
  rfl
theorem SameQ.ends {R : Four} {L : BQ} (h : SameQ R L) (f : FQ) : f.ends L = f.ends R.L := by
  unfold FQ.ends FQ.ends3 FQ.ends2 FQ.ends1
  rw [h.e0, h.e1, h.e2, h.e3]
  rfl
def FQ.it (R : Four) (f : FQ) : Nat → FQ
  | 0 => f
  | k + 1 => ((FQ.it R f k).next R.L).2.2
def FQ.okAt (R : Four) (f : FQ) (k : Nat) : Bool := ((f.it R k).next R.L).2.1
def FQ.byteAt (R : Four) (f : FQ) (k : Nat) : Int := ((f.it R k).next R.L).1
/-- the state that a filter begins with. -/
def Four.start (R : Four) (n : Nat) : FQ := FQ.start (feedNx R.F3 R.n3) 0 0 0 0 n

/-! ### what is always so -/
structure FQ.Pos (R : Four) (f : FQ) : Prop where
  p0 : f.m ≤ R.n0
  p1 : f.c ≤ R.n1
  p2 : f.j ≤ R.n2
  ok : f.Ok
  w0 : ∀ i, 0 ≤ f.word i ∧ f.word i < 256
def FQ.mu (R : Four) (f : FQ) : Nat := (R.n0 - f.m) + (R.n1 - f.c) + (R.n2 - f.j) + f.waits
theorem feedNx_pos {F : Nat → Int} {n s : Nat} (h : s ≤ n) : (feedNx F n s).2.2 ≤ n ∧ s ≤ (feedNx F n s).2.2 := by
  unfold feedNx
  by_cases hs : s < n
  · rw [if_pos hs]; exact ⟨hs, Nat.le_succ _⟩
  · rw [if_neg hs]; exact ⟨h, Nat.le_refl _⟩
/-- what is taken of a feed: the place moves on, by k where nothing was missing. -/
theorem takeQ_pos {F : Nat → Int} {n : Nat} (k : Nat) : ∀ (p : Int) (b : Bool) (s : Nat), s ≤ n → (takeQ (feedNx F n) k p b s).2.2 ≤ n ∧ s ≤ (takeQ (feedNx F n) k p b s).2.2 ∧ ((takeQ (feedNx F n) k p b s).2.1 = false → (takeQ (feedNx F n) k p b s).2.2 = s + k ∧ b = false) := by
  induction k with
  | zero => intro p b s h; exact ⟨h, Nat.le_refl _, fun e => ⟨rfl, e⟩⟩
  | succ k ih =>
    intro p b s h
    have hp := feedNx_pos (F := F) h
    obtain ⟨i1, i2, i3⟩ := ih (p * 256 % 4294967296 + (feedNx F n s).1) (b || !(feedNx F n s).2.1) (feedNx F n s).2.2 hp.1
    refine ⟨i1, Nat.le_trans hp.2 i2, fun e => ?_⟩
    obtain ⟨j1, j2⟩ := i3 e
    have j3 : b = false ∧ (feedNx F n s).2.1 = true := by
      revert j2
      cases b <;> cases (feedNx F n s).2.1 <;> simp
    refine ⟨?_, j3.1⟩
    show (takeQ (feedNx F n) k _ _ _).2.2 = _
    rw [j1]
    have : s < n := by
      by_cases hs : s < n
      · exact hs
      · have := j3.2; unfold feedNx at this; rw [if_neg hs] at this; cases this
    unfold feedNx
    rw [if_pos this]
    show s + 1 + k = _
    omega
theorem wordQ_bd (P : Int) (i : Nat) : 0 ≤ wordQ P i ∧ wordQ P i < 256 := by
  unfold wordQ
  split
  · omega
  · split
    · omega
    · split <;> omega
theorem FQ.Pos.target {R : Four} {f : FQ} (h : f.Pos R) (hw : f.waits = 0) (b : Int) : (f.target R.L.s1.nx R.L.s2.nx b).Pos R ∧ (f.target R.L.s1.nx R.L.s2.nx b).mu R ≤ f.mu R := by
  have e1 : R.L.s1.nx = feedNx R.F1 R.n1 := rfl
  have e2 : R.L.s2.nx = feedNx R.F2 R.n2 := rfl
  rw [e1, e2]
  have hp := h.p0
  have hp1 := h.p1
  have hp2 := h.p2
  by_cases hb : b = 232
  · subst hb
    obtain ⟨t1, t2, t3⟩ := takeQ_pos (F := R.F1) 4 0 f.bad f.c h.p1
    generalize hr : takeQ (feedNx R.F1 R.n1) 4 0 f.bad f.c = r at *
    obtain ⟨p, bb, s⟩ := r
    dsimp only at t1 t2 t3
    by_cases hbad : (bb || decide (f.size - f.told < 4)) = true
    · rw [target_bad_c hr hbad]
      exact ⟨⟨h.p0, t1, h.p2, ⟨h.ok.pr, h.ok.ahead, h.ok.size, h.ok.told, h.ok.waits⟩, h.w0⟩, by unfold FQ.mu; dsimp only; omega⟩
    · have hbb : bb = false ∧ ¬ f.size - f.told < 4 := by
        revert hbad; cases bb <;> simp
      obtain ⟨rfl, hs⟩ := hbb
      rw [target_ok_c hr hs]
      have := (t3 rfl).1
      exact ⟨⟨h.p0, t1, h.p2, ⟨h.ok.pr, by dsimp only; omega, h.ok.size, h.ok.told, by dsimp only; omega⟩, fun i => wordQ_bd _ _⟩, by unfold FQ.mu; dsimp only; omega⟩
  · obtain ⟨t1, t2, t3⟩ := takeQ_pos (F := R.F2) 4 0 f.bad f.j h.p2
    generalize hr : takeQ (feedNx R.F2 R.n2) 4 0 f.bad f.j = r at *
    obtain ⟨p, bb, s⟩ := r
    dsimp only at t1 t2 t3
    by_cases hbad : (bb || decide (f.size - f.told < 4)) = true
    · rw [target_bad_j hb hr hbad]
      exact ⟨⟨h.p0, h.p1, t1, ⟨h.ok.pr, h.ok.ahead, h.ok.size, h.ok.told, h.ok.waits⟩, h.w0⟩, by unfold FQ.mu; dsimp only; omega⟩
    · have hbb : bb = false ∧ ¬ f.size - f.told < 4 := by
        revert hbad; cases bb <;> simp
      obtain ⟨rfl, hs⟩ := hbb
      rw [target_ok_j hb hr hs]
      have := (t3 rfl).1
      exact ⟨⟨h.p0, h.p1, t1, ⟨h.ok.pr, by dsimp only; omega, h.ok.size, h.ok.told, by dsimp only; omega⟩, fun i => wordQ_bd _ _⟩, by unfold FQ.mu; dsimp only; omega⟩
theorem FQ.Pos.next {R : Four} {f : FQ} (h : f.Pos R) : (f.next R.L).2.2.Pos R ∧ ((f.next R.L).2.1 = true → (f.next R.L).2.2.mu R + 1 ≤ f.mu R) ∧ 0 ≤ (f.next R.L).1 ∧ (f.next R.L).1 < 256 := by
  have hp0 := h.p0
  have hok := h.ok
  by_cases hov : f.bad = true ∨ f.told = f.size
  · rw [nextQ_over hov]
    exact ⟨h, (fun e => by cases e), by show (0 : Int) ≤ 0; decide, by show (0 : Int) < 256; decide⟩
  · have ht : f.told < f.size := by have := hok.told; have : ¬ f.told = f.size := fun e => hov (.inr e); omega
    by_cases hw : 0 < f.waits
    · rw [nextQ_wait hov hw]
      exact ⟨⟨h.p0, h.p1, h.p2, ⟨hok.pr, hok.ahead, hok.size, ht, by dsimp only; have := hok.waits; omega⟩, h.w0⟩, fun _ => by unfold FQ.mu; dsimp only; omega, (h.w0 _).1, (h.w0 _).2⟩
    · have hb := R.L.s0.byte f.m
      have hp := feedNx_pos (F := R.F0) h.p0
      have en : R.L.s0.nx f.m = feedNx R.F0 R.n0 f.m := rfl
      obtain ⟨r, hr⟩ : ∃ r, r = R.L.s0.nx f.m := ⟨_, rfl⟩
      rw [← hr] at hb
      rw [← en, ← hr] at hp
      obtain ⟨x, ok, m'⟩ := r
      dsimp only at hb hp
      cases ok with
      | false =>
        rw [nextQ_short hov hw hr.symm]
        exact ⟨⟨hp.1, h.p1, h.p2, ⟨hok.pr, hok.ahead, hok.size, hok.told, hok.waits⟩, h.w0⟩, (fun e => by cases e), by show (0 : Int) ≤ 0; decide, by show (0 : Int) < 256; decide⟩
      | true =>
        have hm' : m' = f.m + 1 ∧ f.m < R.n0 := by
          rw [en] at hr
          unfold feedNx at hr
          by_cases hs : f.m < R.n0
          · rw [if_pos hs] at hr; injection hr with a b; injection b with b c; exact ⟨c, hs⟩
          · rw [if_neg hs] at hr; injection hr with a b; injection b with b c; cases b
        have hxa : x.toNat < 256 := by omega
        have plain : (whichQ f.ahead x = none ∨ ¬ f.told + 1 < f.size) → (f.next R.L).2.2.Pos R ∧ ((f.next R.L).2.1 = true → (f.next R.L).2.2.mu R + 1 ≤ f.mu R) ∧ 0 ≤ (f.next R.L).1 ∧ (f.next R.L).1 < 256 := by
          intro hk
          rw [nextQ_plain hov hw hr.symm hk]
          exact ⟨⟨hp.1, h.p1, h.p2, ⟨hok.pr, hxa, hok.size, ht, hok.waits⟩, h.w0⟩, fun _ => by unfold FQ.mu; dsimp only; omega, hb.1, hb.2⟩
        cases hk : whichQ f.ahead x with
        | none => exact plain (.inl hk)
        | some k =>
          by_cases hs : f.told + 1 < f.size
          · have hk258 := whichQ_lt hok.ahead hk
            have hq := hok.pr k hk258
            have hbp := bit_prob R.L.s3.nx f.d (f.q k) hq.1 hq.2
            have hB : (f.bitted R.L x m' k).Pos R ∧ (f.bitted R.L x m' k).mu R + 1 ≤ f.mu R := by
              unfold FQ.bitted
              exact ⟨⟨hp.1, h.p1, h.p2, ⟨hok.pr.upd k hbp.1 hbp.2, hxa, hok.size, ht, hok.waits⟩, h.w0⟩, by unfold FQ.mu; dsimp only; omega⟩
            rw [nextQ_bit hov hw hr.symm hk hs]
            by_cases h1 : (f.d.bit R.L.s3.nx (f.q k)).1 = 1
            · rw [if_pos h1]
              obtain ⟨t1, t2⟩ := hB.1.target (show f.waits = 0 by omega) x
              exact ⟨t1, fun _ => Nat.le_trans (Nat.add_le_add_right t2 1) hB.2, hb.1, hb.2⟩
            · rw [if_neg h1]
              exact ⟨hB.1, fun _ => hB.2, hb.1, hb.2⟩
          · exact plain (.inr hs)
theorem Four.start_pos (R : Four) (n : Nat) (hn : n ≤ 9223372036854775807) : (R.start n).Pos R :=
  ⟨Nat.zero_le _, Nat.zero_le _, Nat.zero_le _, ⟨fun j _ => by show (31 : Int) ≤ 1024 ∧ (1024 : Int) ≤ 2017; omega, by show 0 < 256; omega, hn, Nat.zero_le _, by show 0 ≤ 4; omega⟩, fun i => by show (0 : Int) ≤ 0 ∧ (0 : Int) < 256; omega⟩
theorem FQ.Pos.it {R : Four} {f : FQ} (h : f.Pos R) (k : Nat) : (f.it R k).Pos R := by
  induction k with
  | zero => exact h
  | succ k ih => exact ih.next.1
theorem FQ.Pos.count {R : Four} {f : FQ} (h : f.Pos R) : ∀ k : Nat, (∀ i, i < k → f.okAt R i = true) → (f.it R k).mu R + k ≤ f.mu R := by
  intro k
  induction k with
  | zero => intro _; exact Nat.le_refl _
  | succ k ih =>
    intro hk
    have h1 := ih (fun i hi => hk i (by omega))
    have h2 := (h.it k).next.2.1 (hk k (by omega))
    show ((f.it R k).next R.L).2.2.mu R + (k + 1) ≤ _
    omega
theorem FQ.Pos.byte {R : Four} {f : FQ} (h : f.Pos R) (k : Nat) : 0 ≤ f.byteAt R k ∧ f.byteAt R k < 256 := (h.it k).next.2.2
theorem Four.start_mu (R : Four) (n : Nat) : (R.start n).mu R = R.n0 + R.n1 + R.n2 := by
  show (R.n0 - 0) + (R.n1 - 0) + (R.n2 - 0) + 0 = _
  omega
end Go.Proofs.Ytphdnfilenkanaa

/- append of one integer to a row of the call's own: where the row lies then. -/
namespace Go.Proofs.Ytphdnfilenkanaa
open Go.RowKit

theorem run_grow1 {P : Program} {w : World} (t ty : TypeId) (k : IntKind) (e : TypeId) (bytes : Nat) (ht : P.underlying t = some (.slice e)) (hinfo : (P.info? e).map (fun i => (i.zero, i.size, i.bytes)) = some (some (.int k 0), 1, bytes))
    (v : Value) (xs : List Int) (hown : Own w 0 k e v xs) (ad : Addr) (c : Nat) (y : Int) (hcell : w.cell? ad = some (.int k y))
    (hb1 : 1 ≤ bytes) (hbytes : (xs.length + 1) * bytes ≤ 140737488355328) :
    ∃ v' w', (Builtin.append_ #[t, t] ty #[v, .slice (some ad) 1 c]).run P w = .ok v' w' ∧ Own w' 0 k e v' (xs ++ [y]) ∧ w.grownBy w' v.ownBlock ∧ (v'.ownBlock = v.ownBlock ∨ v'.ownBlock = some w.heap.size) := by
  obtain ⟨i, hi, hz0, hz1, hz2⟩ := info_parts hinfo
  have hm : xs.length + 1 ≤ (xs.length + 1) * bytes := Nat.le_mul_of_pos_right _ hb1
  have hnews : ∀ j u, [Value.int k y][j]? = some u → w.cell? (ad.add j) = some u := by
    intro j u hj
    match j, hj with
    | 0, hj => simp at hj; subst hj; simpa [Addr.add] using hcell
  have h1 : ∀ u ∈ [Value.int k y], u.oneCell' = true := by
    intro u hu
    simp at hu
    subst hu
    rfl
  obtain ⟨v', w', hr, h2, h3, _⟩ := run_append_own (P := P) w 0 t ty e i (.int k 0) 1 bytes ht hi hz0 hz1 hz2 rfl (by decide) v xs.length _ hown ad 1 c [.int k y] rfl hnews h1 (by unfold maxLen; omega) hbytes (Nat.zero_le _)
  refine ⟨v', w', hr, ?_, h3, ?_⟩
  · unfold Own
    simpa using h2
  · rcases hown.2 with ⟨rfl, hn⟩ | ⟨g, cap, cur, rfl, hbg, hg, hnc, hcm, hcs, htake⟩
    · have hr' := run_append_nil (P := P) w t ty e i (.int k 0) ht hi hz0 ad 1 c [.int k y] (by rw [hz1]; rfl) hnews (by decide) (by decide) (by rw [hz2]; have := Nat.le_mul_of_pos_left bytes (show 0 < xs.length + 1 by omega); omega)
      rw [hr] at hr'
      injection hr' with e1 e2
      right; rw [e1]; rfl
    · by_cases hroom : xs.length + 1 ≤ cap
      · have hr' := run_append_room (P := P) w t ty e i ht hi g xs.length cap cur hg ad 1 c [.int k y] (by rw [hz1]; rfl) hnews h1 hroom (by rw [hz1, hcs]; simp; omega)
        rw [hr] at hr'
        injection hr' with e1 e2
        left; rw [e1]; rfl
      · have hr' := run_append_grow (P := P) w t ty e i (.int k 0) ht hi hz0 ⟨g, 0, none⟩ xs.length cap (xs.map (Value.int k)) (by rw [hz1]; simp) (hown.cells (g := g) rfl) ad 1 c [.int k y] (by rw [hz1]; rfl) hnews (by omega) (by omega) (growslice_fits (by omega) (by rw [hz2]; exact hbytes))
        rw [hr] at hr'
        injection hr' with e1 e2
        right; rw [e1]; rfl

theorem opGrow1 {P : Program} {w : World} {ops : Array Oper} {rest : List Oper} {o : Oper} {a : Act} {Q : Exit → Act → World → Prop} (d : Option Tmp) (hgd : o.guard = none) (hd : o.dst = d) (s x : Operand) (t : TypeId)
    (ho : o.op = .call { callee := .builtin .append, args := #[s, x], argTypes := #[t, t] })
    (k : IntKind) (e : TypeId) (bytes : Nat) (ht : P.underlying t = some (.slice e)) (hinfo : (P.info? e).map (fun i => (i.zero, i.size, i.bytes)) = some (some (.int k 0), 1, bytes))
    (v : Value) (xs : List Int) (hs : a.eval s = v) (hown : Own w 0 k e v xs)
    (ad : Addr) (c : Nat) (y : Int) (hx : a.eval x = .slice (some ad) 1 c) (hcell : w.cell? ad = some (.int k y))
    (hb1 : 1 ≤ bytes) (hbytes : (xs.length + 1) * bytes ≤ 140737488355328)
    (h : ∀ v' w', Own w' 0 k e v' (xs ++ [y]) → w.grownBy w' v.ownBlock → (v'.ownBlock = v.ownBlock ∨ v'.ownBlock = some w.heap.size) → wpList P ops Q rest (a.put d v') w') : wpList P ops Q (o :: rest) a w := by
  obtain ⟨v', w', hr, h2, h3, h4⟩ := run_grow1 (P := P) (w := w) t o.type k e bytes ht hinfo v xs hown ad c y hcell hb1 hbytes
  refine wpList_plain hgd fun K hK => ?_
  unfold Oper.wp execOp
  simp only [ho, resolve, invoke, builtin, Sem.run_bind, Sem.run_pure, Result.andThen_ok, List.map_toArray, List.map_cons, List.map_nil, hs, hx, hr]
  refine hK _ _ ?_
  rw [hd]
  exact h v' w' h2 h3 h4

theorem step_grow1 {P : Program} {ops : Array Oper} {o : Oper} {a : Act} {w : World} {K : Act → World → Prop} {Q : Exit → Act → World → Prop} {E : Prop} (hgd : o.guard = none) (s x : Operand) (t : TypeId)
    (ho : o.op = .call { callee := .builtin .append, args := #[s, x], argTypes := #[t, t] })
    (k : IntKind) (e : TypeId) (bytes : Nat) (ht : P.underlying t = some (.slice e)) (hinfo : (P.info? e).map (fun i => (i.zero, i.size, i.bytes)) = some (some (.int k 0), 1, bytes))
    (v : Value) (xs : List Int) (hs : a.eval s = v) (ad : Addr) (c : Nat) (y : Int) (hx : a.eval x = .slice (some ad) 1 c) (hown : Own w 0 k e v xs) (hcell : w.cell? ad = some (.int k y))
    (hb1 : 1 ≤ bytes) (hbytes : (xs.length + 1) * bytes ≤ 140737488355328)
    (h : ∀ v' w', Own w' 0 k e v' (xs ++ [y]) → w.grownBy w' v.ownBlock → (v'.ownBlock = v.ownBlock ∨ v'.ownBlock = some w.heap.size) → K (a.put o.dst v') w') :
    if Region.wanted o (yielded ops a.tmps) = true then Oper.wp P o a w K Q else E := by
  have hw : Region.wanted o (yielded ops a.tmps) = true := by simp [Region.wanted, hgd]
  rw [if_pos hw]
  obtain ⟨v', w', hr, h2, h3, h4⟩ := run_grow1 (P := P) (w := w) t o.type k e bytes ht hinfo v xs hown ad c y hcell hb1 hbytes
  unfold Oper.wp execOp
  simp only [ho, resolve, invoke, builtin, Sem.run_bind, Sem.run_pure, Result.andThen_ok, List.map_toArray, List.map_cons, List.map_nil, hs, hx, hr]
  exact h v' w' h2 h3 h4
/-- what grew has its row where it was, or anew. -/
theorem Fr.grew {w w' : World} {v : Value} (h : w.grownBy w' v.ownBlock) : Fr (fun k => v.ownBlock = some k) w w' := (Fr.refl _ w).grown h (fun _ e _ => e)
end Go.Proofs.Ytphdnfilenkanaa
