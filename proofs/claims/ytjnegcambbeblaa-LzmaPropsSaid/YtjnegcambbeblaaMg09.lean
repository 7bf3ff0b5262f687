/- Texts of this proof, one behind the other. -/
import Derived.Test.YtjnegcambbeblaaMg08
import Derived.Test.YtjnegcambbeblaaMg01
import Derived.Test.YtjnegcambbeblaaRows
import Derived.WalkSpells
import Derived.WalkLawsBesides
import Derived.BigQuiet
import Derived.Deep.QuietTactic
import Derived.BigRegion
import Derived.Outline
import Derived.Test.YtjnegcambbeblaaMg05
import Derived.Lib.SmallJoins
import Derived.ProofKit
import Derived.OpenShut

/- lzma: Unpack, of a setting that may be and is not too great, where the meter's memory is enough. -/
namespace Go.Proofs.Ytjnegcambbeblaa
open Go.RowKit

theorem meter_no_u8 (m : MS) (j : Nat) (x : Int) : m.cells[j]? ≠ some (.int .u8 x) := by
  unfold MS.cells
  intro e
  rcases j with _ | _ | _ | _ | _ | _ | _ | _ | _ | _ | _ | _ | j <;> simp at e
/-- a row of bytes is no meter. -/
theorem RowIn.meter {lo n g : Nat} {w w' : World} {a : Option Addr} {f : Nat → Int} {m : MS} (h : RowIn lo .u8 w a n f) (hm : MAt w g m) (hf : Fr (fun k => k = g) w w') : RowIn lo .u8 w' a n f := by
  rcases h with h | ⟨b, off, e, hb, hc⟩
  · exact .inl h
  · refine .inr ⟨b, off, e, hb, fun i hi => hf.cell (hc i hi) fun e1 => ?_⟩
    have e2 : b = g := e1
    have h1 := hc i hi
    rw [e2, cell_of_row w g _ m.cells _ (0, 0) hm] at h1
    exact meter_no_u8 m _ _ h1
/-- a row of bytes that lies from a block on. -/
def RowO (w : World) (base : Nat) (v : Value) (xs : List Int) : Prop :=
  ∃ a c, v = .slice a xs.length c ∧ xs.length ≤ c ∧ (a = none → c = 0) ∧ RowIn w.heap.size .u8 w a xs.length (fun i => xs.getD i 0) ∧ ∀ ad, a = some ad → base ≤ ad.block
theorem Own.rowO {w : World} {base : Nat} {e : TypeId} {v : Value} {xs : List Int} (h : Own w base .u8 e v xs) : RowO w base v xs := by
  obtain ⟨a, c, h1, h2, h3, h4⟩ := h.row
  refine ⟨a, c, h1, h2, fun e => ?_, h4, fun ad e => (h.block ad.block (by rw [h1, e]; rfl)).1⟩
  have h5 := h.2
  rcases h5 with ⟨h6, h7⟩ | ⟨g, cap, cur, hv, hg, r⟩
  · rw [h1] at h6; injection h6
  · rw [h1, e] at hv; injection hv with e1 e2 e3; cases e1
theorem Own.clip {w : World} {base : Nat} {e : TypeId} {a : Option Addr} {n c : Nat} {xs : List Int} (h : Own w base .u8 e (.slice a n c) xs) : RowO w base (.slice a n n) xs := by
  obtain ⟨a', c', h1, h2, h3, h4, h5⟩ := h.rowO
  injection h1 with e1 e2 e3
  subst e1
  refine ⟨a, n, by rw [e2], by omega, fun e => ?_, h4, h5⟩
  have := h3 e
  omega
theorem RowO.fr {w w' : World} {base : Nat} {v : Value} {xs : List Int} {S : Nat → Prop} (h : RowO w base v xs) (hf : Fr S w w') (hs : ∀ k, base ≤ k → k < w.heap.size → ¬ S k) : RowO w' base v xs := by
  obtain ⟨a, c, h1, h2, h3, h4, h5⟩ := h
  refine ⟨a, c, h1, h2, h3, ?_, h5⟩
  rcases h4 with h4 | ⟨b, off, e, hb, hc⟩
  · exact .inl h4
  · exact .inr ⟨b, off, e, Nat.lt_of_lt_of_le hb hf.size, fun i hi => hf.cell (hc i hi) (hs b (h5 _ e) hb)⟩
theorem RowO.low {w : World} {base b2 : Nat} {v : Value} {xs : List Int} (h : RowO w base v xs) (hb : b2 ≤ base) : RowO w b2 v xs := by
  obtain ⟨a, c, h1, h2, h3, h4, h5⟩ := h
  exact ⟨a, c, h1, h2, h3, h4, fun ad e => Nat.le_trans hb (h5 ad e)⟩
/-- the meter behind an Unpack. -/
def lmet (m : MS) (p : Lset) (N : Nat) : MS := ((((m.mem p.need).2.mem N).2).free p.need).free N
def LUnPost (gm : Nat) (R : Option (List Int)) (m' : MS) (w : World) (e : Ending) (w' : World) : Prop :=
  Fr (fun k => k = gm) w w' ∧ MAt w' gm m' ∧ m'.Ok ∧
    ((R = none ∧ e = .returned (.tuple #[.slice none 0 0, .int .i64 12])) ∨ (∃ xs v, R = some xs ∧ e = .returned (.tuple #[v, .int .i64 0]) ∧ RowO w' w.heap.size v xs))
theorem lcloseD_on {S : Type} {L : LL} {t : Sour S} {ga gr : Nat} {w : World} {s : LS} {d : RD (AhS S)} {m : MS} (h : LOn L t ga gr w s d) (hm : MAt w L.gm m) (hok : m.Ok) (T : Nat) (hT : s.taken = T) (ht : T ≤ 1048576) (u : FrameMode) :
    CallsD Try.prog 28 #[.pointer (some ⟨L.gd, 0, none⟩)] u w fun e u' w' => u' = u ∧ e = .returned (.tuple #[]) ∧ Fr (fun k => k = L.gd ∨ k = L.gw ∨ k = L.gm) w w' ∧ MAt w' L.gm ((m.free T).free L.n) ∧ ((m.free T).free L.n).Ok := by
  subst hT
  obtain ⟨next, hr⟩ := h.is_.raw hm hok ht
  intro c cs hc
  obtain ⟨e, u', w', fr, ⟨h1, h2, h3, h4⟩, h5, h6, h7⟩ := lcloseD_raw L L.lit _ _ s _ L.n next _ m u w hr c cs hc
  exact ⟨e, u', w', fr, ⟨h1, h2, h3, h4.met, h4.ok⟩, h5, h6, h7⟩
/-- the last of a call that defers Close. -/
theorem lun_door {L : LL} {t : Sour Nat} {ga gr gm : Nat} {w wr : World} {s : LS} {d : RD (AhS Nat)} {m : MS} {T N : Nat} {R : Option (List Int)} {v : Value} {q : Int} {m' : MS} {tmps : Array Value} (B : Nat)
    (h : LOn L t ga gr wr s d) (hm : MAt wr gm m) (hok : m.Ok) (hT : s.taken = T) (ht : T ≤ 1048576) (hg : L.gm = gm) (hn : L.n = N) (hm' : (m.free T).free N = m') (hf : Fr (fun k => k = gm) w wr)
    (hlo : ∀ k, L.foot k → w.heap.size < k ∧ k < B) 
    (hres : ∀ W : World, (results Try.f17 tmps).run Try.prog W = .ok (.tuple #[v, .int .i64 q]) W)
    (hR : (R = none ∧ v = .slice none 0 0 ∧ q = 12) ∨ (∃ xs, R = some xs ∧ q = 0 ∧ RowO wr B v xs)) (hBw : w.heap.size ≤ B) (hgl : gm < w.heap.size) :
    Leaves Try.prog Try.f17 tmps (LUnPost gm R m' w) [{ target := Target.fn (Fn.func 28) #[], args := #[.pointer (some ⟨L.gd, 0, none⟩)] }] .returning wr := by
  subst hg hn hm'
  refine leaves_cons (f := 28) (args := #[.pointer (some ⟨L.gd, 0, none⟩)]) (by simp) (by simp [go_sem]) ?_
  refine (lcloseD_on h hm hok T hT ht _).mono ?_
  rintro e u' w'' ⟨rfl, rfl, h3, h4, h5⟩
  refine ⟨.tuple #[v, .int .i64 q], hres _, hf.then h3 (fun k hk e => ?_), h4, h5, ?_⟩
  · rcases e with e | e | e
    · have := hlo L.gd (.inl rfl); omega
    · have := hlo L.gw (.inr (.inr (.inl rfl))); omega
    · exact e
  · rcases hR with ⟨h1, rfl, rfl⟩ | ⟨xs, h1, rfl, ho⟩
    · exact .inl ⟨h1, rfl⟩
    · refine .inr ⟨xs, v, h1, rfl, (ho.fr h3 (fun g h8 _ e => ?_)).low hBw⟩
      rcases e with e | e | e
      · have := hlo L.gd (.inl rfl); omega
      · have := hlo L.gw (.inr (.inr (.inl rfl))); omega
      · omega
set_option maxRecDepth 100000 in
set_option maxHeartbeats 800000 in
theorem lunpack_any (gm : Nat) (m : MS) (p : Lset) (x : Int) (size : Nat) (hx : x.toNat = size) (a : Option Addr) (n c : Nat) (f : Nat → Int) (hf : ∀ i, i < n → 0 ≤ f i ∧ f i < 256) (w : World) (N : Nat) (hN : N = wsize (min p.dict x))
    (h : MAt w gm m) (hok : m.Ok) (hp : p.Light) (hs : x ≤ 5000) (hs0 : -9223372036854775808 ≤ x) (hn : n ≤ 20000) (hnc : n ≤ c) (hnil : a = none → c = 0) (hr : RowIn w.heap.size .u8 w a n f)
    (h1 : (m.mem p.need).1 = true) (h2 : ((m.mem p.need).2.mem N).1 = true) :
    Calls Try.prog 17 #[.slice a n c, p.val, .int .i64 x, .pointer (some ⟨gm, 0, none⟩)] w (LUnPost gm (lunpack (feedNx f n) 0 p N size) (lmet m p N) w) := by
  obtain ⟨R, hR⟩ : ∃ R, R = lunpack (feedNx f n) 0 p N size := ⟨_, rfl⟩
  rw [← hR]
  unfold lunpack at hR
  have hpn : p.need ≤ 200000 := by
    have := hp.nl_le
    have hm : p.may = true := Lset.may_iff.2 hp.may
    have hprob : p.probs = 1847 + p.nl := by unfold Lset.probs Lset.nl; rw [if_pos hm]
    unfold Lset.need
    omega
  have HR := hid hR
  have HX := hid hx
  have HN := hid hN
  have HM := hid h
  have HMO := hid hok
  have HP := hid hp
  have HROW := hid hr
  have HNIL := hid hnil
  have HC := hid hnc
  have HM1 := hid h1
  have HM2 := hid h2
  have Hf := hid hf
  have HPN := hid hpn
  have hgm : gm < w.heap.size := blk_lt h
  have HGM := hid hgm
  have HV := hid (show p.val = .agg #[.int .i64 p.lc, .int .i64 p.lp, .int .i64 p.pb, .int .i64 p.dict] from rfl)
  have hx5 : size ≤ 5000 := by omega
  have HS0 := hid hs0
  have HS := hid hs
  clear hR hx hN h hok hp hr hnil hnc h1 h2 hf hgm hpn hs0 hs
  rw [HV.out]
  go_enter_defers Try.func17, Try.ntmps17
  go_upto_region 1 with fail
  go_wp2_with (refine wpList_load_row rfl 23 _ rfl w.heap.size rfl 23 #[.int .i64 p.lc, .int .i64 p.lp, .int .i64 p.pb, .int .i64 p.dict] (0, 0) _ (by exact blk_new w _) Try.underlying23 rfl (by kernel_rfl) ?_)
  rw [← HV.out]
  have HF0 := hid ((Fr.refl Non w).alloc (.cells #[.int .i64 p.lc, .int .i64 p.lp, .int .i64 p.pb, .int .i64 p.dict] 23))
  refine (lnew_any gm m p x _ (HF0.out.blk HM.out id) HMO.out HP.out (by have := HS.out; omega) HS0.out).mono ?_
  intro e w1 hq
  rcases hq with ⟨_, _, hno, _⟩ | ⟨_, _, L, rfl, hf1, hm1, hl1, hLgm, hLn, hLnl, hLf⟩
  · exact absurd ⟨HM1.out, by rw [← HN.out]; exact HM2.out⟩ hno
  rw [← HN.out] at hm1 hLn
  have HLN := hid hLn
  have HLG := hid hLgm
  have HLF := hid (show ∀ k, L.foot k → w.heap.size < k ∧ k < w1.heap.size from fun k hk => by
    have := hLf k hk
    simp at this
    omega)
  have F1 := hid (show Fr (fun k => k = gm) w w1 from (HF0.out.any).trans hf1)
  have hs1 := F1.out.size
  have M1 := hid hm1
  have L1 := hid hl1
  clear hf1 hm1 hl1 hLgm hLn hLnl hLf
  go_wp2_with fail
  refine (newFeed_any a n c f w1 (by omega) HC.out HNIL.out (by exact (HROW.out.meter HM.out F1.out).mono hs1)).mono ?_
  intro e w2 hq
  obtain ⟨fg, fa, fc, rfl, hf2, hi2, hl2⟩ := feedNew_q _ _ _ Hf.out (by omega) _ _ hq
  obtain ⟨t, ht⟩ : ∃ t, t = feed fg fa n fc f Hf.out := ⟨_, rfl⟩
  have HT := hid (show Value.iface 45 (.pointer (some ⟨fg, 0, none⟩)) = Value.iface t.ty t.val from by rw [ht]; rfl)
  have HTN := hid (show t.nx = feedNx f n from by rw [ht]; rfl)
  rw [← ht] at hi2 hl2
  have HI2 := hid hi2
  have HL2 := hid hl2
  have F2 := hid (F1.out.trans hf2.any)
  have M2 := hid (show MAt w2 gm _ from hf2.blk M1.out id)
  have L2 := hid (L1.out.keep hf2 (fun _ _ e => e))
  have hs2 := hf2.size
  clear hq hf2 hi2 hl2 ht
  go_wp2_with fail
  rw [HT.out]
  refine (lbegin_any L t _ _ _ 0 w2 L2.out HI2.out (fun k hk => (HL2.out k hk).2) (fun k hk e => by have := (HLF.out k hk).2; have := (HL2.out k e).1; omega)).mono ?_
  rintro e w3 ⟨ga, gr, rfl, hf3, hon3, hga0, hga1, hgr0, hgr1⟩
  rw [HTN.out] at hon3
  have hs3 := hf3.size
  have HFT := hid (show ∀ k, LFt L t ga gr k → w.heap.size < k ∧ k < w3.heap.size from by
    have h0 := HLF.out L.gd (.inl rfl)
    rintro k (e | e | e | e)
    · have := HLF.out k e; omega
    · have e' : k = gr := e; omega
    · have e' : k = ga := e; omega
    · have := HL2.out k e
      omega)
  have F3 := hid (F2.out.then hf3 (fun k hk e => by
    rcases e with e | e
    · have := HLF.out L.gd (.inl rfl); omega
    · have := HL2.out k e; have := HLF.out L.gd (.inl rfl); omega))
  have M3 := hid (show MAt w3 gm _ from hf3.blk M2.out (fun e => by
    have := HGM.out
    rcases e with e | e
    · have := HLF.out L.gd (.inl rfl); omega
    · have := HL2.out _ e; have := HLF.out L.gd (.inl rfl); omega))
  have ON3 := hid hon3
  clear hf3 hon3 hga0 hga1 hgr0 hgr1
  obtain ⟨s0, hs0⟩ : ∃ s, s = lstart p := ⟨_, rfl⟩
  obtain ⟨d0, hd0⟩ : ∃ d, d = RD.new (anx (feedNx f n)) ⟨0, 0, false⟩ := ⟨_, rfl⟩
  have HS0E := hid hs0
  have hR := HR.out
  rw [← hs0, ← hd0] at hR
  rw [← hd0] at ON3
  rw [show LS.new p p.need = lstart p from rfl, ← hs0] at ON3
  have HRR := hid hR
  have HFIT := hid (lrun_fit (anx (feedNx f n)) L s0 d0 (by rw [hs0]; exact lstart_fit p L))
  have HPLA := hid (lrun_place (anx (feedNx f n)) L s0 d0)
  have HPL0 := hid (show s0.place = 0 by rw [hs0]; rfl)
  have HTK := hid (show ∀ k, (lrun (anx (feedNx f n)) L k s0 d0).1.taken = p.need from fun k => by rw [lrun_taken, hs0]; rfl)
  have HX2 := hid (show ∀ k : Nat, ((k : Int) < x ↔ k < size) from fun k => by have := HX.out; omega)
  clear hs0 hd0 hR
  go_wp2_with fail
  go_loopw [12] (fun v wr => ∃ k, k ≤ size ∧ (∀ i, i < k → lok (anx (feedNx f n)) L s0 d0 i = true) ∧ LOn L t ga gr wr (lrun (anx (feedNx f n)) L k s0 d0).1 (lrun (anx (feedNx f n)) L k s0 d0).2 ∧ Own wr w3.heap.size .u8 5 v (lbytes (anx (feedNx f n)) L s0 d0 k) ∧ Fr (fun k => k = gm) w wr ∧ MAt wr gm ((m.mem p.need).2.mem N).2 ∧ w3.heap.size ≤ wr.heap.size) (fun v _ => size - lenV v)
  case atStart => exact ⟨0, Nat.zero_le _, (fun i hi => by omega), ON3.out, Own.nil _ _ _ _, F3.out, M3.out, Nat.le_refl _⟩
  case round =>
    obtain ⟨k, hk, hks, hon, hown, hfr, hmt, hwz⟩ := hrel
    have HKS := hid hks
    have HON := hid hon
    have HOW := hid hown
    have HFW := hid hfr
    have HMT := hid hmt
    have hlv := hown.lenV
    rw [lbytes_len] at hlv
    have HLV := hid hlv
    obtain ⟨ra, rc, hva, hrc, hrm, hrw⟩ := hown.rowN (lbytes_len _ _ _ _ _)
    have HZ := hid (show ra = none → rc = 0 from fun e => by
      subst e
      have h2 := hown.2
      rcases h2 with ⟨h3, h4⟩ | ⟨g, cap, cur, hv, hg, r⟩
      · rw [hva] at h3; injection h3
      · rw [hva] at hv; injection hv with e1 e2 e3; cases e1)
    have HSEP := hid (show ∀ b, u12.ownBlock = some b → ¬ LFt L t ga gr b from fun b hb e => by have := (hown.block b hb).1; have := (HFT.out b e).2; omega)
    clear hks hon hown hfr hmt hlv hrm hrw
    subst hva
    have C1 := lnext_any L t ga gr _ _ wr HON.out (by have := HPLA.out k; have := HPL0.out; omega) (HFIT.out k)
    rw [ahead_nx, HTN.out] at C1
    have C1 := hid C1
    by_cases hlt : k < size
    · have hlx : (k : Int) < x := (HX2.out k).2 hlt
      obtain ⟨ok, hok⟩ : ∃ ok, ok = lok (anx (feedNx f n)) L s0 d0 k := ⟨_, rfl⟩
      obtain ⟨b, hb⟩ : ∃ b, b = lbyte (anx (feedNx f n)) L s0 d0 k := ⟨_, rfl⟩
      go_wp2_with fail
      refine C1.out.mono ?_
      rintro e w5 ⟨rfl, hf5, hon5⟩
      rw [show (lnext (anx (feedNx f n)) L (lrun (anx (feedNx f n)) L k s0 d0).1 (lrun (anx (feedNx f n)) L k s0 d0).2).1.2 = ok from hok.symm, show (lnext (anx (feedNx f n)) L (lrun (anx (feedNx f n)) L k s0 d0).1 (lrun (anx (feedNx f n)) L k s0 d0).2).1.1 = b from hb.symm]
      have HF5 := hid hf5
      have ON5 := hid (show LOn L t ga gr w5 (lrun (anx (feedNx f n)) L (k + 1) s0 d0).1 (lrun (anx (feedNx f n)) L (k + 1) s0 d0).2 from hon5)
      have hs5 := hf5.size
      have FW5 := hid (HFW.out.then hf5 (fun i hi e => by have := (HFT.out i e).1; omega))
      have M5 := hid (show MAt w5 gm _ from hf5.blk HMT.out (fun e => by have := (HFT.out _ e).1; have := HGM.out; omega))
      have HO5 := hid (HOW.out.fr HF5.out HSEP.out)
      have HOK := hid hok
      have HB := hid hb
      clear hf5 hon5 hok hb C1
      cases ok with
      | true =>
        go_wp2_with (refine opAppend1 (some 45) rfl rfl (.tmp 42) (.tmp 44) 30 rfl w3.heap.size .u8 5 1 Try.underlying30 Try.info_u8q _ _ rfl (by exact HO5.out.alloc _) ⟨_, 0, none⟩ 1 _ rfl (cell_new1 _ _ _) (by decide) (by rw [lbytes_len]; omega) (by simp; omega) ?_; intro v' w6 hown6 hg6)
        have hs6 := hg6.size
        simp at hs6
        have HL := hid HOW.out.block
        have HF6 := hid (Fr.grown (FW5.out.alloc _) hg6 (fun b hb hlt => by have := (HL.out b hb).1; omega))
        have H6 := hid (ON5.out.keep (Fr.grown ((Fr.refl (fun b => (Value.slice ra k rc).ownBlock = some b) w5).alloc _) hg6 (fun b hb _ => hb)) (fun b hb e => HSEP.out b e hb))
        have M6 := hid (show MAt w6 gm _ from (Fr.grown ((Fr.refl (fun b => (Value.slice ra k rc).ownBlock = some b) w5).alloc _) hg6 (fun b hb _ => hb)).blk M5.out (fun e => by have := (HL.out _ e).1; have := HGM.out; omega))
        rw [HB.out, ← lbytes_snoc] at hown6
        have HO6 := hid hown6
        have hlv6 := hown6.lenV
        rw [lbytes_len] at hlv6
        have HLV6 := hid hlv6
        have HKS' := hid (show ∀ i, i < k + 1 → lok (anx (feedNx f n)) L s0 d0 i = true from fun i hi => by
          by_cases e : i = k
          · rw [e]; exact HOK.out.symm
          · exact HKS.out i (by omega))
        clear hown6 hg6 hlv6
        go_roundw
        case rel => exact ⟨k + 1, by omega, HKS'.out, H6.out, HO6.out, HF6.out, M6.out, by omega⟩
        case measure =>
          rw [HLV.out, HLV6.out]
          omega
      | false =>
        go_wp2_with fail
        have hw03 : w.heap.size ≤ w3.heap.size := by have := HFT.out L.gd (.inl (.inl rfl)); omega
        refine lun_door w3.heap.size ON5.out M5.out (MS.mem_ok (MS.mem_ok HMO.out _) _) (T := p.need) (HTK.out (k + 1)) (by have := HPN.out; omega) HLG.out HLN.out rfl FW5.out (fun j hj => by have := HFT.out j (.inl hj); exact this) (fun W => Eq.trans (results_tmp2 rfl _ _ W) rfl) (.inl ⟨?_, rfl, rfl⟩) hw03 HGM.out
        rw [HRR.out, if_neg]
        intro e
        have e1 := List.all_eq_true.1 e.1 k (List.mem_range.2 hlt)
        rw [← HLN.out, ← lok_of, ← HOK.out] at e1
        cases e1
    · have e : k = size := by omega
      subst e
      have hlx : ¬ (k : Int) < x := fun e => hlt ((HX2.out k).1 e)
      have C2 := hid (lfinish_any L t ga gr _ _ wr HON.out (by have := HPLA.out k; have := HPL0.out; omega))
      rw [HTN.out] at C2
      obtain ⟨F, hF⟩ : ∃ F, F = lfinish (feedNx f n) L (lrun (anx (feedNx f n)) L k s0 d0).1 (lrun (anx (feedNx f n)) L k s0 d0).2 := ⟨_, rfl⟩
      rw [← hF] at C2
      have HFE := hid hF
      have HFT2 := hid (show F.2.1.taken = p.need by rw [hF, lfinish_taken]; exact HTK.out k)
      obtain ⟨fb, fs, fd⟩ := F
      dsimp only at C2 HFT2
      clear hF C1
      go_wp2_with fail
      refine C2.out.mono ?_
      rintro e w5 ⟨rfl, hf5, hon5⟩
      dsimp only at hf5 hon5
      have HF5 := hid hf5
      have ON5 := hid hon5
      have hs5 := hf5.size
      have FW5 := hid (HFW.out.then hf5 (fun i hi e => by have := (HFT.out i e).1; omega))
      have M5 := hid (show MAt w5 gm _ from hf5.blk HMT.out (fun e => by have := (HFT.out _ e).1; have := HGM.out; omega))
      have HO5 := hid (HOW.out.fr HF5.out HSEP.out)
      have hw03 : w.heap.size ≤ w3.heap.size := by have := HFT.out L.gd (.inl (.inl rfl)); omega
      clear hf5 hon5
      dsimp only
      cases fb with
      | true =>
        go_wp2_with fail
        refine (clip_any ra k rc _ hrc HZ.out (by omega)).mono ?_
        rintro e w6 ⟨rfl, rfl⟩
        go_wp2_with fail
        refine lun_door w3.heap.size ON5.out M5.out (MS.mem_ok (MS.mem_ok HMO.out _) _) (T := p.need) HFT2.out (by have := HPN.out; omega) HLG.out HLN.out rfl FW5.out (fun j hj => by have := HFT.out j (.inl hj); exact this) (fun W => Eq.trans (results_tmp2 rfl _ _ W) rfl) (.inr ⟨lbytes (anx (feedNx f n)) L s0 d0 k, ?_, rfl, ?_⟩) hw03 HGM.out
        · rw [HRR.out, if_pos]
          · congr 1
            unfold lbytes
            exact List.map_congr_left (fun i _ => by rw [← HLN.out, ← lbyte_of])
          · refine ⟨List.all_eq_true.2 (fun i hi => ?_), ?_⟩
            · rw [← HLN.out, ← lok_of]
              exact HKS.out i (List.mem_range.1 hi)
            · rw [← HLN.out, ← lrun_of, ← lfinish_of, ← HFE.out]
        · exact HO5.out.clip
      | false =>
        go_wp2_with fail
        refine lun_door w3.heap.size ON5.out M5.out (MS.mem_ok (MS.mem_ok HMO.out _) _) (T := p.need) HFT2.out (by have := HPN.out; omega) HLG.out HLN.out rfl FW5.out (fun j hj => by have := HFT.out j (.inl hj); exact this) (fun W => Eq.trans (results_tmp2 rfl _ _ W) rfl) (.inl ⟨?_, rfl, rfl⟩) hw03 HGM.out
        rw [HRR.out, if_neg]
        intro e
        have e1 := e.2
        rw [← HLN.out, ← lrun_of, ← lfinish_of, ← HFE.out] at e1
        cases e1
end Go.Proofs.Ytjnegcambbeblaa

/- Bytes, of equal rows. -/
namespace Go.Proofs.Ytjnegcambbeblaa
open Go.RowKit

/-- Bytes only reads. -/
theorem bytes_q (a b : Option Addr) (n c1 c2 : Nat) (f g : Nat → Int) (w : World) (hn : n ≤ 4611686018427387904) (B : Nat)
    (ha : RowIn B .u8 w a n f) (hb : RowIn B .u8 w b n g) (hfg : ∀ i, i < n → f i = g i) :
    Calls Try.prog 19 #[.slice a n c1, .slice b n c2] w fun e w' => e = .returned (.bool true) ∧ ∃ m, w' = w.drewN m := by
  have Ha := hid ha
  have Hb := hid hb
  have Hfg := hid hfg
  clear ha hb hfg
  go_enter Try.func19, Try.ntmps19
  go_wp2
  go_loopw [5] (fun i wr => ∃ k m : Nat, k ≤ n ∧ i = .int .i64 k ∧ wr = w.drewN m) (fun i _ => n - (intOf i).toNat)
  case atStart => exact ⟨0, 0, Nat.zero_le _, rfl, rfl⟩
  case round =>
    obtain ⟨k, m, hk, rfl, rfl⟩ := hrel
    by_cases hlt : k < n
    · obtain ⟨b1, o1, rfl, hB1, hx⟩ := Ha.out.at hlt
      obtain ⟨b2, o2, rfl, hB2, hy⟩ := Hb.out.at hlt
      rw [Hfg.out k hlt] at hx
      have h0 : (0 : Int) ≤ (k : Int) := by omega
      have h1 : (k : Int) < (n : Int) := by omega
      go_wp2
      go_quiet (fail)
      go_wp2
      go_roundw
      case rel => exact ⟨k + 1, m + nq, by omega, by go_num, by simp⟩
      case measure => simp [intOf]; omega
    · have e : k = n := by omega
      subst e
      go_wp2
      go_ret
      exact ⟨rfl, _, rfl⟩
theorem bytes_yes (a b : Option Addr) (n c1 c2 : Nat) (f g : Nat → Int) (w : World) (hn : n ≤ 4611686018427387904) (B : Nat)
    (ha : RowIn B .u8 w a n f) (hb : RowIn B .u8 w b n g) (hfg : ∀ i, i < n → f i = g i) :
    Calls Try.prog 19 #[.slice a n c1, .slice b n c2] w fun e w' => e = .returned (.bool true) ∧ Fr Non w w' :=
  (bytes_q a b n c1 c2 f g w hn B ha hb hfg).mono fun _ _ ⟨h1, _, h2⟩ => ⟨h1, by rw [h2]; exact (Fr.refl _ _).drewN _⟩
end Go.Proofs.Ytjnegcambbeblaa

/- lzma: awake (08). -/
namespace Go.Proofs.Ytjnegcambbeblaa
open Go.RowKit

def pAwake : Lset := ⟨3, 0, 2, 4096⟩
theorem awake_six : lunpack (feedNx (fun _ => 0) 6) 0 pAwake 1 1 = some [0] := by kernel_rfl
theorem awake_five : lunpack (feedNx (fun _ => 0) 5) 0 pAwake 1 1 = none := by kernel_rfl
theorem pAwake_light : pAwake.Light := ⟨by constructor <;> decide, by decide⟩
def MUCH : MS := ⟨1099511627776, 0, 0, 0, 1099511627776, 1099511627776, 1099511627776, 1099511627776⟩
theorem MUCH_ok : MUCH.Ok := ⟨by decide, by decide, by decide⟩
theorem much_mem {a b : Nat} (ha : a ≤ 200000) (hb : b ≤ 1048576) : (MUCH.mem a).1 = true ∧ ((MUCH.mem a).2.mem b).1 = true := by
  have h1 : MUCH.mem a = (true, { MUCH with now := MUCH.now + a, peak := max MUCH.peak (MUCH.now + a) }) := by
    unfold MS.mem
    rw [if_neg (by decide), if_neg (by show ¬ 1099511627776 - 0 < a; omega)]
  rw [h1]
  refine ⟨rfl, ?_⟩
  unfold MS.mem
  rw [if_neg (by show ¬ (0 : Nat) ≠ 0; decide), if_neg (by show ¬ 1099511627776 - (0 + a) < b; omega)]
set_option maxRecDepth 100000 in
theorem much_any (w : World) : Calls Try.prog 18 #[] w (MNewPost w MUCH) := by
  go_enter Try.func18, Try.ntmps18
  go_wp2_with fail
  refine (mnew_m 1099511627776 (by decide) 1099511627776 1099511627776 1099511627776 1099511627776 w (by decide) (by decide) (by decide) (by decide)).mono ?_
  rintro e w1 ⟨g, rfl, h1, h2, h3⟩
  have H2 := hid h2
  have H3 := hid h3
  clear h2 h3
  go_wp2_with fail
  go_ret
  exact ⟨g, rfl, h1, H2.out, H3.out⟩
def AwPost (k : Nat) (W : World) (e : Ending) (w' : World) : Prop :=
  (k = 6 → ∃ v, e = .returned (.tuple #[v, .int .i64 0]) ∧ RowO w' W.heap.size v [0]) ∧ (k = 5 → e = .returned (.tuple #[.slice none 0 0, .int .i64 12]))
theorem unp_awake (k b gm : Nat) (hk : k = 5 ∨ k = 6) (W w : World) (hW : Fr Non W w) (hgW : W.heap.size ≤ gm) (hb : w.heap[b]? = some (.cells (arr .u8 k (fun _ => 0)) 5)) (hm : MAt w gm MUCH) :
    Calls Try.prog 17 #[.slice (some ⟨b, 0, none⟩) k k, .agg #[.int .i64 3, .int .i64 0, .int .i64 2, .int .i64 4096], .int .i64 1, .pointer (some ⟨gm, 0, none⟩)] w
      fun e w' => Fr Non W w' ∧ AwPost k W e w' := by
  have hp : pAwake.need ≤ 200000 := by decide
  have hM := much_mem (a := pAwake.need) (b := 1) hp (by decide)
  refine (lunpack_any gm MUCH pAwake 1 1 rfl _ k k (fun _ => 0) (fun _ _ => by decide) w 1 (by decide) hm MUCH_ok pAwake_light (by decide) (by decide) (by omega) (Nat.le_refl _) (fun e => by cases e)
    (.inr ⟨b, 0, rfl, blk_lt hb, fun i hi => blk_cell hb (by rw [Nat.zero_add]; exact arr_get _ _ _ hi)⟩) hM.1 hM.2).mono ?_
  rintro e w' ⟨h1, h2, h3, h4⟩
  refine ⟨hW.then h1 (fun i hi e => by have e' : i = gm := e; omega), fun e => ?_, fun e => ?_⟩
  · subst e
    rw [awake_six] at h4
    rcases h4 with ⟨h5, _⟩ | ⟨xs, v, h5, h6, h7⟩
    · cases h5
    · injection h5 with h5
      subst h5
      exact ⟨v, h6, h7.low hW.size⟩
  · subst e
    rw [awake_five] at h4
    rcases h4 with ⟨_, h6⟩ | ⟨xs, v, h5, h6, h7⟩
    · exact h6
    · cases h5
set_option maxRecDepth 100000 in
set_option maxHeartbeats 800000 in
theorem awake08_any (w : World) : Calls Try.prog 13 #[] w fun e w' => e = .returned (.bool true) ∧ Fr Non w w' := by
  have hmk : ∀ w : World, (Instr.makeSlice 30 (.int .i64 6) (.int .i64 6)).run Try.prog w = .ok (.slice (some ⟨w.heap.size, 0, none⟩) 6 6) (w.alloc (.cells (arr .u8 6 (fun _ => 0)) 5)) := fun w => emake_u8 6 (by decide) w
  have hmk5 : ∀ w : World, (Instr.makeSlice 30 (.int .i64 5) (.int .i64 5)).run Try.prog w = .ok (.slice (some ⟨w.heap.size, 0, none⟩) 5 5) (w.alloc (.cells (arr .u8 5 (fun _ => 0)) 5)) := fun w => emake_u8 5 (by decide) w
  go_enter Try.func13, Try.ntmps13
  go_upto_region 2 with fail
  obtain ⟨W, hW⟩ : ∃ W, W = w.alloc (.cells #[.int .i64 3, .int .i64 0, .int .i64 2, .int .i64 4096] 23) := ⟨_, rfl⟩
  obtain ⟨g, hg⟩ : ∃ g, g = w.heap.size := ⟨_, rfl⟩
  have hb0 : W.heap[g]? = some (.cells #[.int .i64 3, .int .i64 0, .int .i64 2, .int .i64 4096] 23) := by rw [hW, hg]; exact blk_new _ _
  have HF0 := hid (show Fr Non w W by rw [hW]; exact (Fr.refl Non w).alloc _)
  have HB0 := hid hb0
  have k0 := blk_cell hb0 (j := 0) (v := .int .i64 3) rfl
  have k1 := blk_cell hb0 (j := 1) (v := .int .i64 0) rfl
  have k2 := blk_cell hb0 (j := 2) (v := .int .i64 2) rfl
  have k3 := blk_cell hb0 (j := 3) (v := .int .i64 4096) rfl
  rw [← hW, ← hg]
  clear hW hg hb0
  go_cut [2, 3] (fun v q wx => q = .int .i64 0 ∧ Fr Non W wx ∧ RowO wx W.heap.size v [0])
  case first =>
    go_region_held3 (fun wx => wx.cell? ⟨g, 0, none⟩ = some (.int .i64 3) ∧ wx.cell? ⟨g, 1, none⟩ = some (.int .i64 0) ∧ wx.cell? ⟨g, 2, none⟩ = some (.int .i64 2) ∧ wx.cell? ⟨g, 3, none⟩ = some (.int .i64 4096)) (first | (show World.cell? wn _ = _ ∧ _; exact ⟨hWn.cell k0 id, hWn.cell k1 id, hWn.cell k2 id, hWn.cell k3 id⟩) | exact ⟨Fr.cell (S := Non) (w := W) (by repeat (first | exact Fr.refl _ _ | refine Fr.drew ?_ | refine Fr.alloc ?_ _ | refine Fr.trans ?_ (by assumption))) k0 id, Fr.cell (S := Non) (w := W) (by repeat (first | exact Fr.refl _ _ | refine Fr.drew ?_ | refine Fr.alloc ?_ _ | refine Fr.trans ?_ (by assumption))) k1 id, Fr.cell (S := Non) (w := W) (by repeat (first | exact Fr.refl _ _ | refine Fr.drew ?_ | refine Fr.alloc ?_ _ | refine Fr.trans ?_ (by assumption))) k2 id, Fr.cell (S := Non) (w := W) (by repeat (first | exact Fr.refl _ _ | refine Fr.drew ?_ | refine Fr.alloc ?_ _ | refine Fr.trans ?_ (by assumption))) k3 id⟩) (first
      | (go_at_call 18; refine (much_any _).mono ?_; rintro e wm ⟨gm, rfl, hgm, hfm, hmm⟩; have hgW : W.heap.size ≤ gm := Nat.le_trans (Fr.size (S := Non) (by repeat (first | exact Fr.refl _ _ | refine Fr.drew ?_ | refine Fr.alloc ?_ _ | refine Fr.trans ?_ (by assumption)))) hgm)
      | (go_at_call 17; refine (unp_awake 6 _ gm (by decide) W _ (by repeat (first | exact Fr.refl _ _ | refine Fr.drew ?_ | refine Fr.alloc ?_ _ | refine Fr.trans ?_ (by assumption))) hgW (by first | exact blk_new _ _ | exact hfm.blk (blk_new _ _) id) (by first | exact hmm | exact blk_alloc hmm)).mono ?_; rintro e wn ⟨hWn, hpn⟩; have hrn := hpn.1 rfl; clear hpn; obtain ⟨v, rfl, hro⟩ := hrn))
    all_goals
      have HWN := hid hWn
      have HRO := hid hro
      clear hWn hro hfm hmm hgm hgW k0 k1 k2 k3
      go_wp2_with fail
      go_meet
      exact ⟨rfl, HWN.out, HRO.out⟩
  case rest =>
    obtain ⟨rfl, hf1, hro⟩ := hcut
    obtain ⟨X, hX⟩ : ∃ X, X = wc := ⟨_, rfl⟩
    rw [← hX] at hf1 hro ⊢
    have hb1 := hf1.blk HB0.out id
    clear hX k0 k1 k2 k3
    have k0 := blk_cell hb1 (j := 0) (v := .int .i64 3) rfl
    have k1 := blk_cell hb1 (j := 1) (v := .int .i64 0) rfl
    have k2 := blk_cell hb1 (j := 2) (v := .int .i64 2) rfl
    have k3 := blk_cell hb1 (j := 3) (v := .int .i64 4096) rfl
    have HF1 := hid hf1
    have HRO := hid hro
    clear hf1 hro hb1
    go_upto_region 3 with fail
    go_cut [4, 5] (fun v q wx => q = .int .i64 12 ∧ Fr Non X wx)
    case first =>
      go_region_held3 (fun wx => wx.cell? ⟨g, 0, none⟩ = some (.int .i64 3) ∧ wx.cell? ⟨g, 1, none⟩ = some (.int .i64 0) ∧ wx.cell? ⟨g, 2, none⟩ = some (.int .i64 2) ∧ wx.cell? ⟨g, 3, none⟩ = some (.int .i64 4096)) (first | (show World.cell? wn _ = _ ∧ _; exact ⟨hWn.cell k0 id, hWn.cell k1 id, hWn.cell k2 id, hWn.cell k3 id⟩) | exact ⟨Fr.cell (S := Non) (w := X) (by repeat (first | exact Fr.refl _ _ | refine Fr.drew ?_ | refine Fr.alloc ?_ _ | refine Fr.trans ?_ (by assumption))) k0 id, Fr.cell (S := Non) (w := X) (by repeat (first | exact Fr.refl _ _ | refine Fr.drew ?_ | refine Fr.alloc ?_ _ | refine Fr.trans ?_ (by assumption))) k1 id, Fr.cell (S := Non) (w := X) (by repeat (first | exact Fr.refl _ _ | refine Fr.drew ?_ | refine Fr.alloc ?_ _ | refine Fr.trans ?_ (by assumption))) k2 id, Fr.cell (S := Non) (w := X) (by repeat (first | exact Fr.refl _ _ | refine Fr.drew ?_ | refine Fr.alloc ?_ _ | refine Fr.trans ?_ (by assumption))) k3 id⟩) (first
        | (go_at_call 18; refine (much_any _).mono ?_; rintro e wm ⟨gm, rfl, hgm, hfm, hmm⟩; have hgW : X.heap.size ≤ gm := Nat.le_trans (Fr.size (S := Non) (by repeat (first | exact Fr.refl _ _ | refine Fr.drew ?_ | refine Fr.alloc ?_ _ | refine Fr.trans ?_ (by assumption)))) hgm)
        | (go_at_call 17; refine (unp_awake 5 _ gm (by decide) X _ (by repeat (first | exact Fr.refl _ _ | refine Fr.drew ?_ | refine Fr.alloc ?_ _ | refine Fr.trans ?_ (by assumption))) hgW (by first | exact blk_new _ _ | exact hfm.blk (blk_new _ _) id) (by first | exact hmm | exact blk_alloc hmm)).mono ?_; rintro e wn ⟨hWn, hpn⟩; have hrn := hpn.2 rfl; clear hpn; subst hrn))
      all_goals
        have HWN := hid hWn
        clear hWn hfm hmm hgm hgW k0 k1 k2 k3
        go_wp2_with fail
        go_meet
        exact ⟨rfl, HWN.out⟩
    case rest =>
      obtain ⟨rfl, hf2⟩ := hcut
      obtain ⟨Y, hY⟩ : ∃ Y, Y = wc := ⟨_, rfl⟩
      rw [← hY] at hf2 ⊢
      clear hY k0 k1 k2 k3
      have hro := HRO.out.fr hf2 (fun _ _ _ e => e)
      obtain ⟨ra, rc, rfl, h2, h3, h4, h5⟩ := hro
      have HF2 := hid (HF0.out.trans (HF1.out.trans hf2))
      have H4 := hid h4
      clear hf2 h4
      go_wp2_with fail
      refine (bytes_yes ra (some ⟨Y.heap.size, 0, none⟩) 1 rc 1 _ (fun _ => 0) _ (by decide) (Y.heap.size + 1) (by exact (H4.out.fr ((Fr.refl Non Y).alloc _) (fun _ _ e => e)).mono (Nat.le_succ _)) (.inr ⟨_, 0, rfl, by omega, fun i hi => by
        obtain rfl : i = 0 := by omega
        exact cell_new1 _ _ _⟩) (fun i hi => by
        obtain rfl : i = 0 := by omega
        rfl)).mono ?_
      rintro e wz ⟨rfl, hfz⟩
      have HFZ := hid hfz
      clear hfz
      go_wp2_with fail
      go_ret
      exact ⟨rfl, HF2.out.trans (((Fr.refl Non Y).alloc _).trans HFZ.out)⟩
end Go.Proofs.Ytjnegcambbeblaa

/- lzma: the document's Probs; light; New of a setting that may not be; a decoder that has not begun. -/
namespace Go.Proofs.Ytjnegcambbeblaa
open Go.RowKit

set_option maxRecDepth 100000 in
set_option maxHeartbeats 800000 in
theorem rprobs_any (p : Lset) (w : World) : Calls Try.prog 27 #[p.val] w fun e w' => e = .returned (.int .i64 (p.probs : Nat)) ∧ Fr Non w w' := by
  have HV := hid (show p.val = .agg #[.int .i64 p.lc, .int .i64 p.lp, .int .i64 p.pb, .int .i64 p.dict] from rfl)
  obtain ⟨R, hR⟩ : ∃ R, R = p.probs := ⟨_, rfl⟩
  rw [← hR]
  have HR := hid hR
  clear hR
  rw [HV.out]
  go_enter Try.func27, Try.ntmps27
  go_upto_region 1 with fail
  go_wp2_with (refine wpList_load_row rfl 23 _ rfl w.heap.size rfl 23 #[.int .i64 p.lc, .int .i64 p.lp, .int .i64 p.pb, .int .i64 p.dict] (0, 0) _ (by exact blk_new w _) Try.underlying23 rfl (by kernel_rfl) ?_)
  rw [← HV.out]
  refine (rmay_any p _).mono ?_
  rintro e w1 ⟨rfl, hf1⟩
  have hb := hf1.blk (blk_new w (.cells #[.int .i64 p.lc, .int .i64 p.lp, .int .i64 p.pb, .int .i64 p.dict] 23)) id
  have F1 := hid (((Fr.refl Non w).alloc _).trans hf1)
  have HB := hid hb
  have k0 := blk_cell hb (j := 0) (v := .int .i64 p.lc) rfl
  have k1 := blk_cell hb (j := 1) (v := .int .i64 p.lp) rfl
  clear hf1 hb
  cases hm : p.may with
  | false =>
    have h : R = 0 := by rw [HR.out]; unfold Lset.probs; rw [if_neg (by rw [hm]; decide)]
    subst h
    clear hm
    go_wp2_with fail
    go_ret
    exact ⟨rfl, F1.out⟩
  | true =>
    have hM := Lset.may_iff.1 hm
    have h : R = 1847 + 768 * 2 ^ (p.lc + p.lp).toNat := by rw [HR.out]; unfold Lset.probs; rw [if_pos hm]
    obtain ⟨K, hK⟩ : ∃ K, K = (p.lc + p.lp).toNat := ⟨_, rfl⟩
    have hKi : p.lc + p.lp = (K : Int) := by have := hM.lc0; have := hM.lp0; omega
    have hK12 : K ≤ 12 := by have := hM.lc1; have := hM.lp1; omega
    have hw : IntKind.i64.wrap (p.lc + p.lp) = (K : Int) := by rw [hKi, IntKind.wrap_i64]; omega
    rw [← hK] at h
    have HRK := hid h
    have HKI := hid hKi
    obtain ⟨m1, m2, m3, m4, m5, m6, m7, m8⟩ := hM
    clear hm h hK m5 m6 m7 m8 hKi hw
    go_wp2_with fail
    go_loopw [3, 4] (fun n i wr => ∃ k : Nat, k ≤ K ∧ i = .int .i64 k ∧ n = .int .i64 ((768 * 2 ^ k : Nat) : Int) ∧ wr = w1) (fun n i _ => K - (intOf i).toNat)
    case atStart => exact ⟨0, Nat.zero_le _, rfl, rfl, rfl⟩
    case round =>
      obtain ⟨k, hk, rfl, rfl, rfl⟩ := hrel
      have hpow : 2 ^ k ≤ 4096 := Nat.pow_le_pow_right (by decide) (by omega : k ≤ 12)
      obtain ⟨X, hX⟩ : ∃ X, X = 768 * 2 ^ k := ⟨_, rfl⟩
      have hXi : (X : Int) ≤ 3145728 := by omega
      have hX0 : (0 : Int) ≤ (X : Int) := by omega
      rw [← hX]
      have HX := hid hX
      clear hX hpow
      by_cases hlt : k < K
      · have hl : (k : Int) < p.lc + p.lp := by have := HKI.out; omega
        go_wp2_with fail
        go_roundw
        case rel => exact ⟨k + 1, by omega, by go_num, by
          congr 1
          rw [Nat.pow_succ]
          have := HX.out
          omega, by first | rfl | trivial⟩
        case measure => simp [intOf]; omega
      · have e : k = K := by omega
        subst e
        have hl : ¬ (k : Int) < p.lc + p.lp := by have := HKI.out; omega
        go_wp2_with fail
        go_ret
        exact ⟨by rw [show ((R : Nat) : Int) = 1847 + (X : Int) by have := HX.out; have := HRK.out; omega]; rfl, F1.out⟩
set_option maxRecDepth 100000 in
theorem light_any (p : Lset) (w : World) : Calls Try.prog 15 #[p.val] w fun e w' => e = .returned (.bool (!p.may || decide (p.lc + p.lp ≤ 6))) ∧ Fr Non w w' := by
  have HV := hid (show p.val = .agg #[.int .i64 p.lc, .int .i64 p.lp, .int .i64 p.pb, .int .i64 p.dict] from rfl)
  obtain ⟨R, hR⟩ : ∃ R, R = (!p.may || decide (p.lc + p.lp ≤ 6)) := ⟨_, rfl⟩
  rw [← hR]
  have HR := hid hR
  clear hR
  rw [HV.out]
  go_enter Try.func15, Try.ntmps15
  go_upto_region 1 with fail
  go_wp2_with (refine wpList_load_row rfl 23 _ rfl w.heap.size rfl 23 #[.int .i64 p.lc, .int .i64 p.lp, .int .i64 p.pb, .int .i64 p.dict] (0, 0) _ (by exact blk_new w _) Try.underlying23 rfl (by kernel_rfl) ?_)
  rw [← HV.out]
  refine (rmay_any p _).mono ?_
  rintro e w1 ⟨rfl, hf1⟩
  have hb := hf1.blk (blk_new w (.cells #[.int .i64 p.lc, .int .i64 p.lp, .int .i64 p.pb, .int .i64 p.dict] 23)) id
  have F1 := hid (((Fr.refl Non w).alloc _).trans hf1)
  have k0 := blk_cell hb (j := 0) (v := .int .i64 p.lc) rfl
  have k1 := blk_cell hb (j := 1) (v := .int .i64 p.lp) rfl
  clear hf1 hb
  cases hm : p.may with
  | false =>
    have h : R = true := by rw [HR.out, hm]; rfl
    subst h
    clear hm
    go_wp2_with fail
    go_ret
    exact ⟨rfl, F1.out⟩
  | true =>
    have HR2 := hid (show R = decide (p.lc + p.lp ≤ 6) by rw [HR.out, hm]; rfl)
    have hM := Lset.may_iff.1 hm
    obtain ⟨m1, m2, m3, m4, m5, m6, m7, m8⟩ := hM
    clear hm m5 m6 m7 m8
    have hw : IntKind.i64.wrap (p.lc + p.lp) = p.lc + p.lp := by rw [IntKind.wrap_i64]; omega
    by_cases h6 : p.lc + p.lp ≤ 6
    · go_wp2_with fail
      go_ret
      exact ⟨by rw [HR2.out, decide_eq_true h6]; rfl, F1.out⟩
    · go_wp2_with fail
      go_ret
      exact ⟨by rw [HR2.out]; rfl, F1.out⟩
set_option maxRecDepth 100000 in
theorem lnew_not (p : Lset) (x : Int) (v : Value) (w : World) (h : p.may = false) : Calls Try.prog 20 #[p.val, .int .i64 x, v] w fun e w' => e = .returned (.tuple #[.pointer none, .int .i64 11]) ∧ Fr Non w w' := by
  have HV := hid (show p.val = .agg #[.int .i64 p.lc, .int .i64 p.lp, .int .i64 p.pb, .int .i64 p.dict] from rfl)
  rw [HV.out]
  have HM := hid h
  clear h
  go_enter Try.func20, Try.ntmps20
  go_upto_region 1 with fail
  go_wp2_with (refine wpList_load_row rfl 23 _ rfl w.heap.size rfl 23 #[.int .i64 p.lc, .int .i64 p.lp, .int .i64 p.pb, .int .i64 p.dict] (0, 0) _ (by exact blk_new w _) Try.underlying23 rfl (by kernel_rfl) ?_)
  rw [← HV.out]
  refine (lmay_any p _).mono ?_
  rintro e w1 ⟨rfl, hf1⟩
  rw [HM.out]
  have F1 := hid (((Fr.refl Non w).alloc _).trans hf1)
  clear hf1
  go_wp2_with fail
  go_ret2
  exact ⟨rfl, F1.out⟩
theorem lnext_nil (g : Nat) (w : World) (h : w.cell? ⟨g, 8, none⟩ = some (.pointer none)) : Calls Try.prog 23 #[.pointer (some ⟨g, 0, none⟩)] w fun e w' => e = .returned (.tuple #[.int .u8 0, .bool false]) ∧ w = w' := by
  go_enter Try.func23, Try.ntmps23
  go_wp2_with fail
  go_ret2
  exact ⟨rfl, rfl⟩
theorem lwhole_nil (g : Nat) (w : World) (h : w.cell? ⟨g, 8, none⟩ = some (.pointer none)) : Calls Try.prog 29 #[.pointer (some ⟨g, 0, none⟩)] w fun e w' => e = .returned (.bool false) ∧ w = w' := by
  go_enter Try.func29, Try.ntmps29
  go_wp2_with fail
  go_ret
  exact ⟨rfl, rfl⟩
theorem lfinish_nil (g : Nat) (w : World) (h : w.cell? ⟨g, 8, none⟩ = some (.pointer none)) : Calls Try.prog 30 #[.pointer (some ⟨g, 0, none⟩)] w fun e w' => e = .returned (.bool false) ∧ w = w' := by
  go_enter Try.func30, Try.ntmps30
  go_wp2_with fail
  go_ret
  exact ⟨rfl, rfl⟩
end Go.Proofs.Ytjnegcambbeblaa

/- A setting of LZMA that came in, opened. -/
namespace Go.Proofs.Ytjnegcambbeblaa
open Go.Joins Go.ChangeShapes Go.WideShapes Go.Deep Go.RowKit

theorem lset_cells : Try.prog.cellsOf 23 = 4 := by kernel_rfl
theorem lint_cells : Try.prog.cellsOf 3 = 1 := by kernel_rfl
set_option maxRecDepth 100000 in
theorem lset_open {H : Type} {enc : TypeId × Value → H} {w : World} {held : Bool} {r : Go.Reach} {b0 : Nat} {v : Value} {d : DataW H} {p : List MemPlace}
    (hv : Value.okWide Try.prog w r b0 23 v) (h : DataW.Trod enc Try.prog w 0 (fun _ => true) held 23 v d p) : ∃ q : Lset, v = q.val ∧ q.wf := by
  obtain ⟨cs, rfl, hsz⟩ := okWide_struct Try.underlying23 hv
  obtain ⟨l⟩ := cs
  match l, hsz.trans lset_cells with
  | [c0, c1, c2, c3], _ =>
    obtain ⟨fuel, hf⟩ := h
    obtain ⟨xs, n, _, hx, _, hlen, hg⟩ := DataW.trod_struct Try.underlying23 hf
    match xs, hlen with
    | [y0, y1, y2, y3], _ =>
      have t0 := hg 0 _ rfl
      have t1 := hg 1 _ rfl
      have t2 := hg 2 _ rfl
      have t3 := hg 3 _ rfl
      simp [Value.cells, lint_cells] at t0 t1 t2 t3
      obtain ⟨x0, e0, _, b0⟩ := DataW.trod_int Try.underlying3 t0
      obtain ⟨x1, e1, _, b1⟩ := DataW.trod_int Try.underlying3 t1
      obtain ⟨x2, e2, _, b2⟩ := DataW.trod_int Try.underlying3 t2
      obtain ⟨x3, e3, _, b3⟩ := DataW.trod_int Try.underlying3 t3
      simp only [List.cons.injEq, and_true] at e0 e1 e2 e3
      subst e0 e1 e2 e3
      exact ⟨⟨x0, x1, x2, x3⟩, rfl, wf_i64 b0, wf_i64 b1, wf_i64 b2, wf_i64 b3⟩
end Go.Proofs.Ytjnegcambbeblaa

/- LzmaMem's walk. -/
namespace Go.Proofs.Ytjnegcambbeblaa
open Go.RowKit

def M0 (q : Nat) : MS := ⟨q, 0, 0, 0, 0, 0, 0, 0⟩
theorem M0_ok {q : Nat} (h : q ≤ 9223372036854775807) : (M0 q).Ok := ⟨Nat.zero_le _, h, Nat.zero_le _⟩
theorem mem_fit {q a b : Nat} (h : a + b ≤ q) : (M0 q).mem a = (true, { M0 q with now := a, peak := a }) ∧ ({ M0 q with now := a, peak := a } : MS).mem b = (true, { M0 q with now := a + b, peak := a + b }) := by
  constructor
  · unfold MS.mem
    rw [if_neg (by show ¬ (0 : Nat) ≠ 0; decide), if_neg (by show ¬ q - 0 < a; omega)]
    simp [M0]
  · unfold MS.mem
    rw [if_neg (by show ¬ (0 : Nat) ≠ 0; decide), if_neg (by show ¬ q - a < b; omega)]
    simp [M0]
theorem mem_no {q a b : Nat} (h : q < a + b) {c : Int} {m' : MS} (hc : (((M0 q).mem a).1 = false ∧ m' = ((M0 q).mem a).2 ∧ c = m'.code) ∨ (((M0 q).mem a).1 = true ∧ m' = (((M0 q).mem a).2.mem b).2.free a ∧ c = m'.code)) : c = 101 ∧ m'.now = 0 := by
  by_cases ha : a ≤ q
  · have e : (M0 q).mem a = (true, { M0 q with now := a, peak := a }) := by
      unfold MS.mem
      rw [if_neg (by show ¬ (0 : Nat) ≠ 0; decide), if_neg (by show ¬ q - 0 < a; omega)]
      simp [M0]
    rw [e] at hc
    rcases hc with ⟨h1, _⟩ | ⟨_, h2, h3⟩
    · cases h1
    · have e2 : ({ M0 q with now := a, peak := a } : MS).mem b = (false, { M0 q with now := a, peak := a, code := 101 }) := by
        unfold MS.mem
        rw [if_neg (by show ¬ (0 : Nat) ≠ 0; decide), if_pos (by show q - a < b; omega)]
      dsimp only at h2
      rw [e2] at h2
      subst h2
      exact ⟨h3, by show a - a = 0; omega⟩
  · have e : (M0 q).mem a = (false, { M0 q with code := 101 }) := by
      unfold MS.mem
      rw [if_neg (by show ¬ (0 : Nat) ≠ 0; decide), if_pos (by show q - 0 < a; omega)]
    rw [e] at hc
    rcases hc with ⟨_, h2, h3⟩ | ⟨h1, _⟩
    · subst h2
      exact ⟨h3, rfl⟩
    · cases h1
theorem mem_both {q a b : Nat} (h1 : ((M0 q).mem a).1 = true) (h2 : (((M0 q).mem a).2.mem b).1 = true) : a + b ≤ q := by
  by_cases ha : a ≤ q
  · have e : (M0 q).mem a = (true, { M0 q with now := a, peak := a }) := by
      unfold MS.mem
      rw [if_neg (by show ¬ (0 : Nat) ≠ 0; decide), if_neg (by show ¬ q - 0 < a; omega)]
      simp [M0]
    rw [e] at h2
    unfold MS.mem at h2
    rw [if_neg (by show ¬ (0 : Nat) ≠ 0; decide)] at h2
    by_cases hb : q - a < b
    · rw [if_pos (by exact hb)] at h2; cases h2
    · omega
  · unfold MS.mem at h1
    rw [if_neg (by show ¬ (0 : Nat) ≠ 0; decide), if_pos (by show q - 0 < a; omega)] at h1
    cases h1
theorem used_f0 (a b c d e f : Int) (w : World) : (Instr.field 52 (.agg #[.int .i64 a, .int .i64 b, .int .i64 c, .int .i64 d, .int .i64 e, .int .i64 f]) 0).run Try.prog w = .ok (.int .i64 a) w := by kernel_rfl
theorem used_f1 (a b c d e f : Int) (w : World) : (Instr.field 52 (.agg #[.int .i64 a, .int .i64 b, .int .i64 c, .int .i64 d, .int .i64 e, .int .i64 f]) 1).run Try.prog w = .ok (.int .i64 b) w := by kernel_rfl
set_option maxRecDepth 100000 in
set_option maxHeartbeats 800000 in
theorem lzmaMem_walk (p : Lset) (size mem : Int) (w : World) (hs : i64r size) (hm : i64r mem) :
    Calls Try.prog 6 #[p.val, .int .i64 size, .int .i64 mem] w fun e w' => e = .returned (.bool true) ∧ Fr Non w w' := by
  have HV := hid (show p.val = .agg #[.int .i64 p.lc, .int .i64 p.lp, .int .i64 p.pb, .int .i64 p.dict] from rfl)
  rw [HV.out]
  have HS := hid hs
  have HM := hid hm
  clear hs hm
  have uf0 := used_f0
  have uf1 := used_f1
  go_enter Try.func6, Try.ntmps6
  go_wp2_with fail
  refine (awake08_any _).mono ?_
  rintro e w1 ⟨rfl, hf1⟩
  have hb1 := hf1.blk (blk_new w (.cells #[.int .i64 p.lc, .int .i64 p.lp, .int .i64 p.pb, .int .i64 p.dict] 23)) id
  have F1 := hid (((Fr.refl Non w).alloc _).trans hf1)
  have HB1 := hid hb1
  clear hf1 hb1
  go_wp2_with (refine wpList_load_row rfl 23 _ rfl w.heap.size rfl 23 #[.int .i64 p.lc, .int .i64 p.lp, .int .i64 p.pb, .int .i64 p.dict] (0, 0) _ (by exact HB1.out) Try.underlying23 rfl (by kernel_rfl) ?_)
  rw [← HV.out]
  refine (light_any p _).mono ?_
  rintro e w2 ⟨rfl, hf2⟩
  have F2 := hid (F1.out.trans hf2)
  have HB2 := hid (hf2.blk HB1.out id)
  clear hf2
  obtain ⟨li, hli⟩ : ∃ li, li = (!p.may || decide (p.lc + p.lp ≤ 6)) := ⟨_, rfl⟩
  rw [← hli]
  have HLI := hid hli
  clear hli
  cases li with
  | false =>
    go_wp2_with fail
    go_ret
    exact ⟨rfl, F2.out⟩
  | true =>
    go_wp2_with fail
    refine (mnew_m mem HM.out.2 0 0 0 0 _ (by decide) (by decide) (by decide) (by decide)).mono ?_
    rintro e w3 ⟨gm, rfl, hgm, hf3, hm3⟩
    have HGM := hid (show w.heap.size < gm from Nat.lt_of_lt_of_le (blk_lt HB2.out) hgm)
    have F3 := hid (F2.out.trans hf3)
    have HB3 := hid (hf3.blk HB2.out id)
    have M3 := hid (show MAt w3 gm (M0 mem.toNat) from hm3)
    clear hf3 hm3 hgm
    go_upto_if 22 with fail
    go_cut [1] (fun v wx => v = .int .i64 (min size 1048576) ∧ Fr Non w3 wx)
    case first =>
      by_cases h : size > 1048576
      · have h' : decide (1048576 < size) = true := decide_eq_true h
        go_wp2_with fail
        go_meet
        exact ⟨by congr 1; omega, Fr.refl _ _⟩
      · have h' : decide (1048576 < size) = false := decide_eq_false h
        go_wp2_with fail
        go_meet
        exact ⟨by congr 1; omega, Fr.refl _ _⟩
    case rest =>
      obtain ⟨rfl, hf4⟩ := hcut
      obtain ⟨w4, hw4⟩ : ∃ w4, w4 = wc := ⟨_, rfl⟩
      rw [← hw4] at hf4 ⊢
      obtain ⟨x, hx⟩ : ∃ x, x = min size 1048576 := ⟨_, rfl⟩
      rw [← hx]
      have hx1 : x ≤ 1048576 := by omega
      have HX0 := hid (show -9223372036854775808 ≤ x from by have := HS.out.1; omega)
      have F4 := hid (F3.out.trans hf4)
      have HB4 := hid (hf4.blk HB3.out id)
      have M4 := hid (show MAt w4 gm _ from hf4.blk M3.out id)
      clear hf4 hw4 hx
      go_wp2_with (refine wpList_load_row rfl 23 _ rfl w.heap.size rfl 23 #[.int .i64 p.lc, .int .i64 p.lp, .int .i64 p.pb, .int .i64 p.dict] (0, 0) _ (by exact HB4.out) Try.underlying23 rfl (by kernel_rfl) ?_)
      rw [← HV.out]
      cases hmay : p.may with
      | false =>
        have HMY := hid hmay
        clear hmay
        refine (lnew_not p x _ _ HMY.out).mono ?_
        rintro e w5 ⟨rfl, hf5⟩
        have F5 := hid (F4.out.trans hf5)
        have HB5 := hid (hf5.blk HB4.out id)
        have M5 := hid (show MAt w5 gm _ from hf5.blk M4.out id)
        clear hf5
        go_wp2_with (refine wpList_load_row rfl 23 _ rfl w.heap.size rfl 23 #[.int .i64 p.lc, .int .i64 p.lp, .int .i64 p.pb, .int .i64 p.dict] (0, 0) _ (by exact HB5.out) Try.underlying23 rfl (by kernel_rfl) ?_)
        rw [← HV.out]
        refine (rmay_any p _).mono ?_
        rintro e w6 ⟨rfl, hf6⟩
        rw [HMY.out]
        have F6 := hid (F5.out.trans hf6)
        have M6 := hid (show MAt w6 gm _ from hf6.blk M5.out id)
        clear hf6
        go_wp2_with fail
        refine (used_m gm _ _ M6.out).mono ?_
        rintro e w7 ⟨rfl, hf7⟩
        have hu : usedV (M0 mem.toNat) = .agg #[.int .i64 0, .int .i64 0, .int .i64 0, .int .i64 0, .int .i64 0, .int .i64 0] := rfl
        rw [hu]
        clear hu
        have F7 := hid (F6.out.trans hf7)
        clear hf7
        go_wp2_with fail
        go_ret
        exact ⟨rfl, F7.out⟩
      | true =>
        have HMY := hid hmay
        clear hmay
        have HP := hid (show p.Light from ⟨Lset.may_iff.1 HMY.out, by
          have h := HLI.out
          rw [HMY.out] at h
          exact of_decide_eq_true h.symm⟩)
        refine (lnew_any gm (M0 mem.toNat) p x _ M4.out (M0_ok (by have := HM.out.2; omega)) HP.out hx1 HX0.out).mono ?_
        intro e w5 hq
        obtain ⟨N, hN⟩ : ∃ N, N = wsize (min p.dict x) := ⟨_, rfl⟩
        have hNv : (N : Int) = max 1 (min p.dict x) := by rw [hN]; unfold wsize; omega
        have hpn : p.need ≤ 200000 := by
          have h1 := HP.out.nl_le
          have h2 : p.probs = 1847 + p.nl := by unfold Lset.probs Lset.nl; rw [if_pos HMY.out]
          unfold Lset.need
          omega
        obtain ⟨T, hT⟩ : ∃ T, T = p.need := ⟨_, rfl⟩
        have hpr : (2 : Int) * (p.probs : Int) = (T : Int) := by rw [hT]; unfold Lset.need; omega
        unfold LNewPost at hq
        rw [← hN, ← hT] at hq
        have F5 : Fr Non w w5 ∧ (w5.heap[w.heap.size]? = some (.cells #[.int .i64 p.lc, .int .i64 p.lp, .int .i64 p.pb, .int .i64 p.dict] 23)) := by
          have hf : Fr (fun k => k = gm) w4 w5 := by
            rcases hq with ⟨_, _, _, _, hf, _⟩ | ⟨_, _, _, _, hf, _⟩ <;> exact hf
          exact ⟨F4.out.then hf (fun k hk e => by have := HGM.out; have e' : k = gm := e; omega), hf.blk HB4.out (fun e => by have := HGM.out; have e' : w.heap.size = gm := e; omega)⟩
        have HF5 := hid F5.1
        have HB5 := hid F5.2
        rw [← hT] at hpn
        have HNV := hid hNv
        have HPR := hid hpr
        obtain ⟨dv, cv, rfl, hq2⟩ : ∃ dv cv, e = .returned (.tuple #[dv, .int .i64 cv]) ∧
            ((T + N ≤ mem.toNat ∧ cv = 0 ∧ ∃ L : LL, dv = .pointer (some ⟨L.gd, 0, none⟩) ∧ MAt w5 gm { M0 mem.toNat with now := T + N, peak := T + N } ∧ LIs L (.pointer none) (.pointer none) w5 (LS.new p T) ∧ L.gm = gm ∧ L.n = N ∧ ∀ k, L.foot k → w.heap.size < k ∧ k ≠ gm) ∨
             (¬ T + N ≤ mem.toNat ∧ cv = 101 ∧ dv = .pointer none ∧ ∃ m' : MS, m'.now = 0 ∧ MAt w5 gm m')) := by
          rcases hq with ⟨c, m', hno, rfl, hf, hm', hcase⟩ | ⟨h1, h2, L, rfl, hf, hm', hl, hg, hn, hnl, hft⟩
          · refine ⟨_, c, rfl, .inr ?_⟩
            have htot : ¬ T + N ≤ mem.toNat := fun e => hno (by
              have h := mem_fit e
              rw [h.1]
              exact ⟨rfl, by rw [h.2]⟩)
            obtain ⟨e1, e2⟩ := mem_no (q := mem.toNat) (a := T) (b := N) (by omega) hcase
            exact ⟨htot, e1, rfl, m', e2, hm'⟩
          · have htot := mem_both h1 h2
            refine ⟨_, 0, rfl, .inl ⟨htot, rfl, L, rfl, ?_, hl, hg, hn, fun k hk => ?_⟩⟩
            · have h := mem_fit htot
              rw [h.1] at hm'
              dsimp only at hm'
              rw [h.2] at hm'
              exact hm'
            · have := hft k hk
              have h6 := HGM.out
              have h7 : gm < w4.heap.size := blk_lt M4.out
              omega
        have HQ2 := hid hq2
        clear F5 hq hNv hpr hN hT hq2
        go_wp2_with (refine wpList_load_row rfl 23 _ rfl w.heap.size rfl 23 #[.int .i64 p.lc, .int .i64 p.lp, .int .i64 p.pb, .int .i64 p.dict] (0, 0) _ (by exact HB5.out) Try.underlying23 rfl (by kernel_rfl) ?_)
        rw [← HV.out]
        refine (rmay_any p _).mono ?_
        rintro e w6 ⟨rfl, hf6⟩
        rw [HMY.out]
        have F6 := hid (HF5.out.trans hf6)
        have HB6 := hid (hf6.blk HB5.out id)
        have HF56 := hid hf6
        clear hf6
        have k0 := blk_cell HB6.out (j := 0) (v := .int .i64 p.lc) rfl
        have k1 := blk_cell HB6.out (j := 1) (v := .int .i64 p.lp) rfl
        have k2 := blk_cell HB6.out (j := 2) (v := .int .i64 p.pb) rfl
        have k3 := blk_cell HB6.out (j := 3) (v := .int .i64 p.dict) rfl
        go_upto_region 11 with fail
        have hbig : (p.probs : Int) ≤ 100000 := by have := HPR.out; omega
        have hbig0 : (0 : Int) ≤ (p.probs : Int) := by omega
        go_cut [10] (fun v wx => v = .int .i64 ((T + N : Nat) : Int) ∧ Fr Non w6 wx)
        case first =>
          have hd9 : 4096 ≤ p.dict := (Lset.may_iff.1 HMY.out).d0
          have hcs : (p.dict ≤ x ∧ ¬ x < p.dict ∧ ¬ x ≤ 1 ∧ Hid ((N : Int) = p.dict)) ∨ (x < p.dict ∧ ¬ p.dict ≤ x ∧ 1 < x ∧ ¬ x ≤ 1 ∧ Hid ((N : Int) = x)) ∨ (x < p.dict ∧ ¬ p.dict ≤ x ∧ x ≤ 1 ∧ ¬ 1 < x ∧ Hid ((N : Int) = 1)) := by
            have e := HNV.out
            by_cases h1 : p.dict ≤ x
            · exact .inl ⟨h1, by omega, by omega, hid (by omega)⟩
            · by_cases h2 : x ≤ 1
              · exact .inr (.inr ⟨by omega, h1, h2, by omega, hid (by omega)⟩)
              · exact .inr (.inl ⟨by omega, h1, by omega, h2, hid (by omega)⟩)
          have hd8 := hid (Lset.may_iff.1 HMY.out).d1
          rcases hcs with ⟨y1, y2, y3, HNE⟩ | ⟨y1, y2, y3, y4, HNE⟩ | ⟨y1, y2, y3, y4, HNE⟩
          all_goals
            go_region_held3 (fun wx => wx.cell? ⟨w.heap.size, 0, none⟩ = some (.int .i64 p.lc) ∧ wx.cell? ⟨w.heap.size, 1, none⟩ = some (.int .i64 p.lp) ∧ wx.cell? ⟨w.heap.size, 2, none⟩ = some (.int .i64 p.pb) ∧ wx.cell? ⟨w.heap.size, 3, none⟩ = some (.int .i64 p.dict)) (exact ⟨Fr.cell (S := Non) (w := w6) (by repeat (first | exact Fr.refl _ _ | refine Fr.drew ?_ | refine Fr.trans ?_ (by assumption))) k0 id, Fr.cell (S := Non) (w := w6) (by repeat (first | exact Fr.refl _ _ | refine Fr.drew ?_ | refine Fr.trans ?_ (by assumption))) k1 id, Fr.cell (S := Non) (w := w6) (by repeat (first | exact Fr.refl _ _ | refine Fr.drew ?_ | refine Fr.trans ?_ (by assumption))) k2 id, Fr.cell (S := Non) (w := w6) (by repeat (first | exact Fr.refl _ _ | refine Fr.drew ?_ | refine Fr.trans ?_ (by assumption))) k3 id⟩) (first
              | (go_at_call 27; refine (show Calls Try.prog 27 #[.agg #[.int .i64 p.lc, .int .i64 p.lp, .int .i64 p.pb, .int .i64 p.dict]] _ _ from rprobs_any p _).mono ?_; rintro e wm ⟨rfl, hfm⟩))
            all_goals
              have HFM := hid hfm
              clear hfm
              go_wp2_with fail
              go_meet
              refine ⟨?_, (Fr.refl Non w6).drew.trans HFM.out⟩
              have e1 := HPR.out
              have e2 := HNE.out
              have e3 := hd8.out
              congr 1
              simp only [IntKind.wrap_i64]
              omega
        case rest =>
          obtain ⟨rfl, hf7⟩ := hcut
          obtain ⟨w7, hw7⟩ : ∃ w7, w7 = wc := ⟨_, rfl⟩
          rw [← hw7] at hf7 ⊢
          clear hw7 k0 k1 k2 k3 hbig hbig0
          have F7 := hid (F6.out.trans hf7)
          have HF57 := hid (HF56.out.trans hf7)
          clear hf7
          have HMZ := hid (show (mem : Int) < ((T + N : Nat) : Int) ↔ ¬ T + N ≤ mem.toNat by have := HNV.out; omega)
          rcases HQ2.out with ⟨hfit, rfl, L, rfl, hm, hl, hg, hn, hft⟩ | ⟨hfit, rfl, rfl, m', hnow, hm⟩
          · have hgt : ¬ mem < ((T + N : Nat) : Int) := fun e => (HMZ.out.1 e) hfit
            have M7 := hid (show MAt w7 gm _ from HF57.out.blk hm id)
            have L7 := hid (hl.keep HF57.out (fun _ _ e => e))
            have HG := hid hg
            have HN := hid hn
            have HFT := hid hft
            have HMO := hid (show ({ M0 mem.toNat with now := T + N, peak := T + N } : MS).Ok from ⟨hfit, by show mem.toNat ≤ _; have := HM.out.2; omega, Nat.le_refl _⟩)
            clear hfit hm hl hg hn hft
            obtain ⟨z, hz⟩ : ∃ z : Int, z = ((T + N : Nat) : Int) := ⟨_, rfl⟩
            rw [← hz] at hgt ⊢
            have HZ := hid hz
            clear hz
            go_wp2_with fail
            refine (used_m gm _ _ M7.out).mono ?_
            rintro e w8 ⟨rfl, hf8⟩
            have hu : usedV { M0 mem.toNat with now := T + N, peak := T + N } = .agg #[.int .i64 z, .int .i64 z, .int .i64 0, .int .i64 0, .int .i64 0, .int .i64 0] := by rw [HZ.out]; rfl
            rw [hu]
            clear hu
            have F8 := hid (F7.out.trans hf8)
            have M8 := hid (show MAt w8 gm _ from hf8.blk M7.out id)
            have L8 := hid (L7.out.keep hf8 (fun _ _ e => e))
            have k8 := L8.out.headC 8 (v := .pointer none) (by decide) rfl
            clear hf8
            go_wp2_with fail
            refine (lnext_nil L.gd _ k8).mono ?_
            rintro e w9 ⟨rfl, rfl⟩
            go_wp2_with fail
            obtain ⟨nxt, hraw⟩ := L8.out.raw (m := { M0 mem.toNat with now := T + N, peak := T + N }) (by rw [HG.out]; exact M8.out) HMO.out (show T ≤ 1048576 by omega)
            refine (lclose_raw L L.lit _ _ _ _ _ _ _ _ _ hraw).mono ?_
            rintro e w10 ⟨rfl, hf10, hraw2⟩
            have F10 := hid (F8.out.then hf10 (fun i hi e => by
              have hg0 := HG.out
              have h6 := HGM.out
              rcases e with e | e | e
              · have := HFT.out L.gd (.inl rfl); omega
              · have := HFT.out L.gw (.inr (.inr (.inl rfl))); omega
              · omega))
            have R10 := hid hraw2
            clear hf10 hraw2 hraw k8
            go_wp2_with fail
            refine (lclose_raw L _ _ _ _ _ _ _ _ _ _ R10.out).mono ?_
            rintro e w11 ⟨rfl, hf11, hraw3⟩
            have F11 := hid (F10.out.then hf11 (fun i hi e => by
              have hg0 := HG.out
              have h6 := HGM.out
              rcases e with e | e | e
              · have := HFT.out L.gd (.inl rfl); omega
              · have := HFT.out L.gw (.inr (.inr (.inl rfl))); omega
              · omega))
            have R11 := hid hraw3
            have k8 := blk_cell hraw3.at_ (j := 8) (v := .pointer none) (by rw [cellsL_head _ _ _ _ _ (by decide)]; rfl)
            have M11 := hid (show MAt w11 gm _ from by have := hraw3.met; rw [HG.out] at this; exact this)
            clear hf11 hraw3
            go_wp2_with fail
            refine (used_m gm _ _ M11.out).mono ?_
            rintro e w12 ⟨rfl, hf12⟩
            have hu : ∀ W : World, usedV ((((({ M0 mem.toNat with now := T + N, peak := T + N } : MS).free (LS.new p T).taken).free L.n).free ({ LS.new p T with taken := 0, bad := true } : LS).taken).free 0) = .agg #[.int .i64 0, .int .i64 z, .int .i64 0, .int .i64 0, .int .i64 0, .int .i64 0] := fun W => by
              rw [HZ.out, HN.out]
              show Value.agg #[.int .i64 ((T + N - T - N - 0 - 0 : Nat) : Int), _, _, _, _, _] = _
              rw [show T + N - T - N - 0 - 0 = 0 by omega]
              rfl
            rw [hu w]
            have HU := hid (hu w)
            clear hu
            have F12 := hid (F11.out.trans hf12)
            have M12 := hid (show MAt w12 gm _ from hf12.blk M11.out id)
            have k8 := hf12.cell k8 id
            clear hf12
            go_wp2_with fail
            refine (used_m gm _ _ M12.out).mono ?_
            rintro e w13 ⟨rfl, hf13⟩
            rw [HU.out]
            have F13 := hid (F12.out.trans hf13)
            have k8 := hf13.cell k8 id
            clear hf13
            go_wp2_with fail
            refine (lwhole_nil L.gd _ k8).mono ?_
            rintro e w14 ⟨rfl, rfl⟩
            go_wp2_with fail
            refine (lfinish_nil L.gd _ k8).mono ?_
            rintro e w15 ⟨rfl, rfl⟩
            go_wp2_with fail
            go_ret
            exact ⟨rfl, F13.out⟩
          · have hgt : mem < ((T + N : Nat) : Int) := HMZ.out.2 hfit
            have M7 := hid (show MAt w7 gm m' from HF57.out.blk hm id)
            have HNOW := hid hnow
            clear hfit hm hnow
            go_wp2_with fail
            refine (used_m gm _ _ M7.out).mono ?_
            rintro e w8 ⟨rfl, hf8⟩
            obtain ⟨pk, hu⟩ : ∃ pk : Int, usedV m' = .agg #[.int .i64 0, .int .i64 pk, .int .i64 0, .int .i64 0, .int .i64 0, .int .i64 0] := ⟨(m'.peak : Nat), by unfold usedV; rw [HNOW.out]; rfl⟩
            rw [hu]
            clear hu
            have F8 := hid (F7.out.trans hf8)
            clear hf8
            go_wp2_with fail
            go_ret
            exact ⟨rfl, F8.out⟩
end Go.Proofs.Ytjnegcambbeblaa
