/- Texts of this proof, one behind the other. -/
import Derived.Test.YtjnegcambbeblaaMg09
import Derived.Test.YtjnegcambbeblaaMg08
import Derived.Test.YtjnegcambbeblaaMg04
import Derived.Test.YtjnegcambbeblaaMg02
import Derived.Test.YtjnegcambbeblaaMg01
import Derived.Test.YtjnegcambbeblaaRows
import Derived.WalkSpells
import Derived.WalkLawsBesides
import Derived.BigQuiet
import Derived.Deep.QuietTactic
import Derived.BigRegion
import Derived.Outline
import Derived.Test.YtjnegcambbeblaaMg03

/- lzma: Unpack, of a setting that may be and is not too great, where the meter's memory is enough. -/
namespace Go.Proofs.Ytjnegcambbeblaa
open Go.RowKit

theorem meter_no_u8 (m : MS) (j : Nat) (x : Int) : m.cells[j]? ≠ some (.int .u8 x) := by
  unfold MS.cells
  intro e
  rcases j with _ | _ | _ | _ | _ | _ | _ | _ | _ | _ | _ | _ | j <;> simp at e
/-- a row of bytes is no meter. -/
theorem RowIn.meter {lo n g : Nat} {w w' : World} {a : Option Addr} {f : Nat → Int} {m : MS} (h : RowIn lo .u8 w a n f) (hm : MAt w g m) (hf : Fr (fun k => k = g) w w') : RowIn lo .u8 w' a n f := by
  rcases h with h | ⟨b, off, e, hb, hc⟩
  · exact .inl h
  · refine .inr ⟨b, off, e, hb, fun i hi => hf.cell (hc i hi) fun e1 => ?_⟩
    have e2 : b = g := e1
    have h1 := hc i hi
    rw [e2, cell_of_row w g _ m.cells _ (0, 0) hm] at h1
    exact meter_no_u8 m _ _ h1
/-- a row of bytes that lies from a block on. -/
def RowO (w : World) (base : Nat) (v : Value) (xs : List Int) : Prop :=
  ∃ a c, v = .slice a xs.length c ∧ xs.length ≤ c ∧ (a = none → c = 0) ∧ RowIn w.heap.size .u8 w a xs.length (fun i => xs.getD i 0) ∧ ∀ ad, a = some ad → base ≤ ad.block
theorem Own.rowO {w : World} {base : Nat} {e : TypeId} {v : Value} {xs : List Int} (h : Own w base .u8 e v xs) : RowO w base v xs := by
  obtain ⟨a, c, h1, h2, h3, h4⟩ := h.row
  refine ⟨a, c, h1, h2, fun e => ?_, h4, fun ad e => (h.block ad.block (by rw [h1, e]; rfl)).1⟩
  have h5 := h.2
  rcases h5 with ⟨h6, h7⟩ | ⟨g, cap, cur, hv, hg, r⟩
  · rw [h1] at h6; injection h6
  · rw [h1, e] at hv; injection hv with e1 e2 e3; cases e1
theorem Own.clip {w : World} {base : Nat} {e : TypeId} {a : Option Addr} {n c : Nat} {xs : List Int} (h : Own w base .u8 e (.slice a n c) xs) : RowO w base (.slice a n n) xs := by
  obtain ⟨a', c', h1, h2, h3, h4, h5⟩ := h.rowO
  injection h1 with e1 e2 e3
  subst e1
  refine ⟨a, n, by rw [e2], by omega, fun e => ?_, h4, h5⟩
  have := h3 e
  omega
theorem RowO.fr {w w' : World} {base : Nat} {v : Value} {xs : List Int} {S : Nat → Prop} (h : RowO w base v xs) (hf : Fr S w w') (hs : ∀ k, base ≤ k → k < w.heap.size → ¬ S k) : RowO w' base v xs := by
  obtain ⟨a, c, h1, h2, h3, h4, h5⟩ := h
  refine ⟨a, c, h1, h2, h3, ?_, h5⟩
  rcases h4 with h4 | ⟨b, off, e, hb, hc⟩
  · exact .inl h4
  · exact .inr ⟨b, off, e, Nat.lt_of_lt_of_le hb hf.size, fun i hi => hf.cell (hc i hi) (hs b (h5 _ e) hb)⟩
theorem RowO.low {w : World} {base b2 : Nat} {v : Value} {xs : List Int} (h : RowO w base v xs) (hb : b2 ≤ base) : RowO w b2 v xs := by
  obtain ⟨a, c, h1, h2, h3, h4, h5⟩ := h
  exact ⟨a, c, h1, h2, h3, h4, fun ad e => Nat.le_trans hb (h5 ad e)⟩
/-- the meter behind an Unpack. -/
def lmet (m : MS) (p : Lset) (N : Nat) : MS := ((((m.mem p.need).2.mem N).2).free p.need).free N
def LUnPost (gm : Nat) (R : Option (List Int)) (m' : MS) (w : World) (e : Ending) (w' : World) : Prop :=
  Fr (fun k => k = gm) w w' ∧ MAt w' gm m' ∧ m'.Ok ∧
    ((R = none ∧ e = .returned (.tuple #[.slice none 0 0, .int .i64 12])) ∨ (∃ xs v, R = some xs ∧ e = .returned (.tuple #[v, .int .i64 0]) ∧ RowO w' w.heap.size v xs))
theorem lcloseD_on {S : Type} {L : LL} {t : Sour S} {ga gr : Nat} {w : World} {s : LS} {d : RD (AhS S)} {m : MS} (h : LOn L t ga gr w s d) (hm : MAt w L.gm m) (hok : m.Ok) (T : Nat) (hT : s.taken = T) (ht : T ≤ 1048576) (u : FrameMode) :
    CallsD Try.prog 28 #[.pointer (some ⟨L.gd, 0, none⟩)] u w fun e u' w' => u' = u ∧ e = .returned (.tuple #[]) ∧ Fr (fun k => k = L.gd ∨ k = L.gw ∨ k = L.gm) w w' ∧ MAt w' L.gm ((m.free T).free L.n) ∧ ((m.free T).free L.n).Ok := by
  subst hT
  obtain ⟨next, hr⟩ := h.is_.raw hm hok ht
  intro c cs hc
  obtain ⟨e, u', w', fr, ⟨h1, h2, h3, h4⟩, h5, h6, h7⟩ := lcloseD_raw L L.lit _ _ s _ L.n next _ m u w hr c cs hc
  exact ⟨e, u', w', fr, ⟨h1, h2, h3, h4.met, h4.ok⟩, h5, h6, h7⟩
/-- the last of a call that defers Close. -/
theorem lun_door {L : LL} {t : Sour Nat} {ga gr gm : Nat} {w wr : World} {s : LS} {d : RD (AhS Nat)} {m : MS} {T N : Nat} {R : Option (List Int)} {v : Value} {q : Int} {m' : MS} {tmps : Array Value} (B : Nat)
    (h : LOn L t ga gr wr s d) (hm : MAt wr gm m) (hok : m.Ok) (hT : s.taken = T) (ht : T ≤ 1048576) (hg : L.gm = gm) (hn : L.n = N) (hm' : (m.free T).free N = m') (hf : Fr (fun k => k = gm) w wr)
    (hlo : ∀ k, L.foot k → w.heap.size < k ∧ k < B) 
    (hres : ∀ W : World, (results Try.f17 tmps).run Try.prog W = .ok (.tuple #[v, .int .i64 q]) W)
    (hR : (R = none ∧ v = .slice none 0 0 ∧ q = 12) ∨ (∃ xs, R = some xs ∧ q = 0 ∧ RowO wr B v xs)) (hBw : w.heap.size ≤ B) (hgl : gm < w.heap.size) :
    Leaves Try.prog Try.f17 tmps (LUnPost gm R m' w) [{ target := Target.fn (Fn.func 28) #[], args := #[.pointer (some ⟨L.gd, 0, none⟩)] }] .returning wr := by
  subst hg hn hm'
  refine leaves_cons (f := 28) (args := #[.pointer (some ⟨L.gd, 0, none⟩)]) (by simp) (by simp [go_sem]) ?_
  refine (lcloseD_on h hm hok T hT ht _).mono ?_
  rintro e u' w'' ⟨rfl, rfl, h3, h4, h5⟩
  refine ⟨.tuple #[v, .int .i64 q], hres _, hf.then h3 (fun k hk e => ?_), h4, h5, ?_⟩
  · rcases e with e | e | e
    · have := hlo L.gd (.inl rfl); omega
    · have := hlo L.gw (.inr (.inr (.inl rfl))); omega
    · exact e
  · rcases hR with ⟨h1, rfl, rfl⟩ | ⟨xs, h1, rfl, ho⟩
    · exact .inl ⟨h1, rfl⟩
    · refine .inr ⟨xs, v, h1, rfl, (ho.fr h3 (fun g h8 _ e => ?_)).low hBw⟩
      rcases e with e | e | e
      · have := hlo L.gd (.inl rfl); omega
      · have := hlo L.gw (.inr (.inr (.inl rfl))); omega
      · omega
set_option maxRecDepth 100000 in
set_option maxHeartbeats 800000 in
theorem lunpack_any (gm : Nat) (m : MS) (p : Lset) (x : Int) (size : Nat) (hx : x.toNat = size) (a : Option Addr) (n c : Nat) (f : Nat → Int) (hf : ∀ i, i < n → 0 ≤ f i ∧ f i < 256) (w : World) (N : Nat) (hN : N = wsize (min p.dict x))
    (h : MAt w gm m) (hok : m.Ok) (hp : p.Light) (hs : x ≤ 5000) (hs0 : -9223372036854775808 ≤ x) (hn : n ≤ 60000) (hnc : n ≤ c) (hnil : a = none → c = 0) (hr : RowIn w.heap.size .u8 w a n f)
    (h1 : (m.mem p.need).1 = true) (h2 : ((m.mem p.need).2.mem N).1 = true) :
    Calls Try.prog 17 #[.slice a n c, p.val, .int .i64 x, .pointer (some ⟨gm, 0, none⟩)] w (LUnPost gm (lunpack (feedNx f n) 0 p N size) (lmet m p N) w) := by
  obtain ⟨R, hR⟩ : ∃ R, R = lunpack (feedNx f n) 0 p N size := ⟨_, rfl⟩
  rw [← hR]
  unfold lunpack at hR
  have hpn : p.need ≤ 200000 := by
    have := hp.nl_le
    have hm : p.may = true := Lset.may_iff.2 hp.may
    have hprob : p.probs = 1847 + p.nl := by unfold Lset.probs Lset.nl; rw [if_pos hm]
    unfold Lset.need
    omega
  have HR := hid hR
  have HX := hid hx
  have HN := hid hN
  have HM := hid h
  have HMO := hid hok
  have HP := hid hp
  have HROW := hid hr
  have HNIL := hid hnil
  have HC := hid hnc
  have HM1 := hid h1
  have HM2 := hid h2
  have Hf := hid hf
  have HPN := hid hpn
  have hgm : gm < w.heap.size := blk_lt h
  have HGM := hid hgm
  have HV := hid (show p.val = .agg #[.int .i64 p.lc, .int .i64 p.lp, .int .i64 p.pb, .int .i64 p.dict] from rfl)
  have hx5 : size ≤ 5000 := by omega
  have HS0 := hid hs0
  have HS := hid hs
  clear hR hx hN h hok hp hr hnil hnc h1 h2 hf hgm hpn hs0 hs
  rw [HV.out]
  go_enter_defers Try.func17, Try.ntmps17
  go_upto_region 1 with fail
  go_wp2_with (refine wpList_load_row rfl 23 _ rfl w.heap.size rfl 23 #[.int .i64 p.lc, .int .i64 p.lp, .int .i64 p.pb, .int .i64 p.dict] (0, 0) _ (by exact blk_new w _) Try.underlying23 rfl (by kernel_rfl) ?_)
  rw [← HV.out]
  have HF0 := hid ((Fr.refl Non w).alloc (.cells #[.int .i64 p.lc, .int .i64 p.lp, .int .i64 p.pb, .int .i64 p.dict] 23))
  refine (lnew_any gm m p x _ (HF0.out.blk HM.out id) HMO.out HP.out (by have := HS.out; omega) HS0.out).mono ?_
  intro e w1 hq
  rcases hq with ⟨_, _, hno, _⟩ | ⟨_, _, L, rfl, hf1, hm1, hl1, hLgm, hLn, hLnl, hLf⟩
  · exact absurd ⟨HM1.out, by rw [← HN.out]; exact HM2.out⟩ hno
  rw [← HN.out] at hm1 hLn
  have HLN := hid hLn
  have HLG := hid hLgm
  have HLF := hid (show ∀ k, L.foot k → w.heap.size < k ∧ k < w1.heap.size from fun k hk => by
    have := hLf k hk
    simp at this
    omega)
  have F1 := hid (show Fr (fun k => k = gm) w w1 from (HF0.out.any).trans hf1)
  have hs1 := F1.out.size
  have M1 := hid hm1
  have L1 := hid hl1
  clear hf1 hm1 hl1 hLgm hLn hLnl hLf
  go_wp2_with fail
  refine (newFeed_any a n c f w1 (by omega) HC.out HNIL.out (by exact (HROW.out.meter HM.out F1.out).mono hs1)).mono ?_
  intro e w2 hq
  obtain ⟨fg, fa, fc, rfl, hf2, hi2, hl2⟩ := feedNew_q _ _ _ Hf.out (by omega) _ _ hq
  obtain ⟨t, ht⟩ : ∃ t, t = feed fg fa n fc f Hf.out := ⟨_, rfl⟩
  have HT := hid (show Value.iface 45 (.pointer (some ⟨fg, 0, none⟩)) = Value.iface t.ty t.val from by rw [ht]; rfl)
  have HTN := hid (show t.nx = feedNx f n from by rw [ht]; rfl)
  rw [← ht] at hi2 hl2
  have HI2 := hid hi2
  have HL2 := hid hl2
  have F2 := hid (F1.out.trans hf2.any)
  have M2 := hid (show MAt w2 gm _ from hf2.blk M1.out id)
  have L2 := hid (L1.out.keep hf2 (fun _ _ e => e))
  have hs2 := hf2.size
  clear hq hf2 hi2 hl2 ht
  go_wp2_with fail
  rw [HT.out]
  refine (lbegin_any L t _ _ _ 0 w2 L2.out HI2.out (fun k hk => (HL2.out k hk).2) (fun k hk e => by have := (HLF.out k hk).2; have := (HL2.out k e).1; omega)).mono ?_
  rintro e w3 ⟨ga, gr, rfl, hf3, hon3, hga0, hga1, hgr0, hgr1⟩
  rw [HTN.out] at hon3
  have hs3 := hf3.size
  have HFT := hid (show ∀ k, LFt L t ga gr k → w.heap.size < k ∧ k < w3.heap.size from by
    have h0 := HLF.out L.gd (.inl rfl)
    rintro k (e | e | e | e)
    · have := HLF.out k e; omega
    · have e' : k = gr := e; omega
    · have e' : k = ga := e; omega
    · have := HL2.out k e
      omega)
  have F3 := hid (F2.out.then hf3 (fun k hk e => by
    rcases e with e | e
    · have := HLF.out L.gd (.inl rfl); omega
    · have := HL2.out k e; have := HLF.out L.gd (.inl rfl); omega))
  have M3 := hid (show MAt w3 gm _ from hf3.blk M2.out (fun e => by
    have := HGM.out
    rcases e with e | e
    · have := HLF.out L.gd (.inl rfl); omega
    · have := HL2.out _ e; have := HLF.out L.gd (.inl rfl); omega))
  have ON3 := hid hon3
  clear hf3 hon3 hga0 hga1 hgr0 hgr1
  obtain ⟨s0, hs0⟩ : ∃ s, s = lstart p := ⟨_, rfl⟩
  obtain ⟨d0, hd0⟩ : ∃ d, d = RD.new (anx (feedNx f n)) ⟨0, 0, false⟩ := ⟨_, rfl⟩
  have HS0E := hid hs0
  have hR := HR.out
  rw [← hs0, ← hd0] at hR
  rw [← hd0] at ON3
  rw [show LS.new p p.need = lstart p from rfl, ← hs0] at ON3
  have HRR := hid hR
  have HFIT := hid (lrun_fit (anx (feedNx f n)) L s0 d0 (by rw [hs0]; exact lstart_fit p L))
  have HPLA := hid (lrun_place (anx (feedNx f n)) L s0 d0)
  have HPL0 := hid (show s0.place = 0 by rw [hs0]; rfl)
  have HTK := hid (show ∀ k, (lrun (anx (feedNx f n)) L k s0 d0).1.taken = p.need from fun k => by rw [lrun_taken, hs0]; rfl)
  have HX2 := hid (show ∀ k : Nat, ((k : Int) < x ↔ k < size) from fun k => by have := HX.out; omega)
  clear hs0 hd0 hR
  go_wp2_with fail
  go_loopw [12] (fun v wr => ∃ k, k ≤ size ∧ (∀ i, i < k → lok (anx (feedNx f n)) L s0 d0 i = true) ∧ LOn L t ga gr wr (lrun (anx (feedNx f n)) L k s0 d0).1 (lrun (anx (feedNx f n)) L k s0 d0).2 ∧ Own wr w3.heap.size .u8 5 v (lbytes (anx (feedNx f n)) L s0 d0 k) ∧ Fr (fun k => k = gm) w wr ∧ MAt wr gm ((m.mem p.need).2.mem N).2 ∧ w3.heap.size ≤ wr.heap.size) (fun v _ => size - lenV v)
  case atStart => exact ⟨0, Nat.zero_le _, (fun i hi => by omega), ON3.out, Own.nil _ _ _ _, F3.out, M3.out, Nat.le_refl _⟩
  case round =>
    obtain ⟨k, hk, hks, hon, hown, hfr, hmt, hwz⟩ := hrel
    have HKS := hid hks
    have HON := hid hon
    have HOW := hid hown
    have HFW := hid hfr
    have HMT := hid hmt
    have hlv := hown.lenV
    rw [lbytes_len] at hlv
    have HLV := hid hlv
    obtain ⟨ra, rc, hva, hrc, hrm, hrw⟩ := hown.rowN (lbytes_len _ _ _ _ _)
    have HZ := hid (show ra = none → rc = 0 from fun e => by
      subst e
      have h2 := hown.2
      rcases h2 with ⟨h3, h4⟩ | ⟨g, cap, cur, hv, hg, r⟩
      · rw [hva] at h3; injection h3
      · rw [hva] at hv; injection hv with e1 e2 e3; cases e1)
    have HSEP := hid (show ∀ b, u12.ownBlock = some b → ¬ LFt L t ga gr b from fun b hb e => by have := (hown.block b hb).1; have := (HFT.out b e).2; omega)
    clear hks hon hown hfr hmt hlv hrm hrw
    subst hva
    have C1 := lnext_any L t ga gr _ _ wr HON.out (by have := HPLA.out k; have := HPL0.out; omega) (HFIT.out k)
    rw [ahead_nx, HTN.out] at C1
    have C1 := hid C1
    by_cases hlt : k < size
    · have hlx : (k : Int) < x := (HX2.out k).2 hlt
      obtain ⟨ok, hok⟩ : ∃ ok, ok = lok (anx (feedNx f n)) L s0 d0 k := ⟨_, rfl⟩
      obtain ⟨b, hb⟩ : ∃ b, b = lbyte (anx (feedNx f n)) L s0 d0 k := ⟨_, rfl⟩
      go_wp2_with fail
      refine C1.out.mono ?_
      rintro e w5 ⟨rfl, hf5, hon5⟩
      rw [show (lnext (anx (feedNx f n)) L (lrun (anx (feedNx f n)) L k s0 d0).1 (lrun (anx (feedNx f n)) L k s0 d0).2).1.2 = ok from hok.symm, show (lnext (anx (feedNx f n)) L (lrun (anx (feedNx f n)) L k s0 d0).1 (lrun (anx (feedNx f n)) L k s0 d0).2).1.1 = b from hb.symm]
      have HF5 := hid hf5
      have ON5 := hid (show LOn L t ga gr w5 (lrun (anx (feedNx f n)) L (k + 1) s0 d0).1 (lrun (anx (feedNx f n)) L (k + 1) s0 d0).2 from hon5)
      have hs5 := hf5.size
      have FW5 := hid (HFW.out.then hf5 (fun i hi e => by have := (HFT.out i e).1; omega))
      have M5 := hid (show MAt w5 gm _ from hf5.blk HMT.out (fun e => by have := (HFT.out _ e).1; have := HGM.out; omega))
      have HO5 := hid (HOW.out.fr HF5.out HSEP.out)
      have HOK := hid hok
      have HB := hid hb
      clear hf5 hon5 hok hb C1
      cases ok with
      | true =>
        go_wp2_with (refine opAppend1 (some 45) rfl rfl (.tmp 42) (.tmp 44) 30 rfl w3.heap.size .u8 5 1 Try.underlying30 Try.info_u8q _ _ rfl (by exact HO5.out.alloc _) ⟨_, 0, none⟩ 1 _ rfl (cell_new1 _ _ _) (by decide) (by rw [lbytes_len]; omega) (by simp; omega) ?_; intro v' w6 hown6 hg6)
        have hs6 := hg6.size
        simp at hs6
        have HL := hid HOW.out.block
        have HF6 := hid (Fr.grown (FW5.out.alloc _) hg6 (fun b hb hlt => by have := (HL.out b hb).1; omega))
        have H6 := hid (ON5.out.keep (Fr.grown ((Fr.refl (fun b => (Value.slice ra k rc).ownBlock = some b) w5).alloc _) hg6 (fun b hb _ => hb)) (fun b hb e => HSEP.out b e hb))
        have M6 := hid (show MAt w6 gm _ from (Fr.grown ((Fr.refl (fun b => (Value.slice ra k rc).ownBlock = some b) w5).alloc _) hg6 (fun b hb _ => hb)).blk M5.out (fun e => by have := (HL.out _ e).1; have := HGM.out; omega))
        rw [HB.out, ← lbytes_snoc] at hown6
        have HO6 := hid hown6
        have hlv6 := hown6.lenV
        rw [lbytes_len] at hlv6
        have HLV6 := hid hlv6
        have HKS' := hid (show ∀ i, i < k + 1 → lok (anx (feedNx f n)) L s0 d0 i = true from fun i hi => by
          by_cases e : i = k
          · rw [e]; exact HOK.out.symm
          · exact HKS.out i (by omega))
        clear hown6 hg6 hlv6
        go_roundw
        case rel => exact ⟨k + 1, by omega, HKS'.out, H6.out, HO6.out, HF6.out, M6.out, by omega⟩
        case measure =>
          rw [HLV.out, HLV6.out]
          omega
      | false =>
        go_wp2_with fail
        have hw03 : w.heap.size ≤ w3.heap.size := by have := HFT.out L.gd (.inl (.inl rfl)); omega
        refine lun_door w3.heap.size ON5.out M5.out (MS.mem_ok (MS.mem_ok HMO.out _) _) (T := p.need) (HTK.out (k + 1)) (by have := HPN.out; omega) HLG.out HLN.out rfl FW5.out (fun j hj => by have := HFT.out j (.inl hj); exact this) (fun W => Eq.trans (results_tmp2 rfl _ _ W) rfl) (.inl ⟨?_, rfl, rfl⟩) hw03 HGM.out
        rw [HRR.out, if_neg]
        intro e
        have e1 := List.all_eq_true.1 e.1 k (List.mem_range.2 hlt)
        rw [← HLN.out, ← lok_of, ← HOK.out] at e1
        cases e1
    · have e : k = size := by omega
      subst e
      have hlx : ¬ (k : Int) < x := fun e => hlt ((HX2.out k).1 e)
      have C2 := hid (lfinish_any L t ga gr _ _ wr HON.out (by have := HPLA.out k; have := HPL0.out; omega))
      rw [HTN.out] at C2
      obtain ⟨F, hF⟩ : ∃ F, F = lfinish (feedNx f n) L (lrun (anx (feedNx f n)) L k s0 d0).1 (lrun (anx (feedNx f n)) L k s0 d0).2 := ⟨_, rfl⟩
      rw [← hF] at C2
      have HFE := hid hF
      have HFT2 := hid (show F.2.1.taken = p.need by rw [hF, lfinish_taken]; exact HTK.out k)
      obtain ⟨fb, fs, fd⟩ := F
      dsimp only at C2 HFT2
      clear hF C1
      go_wp2_with fail
      refine C2.out.mono ?_
      rintro e w5 ⟨rfl, hf5, hon5⟩
      dsimp only at hf5 hon5
      have HF5 := hid hf5
      have ON5 := hid hon5
      have hs5 := hf5.size
      have FW5 := hid (HFW.out.then hf5 (fun i hi e => by have := (HFT.out i e).1; omega))
      have M5 := hid (show MAt w5 gm _ from hf5.blk HMT.out (fun e => by have := (HFT.out _ e).1; have := HGM.out; omega))
      have HO5 := hid (HOW.out.fr HF5.out HSEP.out)
      have hw03 : w.heap.size ≤ w3.heap.size := by have := HFT.out L.gd (.inl (.inl rfl)); omega
      clear hf5 hon5
      dsimp only
      cases fb with
      | true =>
        go_wp2_with fail
        refine (clip_any ra k rc _ hrc HZ.out (by omega)).mono ?_
        rintro e w6 ⟨rfl, rfl⟩
        go_wp2_with fail
        refine lun_door w3.heap.size ON5.out M5.out (MS.mem_ok (MS.mem_ok HMO.out _) _) (T := p.need) HFT2.out (by have := HPN.out; omega) HLG.out HLN.out rfl FW5.out (fun j hj => by have := HFT.out j (.inl hj); exact this) (fun W => Eq.trans (results_tmp2 rfl _ _ W) rfl) (.inr ⟨lbytes (anx (feedNx f n)) L s0 d0 k, ?_, rfl, ?_⟩) hw03 HGM.out
        · rw [HRR.out, if_pos]
          · congr 1
            unfold lbytes
            exact List.map_congr_left (fun i _ => by rw [← HLN.out, ← lbyte_of])
          · refine ⟨List.all_eq_true.2 (fun i hi => ?_), ?_⟩
            · rw [← HLN.out, ← lok_of]
              exact HKS.out i (List.mem_range.1 hi)
            · rw [← HLN.out, ← lrun_of, ← lfinish_of, ← HFE.out]
        · exact HO5.out.clip
      | false =>
        go_wp2_with fail
        refine lun_door w3.heap.size ON5.out M5.out (MS.mem_ok (MS.mem_ok HMO.out _) _) (T := p.need) HFT2.out (by have := HPN.out; omega) HLG.out HLN.out rfl FW5.out (fun j hj => by have := HFT.out j (.inl hj); exact this) (fun W => Eq.trans (results_tmp2 rfl _ _ W) rfl) (.inl ⟨?_, rfl, rfl⟩) hw03 HGM.out
        rw [HRR.out, if_neg]
        intro e
        have e1 := e.2
        rw [← HLN.out, ← lrun_of, ← lfinish_of, ← HFE.out] at e1
        cases e1
end Go.Proofs.Ytjnegcambbeblaa

/- The document's walk through LZMA: the byte at a distance. -/
namespace Go.Proofs.Ytjnegcambbeblaa
open Go.RowKit

/-- the byte at a distance, and whether it is there. -/
def backD (s : LS) (d : Nat) : Int × Bool := if s.H.length ≤ d ∨ s.dict ≤ d then (0, false) else (s.H.getD (s.H.length - 1 - d) 0, true)
theorem backD_by {s : LS} {np : Nat} (h : KOk np s) (d : Nat) : 0 ≤ (backD s d).1 ∧ (backD s d).1 < 256 := by
  unfold backD
  split
  · exact ⟨Int.le_refl 0, by decide⟩
  · rename_i h0
    have hi : s.H.length - 1 - d < s.H.length := by omega
    have e : s.H.getD (s.H.length - 1 - d) 0 = s.H[s.H.length - 1 - d] := by simp [List.getD, hi]
    show 0 ≤ s.H.getD _ 0 ∧ s.H.getD _ 0 < 256
    rw [e]
    exact h.by_ _ (List.getElem_mem hi)
set_option maxRecDepth 100000 in
set_option maxHeartbeats 1600000 in
theorem kback_any {U : Nat → Prop} {C : Type} {K : Cdr C} (g gp np cap : Nat) (s : LS) (c : C) (d : Nat) (w : World) (h : KIs K U g gp np cap w s c) (hd : d < 4294967296) (hlen : s.H.length ≤ 60000) :
    Calls Try.prog 75 #[.pointer (some ⟨g, 0, none⟩), .int .u32 d] w fun e w' => e = .returned (.tuple #[.int .u8 (backD s d).1, .bool (backD s d).2]) ∧ ∃ m, w' = w.drewN m := by
  obtain ⟨A, v, h⟩ := h
  have c3 := h.cellC 3 (x := .int .i64 s.dict) rfl
  have c7 := h.cellC 7 (x := v) rfl
  obtain ⟨ao, cp, rfl, hcp, hnil, hrow, _⟩ := h.own.rowO
  have hdw : IntKind.i64.wrap (d : Int) = (d : Int) := by rw [IntKind.wrap_i64]; omega
  obtain ⟨n, hn⟩ : ∃ n, n = s.H.length := ⟨_, rfl⟩
  obtain ⟨dc, hdc⟩ : ∃ n, n = s.dict := ⟨_, rfl⟩
  rw [← hdc] at c3
  rw [← hn] at c7 hlen hrow
  have hn6 : (n : Int) ≤ 60000 := by omega
  unfold backD
  rw [← hn, ← hdc]
  have HD := hid hd
  have HN := hid hn
  have HROW := hid hrow
  clear h hn hdc hrow hd hlen hcp hnil
  by_cases h1 : n ≤ d
  · rw [if_pos (.inl h1)]
    have h1' : (n : Int) ≤ (d : Int) := by omega
    clear h1
    go_enter Try.func75, Try.ntmps75
    go_wp2_with fail
    go_ret2
    exact ⟨rfl, 0, rfl⟩
  · by_cases h2 : dc ≤ d
    · rw [if_pos (.inr h2)]
      have h1' : ¬ (n : Int) ≤ (d : Int) := by omega
      have h2' : (dc : Int) ≤ (d : Int) := by omega
      clear h1 h2
      go_enter Try.func75, Try.ntmps75
      go_wp2_with fail
      go_ret2
      exact ⟨rfl, 0, rfl⟩
    · rw [if_neg (by omega)]
      have h1' : ¬ (n : Int) ≤ (d : Int) := by omega
      have h2' : ¬ (dc : Int) ≤ (d : Int) := by omega
      obtain ⟨i, hi⟩ : ∃ i, i = n - 1 - d := ⟨_, rfl⟩
      have hin : i < n := by omega
      have hiw : IntKind.i64.wrap ((n : Int) - 1 - (d : Int)) = (i : Int) := by rw [IntKind.wrap_i64]; omega
      obtain ⟨b, o, hb, hbl, hc⟩ : ∃ b o, ao = some ⟨b, o, none⟩ ∧ b < w.heap.size ∧ w.cell? ⟨b, o + i, none⟩ = some (.int .u8 (s.H.getD i 0)) := by
        rcases HROW.out with e | ⟨b, o, h1, h2, h3⟩
        · omega
        · exact ⟨b, o, h1, h2, h3 i hin⟩
      subst hb
      rw [← hi]
      have HI := hid hi
      have hin2 : (i : Int) < (n : Int) := by omega
      clear h1 h2 hi hbl
      go_enter Try.func75, Try.ntmps75
      go_wp2_with fail
      go_quiet (fail)
      go_wp2_with fail
      go_ret2
      exact ⟨rfl, _, rfl⟩
end Go.Proofs.Ytjnegcambbeblaa

/- The document's coder (05): Bit. -/
namespace Go.Proofs.Ytjnegcambbeblaa
open Go.RowKit

def EBPost (A : Nat → Prop) (g : Nat) (w : World) (r : Int × RC) (e : Ending) (w' : World) : Prop :=
  e = .returned (.int .u16 r.1) ∧ Fr (Out A) w w' ∧ EncC A g w' r.2
theorem bit_zero' (c : RC) (p : Int) : c.bit p 0 = (p + (2048 - p) / 32, c.part 0 (c.rng / 2048 * p)) := if_pos rfl
theorem bit_one' (c : RC) (p : Int) : c.bit p 1 = (p - p / 32, c.part (c.rng / 2048 * p) (c.rng - c.rng / 2048 * p)) := rfl
set_option maxRecDepth 100000 in
set_option maxHeartbeats 2000000 in
theorem ebit_any (A : Nat → Prop) (g N : Nat) (c : RC) (p : Int) (b : Nat) (w : World) (h : EncC A g w c) (hok : c.Ok N) (hby : c.bytes) (hN : N ≤ 1073741700) (hp0 : 31 ≤ p) (hp1 : p ≤ 2017) (hbit : b ≤ 1) :
    Calls Try.prog 123 #[.pointer (some ⟨g, 0, none⟩), .int .u16 p, .int .i64 b] w (EBPost A g w (c.bit p b)) := by
  have hnot := h.not
  have HH := hid h
  obtain ⟨v, B, hv, hb, hlen, hval⟩ := h
  have c1 := blk_cell hv.at_ (j := 1) (v := .int .u64 c.rng) rfl
  have f1 := blk_frozen hv.at_ 1
  have o2 := hok.rng0
  have o3 := hok.rng1
  have hL : c.len ≤ 1073741800 := by have := hok.size; unfold RC.len; omega
  have hL0 : 0 < c.len := by unfold RC.len; omega
  have b1 := bound_pos c.rng p o2 hp0
  have b2 := bound_gap c.rng p o2 hp1
  have HO := hid hok
  have HB := hid hby
  have HBE := hid (hok.below hby)
  clear hv hb hlen hval hok hby
  obtain ⟨x, hx⟩ : ∃ x, x = c.rng / 2048 * p := ⟨_, rfl⟩
  rw [← hx] at b1 b2
  have HX := hid hx
  rcases Nat.le_one_iff_eq_zero_or_eq_one.1 hbit with rfl | rfl
  · rw [bit_zero', ← hx]
    clear hx
    have hxr : c.rng / 2048 * p = x := HX.out.symm
    have hxm : c.rng / 2048 * p % 18446744073709551616 = x := by rw [hxr]; omega
    go_enter Try.func123, Try.ntmps123
    go_wp2_with fail
    refine (elevel_any A g c.val c.len x _ (enc_rng HH.out x) (by omega) (by omega) (by omega)).mono ?_
    rintro e w1 ⟨rfl, hf1, k, he1, hk0, hk1⟩
    have HE := hid (enc_part HO.out HB.out (a := 0) (r := x) (Int.le_refl 0) (by omega) (by omega) (k := k) (by rw [Int.add_zero]; exact he1) hk0 hk1)
    have HF := hid ((Fr.setCell (p := ⟨g, 1, none⟩) (Fr.refl (Out A) w) (fun _ => hnot) (.int .u64 x)).trans hf1)
    clear hf1 he1
    have ev : IntKind.u16.wrap (p + IntKind.u16.wrap ((2048 - p).tdiv 32)) = p + (2048 - p) / 32 := by
      rw [Int.tdiv_eq_ediv_of_nonneg (by omega), IntKind.wrap_u16, IntKind.wrap_u16]; omega
    go_wp2_with fail
    go_ret
    exact ⟨by rw [← ev]; rfl, HF.out, HE.out⟩
  · rw [bit_one', ← hx]
    clear hx
    have hxr : c.rng / 2048 * p = x := HX.out.symm
    have hxm : c.rng / 2048 * p % 18446744073709551616 = x := by rw [hxr]; omega
    go_enter Try.func123, Try.ntmps123
    go_wp2_with fail
    refine (eadd_any A g c.val c.len c.rng x _ HH.out hL0 (by omega) (by omega) (by omega) (by have := HBE.out.1; omega)).mono ?_
    rintro e w1 ⟨rfl, hf1, he1⟩
    obtain ⟨v1, B1, hv1, q1⟩ := he1
    have c1' := blk_cell hv1.at_ (j := 1) (v := .int .u64 c.rng) rfl
    have f1' := blk_frozen hv1.at_ 1
    have HE1 := hid (show EncIs A g w1 (c.val + x) c.len c.rng from ⟨v1, B1, hv1, q1⟩)
    have HF1 := hid hf1
    clear c1 f1 hf1 hv1 q1
    go_wp2_with fail
    refine (elevel_any A g (c.val + x) c.len (c.rng - x) _ (enc_rng HE1.out (c.rng - x)) (by omega) (by omega) (by omega)).mono ?_
    rintro e w2 ⟨rfl, hf2, k, he2, hk0, hk1⟩
    have HE := hid (enc_part HO.out HB.out (a := x) (r := c.rng - x) (by omega) (by omega) (by omega) (k := k) he2 hk0 hk1)
    have HF := hid (HF1.out.trans ((Fr.setCell (p := ⟨g, 1, none⟩) (Fr.refl (Out A) w1) (fun _ => hnot) (.int .u64 (c.rng - x))).trans hf2))
    clear hf2 he2
    have ev : IntKind.u16.wrap (p - IntKind.u16.wrap (p.tdiv 32)) = p - p / 32 := by
      rw [Int.tdiv_eq_ediv_of_nonneg (by omega), IntKind.wrap_u16, IntKind.wrap_u16]; omega
    go_wp2_with fail
    go_ret
    exact ⟨by rw [← ev]; rfl, HF.out, HE.out⟩
end Go.Proofs.Ytjnegcambbeblaa

/- Bytes, of equal rows. -/
namespace Go.Proofs.Ytjnegcambbeblaa
open Go.RowKit

/-- Bytes only reads. -/
theorem bytes_q (a b : Option Addr) (n c1 c2 : Nat) (f g : Nat → Int) (w : World) (hn : n ≤ 4611686018427387904) (B : Nat)
    (ha : RowIn B .u8 w a n f) (hb : RowIn B .u8 w b n g) (hfg : ∀ i, i < n → f i = g i) :
    Calls Try.prog 19 #[.slice a n c1, .slice b n c2] w fun e w' => e = .returned (.bool true) ∧ ∃ m, w' = w.drewN m := by
  have Ha := hid ha
  have Hb := hid hb
  have Hfg := hid hfg
  clear ha hb hfg
  go_enter Try.func19, Try.ntmps19
  go_wp2
  go_loopw [5] (fun i wr => ∃ k m : Nat, k ≤ n ∧ i = .int .i64 k ∧ wr = w.drewN m) (fun i _ => n - (intOf i).toNat)
  case atStart => exact ⟨0, 0, Nat.zero_le _, rfl, rfl⟩
  case round =>
    obtain ⟨k, m, hk, rfl, rfl⟩ := hrel
    by_cases hlt : k < n
    · obtain ⟨b1, o1, rfl, hB1, hx⟩ := Ha.out.at hlt
      obtain ⟨b2, o2, rfl, hB2, hy⟩ := Hb.out.at hlt
      rw [Hfg.out k hlt] at hx
      have h0 : (0 : Int) ≤ (k : Int) := by omega
      have h1 : (k : Int) < (n : Int) := by omega
      go_wp2
      go_quiet (fail)
      go_wp2
      go_roundw
      case rel => exact ⟨k + 1, m + nq, by omega, by go_num, by simp⟩
      case measure => simp [intOf]; omega
    · have e : k = n := by omega
      subst e
      go_wp2
      go_ret
      exact ⟨rfl, _, rfl⟩
theorem bytes_yes (a b : Option Addr) (n c1 c2 : Nat) (f g : Nat → Int) (w : World) (hn : n ≤ 4611686018427387904) (B : Nat)
    (ha : RowIn B .u8 w a n f) (hb : RowIn B .u8 w b n g) (hfg : ∀ i, i < n → f i = g i) :
    Calls Try.prog 19 #[.slice a n c1, .slice b n c2] w fun e w' => e = .returned (.bool true) ∧ Fr Non w w' :=
  (bytes_q a b n c1 c2 f g w hn B ha hb hfg).mono fun _ _ ⟨h1, _, h2⟩ => ⟨h1, by rw [h2]; exact (Fr.refl _ _).drewN _⟩
end Go.Proofs.Ytjnegcambbeblaa

/- law05: put. -/
namespace Go.Proofs.Ytjnegcambbeblaa
open Go.RowKit

/-- what is asked for is coded: the probabilities, the coder. -/
def RC.ask (c : RC) (q : Nat → Int) (a : Ask) : (Nat → Int) × RC :=
  if a.kind = 0 then (upd q a.at_.toNat (c.bit (q a.at_.toNat) (a.val.toNat % 2)).1, (c.bit (q a.at_.toNat) (a.val.toNat % 2)).2)
  else if a.kind = 1 then (spliceQ q a.at_.toNat (2 ^ a.bits.toNat) (c.tree a.bits.toNat (fun j => q (a.at_.toNat + j)) a.val.toNat).1, (c.tree a.bits.toNat (fun j => q (a.at_.toNat + j)) a.val.toNat).2)
  else if a.kind = 2 then (spliceQ q a.at_.toNat (2 ^ a.bits.toNat) (c.rev a.bits.toNat (fun j => q (a.at_.toNat + j)) a.val.toNat).1, (c.rev a.bits.toNat (fun j => q (a.at_.toNat + j)) a.val.toNat).2)
  else (q, c.strGo a.bits.toNat a.val.toNat)
end Go.Proofs.Ytjnegcambbeblaa

/- law05: awake. -/
namespace Go.Proofs.Ytjnegcambbeblaa
open Go.RowKit

def c992 : RC := (RC.new.bit 1024 1).2
theorem fin992 : (c992.gives 5).out = [0, 127, 255, 252, 0] := by decide +kernel
theorem fin0 : (RC.new.gives 5).out = [0, 0, 0, 0, 0] := by decide +kernel
theorem bit992 : RC.new.bit 1024 1 = (992, c992) := rfl
theorem fit992 : c992.Fit 1073741810 := ⟨by decide +kernel, by decide +kernel, by decide +kernel, by decide +kernel, by decide +kernel⟩
theorem fitnew : RC.new.Fit 1073741810 := ⟨by decide, by decide, by decide, by decide, by decide⟩

theorem get992 : ((arr .u16 1 fun _ => 1024).setIfInBounds 0 (.int .u16 992))[0]? = some (Value.int .u16 992) := by
  rw [arr_set]
  exact arr_get .u16 1 _ (by decide)
theorem Out.no {A : Nat → Prop} {i : Nat} (h : Out A i) (ha : A i) : False := h ha
theorem lit_992 : ∀ i, i < 5 → ([0, 127, 255, 252, 0] : List Int).getD i 0 = lit [0, 127, 255, 252, 0] i := fun _ _ => rfl
theorem five_small : 5 ≤ 4611686018427387904 := by decide
theorem zeros_lit : ∀ i, i < 5 → ([0, 0, 0, 0, 0] : List Int).getD i 0 = (fun _ => 0) i := by decide
end Go.Proofs.Ytjnegcambbeblaa

/- The document's coder (05): Ask, what it leaves. -/
namespace Go.Proofs.Ytjnegcambbeblaa
open Go.RowKit

/-- 600 probabilities lie at block gq; more may lie behind. -/
def RowQ (w : World) (gq : Nat) (q : Nat → Int) : Prop := ∃ cs, w.heap[gq]? = some (.cells cs 40) ∧ ∀ j, j < 600 → cs[j]? = some (.int .u16 (q j))
def EAPost (A : Nat → Prop) (g gq : Nat) (w : World) (r : (Nat → Int) × RC) (e : Ending) (w' : World) : Prop :=
  e = .returned (.tuple #[]) ∧ Fr (fun k => ¬ A k ∨ k = gq) w w' ∧ EncC A g w' r.2 ∧ RowQ w' gq r.1
def E0Post (A : Nat → Prop) (g gq P : Nat) (cs : Array Value) (w : World) (r : Int × RC) (e : Ending) (w' : World) : Prop :=
  e = .returned (.tuple #[]) ∧ Fr (fun k => ¬ A k ∨ k = gq) w w' ∧ EncC A g w' r.2 ∧ w'.heap[gq]? = some (.cells (cs.setIfInBounds P (.int .u16 r.1)) 40)
theorem EncC.keep {A : Nat → Prop} {g : Nat} {w w' : World} {c : RC} (h : EncC A g w c) {T : Nat → Prop} (hf : Fr T w w') (ht : ∀ k, k < w.heap.size → T k → A k) : EncC A g w' c := EncIs.keep h hf ht
theorem EncC.any {A : Nat → Prop} {g : Nat} {w w' : World} {c : RC} (h : EncC A g w c) (hf : Fr Non w w') : EncC A g w' c := EncIs.any h hf
theorem EncC.less {A A' : Nat → Prop} {g : Nat} {w : World} {c : RC} (h : EncC A g w c) (hs : ∀ k, A' k → A k) : EncC A' g w c := by
  obtain ⟨v, B, ⟨h1, h2, h3, h4, h5⟩, q⟩ := h
  exact ⟨v, B, ⟨h1, h2, fun k e => ⟨(h3 k e).1, fun q => (h3 k e).2 (hs k q)⟩, fun k q => h4 k (hs k q), fun q => h5 (hs g q)⟩, q⟩
/-- A, and what has been new since w. -/
def Since (A : Nat → Prop) (w W : World) : Nat → Prop := fun k => A k ∨ (w.heap.size ≤ k ∧ k < W.heap.size)
theorem EncC.fresh {A : Nat → Prop} {g : Nat} {w W : World} {c : RC} (h : EncC A g w c) (hf : Fr Non w W) : EncC (Since A w W) g W c := EncIs.more h hf (fun _ _ e => e.elim)
theorem EncC.drew {A : Nat → Prop} {g : Nat} {w : World} {c : RC} (h : EncC A g w c) : EncC A g w.drew c := h.any (Fr.refl Non _).drew
/-- what a bit leaves, its probability put back. -/
theorem fin0E {A : Nat → Prop} {g gq P : Nat} {cs : Array Value} {w W w1 : World} {r : Int × RC} (hA : A gq) (hf : Fr (Out (Since A w W)) W w1) (hW : Fr Non w W) (hd : EncC (Since A w W) g w1 r.2) (hb : w1.heap[gq]? = some (.cells cs 40)) :
    Fr (fun k => ¬ A k ∨ k = gq) w (w1.setCell ⟨gq, P, none⟩ (.int .u16 r.1)) ∧ EncC A g (w1.setCell ⟨gq, P, none⟩ (.int .u16 r.1)) r.2 ∧ (w1.setCell ⟨gq, P, none⟩ (.int .u16 r.1)).heap[gq]? = some (.cells (cs.setIfInBounds P (.int .u16 r.1)) 40) := by
  refine ⟨Fr.setCell (p := ⟨gq, P, none⟩) (Fr.then hW.any hf fun i hi e => .inl fun h => e (.inl h)) (fun _ => .inr rfl) _, ?_, blk_set hb⟩
  exact (hd.keep ((Fr.refl (fun k => k = gq) w1).setOne P _) (fun k _ e => .inl (by rw [e]; exact hA))).less fun k h => .inl h
def ETPost (A : Nat → Prop) (g gq off L : Nat) (cs : Array Value) (w : World) (r : (Nat → Int) × RC) (e : Ending) (w' : World) : Prop :=
  e = .returned (.tuple #[]) ∧ Fr (fun k => ¬ A k ∨ k = gq) w w' ∧ EncC A g w' r.2 ∧ ∃ cs', w'.heap[gq]? = some (.cells cs' 40) ∧ Win cs cs' off L r.1
/-- the loop's state behind some bits. -/
structure ETAt (A A' : Nat → Prop) (g gq P L N : Nat) (cs : Array Value) (w W wr : World) (c1 : RC) (q1 : Nat → Int) : Prop where
  fr : Fr (fun k => ¬ A' k ∨ k = gq) W wr
  enc : EncC A' g wr c1
  ok : c1.Ok N
  by_ : c1.bytes
  blk : ∃ cs1, wr.heap[gq]? = some (.cells cs1 40) ∧ Win cs cs1 P L q1
  pr : Pr q1 L
theorem ETAt.step {A A' : Nat → Prop} {g gq P L N m b : Nat} {cs : Array Value} {w W wr w1 : World} {c1 : RC} {q1 : Nat → Int} (h : ETAt A A' g gq P L N cs w W wr c1 q1) (hA : A' gq) (hm : m < L)
    (hf : Fr (Out A') wr w1) (he : EncC A' g w1 (c1.bit (q1 m) b).2) :
    ETAt A A' g gq P L (N + 3) cs w W (w1.setCell ⟨gq, P + m, none⟩ (.int .u16 (c1.bit (q1 m) b).1)) (c1.bit (q1 m) b).2 (upd q1 m (c1.bit (q1 m) b).1) := by
  obtain ⟨h1, h2, h3, h4, ⟨cs1, h5, h6⟩, h7⟩ := h
  have hp := h7 m hm
  have hp2 := bit_prob' c1 hp.1 hp.2 b
  obtain ⟨n, hn⟩ := h3.reach_bit h4 hp.1 hp.2 b
  have hb1 := hf.blk h5 (fun e => e hA)
  refine ⟨?_, he.keep ((Fr.refl (fun k => k = gq) w1).setOne (P + m) _) (fun k _ e => by rw [e]; exact hA), h3.bit hp.1 hp.2 b, hn.4 h4, ⟨_, blk_set (i := P + m) hb1, h6.set hm _⟩, h7.upd m hp2.1 hp2.2⟩
  exact Fr.setCell (p := ⟨gq, P + m, none⟩) (h1.then hf fun i _ e => .inl e) (fun _ => .inr rfl) _

end Go.Proofs.Ytjnegcambbeblaa

/- law05: the coder and its probabilities through a row of questions; RencFirst. -/
namespace Go.Proofs.Ytjnegcambbeblaa
open Go.RowKit

theorem RC.Ok.reach_str1 {c : RC} {N : Nat} (h : c.Ok N) (hb : c.bytes) (b : Nat) : ∃ k, Reach c (c.str1 b) k := by
  have h2 := h.rng0
  refine h.reach_part hb ?_ (by omega) ?_
  · by_cases hb : b = 1
    · rw [if_pos hb]; omega
    · rw [if_neg hb]; omega
  · by_cases hb : b = 1
    · rw [if_pos hb]; omega
    · rw [if_neg hb]; omega
theorem treeGo_keep (k : Nat) : ∀ (c : RC) (q : Nat → Int) (m v N j L : Nat), c.Ok N → c.bytes → Pr q L → m < 2 ^ j → 2 ^ (j + k) ≤ 2 * L →
    (RC.treeGo k c q m v).2.Ok (N + 3 * k) ∧ Pr (RC.treeGo k c q m v).1 L ∧ ∃ n, Reach c (RC.treeGo k c q m v).2 n := by
  induction k with
  | zero => intro c q m v N j L h1 h2 h3 _ _; exact ⟨h1, h3, 0, Reach.refl c⟩
  | succ k ih =>
    intro c q m v N j L h1 h2 h3 h4 h5
    have hm : m < L := by
      have : 2 ^ (j + 1) ≤ 2 ^ (j + (k + 1)) := Nat.pow_le_pow_right (by decide) (by omega)
      rw [Nat.pow_succ] at this
      omega
    have hp := h3 m hm
    have hb := bit_prob' c hp.1 hp.2 (v / 2 ^ k % 2)
    obtain ⟨n1, r1⟩ := h1.reach_bit h2 hp.1 hp.2 (v / 2 ^ k % 2)
    obtain ⟨g1, g2, n2, g3⟩ := ih (c.bit (q m) (v / 2 ^ k % 2)).2 (upd q m (c.bit (q m) (v / 2 ^ k % 2)).1) (2 * m + v / 2 ^ k % 2) v (N + 3) (j + 1) L (h1.bit hp.1 hp.2 _) (r1.bytes h2) (h3.upd m hb.1 hb.2) (by rw [Nat.pow_succ]; omega) (by rw [show j + 1 + k = j + (k + 1) by omega]; exact h5)
    exact ⟨g1.mono (by omega), g2, _, r1.trans g3⟩
theorem revGo_keep (k : Nat) : ∀ (i : Nat) (c : RC) (q : Nat → Int) (m v N j L : Nat), c.Ok N → c.bytes → Pr q L → m < 2 ^ j → 2 ^ (j + k) ≤ 2 * L →
    (RC.revGo k i c q m v).2.Ok (N + 3 * k) ∧ Pr (RC.revGo k i c q m v).1 L ∧ ∃ n, Reach c (RC.revGo k i c q m v).2 n := by
  induction k with
  | zero => intro i c q m v N j L h1 h2 h3 _ _; exact ⟨h1, h3, 0, Reach.refl c⟩
  | succ k ih =>
    intro i c q m v N j L h1 h2 h3 h4 h5
    have hm : m < L := by
      have : 2 ^ (j + 1) ≤ 2 ^ (j + (k + 1)) := Nat.pow_le_pow_right (by decide) (by omega)
      rw [Nat.pow_succ] at this
      omega
    have hp := h3 m hm
    have hb := bit_prob' c hp.1 hp.2 (v / 2 ^ i % 2)
    obtain ⟨n1, r1⟩ := h1.reach_bit h2 hp.1 hp.2 (v / 2 ^ i % 2)
    obtain ⟨g1, g2, n2, g3⟩ := ih (i + 1) (c.bit (q m) (v / 2 ^ i % 2)).2 (upd q m (c.bit (q m) (v / 2 ^ i % 2)).1) (2 * m + v / 2 ^ i % 2) v (N + 3) (j + 1) L (h1.bit hp.1 hp.2 _) (r1.bytes h2) (h3.upd m hb.1 hb.2) (by rw [Nat.pow_succ]; omega) (by rw [show j + 1 + k = j + (k + 1) by omega]; exact h5)
    exact ⟨g1.mono (by omega), g2, _, r1.trans g3⟩
theorem strGo_keep (k : Nat) : ∀ (c : RC) (v N : Nat), c.Ok N → c.bytes → (RC.strGo k c v).Ok (N + 3 * k) ∧ ∃ n, Reach c (RC.strGo k c v) n := by
  induction k with
  | zero => intro c v N h1 h2; exact ⟨h1, 0, Reach.refl c⟩
  | succ k ih =>
    intro c v N h1 h2
    obtain ⟨n1, r1⟩ := h1.reach_str1 h2 (v / 2 ^ k % 2)
    obtain ⟨g1, n2, g3⟩ := ih (c.str1 (v / 2 ^ k % 2)) v (N + 3) (h1.str1 _) (r1.bytes h2)
    exact ⟨g1.mono (by omega), _, r1.trans g3⟩
/-- what is coded: the coder stays one, the probabilities stay such. -/
theorem cask_keep {c : RC} {q : Nat → Int} {a : Ask} {N : Nat} (ha : a.Right) (h : c.Ok N) (hb : c.bytes) (hp : Pr q 600) :
    (c.ask q a).2.Ok (N + 96) ∧ Pr (c.ask q a).1 600 ∧ ∃ n, Reach c (c.ask q a).2 n := by
  obtain ⟨k, p, b, v⟩ := a
  rcases ha with ⟨hk, h1, h2⟩ | ⟨hk, h1, h2, h3, h4⟩ | ⟨hk, h1, h2⟩
  · simp only at hk h1 h2
    subst hk
    have hpa := hp p.toNat (by omega)
    have hb3 := bit_prob' c hpa.1 hpa.2 (v.toNat % 2)
    unfold RC.ask
    rw [if_pos rfl]
    exact ⟨(h.bit hpa.1 hpa.2 _).mono (by omega), hp.upd _ hb3.1 hb3.2, h.reach_bit hb hpa.1 hpa.2 _⟩
  · simp only at hk h1 h2 h3 h4
    obtain ⟨P, rfl⟩ := Int.eq_ofNat_of_zero_le h1
    obtain ⟨B, rfl⟩ := Int.eq_ofNat_of_zero_le (a := b) (by omega)
    have hP8 : 2 ^ B ≤ 256 := by
      have : 2 ^ B ≤ 2 ^ 8 := Nat.pow_le_pow_right (by decide) (by omega)
      omega
    have hpr : Pr (fun j => q (P + j)) (2 ^ B) := fun j hj => hp (P + j) (by omega)
    have hL : 2 ^ (1 + B) ≤ 2 * 2 ^ B := by rw [Nat.pow_add]; omega
    rcases hk with hk | hk
    · subst hk
      obtain ⟨g1, g2, g3⟩ := treeGo_keep B c (fun j => q (P + j)) 1 v.toNat N 1 (2 ^ B) h hb hpr (by decide) hL
      unfold RC.ask
      rw [if_neg (by show ¬ (1 : Int) = 0; decide), if_pos rfl]
      exact ⟨g1.mono (by omega), splice_pr hp g2, g3⟩
    · subst hk
      obtain ⟨g1, g2, g3⟩ := revGo_keep B 0 c (fun j => q (P + j)) 1 v.toNat N 1 (2 ^ B) h hb hpr (by decide) hL
      unfold RC.ask
      rw [if_neg (by show ¬ (2 : Int) = 0; decide), if_neg (by show ¬ (2 : Int) = 1; decide), if_pos rfl]
      exact ⟨g1.mono (by omega), splice_pr hp g2, g3⟩
  · simp only at hk h1 h2
    subst hk
    obtain ⟨g1, g2⟩ := strGo_keep b.toNat c v.toNat N h hb
    unfold RC.ask
    rw [if_neg (by show ¬ (3 : Int) = 0; decide), if_neg (by show ¬ (3 : Int) = 1; decide), if_neg (by show ¬ (3 : Int) = 2; decide)]
    exact ⟨g1.mono (by omega), hp, g2⟩

end Go.Proofs.Ytjnegcambbeblaa

/- The document's coder (05): Ask, told straight. -/
namespace Go.Proofs.Ytjnegcambbeblaa
open Go.RowKit

theorem str1_zero (c : RC) : c.str1 0 = c.part 0 (c.rng / 2) := rfl
theorem str1_one (c : RC) : c.str1 1 = c.part (c.rng / 2) (c.rng / 2) := rfl
def ESPost (A : Nat → Prop) (g : Nat) (w : World) (c : RC) (e : Ending) (w' : World) : Prop :=
  e = .returned (.tuple #[]) ∧ Fr (Out A) w w' ∧ EncC A g w' c
structure ESAt (A' : Nat → Prop) (g N : Nat) (W wr : World) (c1 : RC) : Prop where
  fr : Fr (Out A') W wr
  enc : EncC A' g wr c1
  ok : c1.Ok N
  by_ : c1.bytes
theorem ESAt.step {A' : Nat → Prop} {g N b : Nat} {W wr w1 : World} {c1 : RC} (h : ESAt A' g N W wr c1) (hf : Fr (Out A') wr w1) (he : EncC A' g w1 (c1.str1 b)) : ESAt A' g (N + 3) W w1 (c1.str1 b) := by
  obtain ⟨n, hn⟩ := h.ok.reach_str1 h.by_ b
  exact ⟨h.fr.trans hf, he, h.ok.str1 b, hn.4 h.by_⟩
set_option maxRecDepth 100000 in
set_option maxHeartbeats 8000000 in
theorem eask_3 (A : Nat → Prop) (g N B V : Nat) (pv : Value) (p : Int) (c : RC) (w : World) (h : EncC A g w c) (hok : c.Ok N) (hby : c.bytes) (hN : N ≤ 1073741000) (hB : B ≤ 32) :
    Calls Try.prog 125 #[.pointer (some ⟨g, 0, none⟩), pv, .agg #[.int .i64 3, .int .i64 p, .int .i64 B, .int .u32 V]] w (ESPost A g w (RC.strGo B c V)) := by
  have hnot := h.not
  obtain ⟨W, hW⟩ : ∃ W, W = w.alloc (.cells #[.int .i64 3, .int .i64 p, .int .i64 B, .int .u32 V] 192) := ⟨_, rfl⟩
  have hfw : Fr Non w W := by rw [hW]; exact (Fr.refl Non w).alloc _
  have ha : W.heap[w.heap.size]? = some (.cells #[.int .i64 3, .int .i64 p, .int .i64 B, .int .u32 V] 192) := by rw [hW]; exact blk_new w _
  have hlt := blk_lt ha
  obtain ⟨A', hA'⟩ : ∃ A', A' = Since A w W := ⟨_, rfl⟩
  have S0 := hid (show ESAt A' g N W W c from ⟨Fr.refl _ _, by rw [hA']; exact h.fresh hfw, hok, hby⟩)
  have hAa : A' w.heap.size := by rw [hA']; exact .inr ⟨Nat.le_refl _, hlt⟩
  have HAA := hid hAa
  have HLA := hid (show ∀ k, A k → A' k from fun k hk => by rw [hA']; exact .inl hk)
  have HFW := hid hfw
  have HA := hid ha
  have HW := hid hW
  clear h hok hby hA' hfw ha hlt hAa hW
  go_enter Try.func125, Try.ntmps125
  go_wp2_with fail
  rw [← HW.out]
  go_loopw [12] (fun iv wr => ∃ (k : Nat) (c1 : RC), k ≤ B ∧ iv = .int .i64 ((k : Int) - 1) ∧ RC.strGo k c1 V = RC.strGo B c V ∧ ESAt A' g (N + 3 * (B - k)) W wr c1)
    (fun iv _ => (intOf iv + 1).toNat)
  case atStart =>
    refine ⟨B, c, Nat.le_refl _, rfl, rfl, ?_⟩
    rw [Nat.sub_self]; exact S0.out
  case round =>
    obtain ⟨k, c1, hk, rfl, hgo, hst⟩ := hrel
    have ha := hst.fr.blk HA.out (fun e => e HAA.out)
    have a3 := blk_cell ha (j := 3) (v := .int .u32 V) rfl
    have hne : ¬ w.heap.size = g := fun e => hst.enc.not (by rw [← e]; exact HAA.out)
    have Hgo := hid hgo
    have ST := hid hst
    clear hgo hst ha
    by_cases hk0 : k = 0
    · subst hk0
      have hgo : c1 = RC.strGo B c V := Hgo.out
      have HG := hid hgo
      clear hgo
      go_wp2_with fail
      go_end0
      rw [← HG.out]
      exact ⟨rfl, HFW.out.any.then ST.out.fr (fun i _ e h => e (HLA.out i h)), ST.out.enc.less HLA.out⟩
    · obtain ⟨i, rfl⟩ := Nat.exists_eq_succ_of_ne_zero hk0
      rw [show ((i.succ : Nat) : Int) - 1 = (i : Int) by omega]
      obtain ⟨b, hb⟩ : ∃ b, b = V / 2 ^ i % 2 := ⟨_, rfl⟩
      have hb1 : b ≤ 1 := by omega
      have HBB := hid hb
      clear hb
      have hbv : ((V : Int) / 2 ^ i).tmod 2 = (b : Int) := by
        have e : ((V : Int) / 2 ^ i) = ((V / 2 ^ i : Nat) : Int) := by simp
        rw [e, Int.tmod_eq_emod_of_nonneg (Int.natCast_nonneg _), HBB.out]
        generalize V / 2 ^ i = x
        omega
      obtain ⟨v1, B1, hv1, q1⟩ := ST.out.enc
      have c1' := blk_cell hv1.at_ (j := 1) (v := .int .u64 c1.rng) rfl
      have f1' := blk_frozen hv1.at_ 1
      have o2 := ST.out.ok.rng0
      have o3 := ST.out.ok.rng1
      have hL : c1.len ≤ 1073741800 := by have := ST.out.ok.size; unfold RC.len; omega
      have hL0 : 0 < c1.len := by unfold RC.len; omega
      have HBE := hid (ST.out.ok.below ST.out.by_)
      clear hv1 q1
      have eB : N + 3 * (B - i.succ) + 3 = N + 3 * (B - i) := by omega
      have eG : RC.strGo i.succ c1 V = RC.strGo i (c1.str1 (V / 2 ^ i % 2)) V := rfl
      rcases Nat.le_one_iff_eq_zero_or_eq_one.1 hb1 with rfl | rfl
      · rw [← HBB.out] at eG
        have HGO := hid (show RC.strGo i (c1.str1 0) V = RC.strGo B c V from eG.symm.trans Hgo.out)
        clear eG
        go_wp2_with fail
        refine (elevel_any A' g c1.val c1.len (c1.rng / 2) _ (by exact enc_rng ST.out.enc _) (by omega) (by omega) (by omega)).mono ?_
        rintro e w1 ⟨rfl, hf1, k, he1, hk0, hk1⟩
        have HE := hid (enc_part ST.out.ok ST.out.by_ (a := 0) (r := c1.rng / 2) (Int.le_refl 0) (by omega) (by omega) (k := k) (by rw [Int.add_zero]; exact he1) hk0 hk1)
        have HS := hid (ST.out.step (b := 0) ((Fr.setCell (p := ⟨g, 1, none⟩) (Fr.refl (Out A') wr) (fun _ => ST.out.enc.not) _).trans hf1) HE.out)
        clear hf1 he1
        go_wp2_with fail
        go_roundw
        case rel => exact ⟨i, c1.str1 0, by omega, by go_num, HGO.out, by rw [← eB]; exact HS.out⟩
        case measure => simp [intOf]
      · rw [← HBB.out] at eG
        have HGO := hid (show RC.strGo i (c1.str1 1) V = RC.strGo B c V from eG.symm.trans Hgo.out)
        clear eG
        go_wp2_with fail
        refine (eadd_any A' g c1.val c1.len (c1.rng / 2) (c1.rng / 2) _ (by exact enc_rng ST.out.enc _) hL0 (by omega) (by omega) (by omega) (by have := HBE.out.1; omega)).mono ?_
        rintro e w1 ⟨rfl, hf1, he1⟩
        have HF1 := hid hf1
        have HE1 := hid he1
        clear hf1 he1
        go_wp2_with fail
        refine (elevel_any A' g (c1.val + c1.rng / 2) c1.len (c1.rng / 2) _ HE1.out (by omega) (by omega) (by omega)).mono ?_
        rintro e w2 ⟨rfl, hf2, k, he2, hk0, hk1⟩
        have HE := hid (enc_part ST.out.ok ST.out.by_ (a := c1.rng / 2) (r := c1.rng / 2) (by omega) (by omega) (by omega) (k := k) he2 hk0 hk1)
        have HS := hid (ST.out.step (b := 1) (((Fr.setCell (p := ⟨g, 1, none⟩) (Fr.refl (Out A') wr) (fun _ => ST.out.enc.not) _).trans HF1.out).trans hf2) HE.out)
        clear hf2 he2
        go_wp2_with fail
        go_roundw
        case rel => exact ⟨i, c1.str1 1, by omega, by go_num, HGO.out, by rw [← eB]; exact HS.out⟩
        case measure => simp [intOf]
end Go.Proofs.Ytjnegcambbeblaa

/- The document's walk through LZMA: a bit and bits told straight, over the document's coder. -/
namespace Go.Proofs.Ytjnegcambbeblaa
open Go.RowKit

/-- the document's coder beneath. -/
def cdrE (lo ge : Nat) : Cdr RC where
  lo := lo
  gd := none
  ev := .pointer (some ⟨ge, 0, none⟩)
  I := fun A w c => EncC (fun k => A k ∨ k < lo) ge w c ∧ (∀ k, A k → lo ≤ k ∧ k < w.heap.size) ∧ lo ≤ w.heap.size
  nb := fun c p b => if 31 ≤ p ∧ p ≤ 2017 then (b.toNat % 2, c.bit p (b.toNat % 2)) else (b.toNat % 2, p, c)
  ns := fun c k v => (v.toNat, RC.strGo k c v.toNat)
  bad := fun _ => false
  free := False
  fit := fun c n => ∃ N, c.Ok N ∧ c.bytes ∧ N + 3 * n ≤ 1073741000
theorem cdrE_ok (lo ge : Nat) : (cdrE lo ge).Ok where
  more := by
    rintro A w w' c T ⟨h1, h2, h3⟩ hf ht
    refine ⟨?_, ?_, Nat.le_trans h3 hf.size⟩
    · refine EncC.less (EncIs.more h1 hf (fun k hk e => .inl (ht k hk e))) (fun k hk => ?_)
      rcases hk with (hk | hk) | hk
      · exact .inl (.inl hk)
      · exact .inr hk
      · exact .inl (.inr hk)
    · rintro k (hk | hk)
      · exact ⟨(h2 k hk).1, Nat.lt_of_lt_of_le (h2 k hk).2 hf.size⟩
      · exact ⟨Nat.le_trans h3 hk.1, hk.2⟩
  old := fun A w c k h hk => h.2.1 k hk
  low := fun A w c h => h.2.2
  cell := fun A w c g h => by cases h
  nod := fun _ _ => rfl
  one := fun c p b _ => by
    show (if 31 ≤ p ∧ p ≤ 2017 then (b.toNat % 2, c.bit p (b.toNat % 2)) else (b.toNat % 2, p, c)).1 ≤ 1
    split
    · show b.toNat % 2 ≤ 1; omega
    · show b.toNat % 2 ≤ 1; omega
  echo := .inr (fun c p b h0 h1 => by
    have e : (if 31 ≤ p ∧ p ≤ 2017 then (b.toNat % 2, c.bit p (b.toNat % 2)) else (b.toNat % 2, p, c)).1 = b.toNat % 2 := by split <;> rfl
    show (((if 31 ≤ p ∧ p ≤ 2017 then (b.toNat % 2, c.bit p (b.toNat % 2)) else (b.toNat % 2, p, c)).1 : Nat) : Int) = b
    rw [e]
    omega)
  pr := fun c p b h0 h1 => by
    show 31 ≤ (if 31 ≤ p ∧ p ≤ 2017 then (b.toNat % 2, c.bit p (b.toNat % 2)) else (b.toNat % 2, p, c)).2.1 ∧ (if 31 ≤ p ∧ p ≤ 2017 then (b.toNat % 2, c.bit p (b.toNat % 2)) else (b.toNat % 2, p, c)).2.1 ≤ 2017
    rw [if_pos ⟨h0, h1⟩]
    exact bit_prob' c h0 h1 _
  slt := fun c n v _ h => by
    rcases h with h | ⟨h1, h2⟩
    · exact h.elim
    · show v.toNat < 2 ^ n
      have e : ((2 : Int) ^ n) = ((2 ^ n : Nat) : Int) := by simp
      rw [e] at h2
      omega
  fitB := by
    rintro c p b n ⟨N, h1, h2, h3⟩
    show ∃ M, (if 31 ≤ p ∧ p ≤ 2017 then (b.toNat % 2, c.bit p (b.toNat % 2)) else (b.toNat % 2, p, c)).2.2.Ok M ∧ (if 31 ≤ p ∧ p ≤ 2017 then (b.toNat % 2, c.bit p (b.toNat % 2)) else (b.toNat % 2, p, c)).2.2.bytes ∧ M + 3 * n ≤ 1073741000
    by_cases hp : 31 ≤ p ∧ p ≤ 2017
    · rw [if_pos hp]
      obtain ⟨k, hk⟩ := h1.reach_bit h2 hp.1 hp.2 (b.toNat % 2)
      exact ⟨N + 3, h1.bit hp.1 hp.2 _, hk.bytes h2, by omega⟩
    · rw [if_neg hp]
      exact ⟨N, h1, h2, by omega⟩
  fitS := by
    rintro c k v n ⟨N, h1, h2, h3⟩
    obtain ⟨k1, m, k2⟩ := strGo_keep k c v.toNat N h1 h2
    exact ⟨N + 3 * k, k1, k2.bytes h2, by omega⟩
  fitM := by
    rintro c n m hm ⟨N, h1, h2, h3⟩
    exact ⟨N, h1, h2, by omega⟩
set_option maxRecDepth 100000 in
set_option maxHeartbeats 1600000 in
theorem lzbitE_any {U : Nat → Prop} (lo ge : Nat) (K : Cdr RC) (hKe : K = cdrE lo ge) (g gp np cap : Nat) (s : LS) (c : RC) (k b : Nat) (w : World) (h : KIs K U g gp np cap w s c) (hk : k < np) (hb : b ≤ 1) (hfit : K.fit c 1) :
    Calls Try.prog 105 #[.pointer (some ⟨g, 0, none⟩), .int .i64 k, .int .i64 b] w (KPost K U g gp np cap (.int .i64 (kbit K s.P c k b).1) { s with P := (kbit K s.P c k b).2.1 } (kbit K s.P c k b).2.2 w) := by
  have hK : K.Ok := by rw [hKe]; exact cdrE_ok ..
  obtain ⟨A, v, h⟩ := h
  have hup := h.up hK
  have hpc := h.npcap
  have hpr := h.ok.pr k hk
  have hfew := h.ok.few
  have c5 := h.cellC 5 (x := .pointer (some ⟨ge, 0, none⟩)) (by rw [hKe]; rfl)
  have c6 := h.cellC 6 (x := .slice (some ⟨gp, 0, none⟩) np cap) rfl
  obtain ⟨cP, zP⟩ := h.prob hk
  have hco : EncC (fun k => A k ∨ k < lo) ge w c ∧ (∀ k, A k → lo ≤ k ∧ k < w.heap.size) ∧ lo ≤ w.heap.size := by
    have := h.co; rw [hKe] at this; exact this
  obtain ⟨p, hp⟩ : ∃ p, p = s.P k := ⟨_, rfl⟩
  rw [← hp] at cP hpr
  obtain ⟨y, hy⟩ : ∃ y, y = c.bit p b := ⟨_, rfl⟩
  have ey : kbit K s.P c k b = (b, upd s.P k y.1, y.2) := by
    unfold kbit
    rw [hy, ← hp, hKe]
    show ((if 31 ≤ p ∧ p ≤ 2017 then ((b : Int).toNat % 2, c.bit p ((b : Int).toNat % 2)) else ((b : Int).toNat % 2, p, c)).1, upd s.P k (if 31 ≤ p ∧ p ≤ 2017 then ((b : Int).toNat % 2, c.bit p ((b : Int).toNat % 2)) else ((b : Int).toNat % 2, p, c)).2.1, (if 31 ≤ p ∧ p ≤ 2017 then ((b : Int).toNat % 2, c.bit p ((b : Int).toNat % 2)) else ((b : Int).toNat % 2, p, c)).2.2) = _
    rw [if_pos hpr, show (b : Int).toNat % 2 = b by omega]
  rw [ey]
  have hyp := bit_prob' c hpr.1 hpr.2 b
  rw [← hy] at hyp
  obtain ⟨N, f1, f2, f3⟩ : ∃ N, c.Ok N ∧ c.bytes ∧ N + 3 * 1 ≤ 1073741000 := by rw [hKe] at hfit; exact hfit
  have HFI := hid (And.intro f1 (And.intro f2 f3))
  have H := hid h
  have HY := hid hy
  have HYP := hid hyp
  have HCO := hid hco
  have HUP := hid hup
  have HPR := hid hpr
  have HKE := hid hKe
  have HB := hid hb
  have hkcap : k < cap := by omega
  clear h hy hyp hco hup hpr hp ey hKe hpc hfit f1 f2 f3 hb
  go_enter Try.func105, Try.ntmps105
  go_wp2_with fail
  go_region_with (go_at_call 123; refine (ebit_any (fun k => A k ∨ k < lo) ge N c p b _ (EncC.any HCO.out.1 (by repeat (first | exact Fr.refl _ _ | refine Fr.drewN ?_ _ | refine Fr.drew ?_))) HFI.out.1 HFI.out.2.1 (by have := HFI.out.2.2; omega) HPR.out.1 HPR.out.2 HB.out).mono ?_; rintro e w1 ⟨rfl, hf1, h1⟩; rw [← HY.out] at h1 ⊢; have k6 := hf1.cell (p := ⟨g, 6, none⟩) (by exact c6) (fun e => e (.inl H.out.ag)); have kP := hf1.cell (p := ⟨gp, k, none⟩) (by exact cP) (fun e => e (.inl H.out.ap)); have zP1 := hf1.frozen (p := ⟨gp, k, none⟩) (by have := HUP.out; show gp < _; simpa using this.2.2.2.1) (by exact zP) (fun e => e (.inl H.out.ap)); have HF1 := hid (show Fr (Out (fun k => A k ∨ k < lo)) w w1 from (by first | exact hf1 | exact ((Fr.refl _ _).drew).trans hf1)); have HR1 := hid h1; clear hf1 h1)
  all_goals
    have hlo : K.lo = lo := by rw [HKE.out]; rfl
    have hnU : ∀ k, U k → A k := fun k e => (H.out.un k e).1
    have hact : KV K U A g gp np cap v w1 s y.2 := H.out.act (HF1.out.mono (fun k _ e q => e (.inl q))) (by
      rw [HKE.out]
      exact ⟨HR1.out, fun k hk => ⟨(HCO.out.2.1 k hk).1, Nat.lt_of_lt_of_le (HCO.out.2.1 k hk).2 HF1.out.size⟩, Nat.le_trans HCO.out.2.2 HF1.out.size⟩)
    have HRES := hid (show KPost K U g gp np cap (.int .i64 b) { s with P := upd s.P k y.1 } y.2 w (.returned (.int .i64 b)) (w1.setCell ⟨gp, k, none⟩ (.int .u16 y.1)) from
      ⟨rfl, Fr.then (b := w1) (HF1.out.mono (fun k _ e => ⟨by rw [hlo]; exact Nat.le_of_not_lt (fun q => e (.inr q)), fun q => e (.inl (hnU k q))⟩)) (T := fun k => k = gp) ((Fr.refl _ _).setOne _ _) (fun k _ e => by rw [e]; exact HUP.out.2.2.1), A, v, KV.setP hK hact HYP.out.1 HYP.out.2⟩)
    clear hact HR1 HF1 c5 c6 cP zP k6 kP zP1
    go_wp2_with fail
    go_ret
    exact HRES.out
end Go.Proofs.Ytjnegcambbeblaa

/- The document's walk through LZMA: a bit and bits told straight, over the document's decoder. -/
namespace Go.Proofs.Ytjnegcambbeblaa
open Go.RowKit

/-- the document's decoder over the n bytes f. -/
def cdrD (a : Option Addr) (n cap : Nat) (f : Nat → Int) (lo gd : Nat) : Cdr (RD Nat) where
  lo := lo
  gd := some gd
  ev := .pointer none
  I := fun A w c => RefIs a n cap f lo gd w c ∧ ¬ A gd ∧ ∀ k, A k → lo ≤ k ∧ k < w.heap.size
  nb := fun c p _ => c.bit (feedNx f n) p
  ns := fun c k _ => c.str (feedNx f n) k
  bad := fun c => c.bad
  free := True
  fit := fun _ _ => True
theorem cdrD_ok (a : Option Addr) (n cap : Nat) (f : Nat → Int) (lo gd : Nat) : (cdrD a n cap f lo gd).Ok where
  more := by
    rintro A w w' c T ⟨h1, h2, h3⟩ hf ht
    have hf' : Fr (fun k => T k ∧ k < w.heap.size) w w' := hf.mono fun k hk e => ⟨e, hk⟩
    have hlt := blk_lt h1.at_
    refine ⟨h1.keep hf' (fun e => h2 (ht _ e.2 e.1)) (fun k hk e => by have := (h3 k (ht _ e.2 e.1)).1; omega), fun e => ?_, fun k hk => ?_⟩
    · rcases e with e | e
      · exact h2 e
      · omega
    · rcases hk with e | e
      · have := h3 k e; have := hf.size; omega
      · have := h1.low; omega
  old := fun A w c k h hk => h.2.2 k hk
  low := fun A w c h => by show lo ≤ w.heap.size; have := h.1.low; have := blk_lt h.1.at_; omega
  cell := by
    rintro A w c g hg ⟨h1, _⟩
    injection hg with hg
    subst hg
    exact blk_cell h1.at_ (j := 4) rfl
  nod := fun h => by cases h
  one := fun c p b _ => bit_le _ _ _
  echo := .inl trivial
  pr := fun c p b h0 h1 => bit_prob _ _ _ h0 h1
  slt := fun c n v _ _ => str_lt' _ _ _
  fitB := fun _ _ _ _ _ => trivial
  fitS := fun _ _ _ _ _ => trivial
  fitM := fun _ _ _ _ _ => trivial
set_option maxRecDepth 100000 in
set_option maxHeartbeats 1600000 in
theorem lzbit_any {U : Nat → Prop} (a : Option Addr) (n capd : Nat) (f : Nat → Int) (hf : ∀ i, i < n → 0 ≤ f i ∧ f i < 256) (hn : n ≤ 1048576) (lo gd : Nat) (K : Cdr (RD Nat)) (hKe : K = cdrD a n capd f lo gd) (g gp np cap : Nat) (s : LS) (c : RD Nat) (k : Nat) (b : Int) (w : World) (h : KIs K U g gp np cap w s c) (hk : k < np) :
    Calls Try.prog 105 #[.pointer (some ⟨g, 0, none⟩), .int .i64 k, .int .i64 b] w (KPost K U g gp np cap (.int .i64 (kbit K s.P c k b).1) { s with P := (kbit K s.P c k b).2.1 } (kbit K s.P c k b).2.2 w) := by
  have hK : K.Ok := by rw [hKe]; exact cdrD_ok ..
  obtain ⟨A, v, h⟩ := h
  have hup := h.up hK
  have hpc := h.npcap
  have hpr := h.ok.pr k hk
  have hfew := h.ok.few
  have c4 := h.cellC 4 (x := .pointer (some ⟨gd, 0, none⟩)) (by rw [hKe]; rfl)
  have c5 := h.cellC 5 (x := .pointer none) (by rw [hKe]; rfl)
  have c6 := h.cellC 6 (x := .slice (some ⟨gp, 0, none⟩) np cap) rfl
  obtain ⟨cP, zP⟩ := h.prob hk
  have hco : RefIs a n capd f lo gd w c ∧ ¬ A gd ∧ ∀ k, A k → lo ≤ k ∧ k < w.heap.size := by
    have := h.co; rw [hKe] at this; exact this
  have hne : g ≠ gd := fun e => hco.2.1 (e ▸ h.ag)
  have hnp : gp ≠ gd := fun e => hco.2.1 (e ▸ h.ap)
  obtain ⟨p, hp⟩ : ∃ p, p = s.P k := ⟨_, rfl⟩
  rw [← hp] at cP hpr
  obtain ⟨y, hy⟩ : ∃ y, y = c.bit (feedNx f n) p := ⟨_, rfl⟩
  have ey : kbit K s.P c k b = (y.1, upd s.P k y.2.1, y.2.2) := by
    unfold kbit
    rw [hy, hp, hKe]
    rfl
  rw [ey]
  have hyp := bit_prob (feedNx f n) c p hpr.1 hpr.2
  rw [← hy] at hyp
  have H := hid h
  have HY := hid hy
  have HYP := hid hyp
  have HCO := hid hco
  have HUP := hid hup
  have HF := hid hf
  have HPR := hid hpr
  have HKE := hid hKe
  have hkcap : k < cap := by omega
  clear h hy hyp hco hup hf hpr hp ey hKe hpc
  go_enter Try.func105, Try.ntmps105
  go_wp2_with fail
  go_region_held3 (fun wx => wx.cell? ⟨g, 4, none⟩ = some (.pointer (some ⟨gd, 0, none⟩)) ∧ wx.cell? ⟨g, 6, none⟩ = some (.slice (some ⟨gp, 0, none⟩) np cap) ∧ wx.cell? ⟨gp, k, none⟩ = some (.int .u16 p)) (first | (show World.cell? w1 _ = _ ∧ _; exact ⟨hf1.cell (by exact c4) hne, hf1.cell (by exact c6) hne, hf1.cell (by exact cP) hnp⟩) | go_keep) (first
    | (go_at_call 124; refine (rbit_any a n capd f HF.out lo gd c p _ hn (HCO.out.1.drewN _) (by have := HPR.out; omega) (by have := HPR.out; omega)).mono ?_; rintro e w1 ⟨rfl, hf1, h1⟩))
  all_goals
    have k6 := hf1.cell (p := ⟨g, 6, none⟩) (by exact c6) hne
    have kP := hf1.cell (p := ⟨gp, k, none⟩) (by exact cP) hnp
    have zP1 := hf1.frozen (p := ⟨gp, k, none⟩) (by have := HUP.out; show gp < _; simpa using this.2.2.2.1) (by exact zP) hnp
    have HF1 := hid hf1
    have HR1 := hid h1
    rw [← HY.out] at HR1 ⊢
    clear hf1 h1 c4 c5 c6 cP zP
    go_wp2_with fail
    go_ret
    have hlo : K.lo = lo := by rw [HKE.out]; rfl
    have h0 := H.out.quiet hK ((Fr.refl Non w).drewN 1) (by simp)
    have hnA := HCO.out.2.1
    have hlow := HCO.out.1.low
    have hnU : ¬ U gd := fun e => hnA (H.out.un gd e).1
    refine ⟨rfl, ?_, _, v, KV.setP hK (h0.act (HF1.out.mono (fun k _ e q => hnA (by rw [← show k = gd from e]; exact q))) ?_) HYP.out.1 HYP.out.2⟩
    · refine Fr.then (b := w1) ?_ (T := fun k => k = gp) ((Fr.refl _ _).setOne _ _) (fun k _ e => by rw [e]; exact HUP.out.2.2.1)
      exact (((Fr.refl Non w).drewN 1).mono (fun _ _ e => e.elim)).trans (HF1.out.mono (fun k _ e => by rw [show k = gd from e]; exact ⟨by rw [hlo]; exact hlow, hnU⟩))
    · rw [HKE.out]
      exact ⟨HR1.out, hnA, fun k hk => ⟨(HCO.out.2.2 k hk).1, Nat.lt_of_lt_of_le (HCO.out.2.2 k hk).2 (Nat.le_trans (by simp) HF1.out.size)⟩⟩
set_option maxRecDepth 100000 in
set_option maxHeartbeats 1600000 in
theorem lzstr_any {U : Nat → Prop} (a : Option Addr) (n capd : Nat) (f : Nat → Int) (hf : ∀ i, i < n → 0 ≤ f i ∧ f i < 256) (hn : n ≤ 1048576) (lo gd : Nat) (K : Cdr (RD Nat)) (hKe : K = cdrD a n capd f lo gd) (g gp np cap : Nat) (s : LS) (c : RD Nat) (B : Nat) (x : Int) (w : World) (h : KIs K U g gp np cap w s c) (hB : B ≤ 30) :
    Calls Try.prog 110 #[.pointer (some ⟨g, 0, none⟩), .int .i64 B, .int .u32 x] w (KPost K U g gp np cap (.int .u32 (K.ns c B x).1) s (K.ns c B x).2 w) := by
  have hK : K.Ok := by rw [hKe]; exact cdrD_ok ..
  obtain ⟨A, v, h⟩ := h
  have c4 := h.cellC 4 (x := .pointer (some ⟨gd, 0, none⟩)) (by rw [hKe]; rfl)
  have c5 := h.cellC 5 (x := .pointer none) (by rw [hKe]; rfl)
  have hco : RefIs a n capd f lo gd w c ∧ ¬ A gd ∧ ∀ k, A k → lo ≤ k ∧ k < w.heap.size := by
    have := h.co; rw [hKe] at this; exact this
  obtain ⟨y, hy⟩ : ∃ y, y = c.str (feedNx f n) B := ⟨_, rfl⟩
  have ey : K.ns c B x = y := by
    rw [hy, hKe]
    rfl
  rw [ey]
  have H := hid h
  have HY := hid hy
  have HCO := hid hco
  have HF := hid hf
  have HKE := hid hKe
  clear h hy hco hf ey hKe
  go_enter Try.func110, Try.ntmps110
  go_wp2_with fail
  refine (rstr_any a n capd f HF.out lo gd B c _ hn HCO.out.1 (by omega)).mono ?_
  rintro e w1 ⟨rfl, hf1, h1⟩
  rw [← HY.out] at h1 ⊢
  have HF1 := hid hf1
  have HR1 := hid h1
  clear hf1 h1
  go_wp2_with fail
  go_ret
  have hlo : K.lo = lo := by rw [HKE.out]; rfl
  have hnA := HCO.out.2.1
  have hlow := HCO.out.1.low
  have hnU : ¬ U gd := fun e => hnA (H.out.un gd e).1
  refine ⟨rfl, HF1.out.mono (fun k _ e => by rw [show k = gd from e]; exact ⟨by rw [hlo]; exact hlow, hnU⟩), A, v, H.out.act (HF1.out.mono (fun k _ e q => hnA (by rw [← show k = gd from e]; exact q))) ?_⟩
  rw [HKE.out]
  exact ⟨HR1.out, hnA, fun k hk => ⟨(HCO.out.2.2 k hk).1, Nat.lt_of_lt_of_le (HCO.out.2.2 k hk).2 HF1.out.size⟩⟩
theorem cdrD_good (a : Option Addr) (n capd : Nat) (f : Nat → Int) (hf : ∀ i, i < n → 0 ≤ f i ∧ f i < 256) (hn : n ≤ 1048576) (lo gd : Nat) : (cdrD a n capd f lo gd).Good where
  ok := cdrD_ok ..
  bit := fun _ g gp np cap s c k b w h hk _ _ => lzbit_any a n capd f hf hn lo gd _ rfl g gp np cap s c k b w h hk
  str := fun _ g gp np cap s c B x w h hB _ _ _ => lzstr_any a n capd f hf hn lo gd _ rfl g gp np cap s c B x w h hB
end Go.Proofs.Ytjnegcambbeblaa
