/- Texts of this proof, one behind the other. -/
import Derived.Test.YtjnegcambbeblaaMg17
import Derived.Test.YtjnegcambbeblaaMg03
import Derived.Test.YtjnegcambbeblaaMg13
import Derived.Test.YtjnegcambbeblaaMg15

/- lzma2: Unpack's walk. -/
namespace Go.Proofs.Ytjnegcambbeblaa
open Go.RowKit

set_option maxRecDepth 100000 in
theorem dict2_bad (p : Nat) (hp : 40 < p) (hp2 : p < 256) (w : World) : Calls Try.prog 45 #[.int .u8 p] w fun e w' => e = .returned (.tuple #[.int .i64 0, .int .i64 11]) ∧ w = w' := by
  have h1 : (40 : Int) < (p : Int) := by omega
  have h2 : (p : Int) < 256 := by omega
  go_enter Try.func45, Try.ntmps45
  go_wp2_with fail
  go_ret2
  exact ⟨rfl, rfl⟩
theorem Own.high {w : World} {e : TypeId} {v : Value} {xs : List Int} (h : Own w 0 .u8 e v xs) {B : Nat} (hB : ∀ b, v.ownBlock = some b → B ≤ b) : Own w B .u8 e v xs := by
  obtain ⟨h1, h2 | ⟨g, cap, cur, hv, hg, r⟩⟩ := h
  · exact ⟨h1, .inl h2⟩
  · exact ⟨h1, .inr ⟨g, cap, cur, hv, hB g (by rw [hv]; rfl), r⟩⟩
set_option maxRecDepth 100000 in
set_option maxHeartbeats 800000 in
theorem l2unpack_any (gm : Nat) (m : MS) (p : Nat) (hp : p ≤ 40) (x : Int) (size : Nat) (hx : x.toNat = size) (a : Option Addr) (n c : Nat) (f : Nat → Int) (hf : ∀ i, i < n → 0 ≤ f i ∧ f i < 256) (w : World) (N : Nat) (hN : N = wsize (min (set2 p).dict x))
    (h : MAt w gm m) (hok : m.Ok) (hs : x ≤ 5000) (hs0 : -9223372036854775808 ≤ x) (hn : n ≤ 20000) (hnc : n ≤ c) (hnil : a = none → c = 0) (hr : RowIn w.heap.size .u8 w a n f)
    (h1 : (m.mem (set2 p).need).1 = true) (h2 : ((m.mem (set2 p).need).2.mem N).1 = true) :
    Calls Try.prog 38 #[.slice a n c, .int .u8 p, .int .i64 x, .pointer (some ⟨gm, 0, none⟩)] w (LUnPost gm (l2unpack (feedNx f n) 0 p N size) (lmet m (set2 p) N) w) := by
  obtain ⟨R, hR⟩ : ∃ R, R = l2unpack (feedNx f n) 0 p N size := ⟨_, rfl⟩
  rw [← hR]
  unfold l2unpack at hR
  have hpn : (set2 p).need ≤ 200000 := by
    have hp' := set2_light hp
    have := hp'.nl_le
    have hm : (set2 p).may = true := Lset.may_iff.2 hp'.may
    have hprob : (set2 p).probs = 1847 + (set2 p).nl := by unfold Lset.probs Lset.nl; rw [if_pos hm]
    unfold Lset.need
    omega
  have HR := hid hR
  have HX := hid hx
  have HM := hid h
  have HMO := hid hok
  have HROW := hid hr
  have HNIL := hid hnil
  have HC := hid hnc
  have HM1 := hid h1
  have HM2 := hid h2
  have Hf := hid hf
  have HPN := hid hpn
  have hgm : gm < w.heap.size := blk_lt h
  have HGM := hid hgm
  have hx5 : size ≤ 5000 := by omega
  have CNEW := hid (l2new_any gm m p x w N hN h hok hp (by omega) hs0 h1 h2)
  obtain ⟨T, hT⟩ : ∃ T, T = (set2 p).need := ⟨_, rfl⟩
  have HT0 := hid hT
  clear hR hx hN h hok hr hnil hnc h1 h2 hf hgm hpn hs0 hs hT
  go_enter_defers Try.func38, Try.ntmps38
  go_wp2_with fail
  refine CNEW.out.mono ?_
  rintro e w1 ⟨L, g, rfl, hf1, hm1, hl1, hLgm, hLn, hLnl, hLf, hnew, hgs⟩
  have HLN := hid hLn
  have HLG := hid hLgm
  have HLNL := hid hLnl
  have HGS := hid hgs
  have HLF := hid hLf
  have hg0 : w.heap.size < g := by have := hLf L.gd (.inl rfl); omega
  have HG0 := hid hg0
  have F1 := hid hf1
  have hs1 := hf1.size
  have M1 := hid hm1
  have L1 := hid hl1
  have N1 := hid hnew
  clear hf1 hm1 hl1 hLgm hLn hLnl hLf hnew hgs hg0
  go_wp2_with fail
  refine (newFeed_any a n c f w1 (by omega) HC.out HNIL.out (by exact (HROW.out.meter HM.out F1.out).mono hs1)).mono ?_
  intro e w2 hq
  obtain ⟨fg, fa, fc, rfl, hf2, hi2, hl2⟩ := feedNew_q _ _ _ Hf.out (by omega) _ _ hq
  obtain ⟨t, ht⟩ : ∃ t, t = feed fg fa n fc f Hf.out := ⟨_, rfl⟩
  have HT := hid (show Value.iface 45 (.pointer (some ⟨fg, 0, none⟩)) = Value.iface t.ty t.val from by rw [ht]; rfl)
  have HTN := hid (show t.nx = feedNx f n from by rw [ht]; rfl)
  rw [← ht] at hi2 hl2
  have HI2 := hid hi2
  have HL2 := hid hl2
  have F2 := hid (F1.out.trans hf2.any)
  have M2 := hid (show MAt w2 gm _ from hf2.blk M1.out id)
  have LI2 := hid (L1.out.keep hf2 (fun _ _ e => e))
  have N2 := hid (show L2New L p g w2 from hf2.blk N1.out id)
  have hs2 := hf2.size
  clear hq hf2 hi2 hl2 ht
  go_wp2_with fail
  rw [HT.out]
  refine (l2begin_any L t g p 0 w2 N2.out LI2.out HI2.out (fun e => by have := (HLF.out g e).2; omega) (fun e => by have := (HL2.out g e).1; have := HGS.out; omega) (fun k hk e => by have := (HLF.out k hk).2; have := (HL2.out k e).1; have := HGS.out; omega) HLNL.out).mono ?_
  rintro e w3 ⟨rfl, hf3, hat3⟩
  have hs3 := hf3.size
  have F3 := hid (F2.out.then hf3 (fun k hk e => by have e' : k = g := e; have := HG0.out; omega))
  have M3 := hid (show MAt w3 gm _ from hf3.blk M2.out (fun e => by have e' : gm = g := e; have := HG0.out; have := HGM.out; omega))
  obtain ⟨z0, hz0⟩ : ∃ z, z = l2start p 0 := ⟨_, rfl⟩
  have HLT := hid (show ∀ k, L2.foot L t g k → w.heap.size < k ∧ k < w3.heap.size from by
    have := HGS.out
    have := HG0.out
    rintro k (e | e | e)
    · rw [e]; omega
    · have := HLF.out k e; omega
    · have := HL2.out k e; omega)
  have IS3 := hid (L2Is.none_ (F := L2.foot L t g) (fun k hk => (HLT.out k hk).2) (fun _ e => e) rfl hat3 (.inl rfl))
  rw [← hz0] at IS3
  have hR := HR.out
  rw [← hz0] at hR
  have HRR := hid hR
  have HINV := hid (l2run_inv (feedNx f n) L z0 (by rw [hz0]; exact l2start_inv p 0 L))
  have HPLA := hid (l2run_place (feedNx f n) L z0)
  have HPL0 := hid (show z0.c.place = 0 by rw [hz0]; rfl)
  have HTK := hid (show ∀ k, (l2run (feedNx f n) L z0 k).c.taken = T from fun k => by rw [l2run_taken, hz0, HT0.out]; rfl)
  have HX2 := hid (show ∀ k : Nat, ((k : Int) < x ↔ k < size) from fun k => by have := HX.out; omega)
  clear hf3 hat3 hz0 hR
  go_wp2_with fail
  go_loopw [12] (fun v wr => ∃ k F, k ≤ size ∧ (∀ i, i < k → l2has (feedNx f n) L z0 i = true) ∧ L2Is L t g F wr (l2run (feedNx f n) L z0 k) ∧ (∀ i, F i → w.heap.size < i) ∧ (∀ b, v.ownBlock = some b → w3.heap.size ≤ b ∧ ¬ F b) ∧ Own wr 0 .u8 5 v (l2bytes (feedNx f n) L z0 k) ∧ Fr (fun k => k = gm) w wr ∧ MAt wr gm ((m.mem (set2 p).need).2.mem N).2 ∧ w3.heap.size ≤ wr.heap.size) (fun v _ => size - lenV v)
  case atStart => exact ⟨0, _, Nat.zero_le _, (fun i hi => by omega), IS3.out, (fun i hi => (HLT.out i hi).1), (fun b hb => by cases hb), Own.nil _ _ _ _, F3.out, M3.out, Nat.le_refl _⟩
  case round =>
    obtain ⟨k, F, hk, hks, his, hFlo, hFown, hown, hfr, hmt, hwz⟩ := hrel
    have HKS := hid hks
    have HIS := hid his
    have HFLO := hid hFlo
    have HOW := hid hown
    have HFW := hid hfr
    have HMT := hid hmt
    have hlv := hown.lenV
    rw [l2bytes_len] at hlv
    have HLV := hid hlv
    obtain ⟨ra, rc, hva, hrc, hrm, hrw⟩ := hown.rowN (l2bytes_len _ _ _ _)
    have HZ := hid (show ra = none → rc = 0 from fun e => by
      subst e
      have h2 := hown.2
      rcases h2 with ⟨h3, h4⟩ | ⟨g, cap, cur, hv, hg, r⟩
      · rw [hva] at h3; injection h3
      · rw [hva] at hv; injection hv with e1 e2 e3; cases e1)
    have HSEP := hid (fun b hb => (hFown b hb).2)
    have HBL := hid (fun b hb => (hFown b hb).1)
    clear hks his hFlo hFown hown hfr hmt hlv hrm hrw
    subst hva
    have C1 := l2next_any L t g F _ wr HIS.out (HINV.out k).good (by have := HPLA.out k; have := HPL0.out; omega)
    rw [HTN.out] at C1
    have C1 := hid C1
    by_cases hlt : k < size
    · have hlx : (k : Int) < x := (HX2.out k).2 hlt
      obtain ⟨ok, hok⟩ : ∃ ok, ok = l2has (feedNx f n) L z0 k := ⟨_, rfl⟩
      obtain ⟨b, hb⟩ : ∃ b, b = l2at (feedNx f n) L z0 k := ⟨_, rfl⟩
      go_wp2_with fail
      refine C1.out.mono ?_
      rintro e w5 ⟨rfl, hf5, his5⟩
      rw [show ((l2run (feedNx f n) L z0 k).next (feedNx f n) L).1.2 = ok from hok.symm, show ((l2run (feedNx f n) L z0 k).next (feedNx f n) L).1.1 = b from hb.symm]
      have HF5 := hid hf5
      have IS5 := hid (show L2Is L t g (L2F F wr w5) w5 (l2run (feedNx f n) L z0 (k + 1)) from his5)
      have hs5 := hf5.size
      have hw03 : w.heap.size ≤ w3.heap.size := F3.out.size
      have FW5 := hid (HFW.out.then hf5 (fun i hi e => by have := HFLO.out i e; omega))
      have M5 := hid (show MAt w5 gm _ from hf5.blk HMT.out (fun e => by have := HFLO.out _ e; have := HGM.out; omega))
      have HO5 := hid (HOW.out.fr HF5.out HSEP.out)
      have HFLO5 := hid (show ∀ i, L2F F wr w5 i → w.heap.size < i from by
        have := HLT.out g (.inl rfl)
        rintro i (e | e)
        · exact HFLO.out i e
        · omega)
      have HSEP5 := hid (show ∀ b, (Value.slice ra k rc).ownBlock = some b → ¬ L2F F wr w5 b from by
        rintro b hb (e | e)
        · exact HSEP.out b hb e
        · have := (HOW.out.block b hb).2; omega)
      have HOK := hid hok
      have HB := hid hb
      clear hf5 his5 hok hb C1
      cases ok with
      | true =>
        go_wp2_with (refine opGrow1 (some 45) rfl rfl (.tmp 42) (.tmp 44) 30 rfl .u8 5 1 Try.underlying30 Try.info_u8q _ _ rfl (by exact HO5.out.alloc _) ⟨_, 0, none⟩ 1 _ rfl (cell_new1 _ _ _) (by decide) (by rw [l2bytes_len]; omega) ?_; intro v' w6 hown6 hg6 hwhere)
        have hs6 := hg6.size
        simp at hs6
        have HL := hid HOW.out.block
        have HF6 := hid (Fr.grown (FW5.out.alloc _) hg6 (fun b hb hlt => by have := HBL.out b hb; omega))
        have H6 := hid (IS5.out.keep (Fr.grown ((Fr.refl (fun b => (Value.slice ra k rc).ownBlock = some b) w5).alloc _) hg6 (fun b hb _ => hb)) (fun b hb e => HSEP5.out b e hb))
        have M6 := hid (show MAt w6 gm _ from (Fr.grown ((Fr.refl (fun b => (Value.slice ra k rc).ownBlock = some b) w5).alloc _) hg6 (fun b hb _ => hb)).blk M5.out (fun e => by have := HBL.out _ e; have := HGM.out; omega))
        rw [HB.out, ← l2bytes_snoc] at hown6
        have HO6 := hid hown6
        have hlv6 := hown6.lenV
        rw [l2bytes_len] at hlv6
        have HLV6 := hid hlv6
        have HKS' := hid (show ∀ i, i < k + 1 → l2has (feedNx f n) L z0 i = true from fun i hi => by
          by_cases e : i = k
          · rw [e]; exact HOK.out.symm
          · exact HKS.out i (by omega))
        have HW6 := hid (show ∀ b, v'.ownBlock = some b → w3.heap.size ≤ b ∧ ¬ L2F F wr w5 b from fun b hb => by
          rcases hwhere with e | e
          · rw [e] at hb
            exact ⟨HBL.out b hb, HSEP5.out b hb⟩
          · rw [e] at hb
            injection hb with hb
            simp at hb
            refine ⟨by omega, fun e => ?_⟩
            have := IS5.out.1 b e
            omega)
        clear hown6 hg6 hlv6 hwhere
        go_roundw
        case rel => exact ⟨k + 1, _, by omega, HKS'.out, H6.out, HFLO5.out, HW6.out, HO6.out, HF6.out, M6.out, by omega⟩
        case measure =>
          rw [HLV.out, HLV6.out]
          omega
      | false =>
        go_wp2_with fail
        refine l2un_door w3.heap.size IS5.out M5.out (MS.mem_ok (MS.mem_ok HMO.out _) _) (T := T) (HTK.out (k + 1)) (by have := HPN.out; have := HT0.out; omega) HLG.out HLN.out (by rw [HT0.out]; rfl) FW5.out (fun j hj => HLT.out j (.inr (.inl hj))) (HLT.out g (.inl rfl)) (fun W => Eq.trans (results_tmp2 rfl _ _ W) rfl) (.inl ⟨?_, rfl, rfl⟩) hw03 HGM.out
        rw [HRR.out, if_neg]
        intro e
        have e1 := List.all_eq_true.1 e.1 k (List.mem_range.2 hlt)
        rw [← HLN.out, ← l2has_of, ← HOK.out] at e1
        cases e1
    · have e : k = size := by omega
      subst e
      have hlx : ¬ (k : Int) < x := fun e => hlt ((HX2.out k).1 e)
      have C2 := l2finish_any L t g F _ wr HIS.out (HINV.out k).en
      rw [HTN.out] at C2
      obtain ⟨fb, hfb⟩ : ∃ b, b = (l2run (feedNx f n) L z0 k).finish (feedNx f n) := ⟨_, rfl⟩
      rw [← hfb] at C2
      have C2 := hid C2
      have HFE := hid hfb
      have HTKK := hid (HTK.out k)
      clear hfb C1
      go_wp2_with fail
      refine C2.out.mono ?_
      rintro e w5 ⟨rfl, hf5, z5, his5, hzt, _⟩
      have HZT := hid (hzt.trans HTKK.out)
      have HF5 := hid hf5
      have IS5 := hid his5
      have hs5 := hf5.size
      have FW5 := hid (HFW.out.then hf5 (fun i hi e => by have := HFLO.out i e; omega))
      have M5 := hid (show MAt w5 gm _ from hf5.blk HMT.out (fun e => by have := HFLO.out _ e; have := HGM.out; omega))
      have HO5 := hid (HOW.out.fr HF5.out HSEP.out)
      have hw03 : w.heap.size ≤ w3.heap.size := F3.out.size
      clear hf5 his5 hzt
      cases fb with
      | true =>
        go_wp2_with fail
        refine l2un_door w3.heap.size IS5.out M5.out (MS.mem_ok (MS.mem_ok HMO.out _) _) (T := T) HZT.out (by have := HPN.out; have := HT0.out; omega) HLG.out HLN.out (by rw [HT0.out]; rfl) FW5.out (fun j hj => HLT.out j (.inr (.inl hj))) (HLT.out g (.inl rfl)) (fun W => Eq.trans (results_tmp2 rfl _ _ W) rfl) (.inr ⟨l2bytes (feedNx f n) L z0 k, ?_, rfl, ?_⟩) hw03 HGM.out
        · rw [HRR.out, if_pos]
          · congr 1
            unfold l2bytes
            exact List.map_congr_left (fun i _ => by rw [← HLN.out, ← l2at_of])
          · refine ⟨List.all_eq_true.2 (fun i hi => ?_), ?_⟩
            · rw [← HLN.out, ← l2has_of]
              exact HKS.out i (List.mem_range.1 hi)
            · rw [← HLN.out, ← l2run_of, ← HFE.out]
        · exact (HO5.out.high HBL.out).rowO
      | false =>
        go_wp2_with fail
        refine l2un_door w3.heap.size IS5.out M5.out (MS.mem_ok (MS.mem_ok HMO.out _) _) (T := T) HZT.out (by have := HPN.out; have := HT0.out; omega) HLG.out HLN.out (by rw [HT0.out]; rfl) FW5.out (fun j hj => HLT.out j (.inr (.inl hj))) (HLT.out g (.inl rfl)) (fun W => Eq.trans (results_tmp2 rfl _ _ W) rfl) (.inl ⟨?_, rfl, rfl⟩) hw03 HGM.out
        rw [HRR.out, if_neg]
        intro e
        have e1 := e.2
        rw [← HLN.out, ← l2run_of, ← HFE.out] at e1
        cases e1
end Go.Proofs.Ytjnegcambbeblaa

/- lzma2: Unpack by much memory; awake (11). -/
namespace Go.Proofs.Ytjnegcambbeblaa
open Go.RowKit

theorem set2_need_le {p : Nat} (hp : p ≤ 40) : (set2 p).need ≤ 200000 := by
  have hp' := set2_light hp
  have := hp'.nl_le
  have hm : (set2 p).may = true := Lset.may_iff.2 hp'.may
  have hprob : (set2 p).probs = 1847 + (set2 p).nl := by unfold Lset.probs Lset.nl; rw [if_pos hm]
  unfold Lset.need
  omega
def L2MPost (R : Option (List Int)) (W : World) (e : Ending) (w' : World) : Prop :=
  Fr Non W w' ∧ ((R = none ∧ e = .returned (.tuple #[.slice none 0 0, .int .i64 12])) ∨ (∃ xs v, R = some xs ∧ e = .returned (.tuple #[v, .int .i64 0]) ∧ RowO w' W.heap.size v xs))
theorem l2unpack_much (p : Nat) (hp : p ≤ 40) (x : Int) (size : Nat) (hx : x.toNat = size) (a : Option Addr) (n c : Nat) (f : Nat → Int) (hf : ∀ i, i < n → 0 ≤ f i ∧ f i < 256) (gm : Nat) (W w : World) (N : Nat) (hN : N = wsize (min (set2 p).dict x))
    (hW : Fr Non W w) (hgW : W.heap.size ≤ gm) (h : MAt w gm MUCH) (hs : x ≤ 5000) (hs0 : -9223372036854775808 ≤ x) (hn : n ≤ 20000) (hnc : n ≤ c) (hnil : a = none → c = 0) (hr : RowIn w.heap.size .u8 w a n f) :
    Calls Try.prog 38 #[.slice a n c, .int .u8 p, .int .i64 x, .pointer (some ⟨gm, 0, none⟩)] w (L2MPost (l2unpack (feedNx f n) 0 p N size) W) := by
  have hd := dict2_le p (by omega)
  have hM := much_mem (a := (set2 p).need) (b := N) (set2_need_le hp) (by subst hN; unfold wsize; omega)
  refine (l2unpack_any gm MUCH p hp x size hx a n c f hf w N hN h MUCH_ok hs hs0 hn hnc hnil hr hM.1 hM.2).mono ?_
  rintro e w' ⟨h1, h2, h3, h4⟩
  refine ⟨hW.then h1 (fun i hi e => by have e' : i = gm := e; omega), ?_⟩
  rcases h4 with h4 | ⟨xs, v, h5, h6, h7⟩
  · exact .inl h4
  · exact .inr ⟨xs, v, h5, h6, h7.low hW.size⟩
def aw11a : Nat → Int := fun i => [1, 0, 1, 97, 98, 0].getD i 0
def aw11b : Nat → Int := fun i => [2, 0, 0, 97, 0].getD i 0
theorem aw11_yes : l2unpack (feedNx aw11a 6) 0 0 2 2 = some [97, 98] := by kernel_rfl
theorem aw11_no : l2unpack (feedNx aw11b 5) 0 0 1 1 = none := by kernel_rfl
theorem aw11_one (b gm : Nat) (W w : World) (hW : Fr Non W w) (hgW : W.heap.size ≤ gm) (hb : w.heap[b]? = some (.cells #[.int .u8 1, .int .u8 0, .int .u8 1, .int .u8 97, .int .u8 98, .int .u8 0] 5)) (hm : MAt w gm MUCH) :
    Calls Try.prog 38 #[.slice (some ⟨b, 0, none⟩) 6 6, .int .u8 0, .int .i64 2, .pointer (some ⟨gm, 0, none⟩)] w
      fun e w' => ∃ v, e = .returned (.tuple #[v, .int .i64 0]) ∧ Fr Non W w' ∧ RowO w' W.heap.size v [97, 98] := by
  refine (l2unpack_much 0 (by decide) 2 2 rfl _ 6 6 aw11a (by decide) gm W w 2 (by decide) hW hgW hm (by decide) (by decide) (by decide) (by decide) (fun e => by cases e)
    (.inr ⟨b, 0, rfl, blk_lt hb, fun i hi => blk_cell hb (by rw [Nat.zero_add]; match i, hi with | 0, _ => rfl | 1, _ => rfl | 2, _ => rfl | 3, _ => rfl | 4, _ => rfl | 5, _ => rfl)⟩)).mono ?_
  rintro e w' ⟨h1, h4⟩
  rw [aw11_yes] at h4
  rcases h4 with ⟨h5, _⟩ | ⟨xs, v, h5, h6, h7⟩
  · cases h5
  · injection h5 with h5
    subst h5
    exact ⟨v, h6, h1, h7⟩
theorem aw11_two (b gm : Nat) (W w : World) (hW : Fr Non W w) (hgW : W.heap.size ≤ gm) (hb : w.heap[b]? = some (.cells #[.int .u8 2, .int .u8 0, .int .u8 0, .int .u8 97, .int .u8 0] 5)) (hm : MAt w gm MUCH) :
    Calls Try.prog 38 #[.slice (some ⟨b, 0, none⟩) 5 5, .int .u8 0, .int .i64 1, .pointer (some ⟨gm, 0, none⟩)] w
      fun e w' => e = .returned (.tuple #[.slice none 0 0, .int .i64 12]) ∧ Fr Non W w' := by
  refine (l2unpack_much 0 (by decide) 1 1 rfl _ 5 5 aw11b (by decide) gm W w 1 (by decide) hW hgW hm (by decide) (by decide) (by decide) (by decide) (fun e => by cases e)
    (.inr ⟨b, 0, rfl, blk_lt hb, fun i hi => blk_cell hb (by rw [Nat.zero_add]; match i, hi with | 0, _ => rfl | 1, _ => rfl | 2, _ => rfl | 3, _ => rfl | 4, _ => rfl)⟩)).mono ?_
  rintro e w' ⟨h1, h4⟩
  rw [aw11_no] at h4
  rcases h4 with ⟨_, h6⟩ | ⟨xs, v, h5, h6, h7⟩
  · exact ⟨h6, h1⟩
  · cases h5
set_option maxRecDepth 100000 in
theorem RowO.str {w : World} {B : Nat} {a : Option Addr} {n c : Nat} (h : RowO w B (.slice a n c) [97, 98]) : (convert 30 9 (.slice a n c)).run Try.prog w = .ok (.string { data := #[97, 98] }) w := by
  obtain ⟨a', c', h1, h2, h3, h4, h5⟩ := h
  injection h1 with e1 e2 e3
  subst e1 e3
  rw [e2]
  rcases h4 with h4 | ⟨b, off, e, hb, hc⟩
  · cases h4
  · subst e
    exact run_convert_bytes_arg (P := Try.prog) w 30 5 Try.underlying30 (by kernel_rfl) b off 2 _ [97, 98] rfl (fun i hi => hc i hi) 9 (by kernel_rfl)
set_option maxRecDepth 100000 in
set_option maxHeartbeats 800000 in
theorem awake11_any (w : World) : Calls Try.prog 37 #[] w fun e w' => e = .returned (.bool true) ∧ Fr Non w w' := by
  go_enter Try.func37, Try.ntmps37
  go_upto_region 1 with fail
  go_cut [1, 2] (fun v q wx => q = .int .i64 0 ∧ Fr Non w wx ∧ RowO wx w.heap.size v [97, 98])
  case first =>
    go_wp2_with fail
    refine (much_any _).mono ?_
    rintro e wm ⟨gm, rfl, hgm, hfm, hmm⟩
    have HFM := hid hfm
    have HMM := hid hmm
    clear hfm hmm
    simp at hgm
    go_wp2_with fail
    refine (aw11_one _ gm w _ (((Fr.refl Non w).alloc _).trans HFM.out) (by omega) (HFM.out.blk (blk_new _ _) id) HMM.out).mono ?_
    rintro e wn ⟨v, rfl, hWn, hro⟩
    have HWN := hid hWn
    have HRO := hid hro
    clear hWn hro
    go_wp2_with fail
    go_meet
    exact ⟨rfl, HWN.out, HRO.out⟩
  case rest =>
    obtain ⟨rfl, hf1, hro⟩ := hcut
    obtain ⟨X, hX⟩ : ∃ X, X = wc := ⟨_, rfl⟩
    rw [← hX] at hf1 hro ⊢
    have HF1 := hid hf1
    have HRO := hid hro
    clear hX hf1 hro
    go_upto_region 2 with fail
    go_cut [3, 4] (fun v q wx => q = .int .i64 12 ∧ Fr Non X wx)
    case first =>
      go_wp2_with fail
      refine (much_any _).mono ?_
      rintro e wm ⟨gm, rfl, hgm, hfm, hmm⟩
      have HFM := hid hfm
      have HMM := hid hmm
      clear hfm hmm
      simp at hgm
      go_wp2_with fail
      refine (aw11_two _ gm X _ (((Fr.refl Non X).alloc _).trans HFM.out) (by omega) (HFM.out.blk (blk_new _ _) id) HMM.out).mono ?_
      rintro e wn ⟨rfl, hWn⟩
      have HWN := hid hWn
      clear hWn
      go_wp2_with fail
      go_meet
      exact ⟨rfl, HWN.out⟩
    case rest =>
      obtain ⟨rfl, hf2⟩ := hcut
      obtain ⟨Y, hY⟩ : ∃ Y, Y = wc := ⟨_, rfl⟩
      rw [← hY] at hf2 ⊢
      clear hY
      have hro := HRO.out.fr hf2 (fun _ _ _ e => e)
      obtain ⟨ra, rc, hra, _⟩ := id hro
      subst hra
      have hcv : (convert 30 9 (.slice ra 2 rc)).run Try.prog Y = .ok (.string { data := #[97, 98] }) Y := hro.str
      have HF2 := hid (HF1.out.trans hf2)
      clear hf2 hro
      go_wp2_with fail
      go_ret
      exact ⟨rfl, HF2.out⟩
end Go.Proofs.Ytjnegcambbeblaa

/- lzma2: rings of two sizes, both great enough for what was told, are alike. -/
namespace Go.Proofs.Ytjnegcambbeblaa
open Go.RowKit

theorem backH_ring {H : List Int} {n k : Nat} (h : H.length ≤ n) (h' : H.length ≤ k) (d : Nat) : backH H n d = backH H k d := by
  unfold backH
  rw [Nat.min_eq_left h, Nat.min_eq_left h']
theorem llit_ring {S : Type} (nx : S → Int × Bool × S) {L K : LL} (s : LS) (d : RD S) (h : s.H.length ≤ L.n) (h' : s.H.length ≤ K.n) : llit nx L s d = llit nx K s d := by
  unfold llit LS.row
  rw [backH_ring h h' 0, backH_ring h h' (s.rep 0)]
theorem lpEnd_ring {S : Type} {L K : LL} (s : LS) (d : RD S) (h : s.H.length ≤ L.n) (h' : s.H.length ≤ K.n) : lpEnd L s d = lpEnd K s d := by
  unfold lpEnd
  rw [Nat.min_eq_left h, Nat.min_eq_left h']
theorem lagain_H {S : Type} (nx : S → Int × Bool × S) (s : LS) (d : RD S) (sp : Nat) : (lagain nx s d sp).2.1.H = s.H := by
  unfold lagain
  split <;> rfl
theorem lpacket_ring {S : Type} (nx : S → Int × Bool × S) {L K : LL} (s : LS) (d : RD S) (h : s.H.length ≤ L.n) (h' : s.H.length ≤ K.n) : lpacket nx L s d = lpacket nx K s d := by
  unfold lpacket
  dsimp only
  rw [Nat.min_eq_left h, Nat.min_eq_left h']
  split
  · rw [llit_ring nx (L := L) (K := K) _ _ (by exact h) (by exact h')]
  · split
    · rw [lpEnd_ring (L := L) (K := K) _ _ (by exact h) (by exact h')]
    · split
      · rw [lpEnd_ring (L := L) (K := K) _ _ (by exact h) (by exact h')]
      · rw [lpEnd_ring (L := L) (K := K) _ _ (by dsimp only; rw [lagain_H]; exact h) (by dsimp only; rw [lagain_H]; exact h')]
theorem lnext2_ring {S : Type} {L K : LL} (s : LS) (d : RD S) (h : s.H.length ≤ L.n) (h' : s.H.length ≤ K.n) : lnext2 L s d = lnext2 K s d := by
  unfold lnext2
  rw [backH_ring h h' (s.rep 0)]
theorem lnext_ring {S : Type} (nx : S → Int × Bool × S) {L K : LL} (s : LS) (d : RD S) (h : s.H.length ≤ L.n) (h' : s.H.length ≤ K.n) : lnext nx L s d = lnext nx K s d := by
  have e := (lpacket_same nx K s d).H
  unfold lnext
  rw [lpacket_ring nx s d h h', lnext2_ring s d h h', lnext2_ring (L := L) (K := K) (lpacket nx K s d).2.1 (lpacket nx K s d).2.2 (by rw [e]; exact h) (by rw [e]; exact h')]
theorem lnext2_H {S : Type} (L : LL) (s : LS) (d : RD S) : (lnext2 L s d).2.1.H.length ≤ s.H.length + 1 := by
  unfold lnext2
  split
  · exact Nat.le_succ _
  · simp
theorem lnext_H {S : Type} (nx : S → Int × Bool × S) (L : LL) (s : LS) (d : RD S) : (lnext nx L s d).2.1.H.length ≤ s.H.length + 1 := by
  have e := (lpacket_same nx L s d).H
  unfold lnext
  split
  · exact Nat.le_succ _
  · split
    · split
      · show ((lpacket nx L s d).2.1.H ++ [_]).length ≤ _
        rw [e]; simp
      · have := lnext2_H L (lpacket nx L s d).2.1 (lpacket nx L s d).2.2
        rw [e] at this
        exact this
    · exact lnext2_H L s d
theorem L2.st0_H {S : Type} (how : Int) (z : L2 S) : (z.st0 how).c.H.length ≤ z.c.H.length := by
  unfold L2.st0
  split
  · exact Nat.zero_le _
  · exact Nat.le_refl _
theorem L2.chunk1_H {S : Type} (nx : S → Int × Bool × S) (k : Int) (z : L2 S) : (z.chunk1 nx k).c.H.length ≤ z.c.H.length := by
  unfold L2.chunk1
  split
  · exact Nat.le_refl _
  · split
    · exact Nat.le_refl _
    · split
      · unfold L2.plain
        dsimp only
        show (if k = 1 then z.empty else z).c.H.length ≤ _
        split
        · exact Nat.zero_le _
        · exact Nat.le_refl _
      · split
        · unfold L2.pack L2.packEnd
          have h0 := L2.st0_H (k / 32 - 4) z
          have e : ∀ y : L2 S, (L2.judge (L2.st3 (k / 32 - 4) (L2.st2 nx (k / 32 - 4) y))).c = y.c := fun y => by
            show (L2.st3 (k / 32 - 4) (L2.st2 nx (k / 32 - 4) y)).c = _
            rw [L2.st3_c, L2.st2_c]
          split
          · rw [e]; exact h0
          · unfold L2.pack1
            dsimp only
            rw [e]
            split
            · exact h0
            · exact h0
        · exact Nat.le_refl _
theorem L2.open_H {S : Type} (nx : S → Int × Bool × S) (z : L2 S) : (z.open_ nx).2.c.H.length ≤ z.c.H.length := by
  unfold L2.open_
  split
  · exact Nat.le_refl _
  · split
    · split
      · exact L2.chunk1_H nx _ _
      · exact Nat.le_refl _
    · exact Nat.le_refl _
theorem L2.take_H {S : Type} (nx : S → Int × Bool × S) (L : LL) (z : L2 S) : (z.take nx L).2.c.H.length ≤ z.c.H.length + 1 := by
  unfold L2.take
  cases hm : z.mode with
  | none =>
    dsimp only
    split
    · exact Nat.le_succ _
    · show (z.c.H ++ [_]).length ≤ _
      simp
  | some rd =>
    dsimp only
    exact lnext_H (anx (lnx nx)) L z.c rd
theorem L2.next_H {S : Type} (nx : S → Int × Bool × S) (L : LL) (z : L2 S) : (z.next nx L).2.c.H.length ≤ z.c.H.length + 1 := by
  unfold L2.next
  have h1 := L2.open_H nx z
  split
  · have h2 := L2.take_H nx L { (z.open_ nx).2 with left := (z.open_ nx).2.left - 1 }
    have h3 : ({ (z.open_ nx).2 with left := (z.open_ nx).2.left - 1 } : L2 S).c.H.length = (z.open_ nx).2.c.H.length := rfl
    omega
  · show (z.open_ nx).2.c.H.length ≤ _
    omega
theorem l2run_H {S : Type} (nx : S → Int × Bool × S) (L : LL) (z : L2 S) : ∀ k, (l2run nx L z k).c.H.length ≤ z.c.H.length + k
  | 0 => Nat.le_refl _
  | k + 1 => by
    have h1 := L2.next_H nx L (l2run nx L z k)
    have h2 := l2run_H nx L z k
    show ((l2run nx L z k).next nx L).2.c.H.length ≤ _
    omega
theorem L2.next_ring {S : Type} (nx : S → Int × Bool × S) {L K : LL} (z : L2 S) (h : z.c.H.length ≤ L.n) (h' : z.c.H.length ≤ K.n) : z.next nx L = z.next nx K := by
  have e := L2.open_H nx z
  unfold L2.next
  split
  · unfold L2.take
    dsimp only
    cases hm : (z.open_ nx).2.mode with
    | none => rfl
    | some rd =>
      dsimp only
      rw [lnext_ring (anx (lnx nx)) (L := L) (K := K) _ rd (by show (z.open_ nx).2.c.H.length ≤ _; omega) (by show (z.open_ nx).2.c.H.length ≤ _; omega)]
  · rfl
theorem l2run_ring {S : Type} (nx : S → Int × Bool × S) {L K : LL} (z : L2 S) (m : Nat) (h : z.c.H.length + m ≤ L.n) (h' : z.c.H.length + m ≤ K.n) : ∀ k, k ≤ m → l2run nx L z k = l2run nx K z k
  | 0, _ => rfl
  | k + 1, hk => by
    have e := l2run_ring nx z m h h' k (by omega)
    have hH := l2run_H nx K z k
    show ((l2run nx L z k).next nx L).2 = ((l2run nx K z k).next nx K).2
    rw [e, L2.next_ring nx (L := L) (K := K) (l2run nx K z k) (by omega) (by omega)]
/-- a run that goes on has its chunk open; one that ends has none. -/
theorem L2.next_open {S : Type} (nx : S → Int × Bool × S) (L : LL) (z : L2 S) (h : (z.next nx L).1.2 = true) : (z.open_ nx).1 = true := by
  unfold L2.next at h
  cases e : (z.open_ nx).1
  · rw [if_neg (by rw [e]; decide)] at h; cases h
  · rfl
theorem L2.fin_shut {S : Type} (nx : S → Int × Bool × S) (z : L2 S) (h : z.finish nx = true) : (z.open_ nx).1 = false := by
  unfold L2.finish at h
  split at h
  · cases e : (z.open_ nx).1
    · rfl
    · rw [e] at h; cases h
  · cases h
/-- a stream has one size. -/
theorem l2one {S : Type} (nx : S → Int × Bool × S) (s0 : S) (p n k : Nat) (hp : p ≤ 40) (hnk : n ≠ k) {xs : List Int} (h : l2unpack nx s0 p (wsize (min (set2 p).dict n)) n = some xs) : l2unpack nx s0 p (wsize (min (set2 p).dict k)) k = none := by
  unfold l2unpack at h
  split at h
  · rename_i hh
    obtain ⟨h1, h2⟩ := hh
    have hall : ∀ i, i < n → l2has nx (LL.of (wsize (min (set2 p).dict n))) (l2start p s0) i = true := fun i hi => List.all_eq_true.1 h1 i (List.mem_range.2 hi)
    have key : ∀ m, m ≤ n → m ≤ k → l2run nx (LL.of (wsize (min (set2 p).dict n))) (l2start p s0) m = l2run nx (LL.of (wsize (min (set2 p).dict k))) (l2start p s0) m := by
      intro m hn hk
      by_cases e : wsize (min (set2 p).dict n) = wsize (min (set2 p).dict k)
      · rw [e]
      · have hm : m ≤ wsize (min (set2 p).dict n) ∧ m ≤ wsize (min (set2 p).dict k) := by
          have hd : (4096 : Int) ≤ (set2 p).dict := (set2_light hp).1.d0
          unfold wsize at e ⊢
          omega
        exact l2run_ring nx (l2start p s0) m (by show 0 + m ≤ wsize _; omega) (by show 0 + m ≤ wsize _; omega) m (Nat.le_refl _)
    unfold l2unpack
    rw [if_neg]
    rintro ⟨h3, h4⟩
    rcases Nat.lt_or_gt_of_ne hnk with hlt | hlt
    · have h5 := List.all_eq_true.1 h3 n (List.mem_range.2 hlt)
      have h6 := L2.next_open nx _ _ h5
      have h7 := L2.fin_shut nx _ h2
      rw [key n (Nat.le_refl _) (by omega)] at h7
      rw [h7] at h6
      cases h6
    · have h5 := hall k hlt
      have h6 := L2.next_open nx _ _ h5
      have h7 := L2.fin_shut nx _ h4
      rw [← key k (by omega) (Nat.le_refl _)] at h7
      rw [h7] at h6
      cases h6
  · cases h
end Go.Proofs.Ytjnegcambbeblaa

/- The document's walk over its decoder, plain: a packet of an elder distance is the program's, copied out. -/
namespace Go.Proofs.Ytjnegcambbeblaa
open Go.RowKit

section
variable (a : Option Addr) (n cap : Nat) (f : Nat → Int) (lo gd : Nat)
theorem pick_le {S : Type} (nx : S → Int × Bool × S) (P : Nat → Int) (d : RD S) (st sp k : Nat) (h : (lagPick nx P d st sp).1 = some k) : k ≤ 3 := by
  unfold lagPick at h
  split at h
  · dsimp only at h
    split at h
    · cases h
    · injection h with h; omega
  · split at h
    · injection h with h; omega
    · injection h with h
      have := bit_le nx (lbit nx (lbit nx P d (204 + st)).2.1 (lbit nx P d (204 + st)).2.2 (216 + st)).2.2 ((lbit nx (lbit nx P d (204 + st)).2.1 (lbit nx P d (204 + st)).2.2 (216 + st)).2.1 (228 + st))
      have e : (lbit nx (lbit nx (lbit nx P d (204 + st)).2.1 (lbit nx P d (204 + st)).2.2 (216 + st)).2.1 (lbit nx (lbit nx P d (204 + st)).2.1 (lbit nx P d (204 + st)).2.2 (216 + st)).2.2 (228 + st)).1 ≤ 1 := this
      omega
theorem kpacket_again {L : LL} {M : Nat} {s : LS} (c : RD Nat) (p : PkV) (hr : RingUp L.n s.dict M) (hp : s.place = s.H.length) (hb : s.bad = false)
    (h0 : (lbit (feedNx f n) s.P c (16 * s.st + s.place % 2 ^ s.pb)).1 ≠ 0) (h1 : (lbit (feedNx f n) (lbit (feedNx f n) s.P c (16 * s.st + s.place % 2 ^ s.pb)).2.1 (lbit (feedNx f n) s.P c (16 * s.st + s.place % 2 ^ s.pb)).2.2 (192 + s.st)).1 ≠ 0)
    (ht : (lpacket (feedNx f n) L s c).2.1.left ≠ 0) (hM : s.H.length + (lpacket (feedNx f n) L s c).2.1.left ≤ M) :
    kpacket (cdrD a n cap f lo gd) (bare s) c p = (bare { (lpacket (feedNx f n) L s c).2.1 with H := copyH L.n (lpacket (feedNx f n) L s c).2.1.left s.H ((lpacket (feedNx f n) L s c).2.1.rep 0) }, (lpacket (feedNx f n) L s c).2.2, (lpacket (feedNx f n) L s c).2.1.left) := by
  obtain ⟨r1, hr1⟩ : ∃ r, r = lbit (feedNx f n) (lbit (feedNx f n) s.P c (16 * s.st + s.place % 2 ^ s.pb)).2.1 (lbit (feedNx f n) s.P c (16 * s.st + s.place % 2 ^ s.pb)).2.2 (192 + s.st) := ⟨_, rfl⟩
  obtain ⟨F, hF⟩ : ∃ F, F = lagain (feedNx f n) { s with P := r1.2.1 } r1.2.2 (s.place % 2 ^ s.pb) := ⟨_, rfl⟩
  have hmin : min s.H.length L.n ≠ 0 := by
    intro h2
    have hpk : lpacket (feedNx f n) L s c = ((0, false), lpEnd L { s with P := r1.2.1, bad := true } r1.2.2, r1.2.2) := by
      unfold lpacket
      dsimp only
      rw [if_neg h0, if_neg h1, if_pos h2, hr1]
    rw [hpk] at ht
    have := (lpEnd_good L { s with P := r1.2.1, bad := true } r1.2.2 ht).2.1
    cases this
  have hpk : lpacket (feedNx f n) L s c = ((0, false), lpEnd L { F.2.1 with left := F.1 } F.2.2, F.2.2) := by
    unfold lpacket
    dsimp only
    rw [if_neg h0, if_neg h1, if_neg hmin, hF, hr1]
  rw [hpk] at ht hM ⊢
  obtain ⟨g1, g2, g3, g4, g5, g6⟩ := lpEnd_good L { F.2.1 with left := F.1 } F.2.2 ht
  dsimp only at hM ⊢
  rw [g1] at hM ⊢
  obtain ⟨Q, hQ⟩ : ∃ Q, Q = lagPick (feedNx f n) r1.2.1 r1.2.2 s.st (s.place % 2 ^ s.pb) := ⟨_, rfl⟩
  have hk : kkind (cdrD a n cap f lo gd) (bare s) c (s.place % 2 ^ s.pb) p.kind = ((pickN Q.1, false), Q.2) := by
    unfold kkind kkind0
    rw [kbit_D]
    have h0' : ¬ (lbit (feedNx f n) (bare s).P c (16 * (bare s).st + s.place % 2 ^ s.pb)).1 = 0 := h0
    rw [if_neg h0']
    unfold kkind1
    rw [kbit_D]
    have h1' : ¬ (lbit (feedNx f n) (lbit (feedNx f n) (bare s).P c (16 * (bare s).st + s.place % 2 ^ s.pb)).2.1 (lbit (feedNx f n) (bare s).P c (16 * (bare s).st + s.place % 2 ^ s.pb)).2.2 (192 + (bare s).st)).1 = 0 := h1
    rw [if_neg h1', if_neg (show ¬ (bare s).H.length = 0 by show ¬ s.H.length = 0; omega)]
    obtain ⟨q1, q2⟩ := kpick_D a n cap f lo gd r1.2.1 r1.2.2 s.st (s.place % 2 ^ s.pb) p.kind (chz (p.kind == 2 || p.kind == 6))
    rw [← hQ] at q1 q2
    have e1 : (lbit (feedNx f n) (lbit (feedNx f n) (bare s).P c (16 * (bare s).st + s.place % 2 ^ s.pb)).2.1 (lbit (feedNx f n) (bare s).P c (16 * (bare s).st + s.place % 2 ^ s.pb)).2.2 (192 + (bare s).st)) = r1 := hr1.symm
    rw [e1]
    show ((_, false), _) = _
    rw [show (bare s).st = s.st from rfl, q1, q2]
  unfold kpacket
  rw [show (bare s).H.length % 2 ^ (bare s).pb = s.place % 2 ^ s.pb by rw [hp]; rfl, hk]
  obtain ⟨S, hS⟩ : ∃ S : LS, S = { bare s with P := Q.2.1, bad := (bare s).bad || false } := ⟨_, rfl⟩
  show kpacket2 (cdrD a n cap f lo gd) { bare s with P := Q.2.1, bad := (bare s).bad || false } Q.2.2 (s.place % 2 ^ s.pb) p (pickN Q.1) = _
  rw [← hS]
  have hsb : (s.bad || false) = false := by rw [hb]; rfl
  have hFm : kpacket2 (cdrD a n cap f lo gd) S Q.2.2 (s.place % 2 ^ s.pb) p (pickN Q.1) = kend (cdrD a n cap f lo gd) ({ F.2.1 with place := 0, left := 0, bad := (s.bad || false) }, F.2.2, F.1) := by
    unfold kpacket2
    cases hq : Q.1 with
    | none =>
      rw [show pickN none = 6 from rfl, if_neg (by decide)]
      unfold kmid
      rw [if_neg (by decide), if_pos rfl]
      have hFe : F = (1, { s with P := Q.2.1, st := nextL s.st 9 11 }, Q.2.2) := by
        rw [hF, hQ]
        unfold lagain
        dsimp only
        rw [← hQ, hq]
      rw [hFe, hS]
      rfl
    | some k =>
      have hk3 := pick_le (feedNx f n) r1.2.1 r1.2.2 s.st (s.place % 2 ^ s.pb) k (by rw [← hQ]; exact hq)
      rw [show pickN (some k) = k + 2 from rfl, if_neg (by omega)]
      unfold kmid
      rw [if_neg (by omega), if_neg (by omega), show k + 2 - 2 = k by omega]
      have hFe : F = lagEnd (feedNx f n) { s with P := Q.2.1, rep := if k = 0 then s.rep else rotL s.rep k } Q.2.2 (s.place % 2 ^ s.pb) := by
        rw [hF, hQ]
        unfold lagain
        dsimp only
        rw [← hQ, hq]
      have hSF : lagEnd (feedNx f n) { S with rep := if k = 0 then S.rep else rotL S.rep k } Q.2.2 (s.place % 2 ^ s.pb) = (F.1, { F.2.1 with place := 0, left := 0, bad := (s.bad || false) }, F.2.2) := by
        rw [hS, hFe]
        rfl
      rw [kmid2_D a n cap f lo gd S Q.2.2 (s.place % 2 ^ s.pb) k (p.len - 2) (by rw [hSF]; exact g3), hSF]
  rw [hFm, hsb]
  have hFH : F.2.1.H = s.H ∧ F.2.1.dict = s.dict := by
    have e := lagain_H (feedNx f n) { s with P := r1.2.1 } r1.2.2 (s.place % 2 ^ s.pb)
    have e2 : (lagain (feedNx f n) { s with P := r1.2.1 } r1.2.2 (s.place % 2 ^ s.pb)).2.1.dict = s.dict := by
      unfold lagain
      split <;> rfl
    rw [hF]
    exact ⟨e, e2⟩
  have g5' : F.2.1.rep 0 < F.2.1.dict := g5
  have g6' : F.2.1.rep 0 < min F.2.1.H.length L.n := g6
  rw [kend_D a n cap f lo gd (N := L.n) (M := M) _ g3 rfl g4 (by show RingUp L.n F.2.1.dict M; rw [hFH.2]; exact hr) (by show F.2.1.H.length + F.1 ≤ M; rw [hFH.1]; exact hM) (by show F.2.1.rep 0 < F.2.1.H.length; omega) g5']
  show (({ F.2.1 with place := 0, left := 0, bad := false, H := copyH L.n F.1 F.2.1.H (F.2.1.rep 0) } : LS), F.2.2, F.1) = _
  rw [hFH.1]
  rfl
end
end Go.Proofs.Ytjnegcambbeblaa

/- The document's walk over its decoder, plain: where the program's packet is bad, the document's is. -/
namespace Go.Proofs.Ytjnegcambbeblaa
open Go.RowKit

/-- the document stops behind such a packet. -/
def kstops (R : LS × RD Nat × Nat) : Prop := R.1.bad = true ∨ R.1.ended = true ∨ R.2.1.bad = true
section
variable (a : Option Addr) (n cap : Nat) (f : Nat → Int) (lo gd : Nat)
theorem kcopy_keep : ∀ (k i : Nat) (s : LS), s.bad = true → (kcopy k i s).1.bad = true
  | 0, _, s, h => h
  | k + 1, i, s, h => by
    unfold kcopy
    split
    · exact kcopy_keep k (i + 1) _ h
    · rfl
theorem kcopy_keepE : ∀ (k i : Nat) (s : LS), s.ended = true → (kcopy k i s).1.ended = true
  | 0, _, s, h => h
  | k + 1, i, s, h => by
    unfold kcopy
    split
    · exact kcopy_keepE k (i + 1) _ h
    · exact h
/-- a decoder that is bad, a state that is bad or ended, or a distance that is not there: the document stops. -/
theorem kend_stops {N : Nat} (m : LS × RD Nat × Nat) (h : m.2.1.bad = true ∨ m.1.bad = true ∨ m.1.ended = true ∨ (RingOk N m.1 ∧ m.2.2 ≠ 0 ∧ (m.1.dict ≤ m.1.rep 0 ∨ ¬ m.1.rep 0 < min m.1.H.length N))) : kstops (kend (cdrD a n cap f lo gd) m) := by
  by_cases hb : m.2.1.bad = true
  · exact .inr (.inr hb)
  · have hb' : m.2.1.bad = false := by simpa using hb
    have e : (if (cdrD a n cap f lo gd).bad m.2.1 = true then { m.1 with bad := true } else m.1) = m.1 := if_neg (by show ¬ m.2.1.bad = true; exact hb)
    unfold kend kstops
    rw [e]
    dsimp only
    unfold kend2
    by_cases hs : m.1.bad = true
    · exact .inl (by rw [if_pos (by rw [hs]; rfl)]; exact hs)
    · by_cases he : m.1.ended = true
      · exact .inr (.inl (by rw [if_pos (by rw [he]; simp)]; exact he))
      · have hs' : m.1.bad = false := by simpa using hs
        have he' : m.1.ended = false := by simpa using he
        rw [if_neg (by rw [hs', he']; decide)]
        rcases h with h | h | h | ⟨hr, h0, hd⟩
        · exact absurd h hb
        · exact absurd h hs
        · exact absurd h he
        · obtain ⟨k, hk⟩ : ∃ k, m.2.2 = k + 1 := ⟨m.2.2 - 1, by omega⟩
          rw [hk]
          refine .inl ?_
          unfold kcopy
          have hn : ¬ (backD m.1 (m.1.rep 0)).2 = true := by
            rw [backD_ring hr]
            have hx : ¬ m.1.rep 0 < min m.1.H.length N := by
              rcases hd with hd | hd
              · intro h2
                have := ((hr (m.1.rep 0)).1 h2).2
                omega
              · exact hd
            show ¬ decide _ = true
            rw [decide_eq_false hx]
            decide
          rw [if_neg hn]
/-- a literal that is bad. -/
theorem kpacket_litBad {L : LL} {s : LS} (c : RD Nat) (p : PkV) (hr : RingOk L.n s) (hp : s.place = s.H.length)
    (h0 : (lbit (feedNx f n) s.P c (16 * s.st + s.place % 2 ^ s.pb)).1 = 0) (h1 : (lpacket (feedNx f n) L s c).1.2 = false) : kstops (kpacket (cdrD a n cap f lo gd) (bare s) c p) := by
  unfold lpacket at h1
  dsimp only at h1
  rw [if_pos h0] at h1
  have hbad : (llit (feedNx f n) L { s with P := (lbit (feedNx f n) s.P c (16 * s.st + s.place % 2 ^ s.pb)).2.1 } (lbit (feedNx f n) s.P c (16 * s.st + s.place % 2 ^ s.pb)).2.2).2.2.bad = true := by
    simpa using h1
  have hk : kkind (cdrD a n cap f lo gd) (bare s) c (s.place % 2 ^ s.pb) p.kind = ((0, false), (lbit (feedNx f n) s.P c (16 * s.st + s.place % 2 ^ s.pb)).2) := by
    unfold kkind kkind0
    rw [kbit_D]
    exact if_pos h0
  have hl := klit_D a n cap f lo gd (L := L) (s := { s with P := (lbit (feedNx f n) s.P c (16 * s.st + s.place % 2 ^ s.pb)).2.1 }) hr hp (lbit (feedNx f n) s.P c (16 * s.st + s.place % 2 ^ s.pb)).2.2 p.byte
  unfold kpacket
  rw [show (bare s).H.length % 2 ^ (bare s).pb = s.place % 2 ^ s.pb by rw [hp]; rfl, hk]
  unfold kpacket2
  rw [if_pos rfl]
  have hl2 : klit (cdrD a n cap f lo gd) { bare s with P := (lbit (feedNx f n) s.P c (16 * s.st + s.place % 2 ^ s.pb)).2.1, bad := (bare s).bad || false } (lbit (feedNx f n) s.P c (16 * s.st + s.place % 2 ^ s.pb)).2.2 p.byte = llit (feedNx f n) L { s with P := (lbit (feedNx f n) s.P c (16 * s.st + s.place % 2 ^ s.pb)).2.1 } (lbit (feedNx f n) s.P c (16 * s.st + s.place % 2 ^ s.pb)).2.2 := hl
  show kstops (klitP (cdrD a n cap f lo gd) { bare s with P := (lbit (feedNx f n) s.P c (16 * s.st + s.place % 2 ^ s.pb)).2.1, bad := (bare s).bad || false } (klit (cdrD a n cap f lo gd) { bare s with P := (lbit (feedNx f n) s.P c (16 * s.st + s.place % 2 ^ s.pb)).2.1, bad := (bare s).bad || false } (lbit (feedNx f n) s.P c (16 * s.st + s.place % 2 ^ s.pb)).2.2 p.byte))
  rw [hl2]
  unfold klitP
  rw [if_pos (show (cdrD a n cap f lo gd).bad _ = true from hbad)]
  exact .inl rfl
end
end Go.Proofs.Ytjnegcambbeblaa

/- The document's walk over its decoder, plain: bad matches and elder distances. -/
namespace Go.Proofs.Ytjnegcambbeblaa
open Go.RowKit

section
variable (a : Option Addr) (n cap : Nat) (f : Nat → Int) (lo gd : Nat)
theorem ktreeGo_bad (o : Nat) (v : Int) : ∀ (i : Nat) (P : Nat → Int) (c : RD Nat) (m : Nat), c.bad = true → (ktreeGo (cdrD a n cap f lo gd) o v i P c m).2 = (P, c)
  | 0, P, c, m, _ => rfl
  | i + 1, P, c, m, h => by
    unfold ktreeGo
    rw [kbit_D, lbit_bad _ _ _ _ h]
    exact ktreeGo_bad o v i P c _ h
theorem kdist_bad (P : Nat → Int) (c : RD Nat) (l v : Nat) (h : c.bad = true) : (kdist (cdrD a n cap f lo gd) P c l v).2.2.bad = true := by
  have k1 : (ktree (cdrD a n cap f lo gd) P c (432 + 64 * min l 3) 6 ((slotL v : Nat) : Int)).2 = (P, c) := ktreeGo_bad a n cap f lo gd _ _ 6 P c 1 h
  unfold kdist
  obtain ⟨t, ht⟩ : ∃ t, t = ktree (cdrD a n cap f lo gd) P c (432 + 64 * min l 3) 6 ((slotL v : Nat) : Int) := ⟨_, rfl⟩
  rw [← ht] at k1 ⊢
  have hb2 : t.2.2.bad = true := by rw [k1]; exact h
  unfold kdist2
  split
  · exact hb2
  · split
    · show (krev (cdrD a n cap f lo gd) t.2.1 t.2.2 _ _ _).2.2.bad = true
      rw [krev_bad a n cap f lo gd _ _ _ _ _ hb2]
      exact hb2
    · show (krev (cdrD a n cap f lo gd) t.2.1 (t.2.2.str (feedNx f n) (slotN t.1 - 4)).2 803 4 _).2.2.bad = true
      rw [kstr_bad _ _ _ hb2, krev_bad a n cap f lo gd _ _ _ _ _ hb2]
      exact hb2
/-- a match whose decoder comes to be bad. -/
theorem kmid1_bad (S s1 : LS) (hP : S.P = s1.P) (c : RD Nat) (sp : Nat) (kind l : Int) (dist : Nat) (hg : (lfresh (feedNx f n) s1 c sp).2.2.bad = true) : (kmid1 (cdrD a n cap f lo gd) S sp kind dist (klen (cdrD a n cap f lo gd) S.P c 819 sp l)).2.1.bad = true := by
  obtain ⟨e1, e2⟩ := klen_D a n cap f lo gd S.P c 819 sp l
  rw [hP] at e1 e2 ⊢
  obtain ⟨q, hq⟩ : ∃ q, q = ltell (feedNx f n) s1.P c 819 sp := ⟨_, rfl⟩
  obtain ⟨r, hr⟩ : ∃ r, r = klen (cdrD a n cap f lo gd) s1.P c 819 sp l := ⟨_, rfl⟩
  unfold lfresh at hg
  rw [← hq] at hg
  rw [← hq, ← hr] at e1 e2
  rw [← hr]
  unfold kmid1
  dsimp only at hg ⊢
  cases hb : q.2.2.bad with
  | true => exact kdist_bad a n cap f lo gd _ _ _ _ (by rw [e1]; exact hb)
  | false =>
    have e3 := e2 hb
    have hrq : r = q := Prod.ext e3 e1
    subst hrq
    rw [(kdist_D a n cap f lo gd r.2.1 r.2.2 r.1 _).1]
    exact hg
theorem kpacket_farBad {L : LL} {s : LS} (c : RD Nat) (p : PkV) (hr : RingOk L.n s) (hp : s.place = s.H.length) (hb : s.bad = false) (he : s.ended = false)
    (h0 : (lbit (feedNx f n) s.P c (16 * s.st + s.place % 2 ^ s.pb)).1 ≠ 0) (h1 : (lbit (feedNx f n) (lbit (feedNx f n) s.P c (16 * s.st + s.place % 2 ^ s.pb)).2.1 (lbit (feedNx f n) s.P c (16 * s.st + s.place % 2 ^ s.pb)).2.2 (192 + s.st)).1 = 0)
    (ht : (lpacket (feedNx f n) L s c).2.1.left = 0) : kstops (kpacket (cdrD a n cap f lo gd) (bare s) c p) := by
  obtain ⟨r1, hr1⟩ : ∃ r, r = lbit (feedNx f n) (lbit (feedNx f n) s.P c (16 * s.st + s.place % 2 ^ s.pb)).2.1 (lbit (feedNx f n) s.P c (16 * s.st + s.place % 2 ^ s.pb)).2.2 (192 + s.st) := ⟨_, rfl⟩
  obtain ⟨F, hF⟩ : ∃ F, F = lfresh (feedNx f n) { s with P := r1.2.1 } r1.2.2 (s.place % 2 ^ s.pb) := ⟨_, rfl⟩
  have hpk : lpacket (feedNx f n) L s c = ((0, false), lpEnd L { F.2.1 with left := F.1 } F.2.2, F.2.2) := by
    unfold lpacket
    dsimp only
    rw [if_neg h0, if_pos h1, hF, hr1]
  rw [hpk] at ht
  dsimp only at ht
  have hk : kkind (cdrD a n cap f lo gd) (bare s) c (s.place % 2 ^ s.pb) p.kind = ((1, false), r1.2) := by
    unfold kkind kkind0
    rw [kbit_D]
    have h0' : ¬ (lbit (feedNx f n) (bare s).P c (16 * (bare s).st + s.place % 2 ^ s.pb)).1 = 0 := h0
    rw [if_neg h0']
    unfold kkind1
    rw [kbit_D, hr1]
    exact if_pos h1
  unfold kpacket
  rw [show (bare s).H.length % 2 ^ (bare s).pb = s.place % 2 ^ s.pb by rw [hp]; rfl, hk]
  obtain ⟨S, hS⟩ : ∃ S : LS, S = { bare s with P := r1.2.1, bad := (bare s).bad || false } := ⟨_, rfl⟩
  show kstops (kpacket2 (cdrD a n cap f lo gd) { bare s with P := r1.2.1, bad := (bare s).bad || false } r1.2.2 (s.place % 2 ^ s.pb) p 1)
  rw [← hS]
  unfold kpacket2
  rw [if_neg (by decide)]
  unfold kmid
  rw [if_pos rfl]
  have hSF : lfresh (feedNx f n) S r1.2.2 (s.place % 2 ^ s.pb) = (F.1, { F.2.1 with place := 0, left := 0, bad := (s.bad || false) }, F.2.2) := by
    rw [hS, hF]
    rfl
  cases hg : F.2.2.bad with
  | true =>
    refine kend_stops a n cap f lo gd (N := L.n) _ (.inl ?_)
    exact kmid1_bad a n cap f lo gd S { s with P := r1.2.1 } (by rw [hS]) r1.2.2 _ _ _ _ (by rw [← hF]; exact hg)
  | false =>
    obtain ⟨m, hm⟩ : ∃ m, m = kmid1 (cdrD a n cap f lo gd) S (s.place % 2 ^ s.pb) p.kind p.dist (klen (cdrD a n cap f lo gd) S.P r1.2.2 819 (s.place % 2 ^ s.pb) (if p.kind = 7 then 0 else p.len - 2)) := ⟨_, rfl⟩
    have hD := kmid1_D a n cap f lo gd S r1.2.2 (s.place % 2 ^ s.pb) p.kind (if p.kind = 7 then 0 else p.len - 2) p.dist (by rw [hS]; exact he) (by rw [hSF]; exact hg) m hm
    rw [hSF] at hD
    obtain ⟨d1, d2, d3⟩ := hD
    rw [← hm]
    have hFb : F.2.1.bad = false := by rw [hF]; exact hb
    have hFH : F.2.1.H = s.H ∧ F.2.1.dict = s.dict := by rw [hF]; exact ⟨rfl, rfl⟩
    by_cases hE : F.2.1.ended = true
    · exact kend_stops a n cap f lo gd (N := L.n) m (.inr (.inr (.inl (by rw [d1]; exact hE))))
    · have hE' : F.2.1.ended = false := by simpa using hE
      have hme : m.1.ended = false := by rw [d1]; exact hE'
      have d4 := d3 hme
      have hF1 : F.1 ≠ 0 := by
        rw [hF] at hE' ⊢
        unfold lfresh at hE' ⊢
        dsimp only at hE' ⊢
        have hz := (Bool.or_eq_false_iff.1 hE').2
        rw [if_neg (by rw [hz]; decide)]
        omega
      unfold lpEnd at ht
      rw [if_neg (by show ¬ ((F.2.1.bad || F.2.2.bad) || F.2.1.ended) = true; rw [hFb, hg, hE']; decide)] at ht
      by_cases hd : F.2.1.dict ≤ F.2.1.rep 0 ∨ ¬ F.2.1.rep 0 < min F.2.1.H.length L.n
      · refine kend_stops a n cap f lo gd (N := L.n) m (.inr (.inr (.inr ⟨?_, by rw [d4]; exact hF1, ?_⟩)))
        · intro d
          rw [d1]
          show d < min F.2.1.H.length L.n ↔ (d < F.2.1.H.length ∧ d < F.2.1.dict)
          rw [hFH.1, hFH.2]
          exact hr d
        · rw [d1]
          exact hd
      · rw [if_neg hd] at ht
        exact absurd ht hF1
end
end Go.Proofs.Ytjnegcambbeblaa

/- The document's walk over its decoder, plain: bad packets of elder distances. -/
namespace Go.Proofs.Ytjnegcambbeblaa
open Go.RowKit

section
variable (a : Option Addr) (n cap : Nat) (f : Nat → Int) (lo gd : Nat)
theorem kpacket_againBad {L : LL} {s : LS} (c : RD Nat) (p : PkV) (hr : RingOk L.n s) (hN : 0 < L.n) (hp : s.place = s.H.length) (hb : s.bad = false) (he : s.ended = false)
    (h0 : (lbit (feedNx f n) s.P c (16 * s.st + s.place % 2 ^ s.pb)).1 ≠ 0) (h1 : (lbit (feedNx f n) (lbit (feedNx f n) s.P c (16 * s.st + s.place % 2 ^ s.pb)).2.1 (lbit (feedNx f n) s.P c (16 * s.st + s.place % 2 ^ s.pb)).2.2 (192 + s.st)).1 ≠ 0)
    (ht : (lpacket (feedNx f n) L s c).2.1.left = 0) : kstops (kpacket (cdrD a n cap f lo gd) (bare s) c p) := by
  obtain ⟨r1, hr1⟩ : ∃ r, r = lbit (feedNx f n) (lbit (feedNx f n) s.P c (16 * s.st + s.place % 2 ^ s.pb)).2.1 (lbit (feedNx f n) s.P c (16 * s.st + s.place % 2 ^ s.pb)).2.2 (192 + s.st) := ⟨_, rfl⟩
  have hr1' : (lbit (feedNx f n) (lbit (feedNx f n) (bare s).P c (16 * (bare s).st + s.place % 2 ^ s.pb)).2.1 (lbit (feedNx f n) (bare s).P c (16 * (bare s).st + s.place % 2 ^ s.pb)).2.2 (192 + (bare s).st)) = r1 := hr1.symm
  have h0' : ¬ (lbit (feedNx f n) (bare s).P c (16 * (bare s).st + s.place % 2 ^ s.pb)).1 = 0 := h0
  have h1' : ¬ (lbit (feedNx f n) (lbit (feedNx f n) (bare s).P c (16 * (bare s).st + s.place % 2 ^ s.pb)).2.1 (lbit (feedNx f n) (bare s).P c (16 * (bare s).st + s.place % 2 ^ s.pb)).2.2 (192 + (bare s).st)).1 = 0 := h1
  unfold kpacket
  rw [show (bare s).H.length % 2 ^ (bare s).pb = s.place % 2 ^ s.pb by rw [hp]; rfl]
  by_cases hmin : min s.H.length L.n = 0
  · have hH : s.H.length = 0 := by omega
    have hk : kkind (cdrD a n cap f lo gd) (bare s) c (s.place % 2 ^ s.pb) p.kind = ((6, true), r1.2) := by
      unfold kkind kkind0
      rw [kbit_D, if_neg h0']
      unfold kkind1
      rw [kbit_D, if_neg h1', if_pos (show (bare s).H.length = 0 from hH), hr1']
    rw [hk]
    show kstops (kpacket2 (cdrD a n cap f lo gd) { bare s with P := r1.2.1, bad := (bare s).bad || true } r1.2.2 (s.place % 2 ^ s.pb) p 6)
    unfold kpacket2
    rw [if_neg (by decide)]
    unfold kmid
    rw [if_neg (by decide), if_pos rfl]
    refine kend_stops a n cap f lo gd (N := L.n) _ (.inr (.inl ?_))
    show ((bare s).bad || true) = true
    simp
  · obtain ⟨F, hF⟩ : ∃ F, F = lagain (feedNx f n) { s with P := r1.2.1 } r1.2.2 (s.place % 2 ^ s.pb) := ⟨_, rfl⟩
    have hpk : lpacket (feedNx f n) L s c = ((0, false), lpEnd L { F.2.1 with left := F.1 } F.2.2, F.2.2) := by
      unfold lpacket
      dsimp only
      rw [if_neg h0, if_neg h1, if_neg hmin, hF, hr1]
    rw [hpk] at ht
    dsimp only at ht
    obtain ⟨Q, hQ⟩ : ∃ Q, Q = lagPick (feedNx f n) r1.2.1 r1.2.2 s.st (s.place % 2 ^ s.pb) := ⟨_, rfl⟩
    have hk : kkind (cdrD a n cap f lo gd) (bare s) c (s.place % 2 ^ s.pb) p.kind = ((pickN Q.1, false), Q.2) := by
      unfold kkind kkind0
      rw [kbit_D, if_neg h0']
      unfold kkind1
      rw [kbit_D, if_neg h1', if_neg (show ¬ (bare s).H.length = 0 by show ¬ s.H.length = 0; omega)]
      obtain ⟨q1, q2⟩ := kpick_D a n cap f lo gd r1.2.1 r1.2.2 s.st (s.place % 2 ^ s.pb) p.kind (chz (p.kind == 2 || p.kind == 6))
      rw [← hQ] at q1 q2
      rw [hr1']
      show ((_, false), _) = _
      rw [show (bare s).st = s.st from rfl, q1, q2]
    rw [hk]
    obtain ⟨S, hS⟩ : ∃ S : LS, S = { bare s with P := Q.2.1, bad := (bare s).bad || false } := ⟨_, rfl⟩
    show kstops (kpacket2 (cdrD a n cap f lo gd) { bare s with P := Q.2.1, bad := (bare s).bad || false } Q.2.2 (s.place % 2 ^ s.pb) p (pickN Q.1))
    rw [← hS]
    have hFH : F.2.1.H = s.H ∧ F.2.1.dict = s.dict ∧ F.2.1.bad = s.bad ∧ F.2.1.ended = s.ended ∧ F.1 ≠ 0 := by
      have e := lagain_H (feedNx f n) { s with P := r1.2.1 } r1.2.2 (s.place % 2 ^ s.pb)
      rw [hF]
      refine ⟨e, ?_⟩
      unfold lagain
      split
      · exact ⟨rfl, rfl, rfl, by show (1 : Nat) ≠ 0; decide⟩
      · exact ⟨rfl, rfl, rfl, by show _ + 2 ≠ 0; omega⟩
    unfold kpacket2
    cases hq : Q.1 with
    | none =>
      rw [show pickN none = 6 from rfl, if_neg (by decide)]
      unfold kmid
      rw [if_neg (by decide), if_pos rfl]
      have hFe : F = (1, { s with P := Q.2.1, st := nextL s.st 9 11 }, Q.2.2) := by
        rw [hF, hQ]
        unfold lagain
        dsimp only
        rw [← hQ, hq]
      refine kend_stops a n cap f lo gd (N := L.n) _ ?_
      dsimp only
      by_cases hg : Q.2.2.bad = true
      · exact .inl hg
      · have hg' : F.2.2.bad = false := by rw [hFe]; simpa using hg
        unfold lpEnd at ht
        rw [if_neg (by show ¬ ((F.2.1.bad || F.2.2.bad) || F.2.1.ended) = true; rw [hFH.2.2.1, hb, hg', hFH.2.2.2.1, he]; decide)] at ht
        by_cases hd : F.2.1.dict ≤ F.2.1.rep 0 ∨ ¬ F.2.1.rep 0 < min F.2.1.H.length L.n
        · refine .inr (.inr (.inr ⟨?_, by decide, ?_⟩))
          · rw [hS]; exact hr
          · rw [hS]
            rw [hFe] at hd
            exact hd
        · rw [if_neg hd] at ht
          exact absurd ht hFH.2.2.2.2
    | some k =>
      have hk3 := pick_le (feedNx f n) r1.2.1 r1.2.2 s.st (s.place % 2 ^ s.pb) k (by rw [← hQ]; exact hq)
      rw [show pickN (some k) = k + 2 from rfl, if_neg (by omega)]
      unfold kmid
      rw [if_neg (by omega), if_neg (by omega), show k + 2 - 2 = k by omega]
      have hFe : F = lagEnd (feedNx f n) { s with P := Q.2.1, rep := if k = 0 then s.rep else rotL s.rep k } Q.2.2 (s.place % 2 ^ s.pb) := by
        rw [hF, hQ]
        unfold lagain
        dsimp only
        rw [← hQ, hq]
      have hSF : lagEnd (feedNx f n) { S with rep := if k = 0 then S.rep else rotL S.rep k } Q.2.2 (s.place % 2 ^ s.pb) = (F.1, { F.2.1 with place := 0, left := 0, bad := (s.bad || false) }, F.2.2) := by
        rw [hS, hFe]
        rfl
      cases hg : F.2.2.bad with
      | true =>
        refine kend_stops a n cap f lo gd (N := L.n) _ (.inl ?_)
        show (klen (cdrD a n cap f lo gd) S.P Q.2.2 1333 (s.place % 2 ^ s.pb) (p.len - 2)).2.2.bad = true
        rw [(klen_D a n cap f lo gd S.P Q.2.2 1333 (s.place % 2 ^ s.pb) (p.len - 2)).1]
        have e : (ltell (feedNx f n) S.P Q.2.2 1333 (s.place % 2 ^ s.pb)).2.2 = F.2.2 := by rw [hS, hFe]; rfl
        rw [e]
        exact hg
      | false =>
        rw [kmid2_D a n cap f lo gd S Q.2.2 (s.place % 2 ^ s.pb) k (p.len - 2) (by rw [hSF]; exact hg), hSF]
        refine kend_stops a n cap f lo gd (N := L.n) _ ?_
        dsimp only
        unfold lpEnd at ht
        rw [if_neg (by show ¬ ((F.2.1.bad || F.2.2.bad) || F.2.1.ended) = true; rw [hFH.2.2.1, hb, hg, hFH.2.2.2.1, he]; decide)] at ht
        by_cases hd : F.2.1.dict ≤ F.2.1.rep 0 ∨ ¬ F.2.1.rep 0 < min F.2.1.H.length L.n
        · refine .inr (.inr (.inr ⟨?_, hFH.2.2.2.2, hd⟩))
          intro d
          show d < min F.2.1.H.length L.n ↔ (d < F.2.1.H.length ∧ d < F.2.1.dict)
          rw [hFH.1, hFH.2.1]
          exact hr d
        · rw [if_neg hd] at ht
          exact absurd ht hFH.2.2.2.2
end
end Go.Proofs.Ytjnegcambbeblaa
