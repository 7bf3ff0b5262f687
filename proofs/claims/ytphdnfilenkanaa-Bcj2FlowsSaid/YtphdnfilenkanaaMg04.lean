/- Texts of this proof, one behind the other. -/
import Derived.Test.YtphdnfilenkanaaMg03
import Derived.Deep.RegionLaw
import Derived.Test.YtphdnfilenkanaaMg02
import Derived.Deep.Slices
import Derived.Deep.Fields
import Derived.ChangeSame
import Derived.ProofKit
import Derived.OpenShut
import Derived.Deep.CutBlock
import Derived.Deep.DeepCutAuto

/- bcj2.Decode. -/
namespace Go.Proofs.Ytphdnfilenkanaa
open Go.RowKit

theorem feedNew_q (w : World) (n : Nat) (f : Nat → Int) (hf : ∀ i, i < n → 0 ≤ f i ∧ f i < 256) (hn : n ≤ 1048576) (e : Ending) (w' : World) (h : NewFeedPost w n f e w') :
    ∃ g a' c', e = .returned (.pointer (some ⟨g, 0, none⟩)) ∧ Fr Non w w' ∧ (feed g a' n c' f hf).I w' 0 ∧ ∀ k, (feed g a' n c' f hf).foot k → w.heap.size ≤ k ∧ k < w'.heap.size := by
  obtain ⟨g, a', c', h1, h2, h3, h4, h5⟩ := h
  exact ⟨g, a', c', h1, h2, ⟨Nat.zero_le _, hn, h3, h4⟩, h5⟩
/-- where the four rows lie. -/
structure FourAt (R : Four) (B : Nat) (w : World) (a0 a1 a2 a3 : Option Addr) (c0 c1 c2 c3 : Nat) : Prop where
  r0 : RowIn B .u8 w a0 R.n0 R.F0
  r1 : RowIn B .u8 w a1 R.n1 R.F1
  r2 : RowIn B .u8 w a2 R.n2 R.F2
  r3 : RowIn B .u8 w a3 R.n3 R.F3
  l0 : R.n0 ≤ c0
  l1 : R.n1 ≤ c1
  l2 : R.n2 ≤ c2
  l3 : R.n3 ≤ c3
  z0 : a0 = none → c0 = 0
  z1 : a1 = none → c1 = 0
  z2 : a2 = none → c2 = 0
  z3 : a3 = none → c3 = 0
  m0 : R.n0 ≤ 16384
  m1 : R.n1 ≤ 16384
  m2 : R.n2 ≤ 16384
  m3 : R.n3 ≤ 65000
theorem FourAt.fr {R : Four} {B : Nat} {w w' : World} {a0 a1 a2 a3 : Option Addr} {c0 c1 c2 c3 : Nat} (h : FourAt R B w a0 a1 a2 a3 c0 c1 c2 c3) {S : Nat → Prop} (hf : Fr S w w') (hs : ∀ i, i < B → ¬ S i) : FourAt R B w' a0 a1 a2 a3 c0 c1 c2 c3 :=
  ⟨h.r0.fr hf hs, h.r1.fr hf hs, h.r2.fr hf hs, h.r3.fr hf hs, h.l0, h.l1, h.l2, h.l3, h.z0, h.z1, h.z2, h.z3, h.m0, h.m1, h.m2, h.m3⟩
theorem FourAt.mono {R : Four} {B B' : Nat} {w : World} {a0 a1 a2 a3 : Option Addr} {c0 c1 c2 c3 : Nat} (h : FourAt R B w a0 a1 a2 a3 c0 c1 c2 c3) (hB : B ≤ B') : FourAt R B' w a0 a1 a2 a3 c0 c1 c2 c3 :=
  ⟨h.r0.mono hB, h.r1.mono hB, h.r2.mono hB, h.r3.mono hB, h.l0, h.l1, h.l2, h.l3, h.z0, h.z1, h.z2, h.z3, h.m0, h.m1, h.m2, h.m3⟩
theorem RowIn.up {B : Nat} {k : IntKind} {w w' : World} {a : Option Addr} {n : Nat} {f : Nat → Int} (h : RowIn B k w a n f) (hB : B ≤ w.heap.size) (hf : Fr Non w w') : RowIn w'.heap.size k w' a n f :=
  (h.fr hf (fun _ _ e => e)).mono (Nat.le_trans hB hf.size)
/-- bcj2.New over four feeds. -/
theorem newQ_feeds (R : Four) (n : Int) (hn0 : -9223372036854775808 ≤ n) (hn1 : n ≤ 9223372036854775807) (g0 g1 g2 g3 : Nat) (a0 a1 a2 a3 : Option Addr) (c0 c1 c2 c3 : Nat) (w : World)
    (i0 : (feed g0 a0 R.n0 c0 R.F0 R.h0).I w 0) (i1 : (feed g1 a1 R.n1 c1 R.F1 R.h1).I w 0) (i2 : (feed g2 a2 R.n2 c2 R.F2 R.h2).I w 0) (i3 : (feed g3 a3 R.n3 c3 R.F3 R.h3).I w 0)
    (hs : SrcsQ (feed g0 a0 R.n0 c0 R.F0 R.h0) (feed g1 a1 R.n1 c1 R.F1 R.h1) (feed g2 a2 R.n2 c2 R.F2 R.h2) (feed g3 a3 R.n3 c3 R.F3 R.h3) w) :
    Calls Try.prog 15 #[.iface 37 (.pointer (some ⟨g0, 0, none⟩)), .iface 37 (.pointer (some ⟨g1, 0, none⟩)), .iface 37 (.pointer (some ⟨g2, 0, none⟩)), .iface 37 (.pointer (some ⟨g3, 0, none⟩)), .int .i64 n] w
      (NewQPost (feed g0 a0 R.n0 c0 R.F0 R.h0) (feed g1 a1 R.n1 c1 R.F1 R.h1) (feed g2 a2 R.n2 c2 R.F2 R.h2) (feed g3 a3 R.n3 c3 R.F3 R.h3) (R.start n.toNat) w) :=
  fnewq_any _ _ _ _ 0 0 0 0 n hn0 hn1 w i0 i1 i2 i3 hs
/-- a new filter over four new feeds. -/
def MadeQ (R : Four) (n : Nat) (w : World) (v : Value) (w' : World) : Prop :=
  ∃ L : BQ, v = .pointer (some ⟨L.g, 0, none⟩) ∧ L.Apart ∧ SameQ R L ∧ FQIs L w' (R.start n) ∧ Fr Non w w' ∧ ∀ k, L.foot k → w.heap.size ≤ k ∧ k < w'.heap.size
def bytesQ (R : Four) (f : FQ) (k : Nat) : List Int := (List.range k).map (f.byteAt R)
theorem bytesQ_snoc (R : Four) (f : FQ) (k : Nat) : bytesQ R f (k + 1) = bytesQ R f k ++ [f.byteAt R k] := by
  unfold bytesQ; rw [List.range_succ, List.map_append]; rfl
theorem bytesQ_len (R : Four) (f : FQ) (k : Nat) : (bytesQ R f k).length = k := by simp [bytesQ]
def lenV : Value → Nat
  | .slice _ n _ => n
  | _ => 0
theorem Own.lenV {w : World} {base : Nat} {k : IntKind} {e : TypeId} {v : Value} {xs : List Int} (h : Own w base k e v xs) : Go.Proofs.Ytphdnfilenkanaa.lenV v = xs.length := by
  obtain ⟨a, c, rfl, _⟩ := h.row
  rfl
theorem Own.low {w : World} {base b2 : Nat} {k : IntKind} {e : TypeId} {v : Value} {xs : List Int} (h : Own w base k e v xs) (hb : b2 ≤ base) : Own w b2 k e v xs := by
  obtain ⟨h1, h2⟩ := h
  refine ⟨h1, ?_⟩
  rcases h2 with h2 | ⟨g, cap, cur, hv, hg, r⟩
  · exact .inl h2
  · exact .inr ⟨g, cap, cur, hv, by omega, r⟩
def DecQPost (R : Four) (n : Nat) (w : World) (e : Ending) (w' : World) : Prop :=
  ∃ k, (∀ i, i < k → (R.start n).okAt R i = true) ∧ (R.start n).okAt R k = false ∧ Fr Non w w' ∧
    ((((R.start n).it R (k + 1)).ends R.L = true ∧ ∃ v, e = .returned (.tuple #[v, .int .i64 0]) ∧ Own w' w.heap.size .u8 5 v (bytesQ R (R.start n) k)) ∨
     (((R.start n).it R (k + 1)).ends R.L = false ∧ e = .returned (.tuple #[.slice none 0 0, .int .i64 12])))
theorem Try.info_u8q : (Try.prog.info? 5).map (fun i => (i.zero, i.size, i.bytes)) = some (some (.int .u8 0), 1, 1) := by kernel_rfl
set_option maxRecDepth 100000 in
set_option maxHeartbeats 8000000 in
theorem decodeQ_any (R : Four) (a0 a1 a2 a3 : Option Addr) (c0 c1 c2 c3 : Nat) (x : Int) (n : Nat) (hn : x.toNat = n) (hx0 : -9223372036854775808 ≤ x) (hx1 : x ≤ 9223372036854775807) (w : World) (h : FourAt R w.heap.size w a0 a1 a2 a3 c0 c1 c2 c3) :
    Calls Try.prog 9 #[.agg #[.slice a0 R.n0 c0, .slice a1 R.n1 c1, .slice a2 R.n2 c2, .slice a3 R.n3 c3], .int .i64 x] w (DecQPost R n w) := by
  have H := hid h
  have HN := hid hn
  have hn63 : n ≤ 9223372036854775807 := by omega
  clear h hn
  go_enter Try.func9, Try.ntmps9
  go_upto_region 1 with fail
  have H1 := hid (show FourAt R w.heap.size (w.alloc (.cells #[.slice a0 R.n0 c0, .slice a1 R.n1 c1, .slice a2 R.n2 c2, .slice a3 R.n3 c3] 24)) a0 a1 a2 a3 c0 c1 c2 c3 from H.out.fr ((Fr.refl Non _).alloc _) (fun _ _ e => e))
  have k0 := blk_cell (blk_new w (.cells #[.slice a0 R.n0 c0, .slice a1 R.n1 c1, .slice a2 R.n2 c2, .slice a3 R.n3 c3] 24)) (j := 0) (v := .slice a0 R.n0 c0) rfl
  have k1 := blk_cell (blk_new w (.cells #[.slice a0 R.n0 c0, .slice a1 R.n1 c1, .slice a2 R.n2 c2, .slice a3 R.n3 c3] 24)) (j := 1) (v := .slice a1 R.n1 c1) rfl
  have k2 := blk_cell (blk_new w (.cells #[.slice a0 R.n0 c0, .slice a1 R.n1 c1, .slice a2 R.n2 c2, .slice a3 R.n3 c3] 24)) (j := 2) (v := .slice a2 R.n2 c2) rfl
  have k3 := blk_cell (blk_new w (.cells #[.slice a0 R.n0 c0, .slice a1 R.n1 c1, .slice a2 R.n2 c2, .slice a3 R.n3 c3] 24)) (j := 3) (v := .slice a3 R.n3 c3) rfl
  go_cut [6] (fun v wx => MadeQ R n w v wx)
  case first =>
    go_region_held3 (fun wx => wx.cell? ⟨w.heap.size, 0, none⟩ = some (.slice a0 R.n0 c0) ∧ wx.cell? ⟨w.heap.size, 1, none⟩ = some (.slice a1 R.n1 c1) ∧ wx.cell? ⟨w.heap.size, 2, none⟩ = some (.slice a2 R.n2 c2) ∧ wx.cell? ⟨w.heap.size, 3, none⟩ = some (.slice a3 R.n3 c3)) (first | exact kk | exact ⟨Fr.cell (S := Non) (by repeat (first | exact Fr.refl _ _ | refine Fr.drew ?_ | refine Fr.trans ?_ (by assumption))) k0 (fun e => e), Fr.cell (S := Non) (by repeat (first | exact Fr.refl _ _ | refine Fr.drew ?_ | refine Fr.trans ?_ (by assumption))) k1 (fun e => e), Fr.cell (S := Non) (by repeat (first | exact Fr.refl _ _ | refine Fr.drew ?_ | refine Fr.trans ?_ (by assumption))) k2 (fun e => e), Fr.cell (S := Non) (by repeat (first | exact Fr.refl _ _ | refine Fr.drew ?_ | refine Fr.trans ?_ (by assumption))) k3 (fun e => e)⟩) (first
      | (go_at_call 16; (first
          | (with_reducible refine (newFeed_any a0 R.n0 c0 R.F0 _ (by have := H.out.m0; omega) H.out.l0 H.out.z0 (H1.out.r0.up (by simp) (by repeat (first | exact Fr.refl _ _ | refine Fr.drew ?_ | refine Fr.trans ?_ (by assumption))))).mono ?_; intro e x0 h0; obtain ⟨g0, b0, d0, rfl, hf0, hi0, hl0⟩ := feedNew_q _ _ _ R.h0 (by have := H.out.m0; omega) _ _ h0; have HI0 := hid hi0; have HL0 := hid hl0; clear h0 hi0 hl0)
          | (with_reducible refine (newFeed_any a1 R.n1 c1 R.F1 _ (by have := H.out.m1; omega) H.out.l1 H.out.z1 (H1.out.r1.up (by simp) (by repeat (first | exact Fr.refl _ _ | refine Fr.drew ?_ | refine Fr.trans ?_ (by assumption))))).mono ?_; intro e x1 h1; obtain ⟨g1, b1, d1, rfl, hf1, hi1, hl1⟩ := feedNew_q _ _ _ R.h1 (by have := H.out.m1; omega) _ _ h1; have HI1 := hid hi1; have HL1 := hid hl1; clear h1 hi1 hl1)
          | (with_reducible refine (newFeed_any a2 R.n2 c2 R.F2 _ (by have := H.out.m2; omega) H.out.l2 H.out.z2 (H1.out.r2.up (by simp) (by repeat (first | exact Fr.refl _ _ | refine Fr.drew ?_ | refine Fr.trans ?_ (by assumption))))).mono ?_; intro e x2 h2; obtain ⟨g2, b2, d2, rfl, hf2, hi2, hl2⟩ := feedNew_q _ _ _ R.h2 (by have := H.out.m2; omega) _ _ h2; have HI2 := hid hi2; have HL2 := hid hl2; clear h2 hi2 hl2)
          | (with_reducible refine (newFeed_any a3 R.n3 c3 R.F3 _ (by have := H.out.m3; omega) H.out.l3 H.out.z3 (H1.out.r3.up (by simp) (by repeat (first | exact Fr.refl _ _ | refine Fr.drew ?_ | refine Fr.trans ?_ (by assumption))))).mono ?_; intro e x3 h3; obtain ⟨g3, b3, d3, rfl, hf3, hi3, hl3⟩ := feedNew_q _ _ _ R.h3 (by have := H.out.m3; omega) _ _ h3; have HI3 := hid hi3; have HL3 := hid hl3; clear h3 hi3 hl3)))
      | (go_at_call 15; refine (newQ_feeds R x hx0 hx1 g0 g1 g2 g3 b0 b1 b2 b3 d0 d1 d2 d3 _ ((feed g0 b0 R.n0 d0 R.F0 R.h0).keep _ _ _ Non HI0.out (by repeat (first | exact Fr.refl _ _ | refine Fr.drew ?_ | refine Fr.trans ?_ (by assumption))) (fun _ _ e => e)) ((feed g1 b1 R.n1 d1 R.F1 R.h1).keep _ _ _ Non HI1.out (by repeat (first | exact Fr.refl _ _ | refine Fr.drew ?_ | refine Fr.trans ?_ (by assumption))) (fun _ _ e => e)) ((feed g2 b2 R.n2 d2 R.F2 R.h2).keep _ _ _ Non HI2.out (by repeat (first | exact Fr.refl _ _ | refine Fr.drew ?_ | refine Fr.trans ?_ (by assumption))) (fun _ _ e => e)) ((feed g3 b3 R.n3 d3 R.F3 R.h3).keep _ _ _ Non HI3.out (by repeat (first | exact Fr.refl _ _ | refine Fr.drew ?_ | refine Fr.trans ?_ (by assumption))) (fun _ _ e => e)) (by have s0 := hf0.size; have s1 := hf1.size; have s2 := hf2.size; have s3 := hf3.size; exact ⟨fun k hk => by have := HL0.out k hk; omega, fun k hk => by have := HL1.out k hk; omega, fun k hk => by have := HL2.out k hk; omega, fun k hk => by have := HL3.out k hk; omega, fun k h1 h2 => by have := HL0.out k h1; have := HL1.out k h2; omega, fun k h1 h2 => by have := HL0.out k h1; have := HL2.out k h2; omega, fun k h1 h2 => by have := HL0.out k h1; have := HL3.out k h2; omega, fun k h1 h2 => by have := HL1.out k h1; have := HL2.out k h2; omega, fun k h1 h2 => by have := HL1.out k h1; have := HL3.out k h2; omega, fun k h1 h2 => by have := HL2.out k h1; have := HL3.out k h2; omega⟩)).mono ?_; rintro e x4 ⟨g, gr, rfl, hg0, hg1, hr0, hr1, hf4, hap, hfq⟩; have s0 := hf0.size; have s1 := hf1.size; have s2 := hf2.size; have s3 := hf3.size; have hwz := (show w.heap.size < (w.alloc (.cells #[.slice a0 R.n0 c0, .slice a1 R.n1 c1, .slice a2 R.n2 c2, .slice a3 R.n3 c3] 24)).drew.heap.size from by show _ < (w.alloc _).heap.size; simp); have hng : ¬ (feed g3 b3 R.n3 d3 R.F3 R.h3).foot w.heap.size := (fun e => by have := HL3.out _ e; omega); have kk := And.intro (hf4.cell (p := ⟨w.heap.size, 0, none⟩) (Fr.cell (S := Non) (by repeat (first | exact Fr.refl _ _ | refine Fr.drew ?_ | refine Fr.trans ?_ (by assumption))) k0 (fun e => e)) hng) (And.intro (hf4.cell (p := ⟨w.heap.size, 1, none⟩) (Fr.cell (S := Non) (by repeat (first | exact Fr.refl _ _ | refine Fr.drew ?_ | refine Fr.trans ?_ (by assumption))) k1 (fun e => e)) hng) (And.intro (hf4.cell (p := ⟨w.heap.size, 2, none⟩) (Fr.cell (S := Non) (by repeat (first | exact Fr.refl _ _ | refine Fr.drew ?_ | refine Fr.trans ?_ (by assumption))) k2 (fun e => e)) hng) (hf4.cell (p := ⟨w.heap.size, 3, none⟩) (Fr.cell (S := Non) (by repeat (first | exact Fr.refl _ _ | refine Fr.drew ?_ | refine Fr.trans ?_ (by assumption))) k3 (fun e => e)) hng))); clear s0 s1 s2 s3 hwz hng))
    all_goals
      have s0 := hf0.size
      have s1 := hf1.size
      have s2 := hf2.size
      have s3 := hf3.size
      have s4 := hf4.size
      have hw0 : w.heap.size < (w.alloc (.cells #[.slice a0 R.n0 c0, .slice a1 R.n1 c1, .slice a2 R.n2 c2, .slice a3 R.n3 c3] 24)).drew.heap.size := by show _ < (w.alloc _).heap.size; simp
      have HFW := hid (show Fr Non w x4 from Fr.then (S := Non) (b := _) (show Fr Non w _ from Fr.trans ((Fr.refl Non w).alloc (.cells #[.slice a0 R.n0 c0, .slice a1 R.n1 c1, .slice a2 R.n2 c2, .slice a3 R.n3 c3] 24)) (by repeat (first | exact Fr.refl _ _ | refine Fr.drew ?_ | refine Fr.trans ?_ (by assumption)))) hf4 (fun i hi e => by have := HL3.out i e; omega))
      have HAP := hid hap
      rw [HN.out] at hfq
      have HFQ := hid hfq
      have HFT := hid (show ∀ k, (⟨g, gr, feed g0 b0 R.n0 d0 R.F0 R.h0, feed g1 b1 R.n1 d1 R.F1 R.h1, feed g2 b2 R.n2 d2 R.F2 R.h2, feed g3 b3 R.n3 d3 R.F3 R.h3⟩ : BQ).foot k → w.heap.size ≤ k ∧ k < x4.heap.size from by
        rintro k (e | e | e | e | e | e)
        · have : k = g := e; omega
        · have := HL0.out k e; omega
        · have := HL1.out k e; omega
        · have := HL2.out k e; omega
        · have : k = gr := e; omega
        · have := HL3.out k e; omega)
      clear kk hf0 hf1 hf2 hf3 hf4 hap hfq s0 s1 s2 s3 s4 hw0 hg0 hg1 hr0 hr1 k0 k1 k2 k3
      go_wp2_with fail
      go_meet
      exact ⟨⟨g, gr, feed g0 b0 R.n0 d0 R.F0 R.h0, feed g1 b1 R.n1 d1 R.F1 R.h1, feed g2 b2 R.n2 d2 R.F2 R.h2, feed g3 b3 R.n3 d3 R.F3 R.h3⟩, rfl, HAP.out, ⟨rfl, rfl, rfl, rfl⟩, HFQ.out, HFW.out, HFT.out⟩
  case rest =>
    obtain ⟨L, rfl, hap, hsm, hfq, hfr, hft⟩ := hcut
    have HAP := hid hap
    have HSM := hid hsm
    have HFQ := hid hfq
    have HFR := hid hfr
    have HFT := hid hft
    have hsz := hfr.size
    have HP := hid (R.start_pos n hn63)
    have hm0 := H.out.m0
    have hm1 := H.out.m1
    have hm2 := H.out.m2
    clear hap hsm hfq hfr hft k0 k1 k2 k3
    go_wp2_with fail
    go_loopw [7] (fun v wr => ∃ k, (∀ i, i < k → (R.start n).okAt R i = true) ∧ FQIs L wr ((R.start n).it R k) ∧ Own wr wc.heap.size .u8 5 v (bytesQ R (R.start n) k) ∧ Fr Non w wr ∧ wc.heap.size ≤ wr.heap.size) (fun v _ => R.n0 + R.n1 + R.n2 - lenV v)
    case atStart => exact ⟨0, (fun i hi => by omega), HFQ.out, Own.nil _ _ _ _, HFR.out, Nat.le_refl _⟩
    case round =>
      obtain ⟨k, hks, hfk, hok, hfr, hwz⟩ := hrel
      have HKS := hid hks
      have HFK := hid hfk
      have HOW := hid hok
      have HFW := hid hfr
      have hcnt := HP.out.count k hks
      rw [R.start_mu] at hcnt
      have hlv := hok.lenV
      rw [bytesQ_len] at hlv
      have HLV := hid hlv
      have HSEP := hid (show ∀ b, u7.ownBlock = some b → ¬ L.foot b from fun b hb e => by have := (hok.block b hb).1; have := (HFT.out b e).2; omega)
      clear hks hfk hok hfr hlv
      go_wp2_with fail
      refine (fnextq_any L HAP.out _ (HP.out.it k).ok _ HFK.out).mono ?_
      rintro e w5 ⟨rfl, hf5, h5⟩
      rw [HSM.out.next] at h5 ⊢
      have h5' : FQIs L w5 ((R.start n).it R (k + 1)) := h5
      have hb : (((R.start n).it R k).next R.L).1 = (R.start n).byteAt R k := rfl
      have ho : (((R.start n).it R k).next R.L).2.1 = (R.start n).okAt R k := rfl
      rw [hb, ho]
      clear hb ho h5
      have HF5 := hid hf5
      have H5 := hid h5'
      have hs5 := hf5.size
      have HF := hid (HFW.out.then hf5 (fun i hi e => by have := (HFT.out i e).1; omega))
      clear hf5 h5'
      cases hcase : (R.start n).okAt R k with
      | true =>
        have HC := hid hcase
        have HO5 := hid (HOW.out.fr HF5.out HSEP.out)
        have hc2 := HP.out.count (k + 1) (fun i hi => by
          by_cases e : i = k
          · rw [e]; exact hcase
          · exact HKS.out i (by omega))
        rw [R.start_mu] at hc2
        clear hcase
        go_wp2_with (refine opAppend1 (some 38) rfl rfl (.tmp 35) (.tmp 37) 22 rfl wc.heap.size .u8 5 1 Try.underlying22 Try.info_u8q _ _ rfl (by exact HO5.out.alloc _) ⟨_, 0, none⟩ 1 _ rfl (cell_new1 _ _ _) (by decide) (by rw [bytesQ_len]; omega) (by simp; omega) ?_; intro v' w6 hown6 hg6)
        have hs6 := hg6.size
        simp at hs6
        have hlt := HOW.out.block
        have HL := hid hlt
        clear hlt
        have HF6 := hid (Fr.grown (HF.out.alloc _) hg6 (fun b hb hlt => by have := (HL.out b hb).1; omega))
        have H6 := hid (H5.out.keep (Fr.grown ((Fr.refl (fun b => u7.ownBlock = some b) w5).alloc _) hg6 (fun b hb _ => hb)) (fun b hb e => HSEP.out b e hb))
        rw [← bytesQ_snoc] at hown6
        have HO6 := hid hown6
        have hlv6 := hown6.lenV
        rw [bytesQ_len] at hlv6
        have HLV6 := hid hlv6
        have HKS' := hid (show ∀ i, i < k + 1 → (R.start n).okAt R i = true from fun i hi => by
          by_cases e : i = k
          · rw [e]; exact HC.out
          · exact HKS.out i (by omega))
        clear hown6 hg6 hlv6
        go_roundw
        case rel => exact ⟨k + 1, HKS'.out, H6.out, HO6.out, HF6.out, by omega⟩
        case measure =>
          rw [HLV.out, HLV6.out]
          omega
      | false =>
        have HC := hid hcase
        clear hcase
        go_wp2_with fail
        refine (ffin_any L HAP.out _ _ H5.out).mono ?_
        rintro e w6 ⟨rfl, hf6, -⟩
        rw [HSM.out.ends]
        have HF6 := hid (HF.out.then hf6 (fun i hi e => by have := (HFT.out i e).1; omega))
        have HO6 := hid ((HOW.out.fr HF5.out HSEP.out).fr hf6 HSEP.out)
        clear hf6
        cases he : ((R.start n).it R (k + 1)).ends R.L with
        | true =>
          have HE := hid he
          clear he
          go_wp2_with fail
          go_ret2
          exact ⟨k, HKS.out, HC.out, HF6.out, .inl ⟨HE.out, _, rfl, HO6.out.low HFR.out.size⟩⟩
        | false =>
          have HE := hid he
          clear he
          go_wp2_with fail
          go_ret2
          exact ⟨k, HKS.out, HC.out, HF6.out, .inr ⟨HE.out, rfl⟩⟩
end Go.Proofs.Ytphdnfilenkanaa

/- bcj2 in plain words: what the document's steps are among the filter's. -/
namespace Go.Proofs.Ytphdnfilenkanaa
open Go.RowKit

/-- the state at the i-th byte, where no byte waits. -/
structure RunQ (R : Four) (n i : Nat) (f : FQ) : Prop where
  it : (R.start n).it R i = f
  oks : ∀ t, t < i → (R.start n).okAt R t = true
  bad : f.bad = false
  waits : f.waits = 0
  told : f.told = i
  size : f.size = n
  pos : f.Pos R
/-- the filter ends, and not as it should. -/
def FailQ (R : Four) (n : Nat) : Prop := ∃ k, (∀ t, t < k → (R.start n).okAt R t = true) ∧ (R.start n).okAt R k = false ∧ ((R.start n).it R (k + 1)).ends R.L = false
theorem ends_bad {L : BQ} {f : FQ} (h : f.bad = true) : f.ends L = false := by
  unfold FQ.ends FQ.ends3 FQ.ends2 FQ.ends1 FQ.ends0
  rw [h]; rfl
theorem RunQ.start (R : Four) (n : Nat) (hn : n ≤ 9223372036854775807) : RunQ R n 0 (R.start n) := ⟨rfl, fun t h => by omega, rfl, rfl, rfl, rfl, R.start_pos n hn⟩
theorem RunQ.over {R : Four} {n i : Nat} {f : FQ} (h : RunQ R n i f) (hi : i < n) : ¬ (f.bad = true ∨ f.told = f.size) := by
  rintro (e | e)
  · rw [h.bad] at e; cases e
  · rw [h.told, h.size] at e; omega
/-- a step: the filter's own. -/
theorem RunQ.at_ {R : Four} {n i : Nat} {f : FQ} (h : RunQ R n i f) {b : Int} {ok : Bool} {f' : FQ} (hn : f.next R.L = (b, ok, f')) :
    (R.start n).okAt R i = ok ∧ (R.start n).byteAt R i = b ∧ (R.start n).it R (i + 1) = f' := by
  have e : (R.start n).it R (i + 1) = ((R.start n).it R i |>.next R.L).2.2 := rfl
  have e1 : (R.start n).okAt R i = ((R.start n).it R i |>.next R.L).2.1 := rfl
  have e2 : (R.start n).byteAt R i = ((R.start n).it R i |>.next R.L).1 := rfl
  rw [e, e1, e2, h.it, hn]
  exact ⟨rfl, rfl, rfl⟩
theorem oks_succ {R : Four} {n i : Nat} (h : ∀ t, t < i → (R.start n).okAt R t = true) (h1 : (R.start n).okAt R i = true) : ∀ t, t < i + 1 → (R.start n).okAt R t = true := fun t ht => by
  by_cases e : t = i
  · rw [e]; exact h1
  · exact h t (by omega)
/-- a bad state: the filter has told all, and fails. -/
theorem fail_of {R : Four} {n i : Nat} (h : ∀ t, t < i → (R.start n).okAt R t = true) (hb : ((R.start n).it R i).bad = true) : FailQ R n := by
  have e : ((R.start n).it R i).next R.L = (0, false, (R.start n).it R i) := nextQ_over (.inl hb)
  have e1 : (R.start n).okAt R i = false := by show (((R.start n).it R i).next R.L).2.1 = _; rw [e]
  have e2 : (R.start n).it R (i + 1) = (R.start n).it R i := by show (((R.start n).it R i).next R.L).2.2 = _; rw [e]
  exact ⟨i, h, e1, by rw [e2]; exact ends_bad hb⟩
/-- no byte of Main is left. -/
theorem RunQ.short {R : Four} {n i : Nat} {f : FQ} (h : RunQ R n i f) (hi : i < n) (hm : ¬ f.m < R.n0) : FailQ R n := by
  have hx : R.L.s0.nx f.m = (0, false, f.m) := if_neg hm
  obtain ⟨h1, _, h3⟩ := h.at_ (nextQ_short (h.over hi) (by rw [h.waits]; decide) hx)
  exact ⟨i, h.oks, h1, by rw [h3]; exact ends_bad rfl⟩
theorem RunQ.nx {R : Four} {f : FQ} (hm : f.m < R.n0) : R.L.s0.nx f.m = (R.F0 f.m, true, f.m + 1) := by
  have hx : R.L.s0.nx f.m = (R.F0 f.m % 256, true, f.m + 1) := if_pos hm
  have := R.h0 f.m hm
  rw [hx, Int.emod_eq_of_lt this.1 this.2]
/-- a byte that is no instruction, or the last one. -/
theorem RunQ.plain {R : Four} {n i : Nat} {f : FQ} (h : RunQ R n i f) (hi : i < n) (hm : f.m < R.n0) (hk : whichQ f.ahead (R.F0 f.m) = none ∨ ¬ i + 1 < n) :
    RunQ R n (i + 1) { f with m := f.m + 1, told := f.told + 1, ahead := (R.F0 f.m).toNat } ∧ (R.start n).byteAt R i = R.F0 f.m := by
  have hn := nextQ_plain (h.over hi) (by rw [h.waits]; decide) (RunQ.nx hm) (by rw [h.told, h.size]; exact hk)
  obtain ⟨h1, h2, h3⟩ := h.at_ hn
  have hp := h.pos.next.1
  rw [hn] at hp
  exact ⟨⟨h3, oks_succ h.oks h1, h.bad, h.waits, by show f.told + 1 = _; rw [h.told], h.size, hp⟩, h2⟩
/-- an instruction whose bit is 0. -/
theorem RunQ.bit0 {R : Four} {n i k : Nat} {f : FQ} (h : RunQ R n i f) (hi : i + 1 < n) (hm : f.m < R.n0) (hk : whichQ f.ahead (R.F0 f.m) = some k) (hb : (f.d.bit R.L.s3.nx (f.q k)).1 = 0) (hd : (f.d.bit R.L.s3.nx (f.q k)).2.2.bad = false) :
    RunQ R n (i + 1) (f.bitted R.L (R.F0 f.m) (f.m + 1) k) ∧ (R.start n).byteAt R i = R.F0 f.m := by
  have hn := nextQ_bit (h.over (by omega)) (by rw [h.waits]; decide) (RunQ.nx hm) hk (by rw [h.told, h.size]; exact hi)
  rw [if_neg (by omega)] at hn
  obtain ⟨h1, h2, h3⟩ := h.at_ hn
  have hp := h.pos.next.1
  rw [hn] at hp
  exact ⟨⟨h3, oks_succ h.oks h1, hd, h.waits, by show f.told + 1 = _; rw [h.told], h.size, hp⟩, h2⟩
theorem bit_bad0 {S : Type} (nx : S → Int × Bool × S) (d : RD S) (p : Int) (h : (d.bit nx p).2.2.bad = true) : (d.bit nx p).1 = 0 := by
  revert h
  unfold RD.bit
  split
  · intro _; rfl
  · split
    · intro _; rfl
    · intro h; exact if_pos h
/-- an instruction at which the decoder comes to be bad. -/
theorem RunQ.bitBad {R : Four} {n i k : Nat} {f : FQ} (h : RunQ R n i f) (hi : i + 1 < n) (hm : f.m < R.n0) (hk : whichQ f.ahead (R.F0 f.m) = some k) (hd : (f.d.bit R.L.s3.nx (f.q k)).2.2.bad = true) : FailQ R n := by
  have hn := nextQ_bit (h.over (by omega)) (by rw [h.waits]; decide) (RunQ.nx hm) hk (by rw [h.told, h.size]; exact hi)
  rw [if_neg (by rw [bit_bad0 _ _ _ hd]; decide)] at hn
  obtain ⟨h1, _, h3⟩ := h.at_ hn
  exact fail_of (oks_succ h.oks h1) (by rw [h3]; exact hd)
/-- an instruction whose bit is 1: the target. -/
theorem RunQ.bit1 {R : Four} {n i k : Nat} {f : FQ} (h : RunQ R n i f) (hi : i + 1 < n) (hm : f.m < R.n0) (hk : whichQ f.ahead (R.F0 f.m) = some k) (hb : (f.d.bit R.L.s3.nx (f.q k)).1 = 1) :
    (R.start n).it R (i + 1) = (f.bitted R.L (R.F0 f.m) (f.m + 1) k).target R.L.s1.nx R.L.s2.nx (R.F0 f.m) ∧ (R.start n).byteAt R i = R.F0 f.m ∧ (∀ t, t < i + 1 → (R.start n).okAt R t = true) := by
  have hn := nextQ_bit (h.over (by omega)) (by rw [h.waits]; decide) (RunQ.nx hm) hk (by rw [h.told, h.size]; exact hi)
  rw [if_pos hb] at hn
  obtain ⟨h1, h2, h3⟩ := h.at_ hn
  exact ⟨h3, h2, oks_succ h.oks h1⟩
theorem target_badB {R : Four} {f : FQ} {b : Int} (h : (if b = 232 then (takeQ R.L.s1.nx 4 0 f.bad f.c).2.1 else (takeQ R.L.s2.nx 4 0 f.bad f.j).2.1) = true ∨ f.size - f.told < 4) : (f.target R.L.s1.nx R.L.s2.nx b).bad = true := by
  by_cases hb : b = 232
  · subst hb
    rw [if_pos rfl] at h
    generalize hr : takeQ R.L.s1.nx 4 0 f.bad f.c = r at *
    obtain ⟨p, bb, s⟩ := r
    rw [target_bad_c hr (by rcases h with h | h; (simp only at h; rw [h]; rfl); (rw [decide_eq_true h]; simp))]
  · rw [if_neg hb] at h
    generalize hr : takeQ R.L.s2.nx 4 0 f.bad f.j = r at *
    obtain ⟨p, bb, s⟩ := r
    rw [target_bad_j hb hr (by rcases h with h | h; (simp only at h; rw [h]; rfl); (rw [decide_eq_true h]; simp))]
theorem takeQ_short {F : Nat → Int} {n c : Nat} (p : Int) (b : Bool) (hc : c ≤ n) (h : n < c + 4) : (takeQ (feedNx F n) 4 p b c).2.1 = true := by
  obtain ⟨h1, _, h3⟩ := takeQ_pos (F := F) 4 p b c hc
  cases he : (takeQ (feedNx F n) 4 p b c).2.1 with
  | true => rfl
  | false => have := (h3 he).1; omega
/-- four bytes as a number, the greatest first. -/
def four4 (F : Nat → Int) (c : Nat) : Int := F c * 16777216 + F (c + 1) * 65536 + F (c + 2) * 256 + F (c + 3)
theorem takeQ_four {F : Nat → Int} {n c : Nat} (hF : ∀ i, i < n → 0 ≤ F i ∧ F i < 256) (h : c + 4 ≤ n) : takeQ (feedNx F n) 4 0 false c = (four4 F c, false, c + 4) := by
  have e : ∀ i, i < n → feedNx F n i = (F i, true, i + 1) := fun i hi => by
    unfold feedNx; rw [if_pos hi, Int.emod_eq_of_lt (hF i hi).1 (hF i hi).2]
  have h0 := hF c (by omega)
  have h1 := hF (c + 1) (by omega)
  have h2 := hF (c + 2) (by omega)
  have h3 := hF (c + 3) (by omega)
  simp only [takeQ, e c (by omega), e (c + 1) (by omega), e (c + 2) (by omega), e (c + 3) (by omega)]
  refine Prod.ext ?_ rfl
  show ((((0 * 256 % 4294967296 + F c) * 256 % 4294967296 + F (c + 1)) * 256 % 4294967296 + F (c + 2)) * 256 % 4294967296 + F (c + 3)) = _
  unfold four4
  omega
theorem tgt_call {R : Four} {f : FQ} (hb : f.bad = false) (hc : f.c + 4 ≤ R.n1) (hs : ¬ f.size - f.told < 4) :
    f.target R.L.s1.nx R.L.s2.nx 232 = { f with c := f.c + 4, bad := false, word := wordQ ((four4 R.F1 f.c - (f.told + 4)) % 4294967296), waits := 4, ahead := ((four4 R.F1 f.c - (f.told + 4)) % 4294967296 / 16777216 % 256).toNat } :=
  target_ok_c (by rw [hb]; exact takeQ_four R.h1 hc) hs
theorem tgt_jump {R : Four} {f : FQ} {x : Int} (hx : ¬ x = 232) (hb : f.bad = false) (hc : f.j + 4 ≤ R.n2) (hs : ¬ f.size - f.told < 4) :
    f.target R.L.s1.nx R.L.s2.nx x = { f with j := f.j + 4, bad := false, word := wordQ ((four4 R.F2 f.j - (f.told + 4)) % 4294967296), waits := 4, ahead := ((four4 R.F2 f.j - (f.told + 4)) % 4294967296 / 16777216 % 256).toNat } :=
  target_ok_j hx (by rw [hb]; exact takeQ_four R.h2 hc) hs
theorem tgt_short {R : Four} {f : FQ} {x : Int} (h : (x = 232 ∧ R.n1 < f.c + 4 ∧ f.c ≤ R.n1) ∨ (¬ x = 232 ∧ R.n2 < f.j + 4 ∧ f.j ≤ R.n2) ∨ f.size - f.told < 4) : (f.target R.L.s1.nx R.L.s2.nx x).bad = true := by
  refine target_badB ?_
  rcases h with ⟨h1, h2, h3⟩ | ⟨h1, h2, h3⟩ | h
  · rw [if_pos h1]; exact .inl (takeQ_short _ _ h3 h2)
  · rw [if_neg h1]; exact .inl (takeQ_short _ _ h3 h2)
  · exact .inr h
/-- what waits is told. -/
theorem wait4 {R : Four} {n i : Nat} {f : FQ} (hit : (R.start n).it R (i + 1) = f) (hok : ∀ t, t < i + 1 → (R.start n).okAt R t = true) (hb : f.bad = false) (hw : f.waits = 4) (ht : f.told = i + 1) (hs : f.size = n) (hn : i + 5 ≤ n) (hp : f.Pos R) :
    RunQ R n (i + 5) { f with waits := 0, told := f.told + 4 } ∧ (R.start n).byteAt R (i + 1) = f.word 0 ∧ (R.start n).byteAt R (i + 2) = f.word 1 ∧ (R.start n).byteAt R (i + 3) = f.word 2 ∧ (R.start n).byteAt R (i + 4) = f.word 3 := by
  have st : ∀ (k : Nat) (g : FQ), (R.start n).it R k = g → (∀ t, t < k → (R.start n).okAt R t = true) → g.bad = false → 0 < g.waits → g.told < g.size →
      (R.start n).byteAt R k = g.word (4 - g.waits) ∧ (R.start n).it R (k + 1) = { g with waits := g.waits - 1, told := g.told + 1 } ∧ ∀ t, t < k + 1 → (R.start n).okAt R t = true := by
    intro k g h1 h2 h3 h4 h5
    have e := nextQ_wait (L := R.L) (f := g) (by rintro (e | e); rw [h3] at e; cases e; omega) h4
    have e0 : (R.start n).okAt R k = true := by show (((R.start n).it R k).next R.L).2.1 = _; rw [h1, e]
    refine ⟨?_, ?_, oks_succ h2 e0⟩
    · show (((R.start n).it R k).next R.L).1 = _; rw [h1, e]
    · show (((R.start n).it R k).next R.L).2.2 = _; rw [h1, e]
  obtain ⟨b1, i1, o1⟩ := st (i + 1) f hit hok hb (by omega) (by omega)
  obtain ⟨b2, i2, o2⟩ := st (i + 2) _ i1 o1 hb (by show 0 < f.waits - 1; omega) (by show f.told + 1 < f.size; omega)
  obtain ⟨b3, i3, o3⟩ := st (i + 3) _ i2 o2 hb (by show 0 < f.waits - 1 - 1; omega) (by show f.told + 1 + 1 < f.size; omega)
  obtain ⟨b4, i4, o4⟩ := st (i + 4) _ i3 o3 hb (by show 0 < f.waits - 1 - 1 - 1; omega) (by show f.told + 1 + 1 + 1 < f.size; omega)
  refine ⟨⟨?_, o4, hb, rfl, by show f.told + 4 = _; omega, hs, ?_⟩, ?_, ?_, ?_, ?_⟩
  · rw [i4, hw]
    rfl
  · have hok := hp.ok
    exact ⟨hp.p0, hp.p1, hp.p2, ⟨hok.pr, hok.ahead, hok.size, by show f.told + 4 ≤ f.size; omega, by show 0 ≤ 4; omega⟩, hp.w0⟩
  · rw [b1, hw]
  · rw [b2]; show f.word (4 - (f.waits - 1)) = _; rw [hw]
  · rw [b3]; show f.word (4 - (f.waits - 1 - 1)) = _; rw [hw]
  · rw [b4]; show f.word (4 - (f.waits - 1 - 1 - 1)) = _; rw [hw]
end Go.Proofs.Ytphdnfilenkanaa

/- Questions (api.Ask): how a list of them reads; Right; law04.ask. -/
namespace Go.Proofs.Ytphdnfilenkanaa
open Go.RowKit

structure Ask where
  kind : Int
  at_ : Int
  bits : Int
  val : Int
def Ask.agg (a : Ask) : Value := .agg #[.int .i64 a.kind, .int .i64 a.at_, .int .i64 a.bits, .int .u32 a.val]
def Ask.wf (a : Ask) : Prop := (-9223372036854775808 ≤ a.kind ∧ a.kind ≤ 9223372036854775807) ∧ (-9223372036854775808 ≤ a.at_ ∧ a.at_ ≤ 9223372036854775807) ∧ (-9223372036854775808 ≤ a.bits ∧ a.bits ≤ 9223372036854775807) ∧ 0 ≤ a.val ∧ a.val < 4294967296
/-- n questions l, as a slice that came in holds them. -/
def AsksIn (B : Nat) (w : World) (a : Option Addr) (n : Nat) (l : Nat → Ask) : Prop :=
  n = 0 ∨ ∃ b off, a = some ⟨b, off, none⟩ ∧ b < B ∧ ∀ i, i < n → w.cell? ⟨b, off + i * 4, none⟩ = some (.int .i64 (l i).kind) ∧ w.cell? ⟨b, off + i * 4 + 1, none⟩ = some (.int .i64 (l i).at_) ∧
    w.cell? ⟨b, off + i * 4 + 2, none⟩ = some (.int .i64 (l i).bits) ∧ w.cell? ⟨b, off + i * 4 + 3, none⟩ = some (.int .u32 (l i).val)
theorem AsksIn.fr {B : Nat} {w w' : World} {a : Option Addr} {n : Nat} {l : Nat → Ask} {S : Nat → Prop} (h : AsksIn B w a n l) (hf : Fr S w w') (hs : ∀ i, i < B → ¬ S i) : AsksIn B w' a n l := by
  rcases h with h | ⟨b, off, h1, h2, h3⟩
  · exact .inl h
  · exact .inr ⟨b, off, h1, h2, fun i hi => ⟨hf.cell (h3 i hi).1 (hs b h2), hf.cell (h3 i hi).2.1 (hs b h2), hf.cell (h3 i hi).2.2.1 (hs b h2), hf.cell (h3 i hi).2.2.2 (hs b h2)⟩⟩
theorem AsksIn.at {B : Nat} {w : World} {a : Option Addr} {n : Nat} {l : Nat → Ask} (h : AsksIn B w a n l) {i : Nat} (hi : i < n) :
    ∃ b off, a = some ⟨b, off, none⟩ ∧ b < B ∧ w.cell? ⟨b, off + i * 4, none⟩ = some (.int .i64 (l i).kind) ∧ w.cell? ⟨b, off + i * 4 + 1, none⟩ = some (.int .i64 (l i).at_) ∧
      w.cell? ⟨b, off + i * 4 + 2, none⟩ = some (.int .i64 (l i).bits) ∧ w.cell? ⟨b, off + i * 4 + 3, none⟩ = some (.int .u32 (l i).val) := by
  rcases h with h | ⟨b, off, h1, h2, h3⟩
  · omega
  · exact ⟨b, off, h1, h2, h3 i hi⟩

/-- may that be asked, with 600 probabilities? -/
def Ask.Right (a : Ask) : Prop := (a.kind = 0 ∧ 0 ≤ a.at_ ∧ a.at_ < 600) ∨ ((a.kind = 1 ∨ a.kind = 2) ∧ 0 ≤ a.at_ ∧ a.at_ < 340 ∧ 1 ≤ a.bits ∧ a.bits ≤ 8) ∨ (a.kind = 3 ∧ 0 ≤ a.bits ∧ a.bits ≤ 32)
instance (a : Ask) : Decidable a.Right := by unfold Ask.Right; infer_instance
def Ask.rightB (a : Ask) : Bool := decide a.Right
def RightPost (w : World) (b : Bool) (e : Ending) (w' : World) : Prop := e = .returned (.bool b) ∧ Fr Non w w'

/-- what is asked of a decoder: the answer, the probabilities, the decoder. -/
def spliceQ (q : Nat → Int) (off L : Nat) (r : Nat → Int) : Nat → Int := fun j => if off ≤ j ∧ j < off + L then r (j - off) else q j
def RD.ask {S : Type} (nx : S → Int × Bool × S) (d : RD S) (q : Nat → Int) (a : Ask) : Nat × (Nat → Int) × RD S :=
  if a.kind = 0 then ((d.bit nx (q a.at_.toNat)).1, upd q a.at_.toNat (d.bit nx (q a.at_.toNat)).2.1, (d.bit nx (q a.at_.toNat)).2.2)
  else if a.kind = 1 then ((d.tree nx a.bits.toNat (fun j => q (a.at_.toNat + j))).1, spliceQ q a.at_.toNat (2 ^ a.bits.toNat) (d.tree nx a.bits.toNat (fun j => q (a.at_.toNat + j))).2.1, (d.tree nx a.bits.toNat (fun j => q (a.at_.toNat + j))).2.2)
  else if a.kind = 2 then ((d.rev nx a.bits.toNat (fun j => q (a.at_.toNat + j))).1, spliceQ q a.at_.toNat (2 ^ a.bits.toNat) (d.rev nx a.bits.toNat (fun j => q (a.at_.toNat + j))).2.1, (d.rev nx a.bits.toNat (fun j => q (a.at_.toNat + j))).2.2)
  else ((d.str nx a.bits.toNat).1, q, (d.str nx a.bits.toNat).2)
theorem win_arr {N off L : Nat} {q r : Nat → Int} {cs' : Array Value} (h : Win (arr .u16 N q) cs' off L r) (hN : off + L ≤ N) : cs' = arr .u16 N (spliceQ q off L r) := by
  apply Array.ext_getElem?
  intro i
  rw [arr_get?]
  unfold spliceQ
  by_cases h1 : off ≤ i ∧ i < off + L
  · have := h.cell (i - off) (by omega)
    rw [show off + (i - off) = i by omega] at this
    rw [this, if_pos (by omega), if_pos h1]
  · rw [h.rest i (by omega), arr_get?, if_neg h1]
end Go.Proofs.Ytphdnfilenkanaa

/- law04.ask by its contract. -/
namespace Go.Proofs.Ytphdnfilenkanaa
open Go.RowKit

theorem treeGo_lt {S : Type} (nx : S → Int × Bool × S) : ∀ (k j : Nat) (d : RD S) (q : Nat → Int) (m : Nat), m < 2 ^ j → (RD.treeGo nx k d q m).1 < 2 ^ (j + k)
  | 0, j, d, q, m, h => h
  | k + 1, j, d, q, m, h => by
    have hb := bit_le nx d (q m)
    have := treeGo_lt nx k (j + 1) (d.bit nx (q m)).2.2 (upd q m (d.bit nx (q m)).2.1) (2 * m + (d.bit nx (q m)).1) (by rw [Nat.pow_succ]; omega)
    rw [show j + (k + 1) = j + 1 + k by omega]
    exact this
theorem tree_lt {S : Type} (nx : S → Int × Bool × S) (k : Nat) (d : RD S) (q : Nat → Int) : (d.tree nx k q).1 < 2 ^ k := by
  have h := treeGo_lt nx k 1 d q 1 (by decide)
  have hp : 0 < 2 ^ k := Nat.pow_pos (by decide)
  unfold RD.tree
  by_cases hb : (RD.treeGo nx k d q 1).2.2.bad = true
  · rw [if_pos hb]; exact hp
  · rw [if_neg hb]
    show (RD.treeGo nx k d q 1).1 - 2 ^ k < 2 ^ k
    rw [show 1 + k = k + 1 by omega, Nat.pow_succ] at h
    omega
theorem revGo_lt {S : Type} (nx : S → Int × Bool × S) : ∀ (k i : Nat) (d : RD S) (q : Nat → Int) (m out : Nat), out < 2 ^ i → (RD.revGo nx k i d q m out).1 < 2 ^ (i + k)
  | 0, i, d, q, m, out, h => h
  | k + 1, i, d, q, m, out, h => by
    have hb := bit_le nx d (q m)
    have h2 : (d.bit nx (q m)).1 * 2 ^ i ≤ 1 * 2 ^ i := Nat.mul_le_mul_right _ hb
    have := revGo_lt nx k (i + 1) (d.bit nx (q m)).2.2 (upd q m (d.bit nx (q m)).2.1) (2 * m + (d.bit nx (q m)).1) (out + (d.bit nx (q m)).1 * 2 ^ i) (by rw [Nat.pow_succ]; omega)
    rw [show i + (k + 1) = i + 1 + k by omega]
    exact this
theorem rev_lt {S : Type} (nx : S → Int × Bool × S) (k : Nat) (d : RD S) (q : Nat → Int) : (d.rev nx k q).1 < 2 ^ k := by
  have h := revGo_lt nx k 0 d q 1 0 (by decide)
  have hp : 0 < 2 ^ k := Nat.pow_pos (by decide)
  unfold RD.rev
  by_cases hb : (RD.revGo nx k 0 d q 1 0).2.2.bad = true
  · rw [if_pos hb]; exact hp
  · rw [if_neg hb]; rw [Nat.zero_add] at h; exact h

def AskPost {S : Type} (s : Sour S) (g gp : Nat) (w : World) (r : Nat × (Nat → Int) × RD S) (e : Ending) (w' : World) : Prop :=
  e = .returned (.int .u32 r.1) ∧ Fr (bitFoot s g gp) w w' ∧ DecIs s g w' r.2.2 ∧ w'.heap[gp]? = some (.cells (arr .u16 600 r.2.1) 46)

end Go.Proofs.Ytphdnfilenkanaa

/- Decoders over feeds; law04's first look, awake. -/
namespace Go.Proofs.Ytphdnfilenkanaa
open Go.RowKit

theorem make_u8 (n : Nat) (hn : n ≤ 1048576) (w : World) : (Instr.makeSlice 22 (.int .i64 n) (.int .i64 n)).run Try.prog w = .ok (.slice (some ⟨w.heap.size, 0, none⟩) n n) (w.alloc (.cells (arr .u8 n (fun _ => 0)) 5)) := by
  obtain ⟨i, hi, hz0, hz1, hz2⟩ := info_parts Try.info_u8
  have h := run_make (P := Try.prog) w 22 5 i (.int .u8 0) Try.underlying22 hi hz0 .i64 .i64 n n (by omega) (by omega) (by rw [hz2]; omega) (by omega)
  simp only [Int.toNat_natCast, hz1, arr_made] at h
  exact h

/-- a decoder at g over a feed of the n bytes f, all its blocks from lo on, below hi. -/
structure Deco (lo hi : Nat) (f : Nat → Int) (n : Nat) where
  fg : Nat
  a : Option Addr
  c : Nat
  g : Nat
  hf : ∀ i, i < n → 0 ≤ f i ∧ f i < 256
  low : ∀ k, decFoot (feed fg a n c f hf) g k → lo ≤ k ∧ k < hi
def Deco.s {lo hi : Nat} {f : Nat → Int} {n : Nat} (D : Deco lo hi f n) : Sour Nat := feed D.fg D.a n D.c f D.hf
def Deco.Is {lo hi : Nat} {f : Nat → Int} {n : Nat} (D : Deco lo hi f n) (w : World) (d : RD Nat) : Prop := DecIs D.s D.g w d

theorem feedNew_any (w : World) (n : Nat) (f : Nat → Int) (hf : ∀ i, i < n → 0 ≤ f i ∧ f i < 256) (hn : n ≤ 1048576) (e : Ending) (w' : World) (h : NewFeedPost w n f e w') :
    ∃ g a' c', e = .returned (.pointer (some ⟨g, 0, none⟩)) ∧ Fr Non w w' ∧ (feed g a' n c' f hf).I w' 0 ∧ ∀ k, (feed g a' n c' f hf).foot k → w.heap.size ≤ k ∧ k < w'.heap.size := by
  obtain ⟨g, a', c', h1, h2, h3, h4, h5⟩ := h
  exact ⟨g, a', c', h1, h2, ⟨Nat.zero_le _, hn, h3, h4⟩, h5⟩
/-- New over a feed. -/
def DecoPost (w0 w : World) (f : Nat → Int) (n : Nat) (e : Ending) (w' : World) : Prop :=
  ∃ D : Deco w0.heap.size w'.heap.size f n, e = .returned (.pointer (some ⟨D.g, 0, none⟩)) ∧ Fr Non w0 w' ∧ D.Is w' (RD.new (feedNx f n) 0)
theorem newF_any (w0 w : World) (n : Nat) (f : Nat → Int) (hf : ∀ i, i < n → 0 ≤ f i ∧ f i < 256) (g : Nat) (a' : Option Addr) (c' : Nat) (hw : Fr Non w0 w) (hi : (feed g a' n c' f hf).I w 0)
    (hl : ∀ k, (feed g a' n c' f hf).foot k → w0.heap.size ≤ k ∧ k < w.heap.size) :
    Calls Try.prog 31 #[.iface 37 (.pointer (some ⟨g, 0, none⟩))] w (DecoPost w0 w f n) := by
  refine (dnew_any (feed g a' n c' f hf) 0 w hi (fun k hk => (hl k hk).2)).mono ?_
  rintro e w' ⟨gd, h1, h2, h3, h4, h5⟩
  have hs := hw.size
  have hs2 := h4.size
  refine ⟨⟨g, a', c', gd, hf, fun k hk => ?_⟩, h3, ?_, h5⟩
  · rcases hk with rfl | hk
    · exact ⟨by omega, h2⟩
    · have := hl k hk; exact ⟨this.1, by omega⟩
  · exact hw.then h4 (fun i hi hk => by have := hl i hk; omega)
theorem Deco.keep {lo hi : Nat} {f : Nat → Int} {n : Nat} {D : Deco lo hi f n} {w w' : World} {d : RD Nat} (h : D.Is w d) {T : Nat → Prop} (hf : Fr T w w') (ht : ∀ k, lo ≤ k → k < hi → ¬ T k) : D.Is w' d :=
  DecIs.keep h hf (fun k hk => ht k (D.low k hk).1 (D.low k hk).2)

theorem zeros_row (w : World) (n : Nat) (t : TypeId) (B : Nat) (hB : w.heap.size < B) : RowIn B .u8 (w.alloc (.cells (arr .u8 n (fun _ => 0)) t)) (some ⟨w.heap.size, 0, none⟩) n (fun _ => 0) :=
  (RowIn.ofArr0 (blk_new w _)).mono hB
theorem zeros_bd (n : Nat) : ∀ i, i < n → 0 ≤ (fun _ : Nat => (0 : Int)) i ∧ (fun _ : Nat => (0 : Int)) i < 256 := fun _ _ => by show (0 : Int) ≤ 0 ∧ (0 : Int) < 256; omega

theorem new5 : RD.new (feedNx (fun _ => 0) 5) 0 = ⟨5, 4294967295, 0, false⟩ := by kernel_rfl
theorem bit5 : RD.bit (feedNx (fun _ => 0) 5) ⟨5, 4294967295, 0, false⟩ 1024 = (0, 1056, ⟨5, 2147482624, 0, false⟩) := by kernel_rfl
theorem bad5 : (RD.new (feedNx (lit [1, 0, 0, 0, 0]) 5) 0).bad = true := by kernel_rfl

end Go.Proofs.Ytphdnfilenkanaa

/- A list of questions that came in, opened. (The first block is the kit's own page extra-structs, to be copied.) -/
namespace Go.Proofs.Ytphdnfilenkanaa
open Go.ChangeShapes Go.WideShapes Go.Deep Go.RowKit

section
variable {H : Type} {enc : TypeId × Value → H} {P : Program} {w : World} {base : Nat} {spare : Nat → Bool} {held : Bool}
theorem open_slice_fields {t e : TypeId} {fs : Array Field} {fuel : Nat} {cs : List Value} {x : DataW H × List MemPlace} (ht : P.underlying t = some (.slice e)) (he : P.underlying e = some (.struct fs))
    (hone : oneCellFields P fs = true) (hC : P.cellsOf e = fs.size) (h : DataW.trod enc P w base spare held fuel t cs = some x) :
    (cs = [.slice none 0 0] ∧ x = (.nil, [])) ∨
    ∃ (a : Addr) (len cap m : Nat) (D : Nat → DataW H) (Pl : Nat → List MemPlace), cs = [.slice (some a) len cap] ∧ base ≤ a.block ∧ len ≤ cap ∧ cap ≤ maxLen ∧ m = (if spare a.block then cap else len) ∧
      x = (.slice ((List.range len).map D) ((List.range (m - len)).map fun j => D (len + j)), MemPlace.row a (m * fs.size) ++ (List.range m).flatMap Pl) ∧
      ∀ i, i < m → ∃ (ys : List (DataW H × List MemPlace)) (n : Nat), D i = .agg (ys.map (·.1)) ∧ Pl i = ys.flatMap (·.2) ∧ ys.length = fs.size ∧
        ∀ (j : Nat) (f : Field), fs[j]? = some f → ∃ (v : Value) (y : DataW H × List MemPlace), w.cell? (a.add (i * fs.size + j)) = some v ∧ ys[j]? = some y ∧ DataW.trod enc P w base spare held n f.type [v] = some y := by
  rcases open_slice ht h with h0 | ⟨a, len, cap, m, n, D, Pl, hcs, hb, hl, hm, hmm, hx, hi⟩
  · exact .inl h0
  · refine .inr ⟨a, len, cap, m, D, Pl, hcs, hb, hl, hm, hmm, by rw [hC] at hx; exact hx, fun i him => ?_⟩
    obtain ⟨cs', hc, ht'⟩ := hi i him
    rw [hC] at hc
    obtain ⟨ys, n', hn', hy, hlen, hyl, hf⟩ := DataW.trod_struct he ht'
    obtain ⟨_, hcl, hat⟩ := World.cells?_some hc
    simp only [Prod.mk.injEq] at hy
    refine ⟨ys, n', hy.1, hy.2, hyl, fun j f hj => ?_⟩
    obtain ⟨ho, hk⟩ := hone_of hone j f hj
    have hjl : j < fs.size := (Array.getElem?_eq_some_iff.1 hj).1
    have hcell := hat j hjl
    have hv : cs'[j]? = some (cs'[j]'(by omega)) := List.getElem?_eq_getElem (by omega)
    have h1 := hf j f hj
    rw [ho, hk] at h1
    have hone' : (cs'.drop j).take 1 = [cs'[j]'(by omega)] := by
      rw [List.drop_eq_getElem_cons (by omega)]
      rfl
    rw [hone'] at h1
    have hys : ys[j]? = some (ys[j]'(by omega)) := List.getElem?_eq_getElem (by omega)
    refine ⟨_, _, ?_, hys, h1.trans hys⟩
    rw [← Go.Deep.add_add, hcell, hv]
end

def AskRow (w : World) (a : Option Addr) (len cap : Nat) (l : Nat → Ask) : Prop :=
  len ≤ cap ∧ cap ≤ maxLen ∧ AsksIn w.heap.size w a len l ∧ (a = none → cap = 0) ∧ ∀ i, i < len → (l i).wf
end Go.Proofs.Ytphdnfilenkanaa

/- law04: same; what a row of questions does, in plain terms. -/
namespace Go.Proofs.Ytphdnfilenkanaa
open Go.RowKit

/-! ### plain: what a bad decoder tells -/
theorem upd_id (q : Nat → Int) (m : Nat) : upd q m (q m) = q := by
  funext j; unfold upd; by_cases h : j = m
  · rw [if_pos h, h]
  · rw [if_neg h]
theorem bit_bad {S : Type} (nx : S → Int × Bool × S) (d : RD S) (p : Int) (h : d.bad = true) : d.bit nx p = (0, p, d) := if_pos h
theorem treeGo_bad {S : Type} (nx : S → Int × Bool × S) : ∀ (k : Nat) (d : RD S) (q : Nat → Int) (m : Nat), d.bad = true → (RD.treeGo nx k d q m).2 = (q, d)
  | 0, d, q, m, h => rfl
  | k + 1, d, q, m, h => by
    show (RD.treeGo nx k (d.bit nx (q m)).2.2 (upd q m (d.bit nx (q m)).2.1) (2 * m + (d.bit nx (q m)).1)).2 = _
    rw [bit_bad nx d (q m) h, upd_id]
    exact treeGo_bad nx k d q _ h
theorem revGo_bad {S : Type} (nx : S → Int × Bool × S) : ∀ (k i : Nat) (d : RD S) (q : Nat → Int) (m out : Nat), d.bad = true → (RD.revGo nx k i d q m out).2 = (q, d)
  | 0, i, d, q, m, out, h => rfl
  | k + 1, i, d, q, m, out, h => by
    show (RD.revGo nx k (i + 1) (d.bit nx (q m)).2.2 (upd q m (d.bit nx (q m)).2.1) (2 * m + (d.bit nx (q m)).1) (out + (d.bit nx (q m)).1 * 2 ^ i)).2 = _
    rw [bit_bad nx d (q m) h, upd_id]
    exact revGo_bad nx k (i + 1) d q _ _ h
theorem tree_bad {S : Type} (nx : S → Int × Bool × S) (k : Nat) (d : RD S) (q : Nat → Int) (h : d.bad = true) : d.tree nx k q = (0, q, d) := by
  unfold RD.tree
  rw [treeGo_bad nx k d q 1 h]
  simp only [h, if_true]
theorem rev_bad {S : Type} (nx : S → Int × Bool × S) (k : Nat) (d : RD S) (q : Nat → Int) (h : d.bad = true) : d.rev nx k q = (0, q, d) := by
  unfold RD.rev
  rw [revGo_bad nx k 0 d q 1 0 h]
  simp only [h, if_true]
theorem str_bad {S : Type} (nx : S → Int × Bool × S) (k : Nat) (d : RD S) (h : d.bad = true) : d.str nx k = (0, d) := by
  unfold RD.str
  rw [strGo_bad nx k d 0 h]
  simp only [h, if_true]
theorem spliceQ_id (q : Nat → Int) (off L : Nat) : spliceQ q off L (fun j => q (off + j)) = q := by
  funext j; unfold spliceQ
  by_cases h : off ≤ j ∧ j < off + L
  · rw [if_pos h]; show q (off + (j - off)) = q j; rw [show off + (j - off) = j by omega]
  · rw [if_neg h]
/-- a bad decoder tells 0, and changes nothing. -/
theorem ask_bad {S : Type} (nx : S → Int × Bool × S) (d : RD S) (q : Nat → Int) (a : Ask) (h : d.bad = true) : d.ask nx q a = (0, q, d) := by
  unfold RD.ask
  by_cases h0 : a.kind = 0
  · rw [if_pos h0, bit_bad nx d _ h, upd_id]
  · rw [if_neg h0]
    by_cases h1 : a.kind = 1
    · rw [if_pos h1, tree_bad nx _ d _ h, spliceQ_id]
    · rw [if_neg h1]
      by_cases h2 : a.kind = 2
      · rw [if_pos h2, rev_bad nx _ d _ h, spliceQ_id]
      · rw [if_neg h2, str_bad nx _ d h]

/-! ### plain: probabilities stay in their bounds -/
theorem treeGo_pr {S : Type} (nx : S → Int × Bool × S) : ∀ (k j : Nat) (d : RD S) (q : Nat → Int) (m L : Nat), Pr q L → m < 2 ^ j → 2 ^ (j + k) ≤ 2 * L → Pr (RD.treeGo nx k d q m).2.1 L
  | 0, j, d, q, m, L, h, _, _ => h
  | k + 1, j, d, q, m, L, h, hm, hL => by
    have hb := bit_le nx d (q m)
    have hmL : m < L := by
      have : 2 ^ (j + 1) ≤ 2 ^ (j + (k + 1)) := Nat.pow_le_pow_right (by decide) (by omega)
      rw [Nat.pow_succ] at this
      omega
    have hp := h m hmL
    have hb2 := bit_prob nx d (q m) hp.1 hp.2
    exact treeGo_pr nx k (j + 1) _ _ _ L (h.upd m hb2.1 hb2.2) (by rw [Nat.pow_succ]; omega) (by rw [show j + 1 + k = j + (k + 1) by omega]; exact hL)
theorem revGo_pr {S : Type} (nx : S → Int × Bool × S) : ∀ (k i j : Nat) (d : RD S) (q : Nat → Int) (m out L : Nat), Pr q L → m < 2 ^ j → 2 ^ (j + k) ≤ 2 * L → Pr (RD.revGo nx k i d q m out).2.1 L
  | 0, i, j, d, q, m, out, L, h, _, _ => h
  | k + 1, i, j, d, q, m, out, L, h, hm, hL => by
    have hb := bit_le nx d (q m)
    have hmL : m < L := by
      have : 2 ^ (j + 1) ≤ 2 ^ (j + (k + 1)) := Nat.pow_le_pow_right (by decide) (by omega)
      rw [Nat.pow_succ] at this
      omega
    have hp := h m hmL
    have hb2 := bit_prob nx d (q m) hp.1 hp.2
    exact revGo_pr nx k (i + 1) (j + 1) _ _ _ _ L (h.upd m hb2.1 hb2.2) (by rw [Nat.pow_succ]; omega) (by rw [show j + 1 + k = j + (k + 1) by omega]; exact hL)
theorem splice_pr {q r : Nat → Int} {off L N : Nat} (h : Pr q N) (hr : Pr r L) : Pr (spliceQ q off L r) N := by
  intro j hj
  unfold spliceQ
  by_cases e : off ≤ j ∧ j < off + L
  · rw [if_pos e]; exact hr _ (by omega)
  · rw [if_neg e]; exact h j hj
theorem ask_pr {S : Type} (nx : S → Int × Bool × S) (d : RD S) (q : Nat → Int) (a : Ask) (ha : a.Right) (h : Pr q 600) : Pr (d.ask nx q a).2.1 600 := by
  have hsub : (a.kind = 1 ∨ a.kind = 2) → Pr (fun j => q (a.at_.toNat + j)) (2 ^ a.bits.toNat) := by
    intro hk j hj
    rcases ha with ⟨h0, _⟩ | ⟨_, h1, h2, h3, h4⟩ | ⟨h0, _⟩
    · omega
    · have : 2 ^ a.bits.toNat ≤ 2 ^ 8 := Nat.pow_le_pow_right (by decide) (by omega)
      exact h _ (by omega)
    · omega
  unfold RD.ask
  by_cases h0 : a.kind = 0
  · rw [if_pos h0]
    have hat : a.at_.toNat < 600 := by
      rcases ha with ⟨_, h1, h2⟩ | ⟨hk, _⟩ | ⟨hk, _⟩ <;> omega
    have hp := h _ hat
    have hb2 := bit_prob nx d (q a.at_.toNat) hp.1 hp.2
    exact h.upd _ hb2.1 hb2.2
  · rw [if_neg h0]
    by_cases h1 : a.kind = 1
    · rw [if_pos h1]
      exact splice_pr h (treeGo_pr nx _ 1 d _ 1 _ (hsub (.inl h1)) (by decide) (by rw [show 1 + a.bits.toNat = a.bits.toNat + 1 by omega, Nat.pow_succ]; omega))
    · rw [if_neg h1]
      by_cases h2 : a.kind = 2
      · rw [if_pos h2]
        exact splice_pr h (revGo_pr nx _ 0 1 d _ 1 0 _ (hsub (.inr h2)) (by decide) (by rw [show 1 + a.bits.toNat = a.bits.toNat + 1 by omega, Nat.pow_succ]; omega))
      · rw [if_neg h2]; exact h

/-- k questions of a row, those that may be asked. -/
def RD.run {S : Type} (nx : S → Int × Bool × S) (l : Nat → Ask) (d : RD S) (q : Nat → Int) : Nat → RD S × (Nat → Int)
  | 0 => (d, q)
  | k + 1 => if (l k).rightB = true then ((RD.ask nx (RD.run nx l d q k).1 (RD.run nx l d q k).2 (l k)).2.2, (RD.ask nx (RD.run nx l d q k).1 (RD.run nx l d q k).2 (l k)).2.1) else RD.run nx l d q k
theorem fresh_pr : Pr (fun _ => 1024) 600 := fun _ _ => by show (31 : Int) ≤ 1024 ∧ (1024 : Int) ≤ 2017; omega
end Go.Proofs.Ytphdnfilenkanaa

/- law04: the decoder and its probabilities through a row of questions. -/
namespace Go.Proofs.Ytphdnfilenkanaa
open Go.RowKit

/-- the decoder and its 600 probabilities, in a world that grew out of w. -/
structure St {lo hi : Nat} {f : Nat → Int} {n : Nat} (D : Deco lo hi f n) (gp : Nat) (w wr : World) (r : RD Nat × (Nat → Int)) : Prop where
  fr : Fr Non w wr
  dec : D.Is wr r.1
  blk : wr.heap[gp]? = some (.cells (arr .u16 600 r.2) 46)
  pr : Pr r.2 600
theorem St.any {lo hi : Nat} {f : Nat → Int} {n : Nat} {D : Deco lo hi f n} {gp : Nat} {w wr w' : World} {r : RD Nat × (Nat → Int)} (h : St D gp w wr r) (hf : Fr Non wr w') : St D gp w w' r :=
  ⟨h.fr.trans hf, Deco.keep h.dec hf (fun _ _ _ e => e), hf.blk h.blk id, h.pr⟩
/-- n integers f from cell off of block b on. -/
def RowAt (k : IntKind) (w : World) (b off n : Nat) (f : Nat → Int) : Prop := ∀ i, i < n → w.cell? ⟨b, off + i, none⟩ = some (.int k (f i))
theorem RowAt.fr {k : IntKind} {w w' : World} {b off n : Nat} {f : Nat → Int} {S : Nat → Prop} (h : RowAt k w b off n f) (hf : Fr S w w') (hs : ¬ S b) : RowAt k w' b off n f := fun i hi => hf.cell (h i hi) hs
theorem RowAt.row {k : IntKind} {w : World} {b off n : Nat} {f : Nat → Int} (h : RowAt k w b off n f) : RowIn (b + 1) k w (some ⟨b, off, none⟩) n f := .inr ⟨b, off, rfl, by omega, h⟩

end Go.Proofs.Ytphdnfilenkanaa

/- The document's decoder (04): next, level, Bit. -/
namespace Go.Proofs.Ytphdnfilenkanaa
open Go.RowKit

/-- the document's decoder over the n bytes f (blocks below lo), at block g. -/
structure RefIs (a : Option Addr) (n cap : Nat) (f : Nat → Int) (lo g : Nat) (w : World) (x : RD Nat) : Prop where
  at_ : w.heap[g]? = some (.cells #[.slice a n cap, .int .i64 x.src, .int .u64 x.rng, .int .u64 x.code, .bool x.bad] 51)
  row : RowIn lo .u8 w a n f
  low : lo ≤ g
  src : x.src ≤ n
  ok : x.Ok
theorem RefIs.keep {a : Option Addr} {n cap : Nat} {f : Nat → Int} {lo g : Nat} {w w' : World} {x : RD Nat} (h : RefIs a n cap f lo g w x) {T : Nat → Prop} (hf : Fr T w w') (hg : ¬ T g) (ht : ∀ k, k < lo → ¬ T k) : RefIs a n cap f lo g w' x :=
  ⟨hf.blk h.at_ hg, h.row.fr hf ht, h.low, h.src, h.ok⟩
theorem RefIs.drewN {a : Option Addr} {n cap : Nat} {f : Nat → Int} {lo g : Nat} {w : World} {x : RD Nat} (h : RefIs a n cap f lo g w x) (k : Nat) : RefIs a n cap f lo g (w.drewN k) x := h.keep ((Fr.refl Non w).drewN k) id (fun _ _ => id)
theorem RefIs.drew {a : Option Addr} {n cap : Nat} {f : Nat → Int} {lo g : Nat} {w : World} {x : RD Nat} (h : RefIs a n cap f lo g w x) : RefIs a n cap f lo g w.drew x := h.keep ((Fr.refl Non w).drew) id (fun _ _ => id)
theorem RefIs.set1 {a : Option Addr} {n cap : Nat} {f : Nat → Int} {lo g : Nat} {w : World} {x : RD Nat} (h : RefIs a n cap f lo g w x) {s : Nat} (hs : s ≤ n) {v : Value} (hv : v = .int .i64 s) : RefIs a n cap f lo g (w.setCell ⟨g, 1, none⟩ v) ⟨s, x.rng, x.code, x.bad⟩ := by
  subst hv
  exact ⟨blk_set (i := 1) h.at_, h.row.fr (S := fun k => k = g) ((Fr.refl _ _).setOne _ _) (fun k hk e => by have := h.low; omega), h.low, hs, h.ok⟩
theorem RefIs.set2 {a : Option Addr} {n cap : Nat} {f : Nat → Int} {lo g : Nat} {w : World} {x : RD Nat} (h : RefIs a n cap f lo g w x) {r : Int} (h0 : 0 ≤ r) (h1 : r < 4294967296) : RefIs a n cap f lo g (w.setCell ⟨g, 2, none⟩ (.int .u64 r)) ⟨x.src, r, x.code, x.bad⟩ :=
  ⟨blk_set (i := 2) h.at_, h.row.fr (S := fun k => k = g) ((Fr.refl _ _).setOne _ _) (fun k hk e => by have := h.low; omega), h.low, h.src, ⟨h0, h1, h.ok.2.2.1, h.ok.2.2.2⟩⟩
theorem RefIs.set3 {a : Option Addr} {n cap : Nat} {f : Nat → Int} {lo g : Nat} {w : World} {x : RD Nat} (h : RefIs a n cap f lo g w x) {c : Int} (h0 : 0 ≤ c) (h1 : c < 4294967296) : RefIs a n cap f lo g (w.setCell ⟨g, 3, none⟩ (.int .u64 c)) ⟨x.src, x.rng, c, x.bad⟩ :=
  ⟨blk_set (i := 3) h.at_, h.row.fr (S := fun k => k = g) ((Fr.refl _ _).setOne _ _) (fun k hk e => by have := h.low; omega), h.low, h.src, ⟨h.ok.1, h.ok.2.1, h0, h1⟩⟩
theorem RefIs.set4 {a : Option Addr} {n cap : Nat} {f : Nat → Int} {lo g : Nat} {w : World} {x : RD Nat} (h : RefIs a n cap f lo g w x) (b : Bool) : RefIs a n cap f lo g (w.setCell ⟨g, 4, none⟩ (.bool b)) ⟨x.src, x.rng, x.code, b⟩ :=
  ⟨blk_set (i := 4) h.at_, h.row.fr (S := fun k => k = g) ((Fr.refl _ _).setOne _ _) (fun k hk e => by have := h.low; omega), h.low, h.src, h.ok⟩
def RPost (a : Option Addr) (n cap : Nat) (f : Nat → Int) (lo g : Nat) (w : World) (v : Value) (x : RD Nat) (e : Ending) (w' : World) : Prop :=
  e = .returned v ∧ Fr (fun k => k = g) w w' ∧ RefIs a n cap f lo g w' x

set_option maxRecDepth 100000 in
set_option maxHeartbeats 2000000 in
theorem rnext_any (a : Option Addr) (n cap : Nat) (f : Nat → Int) (hf : ∀ i, i < n → 0 ≤ f i ∧ f i < 256) (lo g : Nat) (x : RD Nat) (w : World) (hn : n ≤ 1048576) (h : RefIs a n cap f lo g w x) :
    Calls Try.prog 37 #[.pointer (some ⟨g, 0, none⟩)] w (RPost a n cap f lo g w (.int .u64 (x.next (feedNx f n)).1) (x.next (feedNx f n)).2) := by
  have H := hid h
  obtain ⟨src, rng, code, bad⟩ := x
  have c0 := blk_cell h.at_ (j := 0) (v := .slice a n cap) rfl
  have c1 := blk_cell h.at_ (j := 1) (v := .int .i64 src) rfl
  have c4 := blk_cell h.at_ (j := 4) (v := .bool bad) rfl
  have f1 := blk_frozen h.at_ 1
  have f4 := blk_frozen h.at_ 4
  have hsrc : src ≤ n := h.src
  clear h
  cases bad with
  | true =>
    have e : RD.next (feedNx f n) (⟨src, rng, code, true⟩ : RD Nat) = (0, ⟨src, rng, code, true⟩) := if_pos rfl
    rw [e]
    clear e
    go_enter Try.func37, Try.ntmps37
    go_wp2_with fail
    go_quiet (fail)
    go_wp2_with fail
    go_ret
    refine ⟨rfl, ?_, ?_⟩
    · repeat (first | exact Fr.refl _ _ | refine Fr.drewN ?_ _ | refine Fr.drew ?_ | refine Fr.setOne ?_ _ _)
    · exact (H.out.drewN _).set4 true
  | false =>
    by_cases hs : src < n
    · have e : RD.next (feedNx f n) (⟨src, rng, code, false⟩ : RD Nat) = (f src, ⟨src + 1, rng, code, false⟩) := by
        unfold RD.next
        rw [if_neg Bool.false_ne_true]
        have e1 : feedNx f n src = (f src % 256, true, src + 1) := if_pos hs
        have e2 : f src % 256 = f src := by have := hf src hs; omega
        show ((feedNx f n src).1, (⟨(feedNx f n src).2.2, rng, code, !(feedNx f n src).2.1⟩ : RD Nat)) = _
        rw [e1, e2]
        rfl
      rw [e]
      clear e
      obtain ⟨b, off, rfl, hb, cb⟩ := H.out.row.at hs
      have hbg : ¬ b = g := by have := H.out.low; omega
      have hfs := hf src hs
      clear hf
      go_enter Try.func37, Try.ntmps37
      go_wp2_with fail
      go_quiet (fail)
      go_wp2_with fail
      go_quiet (fail)
      go_wp2_with fail
      go_ret
      refine ⟨rfl, ?_, ?_⟩
      · repeat (first | exact Fr.refl _ _ | refine Fr.drewN ?_ _ | refine Fr.drew ?_ | refine Fr.setOne ?_ _ _)
      · exact ((H.out.drewN _).set1 (s := src + 1) (by omega) (by rw [Int.natCast_add]; rfl)).drewN _
    · have hsn : src = n := by omega
      subst hsn
      have e : RD.next (feedNx f src) (⟨src, rng, code, false⟩ : RD Nat) = (0, ⟨src, rng, code, true⟩) := by
        unfold RD.next
        rw [if_neg Bool.false_ne_true]
        have e1 : feedNx f src src = (0, false, src) := if_neg (by omega)
        show ((feedNx f src src).1, (⟨(feedNx f src src).2.2, rng, code, !(feedNx f src src).2.1⟩ : RD Nat)) = _
        rw [e1]
        rfl
      rw [e]
      clear e hf
      go_enter Try.func37, Try.ntmps37
      go_wp2_with fail
      go_quiet (fail)
      go_wp2_with fail
      go_ret
      refine ⟨rfl, ?_, ?_⟩
      · repeat (first | exact Fr.refl _ _ | refine Fr.drewN ?_ _ | refine Fr.drew ?_ | refine Fr.setOne ?_ _ _)
      · exact (H.out.drewN _).set4 true
end Go.Proofs.Ytphdnfilenkanaa

/- The document's decoder (04): level, Bit. -/
namespace Go.Proofs.Ytphdnfilenkanaa
open Go.RowKit

theorem feed_byte {f : Nat → Int} {n : Nat} (x : RD Nat) : 0 ≤ (x.next (feedNx f n)).1 ∧ (x.next (feedNx f n)).1 < 256 := by
  unfold RD.next
  by_cases h : x.bad = true
  · rw [if_pos h]; exact ⟨Int.le_refl 0, by show (0 : Int) < 256; decide⟩
  · rw [if_neg h]
    show 0 ≤ (feedNx f n x.src).1 ∧ (feedNx f n x.src).1 < 256
    unfold feedNx
    by_cases h2 : x.src < n
    · rw [if_pos h2]; show 0 ≤ f x.src % 256 ∧ f x.src % 256 < 256; omega
    · rw [if_neg h2]; exact ⟨Int.le_refl 0, by show (0 : Int) < 256; decide⟩
set_option maxRecDepth 100000 in
set_option maxHeartbeats 2000000 in
theorem rlevel_any (a : Option Addr) (n cap : Nat) (f : Nat → Int) (hf : ∀ i, i < n → 0 ≤ f i ∧ f i < 256) (lo g : Nat) (x : RD Nat) (w : World) (hn : n ≤ 1048576) (h : RefIs a n cap f lo g w x) :
    Calls Try.prog 38 #[.pointer (some ⟨g, 0, none⟩)] w (RPost a n cap f lo g w (.tuple #[]) (x.level (feedNx f n))) := by
  have H := hid h
  have c2 := blk_cell h.at_ (j := 2) (v := .int .u64 x.rng) rfl
  have f2 := blk_frozen h.at_ 2
  obtain ⟨o1, o2, o3, o4⟩ := h.ok
  clear h
  by_cases hlt : x.rng < 16777216
  · rw [RD.level_lt _ _ hlt]
    have HS := hid (H.out.set2 (r := x.rng * 256) (by omega) (by omega))
    have c3 := blk_cell HS.out.at_ (j := 3) (v := .int .u64 x.code) rfl
    have HN := hid (RD.next_rng (feedNx f n) x (x.rng * 256))
    obtain ⟨hb0, hb1⟩ := feed_byte (f := f) (n := n) x
    obtain ⟨b, hb⟩ : ∃ b, b = (x.next (feedNx f n)).1 := ⟨_, rfl⟩
    rw [← hb] at hb0 hb1 HN ⊢
    have HB := hid hb
    clear hb
    go_enter Try.func38, Try.ntmps38
    go_wp2_with fail
    go_region_with (go_at_call 37; refine (rnext_any a n cap f hf lo g ⟨x.src, x.rng * 256, x.code, x.bad⟩ _ hn (by first | exact HS.out.drew | exact HS.out)).mono ?_; rw [HN.out]; rintro e w1 ⟨rfl, hf1, h1⟩; have k3 := blk_cell h1.at_ (j := 3) (v := .int .u64 x.code) rfl; have g3 := blk_frozen h1.at_ 3; have H1 := hid h1; have HF1 := hid (((Fr.refl (fun k => k = g) _).drew).trans hf1); clear h1 hf1)
    all_goals
      go_wp2_with fail
      go_end0
      refine ⟨rfl, Fr.trans ((Fr.refl (fun k => k = g) w).setOne _ _) (Fr.setOne HF1.out _ _), ?_⟩
      have e1 : IntKind.u64.wrap (x.code * 256) = x.code * 256 := by rw [IntKind.wrap_u64]; omega
      have e2 : IntKind.u64.wrap (x.code * 256 + b) = x.code * 256 + b := by rw [IntKind.wrap_u64]; omega
      have e : (IntKind.u64.wrap (IntKind.u64.wrap (x.code * 256) + b)).tmod 4294967296 = x.code * 256 % 4294967296 + b := by
        rw [e1, e2, Int.tmod_eq_emod_of_nonneg (by omega)]; omega
      rw [e]
      exact H1.out.set3 (by omega) (by omega)
  · rw [RD.level_ge _ _ hlt]
    clear hf
    go_enter Try.func38, Try.ntmps38
    go_wp2_with fail
    go_end0
    exact ⟨rfl, Fr.refl _ _, H.out⟩
def RBPost (a : Option Addr) (n cap : Nat) (f : Nat → Int) (lo g : Nat) (w : World) (r : Nat × Int × RD Nat) (e : Ending) (w' : World) : Prop :=
  e = .returned (.tuple #[.int .i64 r.1, .int .u16 r.2.1]) ∧ Fr (fun k => k = g) w w' ∧ RefIs a n cap f lo g w' r.2.2
set_option maxRecDepth 100000 in
set_option maxHeartbeats 4000000 in
theorem rbit_any (a : Option Addr) (n cap : Nat) (f : Nat → Int) (hf : ∀ i, i < n → 0 ≤ f i ∧ f i < 256) (lo g : Nat) (x : RD Nat) (p : Int) (w : World) (hn : n ≤ 1048576) (h : RefIs a n cap f lo g w x) (hp0 : 0 ≤ p) (hp1 : p ≤ 2048) :
    Calls Try.prog 22 #[.pointer (some ⟨g, 0, none⟩), .int .u16 p] w (RBPost a n cap f lo g w (x.bit (feedNx f n) p)) := by
  have H := hid h
  obtain ⟨src, rng, code, bad⟩ := x
  have c2 := blk_cell h.at_ (j := 2) (v := .int .u64 rng) rfl
  have c3 := blk_cell h.at_ (j := 3) (v := .int .u64 code) rfl
  have c4 := blk_cell h.at_ (j := 4) (v := .bool bad) rfl
  have f2 := blk_frozen h.at_ 2
  have f3 := blk_frozen h.at_ 3
  obtain ⟨o1, o2, o3, o4⟩ := h.ok
  simp only at o1 o2 o3 o4
  clear h
  have Hf := hid hf
  clear hf
  cases bad with
  | true =>
    have e : RD.bit (feedNx f n) (⟨src, rng, code, true⟩ : RD Nat) p = (0, p, ⟨src, rng, code, true⟩) := if_pos rfl
    rw [e]
    clear e
    go_enter Try.func22, Try.ntmps22
    go_wp2_with fail
    go_ret2
    exact ⟨rfl, Fr.refl _ _, H.out⟩
  | false =>
    obtain ⟨t, ht⟩ : ∃ t, t = rng / 2048 * p := ⟨_, rfl⟩
    have ht0 : 0 ≤ t := by rw [ht]; exact Int.mul_nonneg (by omega) hp0
    have ht1 : t ≤ rng := by
      have : rng / 2048 * p ≤ rng / 2048 * 2048 := Int.mul_le_mul_of_nonneg_left hp1 (by omega)
      omega
    have ht2 : rng / 2048 * p = t := ht.symm
    have htw : IntKind.u64.wrap t = t := by rw [IntKind.wrap_u64]; omega
    have hpw : IntKind.u64.wrap p = p := by rw [IntKind.wrap_u64]; omega
    have HT := hid ht
    clear ht
    by_cases hlt : code < t
    · have e : RD.bit (feedNx f n) (⟨src, rng, code, false⟩ : RD Nat) p = (0, p + (2048 - p) / 32, RD.level (feedNx f n) ⟨src, t, code, false⟩) := by
        unfold RD.bit
        rw [if_neg Bool.false_ne_true, if_pos (by show code < rng / 2048 * p; rw [ht2]; exact hlt), ← HT.out]
      rw [e]
      clear e
      have HS := hid (H.out.set2 (r := t) ht0 (by omega))
      go_enter Try.func22, Try.ntmps22
      go_wp2_with fail
      refine (rlevel_any a n cap f Hf.out lo g ⟨src, t, code, false⟩ _ hn HS.out).mono ?_
      rintro e w1 ⟨rfl, hf1, h1⟩
      have H1 := hid h1
      have HF1 := hid (Fr.trans ((Fr.refl (fun k => k = g) w).setOne _ _) hf1)
      clear hf1 h1
      have ev : IntKind.u16.wrap (p + IntKind.u16.wrap ((2048 - p).tdiv 32)) = p + (2048 - p) / 32 := by
        rw [Int.tdiv_eq_ediv_of_nonneg (by omega), IntKind.wrap_u16, IntKind.wrap_u16]; omega
      go_wp2_with fail
      go_ret2
      exact ⟨by rw [← ev]; rfl, HF1.out, H1.out⟩
    · have e : RD.bit (feedNx f n) (⟨src, rng, code, false⟩ : RD Nat) p = (if (RD.level (feedNx f n) ⟨src, rng - t, code - t, false⟩).bad = true then 0 else 1, p - p / 32, RD.level (feedNx f n) ⟨src, rng - t, code - t, false⟩) := by
        unfold RD.bit
        rw [if_neg Bool.false_ne_true, if_neg (by show ¬ code < rng / 2048 * p; rw [ht2]; exact hlt), ← HT.out]
      rw [e]
      clear e
      have HS := hid ((H.out.set3 (c := code - t) (by omega) (by omega)).set2 (r := rng - t) (by omega) (by omega))
      obtain ⟨x1, hx1⟩ : ∃ x1, x1 = RD.level (feedNx f n) (⟨src, rng - t, code - t, false⟩ : RD Nat) := ⟨_, rfl⟩
      rw [← hx1]
      have HX1 := hid hx1
      have ev : IntKind.u16.wrap (p - IntKind.u16.wrap (p.tdiv 32)) = p - p / 32 := by
        rw [Int.tdiv_eq_ediv_of_nonneg (by omega), IntKind.wrap_u16, IntKind.wrap_u16]; omega
      clear hx1
      cases hbad : x1.bad with
      | true =>
        rw [if_pos rfl]
        go_enter Try.func22, Try.ntmps22
        go_wp2_with fail
        refine (rlevel_any a n cap f Hf.out lo g ⟨src, rng - t, code - t, false⟩ _ hn HS.out).mono ?_
        rintro e w1 ⟨rfl, hf1, h1⟩
        rw [← HX1.out] at h1
        have k4 := blk_cell h1.at_ (j := 4) (v := .bool x1.bad) rfl
        rw [hbad] at k4
        have H1 := hid h1
        have HF1 := hid (Fr.trans (((Fr.refl (fun k => k = g) w).setOne _ _).setOne _ _) hf1)
        clear hf1 h1
        go_wp2_with fail
        go_ret2
        exact ⟨by rw [← ev]; rfl, HF1.out, H1.out⟩
      | false =>
        rw [if_neg Bool.false_ne_true]
        go_enter Try.func22, Try.ntmps22
        go_wp2_with fail
        refine (rlevel_any a n cap f Hf.out lo g ⟨src, rng - t, code - t, false⟩ _ hn HS.out).mono ?_
        rintro e w1 ⟨rfl, hf1, h1⟩
        rw [← HX1.out] at h1
        have k4 := blk_cell h1.at_ (j := 4) (v := .bool x1.bad) rfl
        rw [hbad] at k4
        have H1 := hid h1
        have HF1 := hid (Fr.trans (((Fr.refl (fun k => k = g) w).setOne _ _).setOne _ _) hf1)
        clear hf1 h1
        go_wp2_with fail
        go_ret2
        exact ⟨by rw [← ev]; rfl, HF1.out, H1.out⟩
end Go.Proofs.Ytphdnfilenkanaa
