/- Texts of this proof, one behind the other. -/
import Derived.Test.YtjnegcambbeblaaMg10
import Derived.Test.YtjnegcambbeblaaMg07

/- The document's walk through LZMA: a literal. -/
namespace Go.Proofs.Ytjnegcambbeblaa
open Go.RowKit

def klitGo {C : Type} (K : Cdr C) (k0 : Nat) (v : Int) : Nat → Bool → Nat → Nat → (Nat → Int) → C → Nat × (Nat → Int) × C
  | 0, _, _, m, P, c => (m, P, c)
  | i + 1, true, o, m, P, c => klitGo K k0 v i ((kbit K P c (k0 + 256 * (1 + o / 2 ^ i % 2) + m) (bitAt v i)).1 == o / 2 ^ i % 2) o (2 * m + (kbit K P c (k0 + 256 * (1 + o / 2 ^ i % 2) + m) (bitAt v i)).1) (kbit K P c (k0 + 256 * (1 + o / 2 ^ i % 2) + m) (bitAt v i)).2.1 (kbit K P c (k0 + 256 * (1 + o / 2 ^ i % 2) + m) (bitAt v i)).2.2
  | i + 1, false, o, m, P, c => klitGo K k0 v i false o (2 * m + (kbit K P c (k0 + m) (bitAt v i)).1) (kbit K P c (k0 + m) (bitAt v i)).2.1 (kbit K P c (k0 + m) (bitAt v i)).2.2
/-- the literals' row. -/
def krow (s : LS) : Nat := 768 * litAt s.H.length s.lc s.lp (backD s 0).1
def klit {C : Type} (K : Cdr C) (s : LS) (c : C) (v : Int) : Nat × (Nat → Int) × C := klitGo K (1847 + krow s) v 8 (decide (7 ≤ s.st)) (backD s (s.rep 0)).1.toNat 1 s.P c
theorem klitGo_rng {C : Type} {K : Cdr C} (hK : K.Ok) (k0 : Nat) {v : Int} (hv : K.free ∨ 0 ≤ v) : ∀ (i : Nat) (b : Bool) (o m : Nat) (P : Nat → Int) (c : C), m * 2 ^ i ≤ (klitGo K k0 v i b o m P c).1 ∧ (klitGo K k0 v i b o m P c).1 < (m + 1) * 2 ^ i
  | 0, b, o, m, P, c => by unfold klitGo; simp
  | i + 1, b, o, m, P, c => by
    have key : ∀ (x : Nat) (b' : Bool) (P' : Nat → Int) (c' : C), x ≤ 1 → m * 2 ^ (i + 1) ≤ (klitGo K k0 v i b' o (2 * m + x) P' c').1 ∧ (klitGo K k0 v i b' o (2 * m + x) P' c').1 < (m + 1) * 2 ^ (i + 1) := by
      intro x b' P' c' hx
      have h := klitGo_rng hK k0 hv i b' o (2 * m + x) P' c'
      have e1 : m * 2 ^ (i + 1) = (2 * m) * 2 ^ i := by rw [Nat.pow_succ, Nat.mul_comm (2 ^ i) 2, ← Nat.mul_assoc, Nat.mul_comm m 2]
      have e2 : (m + 1) * 2 ^ (i + 1) = (2 * m + 2) * 2 ^ i := by rw [Nat.pow_succ, Nat.mul_comm (2 ^ i) 2, ← Nat.mul_assoc]; congr 1; omega
      rw [e1, e2]
      exact ⟨Nat.le_trans (Nat.mul_le_mul_right _ (by omega)) h.1, Nat.lt_of_lt_of_le h.2 (Nat.mul_le_mul_right _ (by omega))⟩
    cases b
    · exact key _ _ _ _ (kbit_one hK _ _ _ (bitAt_may hv i))
    · exact key _ _ _ _ (kbit_one hK _ _ _ (bitAt_may hv i))
set_option maxRecDepth 100000 in
set_option maxHeartbeats 1600000 in
theorem klit_any {U : Nat → Prop} {C : Type} {K : Cdr C} (hG : K.Good) (g gp np cap : Nat) (s : LS) (c : C) (v : Int) (w : World) (h : KIs K U g gp np cap w s c) (hlen : s.H.length ≤ 60000) (hv0 : 0 ≤ v) (hv1 : v < 256) (hfit : K.fit c 8) :
    Calls Try.prog 78 #[.pointer (some ⟨g, 0, none⟩), .int .u8 v] w (KPost K U g gp np cap (.int .u8 ((klit K s c v).1 % 256 : Nat)) { s with P := (klit K s c v).2.1, st := stL s.st } (klit K s c v).2.2 w) := by
  obtain ⟨r, hr⟩ : ∃ r, r = klit K s c v := ⟨_, rfl⟩
  rw [← hr]
  have H := hid h
  obtain ⟨A, ov, hv⟩ := h
  have hok := hv.ok
  have c0 := hv.cellC 0 (x := .int .i64 s.lc) rfl
  have c1 := hv.cellC 1 (x := .int .i64 s.lp) rfl
  have c7 := hv.cellC 7 (x := ov) rfl
  have c8 := hv.cellC 8 (x := .int .i64 s.st) rfl
  have c9 := hv.cellC 9 (x := .int .u32 (s.rep 0)) rfl
  obtain ⟨ao, cp, rfl, hcp, hnil, hrow, _⟩ := hv.own.rowO
  obtain ⟨last, hlast⟩ : ∃ x, x = (backD s 0).1 := ⟨_, rfl⟩
  have hlb := backD_by hok 0
  rw [← hlast] at hlb
  have hob := backD_by hok (s.rep 0)
  obtain ⟨o, ho⟩ : ∃ x : Nat, x = (backD s (s.rep 0)).1.toNat := ⟨_, rfl⟩
  have hoe : (backD s (s.rep 0)).1 = (o : Int) := by omega
  have ho9 : o < 256 := by omega
  obtain ⟨k0, hk0⟩ : ∃ x, x = 1847 + krow s := ⟨_, rfl⟩
  have hla := litAt_lt (place := s.H.length) (lp := s.lp) hok.lc hlb.1 hlb.2
  have hk0n : k0 + 768 ≤ np := by
    have := hok.room
    rw [hk0]
    unfold krow
    rw [← hlast]
    omega
  have hk6 : k0 ≤ 60000 := by have := hok.few; omega
  obtain ⟨n, hn⟩ : ∃ n, n = s.H.length := ⟨_, rfl⟩
  obtain ⟨lc, hlc⟩ : ∃ n, n = s.lc := ⟨_, rfl⟩
  obtain ⟨lp, hlp⟩ : ∃ n, n = s.lp := ⟨_, rfl⟩
  obtain ⟨st, hst⟩ : ∃ n, n = s.st := ⟨_, rfl⟩
  obtain ⟨r0, hr0⟩ : ∃ n, n = s.rep 0 := ⟨_, rfl⟩
  have hlc8 : lc ≤ 8 := by rw [hlc]; exact hok.lc
  have hlp4 : lp ≤ 4 := by rw [hlp]; exact hok.lp
  have hst12 : st < 12 := by rw [hst]; exact hok.st
  have hr04 : r0 < 4294967296 := by rw [hr0]; exact hok.rep 0 (by decide)
  have HR0 := hid hr04
  rw [← hn] at c7
  rw [← hlc] at c0
  rw [← hlp] at c1
  rw [← hst] at c8
  rw [← hr0] at c9
  obtain ⟨X, hX⟩ : ∃ X : Int, X = ((2 ^ lp : Nat) : Int) := ⟨_, rfl⟩
  obtain ⟨Y, hY⟩ : ∃ Y : Int, Y = ((2 ^ lc : Nat) : Int) := ⟨_, rfl⟩
  obtain ⟨Z, hZ⟩ : ∃ Z : Int, Z = ((2 ^ (8 - lc) : Nat) : Int) := ⟨_, rfl⟩
  have hX1 : 1 ≤ X := by have : 0 < 2 ^ lp := Nat.pow_pos (by decide); omega
  have hZ1 : 1 ≤ Z := by have : 0 < 2 ^ (8 - lc) := Nat.pow_pos (by decide); omega
  obtain ⟨e8, he8⟩ : ∃ e8, e8 = 8 - lc := ⟨_, rfl⟩
  have h8 : IntKind.i64.wrap ((8 : Int) - (lc : Int)) = (e8 : Int) := by rw [IntKind.wrap_i64]; omega
  have CX := hid (fun W : World => mirrork (show Calls Try.prog 76 #[.int .i64 lp] W fun e w' => e = .returned (.int .i64 X) ∧ W = w' by rw [hX]; exact kpower_any lp (by omega) W))
  have CY := hid (fun W : World => mirrork (show Calls Try.prog 76 #[.int .i64 lc] W fun e w' => e = .returned (.int .i64 Y) ∧ W = w' by rw [hY]; exact kpower_any lc (by omega) W))
  have CZ := hid (fun W : World => mirrork (show Calls Try.prog 76 #[.int .i64 e8] W fun e w' => e = .returned (.int .i64 Z) ∧ W = w' by rw [hZ, ← he8]; exact kpower_any e8 (by omega) W))
  obtain ⟨u, hu⟩ : ∃ u, u = n % 2 ^ lp := ⟨_, rfl⟩
  obtain ⟨t, ht⟩ : ∃ t, t = u * 2 ^ lc := ⟨_, rfl⟩
  obtain ⟨d, hd⟩ : ∃ d, d = last.toNat / 2 ^ (8 - lc) := ⟨_, rfl⟩
  have hke : k0 = 1847 + 768 * (t + d) := by
    rw [hk0, ht, hu, hd, hn, hlp, hlc, hlast]
    rfl
  have hux : (n : Int).tmod X = (u : Int) := by rw [Int.tmod_eq_emod_of_nonneg (Int.natCast_nonneg _), hX, hu]; rfl
  have hty : IntKind.i64.wrap ((u : Int) * Y) = (t : Int) := by
    rw [hY, show (u : Int) * ((2 ^ lc : Nat) : Int) = (t : Int) by rw [ht]; simp, IntKind.wrap_i64]
    omega
  have hdz : last.tdiv Z = (d : Int) := by
    rw [hZ, hd, Int.tdiv_eq_ediv_of_nonneg hlb.1]
    have : last = (last.toNat : Int) := by omega
    rw [this]
    rfl
  have htd : (t : Int) + (d : Int) ≤ 100 := by omega
  have hkw : 1847 + 768 * ((t : Int) + (d : Int)) = (k0 : Int) := by omega
  have HZ1 := hid hZ1
  have HKE := hid hke
  have hl0 : 0 ≤ last := hlb.1
  have hl1 : last < 256 := hlb.2
  have HLAST := hid hlast
  have HEQ := hid (And.intro hst (And.intro hr0 (And.intro ho (And.intro hk0 hr))))
  have HHN := hid hn
  have hlen' : n ≤ 60000 := by rw [hn]; exact hlen
  have HOK := hid hok
  have HOE := hid hoe
  have HKN := hid hk0n
  have HFIT := hid hfit
  have HLB := hid hlb
  clear hX hY hZ he8 hr04 hu ht hd hke hla hlb hob hn hlc hlp hst hr0 hk0 hlast ho hr hv hok hoe hk0n hfit hrow hcp hnil hlen
  go_enter Try.func78, Try.ntmps78
  go_wp2_with fail
  refine (kback_any g gp np cap s c 0 _ H.out (by decide) (by rw [← HHN.out]; exact hlen')).mono ?_
  rintro e w1 ⟨rfl, mm, rfl⟩
  rw [← HLAST.out]
  have H1 := hid (H.out.any hG.ok ((Fr.refl Non w).drewN mm))
  have F1 := hid ((Fr.refl Non w).drewN mm)
  have l0 : (w.drewN mm).cell? ⟨g, 0, none⟩ = some (.int .i64 lc) := by exact c0
  have l1 : (w.drewN mm).cell? ⟨g, 1, none⟩ = some (.int .i64 lp) := by exact c1
  have l7 : (w.drewN mm).cell? ⟨g, 7, none⟩ = some (.slice ao n cp) := by exact c7
  have l8 : (w.drewN mm).cell? ⟨g, 8, none⟩ = some (.int .i64 st) := by exact c8
  have l9 : (w.drewN mm).cell? ⟨g, 9, none⟩ = some (.int .u32 r0) := by exact c9
  clear c0 c1 c7 c8 c9
  generalize w.drewN mm = w2 at H1 F1 l0 l1 l7 l8 l9 ⊢
  go_upto_region 2 with fail
  go_cut [7] (fun q wx => q = .int .i64 k0 ∧ Fr Non w2 wx)
  case first =>
    go_quiet (first
      | (go_at_call 76; with_reducible exact Calls.quiet_of_same (CX.out _))
      | (go_at_call 76; with_reducible exact Calls.quiet_of_same (CY.out _))
      | (go_at_call 76; with_reducible exact Calls.quiet_of_same (CZ.out _)))
    go_wp2_with fail
    go_meet
    exact ⟨rfl, (Fr.refl _ _).drewN _⟩
  case rest =>
    obtain ⟨rfl, hf3⟩ := hcut
    obtain ⟨w3, hw3⟩ : ∃ w3, w3 = wc := ⟨_, rfl⟩
    rw [← hw3] at hf3 ⊢
    have H3 := hid (H1.out.any hG.ok hf3)
    have F3 := hid (F1.out.trans hf3)
    have m8 := hf3.cell l8 id
    have m9 := hf3.cell l9 id
    have HOE2 := hid (show (backD s r0).1 = (o : Int) by rw [HEQ.out.2.1]; exact HOE.out)
    clear l0 l1 l7 l8 l9 hw3 hf3 hux hty hdz htd hkw h8 hl0 hl1 hX1
    go_wp2_with fail
    refine (kback_any g gp np cap s c r0 _ H3.out HR0.out (by rw [← HHN.out]; exact hlen')).mono ?_
    rintro e w4 ⟨rfl, mk, rfl⟩
    rw [HOE2.out]
    have H4 := hid (H3.out.any hG.ok ((Fr.refl Non w3).drewN mk))
    have F4 := hid (F3.out.trans ((Fr.refl Non w3).drewN mk))
    clear m8 m9
    generalize w3.drewN mk = w5 at H4 F4 ⊢
    go_wp2_with fail
    go_loopw [8, 9, 12, 13, 14, 15] (fun mv sv iv _ _ _ wr => ∃ (k m : Nat) (same : Bool) (P1 : Nat → Int) (c1 : C), k ≤ 8 ∧ iv = .int .i64 ((k : Int) - 1) ∧ mv = .int .i64 m ∧ sv = .bool same ∧ 2 ^ (8 - k) ≤ m ∧ m < 2 ^ (8 - k + 1) ∧ klitGo K k0 v k same o m P1 c1 = r ∧ Fr (KF K U) w wr ∧ KIs K U g gp np cap wr { s with P := P1 } c1 ∧ K.fit c1 k) (fun _ _ iv _ _ _ _ => (intOf iv + 1).toNat)
    case atStart =>
      refine ⟨8, 1, decide (7 ≤ s.st), s.P, c, Nat.le_refl _, by go_num, rfl, ?_, by decide, by decide, ?_, F4.out.mono (fun _ _ e => e.elim), H4.out, HFIT.out⟩
      · congr 1
        rw [HEQ.out.1]
        exact decide_eq_decide.2 (by omega)
      · rw [HEQ.out.2.2.2.2, HEQ.out.2.2.1, HEQ.out.2.2.2.1]
        rfl
    case round =>
      obtain ⟨k, m, same, P1, c1, hk, rfl, rfl, rfl, hm0, hm1, hgo, hfr, hst, hfit⟩ := hrel
      have HGO := hid hgo
      have HFR := hid hfr
      have HST := hid hst
      have HM := hid (And.intro hm0 hm1)
      have HF := hid hfit
      have hm9 : m < 512 := by
        have : 2 ^ (8 - k + 1) ≤ 2 ^ 9 := Nat.pow_le_pow_right (by decide) (by omega)
        omega
      clear hgo hfr hst hfit hm0 hm1
      cases k with
      | zero =>
        have hmr : r = (m, P1, c1) := HGO.out.symm
        obtain ⟨A2, ov2, hv2⟩ := HST.out
        have c8 := hv2.cellC 8 (x := .int .i64 st) (by rw [HEQ.out.1]; rfl)
        have z8 := blk_frozen hv2.at_ 8
        have hup2 := hv2.up hG.ok
        have hok2 := hv2.ok
        have key : ∀ x : Nat, x < 12 → stL s.st = x → Fr (KF K U) w (wr.setCell ⟨g, 8, none⟩ (.int .i64 x)) ∧ KIs K U g gp np cap (wr.setCell ⟨g, 8, none⟩ (.int .i64 x)) { s with P := P1, st := stL s.st } c1 := by
          intro x hx hxe
          rw [hxe]
          refine ⟨HFR.out.then ((Fr.refl _ _).setOne (g := g) _ _) (fun k _ e => by rw [e]; exact hup2.1), A2, ov2, hv2.setC hG.ok (s' := { s with P := P1, st := x }) rfl rfl rfl ⟨hok2.pr, hx, hok2.rep, hok2.lc, hok2.lp, hok2.pb, hok2.room, hok2.few, hok2.dict, hok2.by_⟩⟩
        have HK := hid key
        have hmw : IntKind.u8.wrap (m : Int) = ((m % 256 : Nat) : Int) := by rw [IntKind.wrap_u8]; omega
        obtain ⟨mm2, hmm2⟩ : ∃ x, x = m % 256 := ⟨_, rfl⟩
        rw [← hmm2] at hmw
        have HMM := hid (show (m : Int) % 256 = (mm2 : Int) by rw [hmm2]; rfl)
        have HMR := hid hmr
        clear key hv2 hup2 hok2 hmm2 hmr
        by_cases h4 : st < 4
        · have h4' : (st : Int) < 4 := by omega
          have K4 := hid (HK.out 0 (by decide) (by rw [← HEQ.out.1]; unfold stL; rw [if_pos h4]))
          clear h4
          go_wp2_with fail
          go_ret
          rw [HMR.out]
          refine ⟨?_, K4.out⟩
          show Ending.returned (Value.int .u8 (mm2 : Int)) = Ending.returned (Value.int .u8 ((m : Int) % 256))
          rw [HMM.out]
        · have h4' : ¬ (st : Int) < 4 := by omega
          by_cases h10 : st < 10
          · have h10' : (st : Int) < 10 := by omega
            have K4 := hid (HK.out (st - 3) (by omega) (by rw [← HEQ.out.1]; unfold stL; rw [if_neg h4, if_pos h10]))
            have he3 : (st : Int) - 3 = ((st - 3 : Nat) : Int) := by omega
            obtain ⟨s3, hs3⟩ : ∃ x, x = st - 3 := ⟨_, rfl⟩
            rw [← hs3] at K4 he3
            clear h4 h10 hs3
            go_wp2_with fail
            go_ret
            rw [HMR.out]
            refine ⟨?_, K4.out⟩
            show Ending.returned (Value.int .u8 (mm2 : Int)) = Ending.returned (Value.int .u8 ((m : Int) % 256))
            rw [HMM.out]
          · have h10' : ¬ (st : Int) < 10 := by omega
            have K4 := hid (HK.out (st - 6) (by omega) (by rw [← HEQ.out.1]; unfold stL; rw [if_neg h4, if_neg h10]))
            have he3 : (st : Int) - 6 = ((st - 6 : Nat) : Int) := by omega
            obtain ⟨s3, hs3⟩ : ∃ x, x = st - 6 := ⟨_, rfl⟩
            rw [← hs3] at K4 he3
            clear h4 h10 hs3
            go_wp2_with fail
            go_ret
            rw [HMR.out]
            refine ⟨?_, K4.out⟩
            show Ending.returned (Value.int .u8 (mm2 : Int)) = Ending.returned (Value.int .u8 ((m : Int) % 256))
            rw [HMM.out]
      | succ i =>
        have hi8 : i ≤ 7 := by omega
        have hv0' := hid hv0
        obtain ⟨x, hx⟩ : ∃ x : Int, x = ((2 ^ i : Nat) : Int) := ⟨_, rfl⟩
        have hx1 : 1 ≤ x := by have : 0 < 2 ^ i := Nat.pow_pos (by decide); omega
        have hdv : IntKind.i64.wrap (v.tdiv x) = v.tdiv x := div_range v x (by omega) (by omega)
        obtain ⟨b, hb⟩ : ∃ b : Int, b = bitAt v i := ⟨_, rfl⟩
        have hbx : (v.tdiv x).tmod 2 = b := by rw [hb, hx]; rfl
        have hmay : K.may b := by rw [hb]; exact bitAt_may (.inr hv0) i
        have HX := hid hx
        have HB := hid hb
        have HMAY := hid hmay
        have CX2 := hid (fun W : World => (show Calls Try.prog 76 #[.int .i64 i] W fun e w' => e = .returned (.int .i64 x) ∧ W = w' by rw [hx]; exact kpower_any i (by omega) W))
        have hm256 : m < 256 := by
          have h1 := HM.out.2
          have : 2 ^ (8 - (i + 1) + 1) ≤ 2 ^ 8 := Nat.pow_le_pow_right (by decide) (by omega)
          omega
        clear hx hb hmay
        cases same with
        | false =>
          obtain ⟨q, hq⟩ : ∃ q, q = k0 + m := ⟨_, rfl⟩
          have hqw : IntKind.i64.wrap ((k0 : Int) + (m : Int)) = (q : Int) := by rw [IntKind.wrap_i64]; omega
          have hqn : q < np := by have := HKN.out; omega
          obtain ⟨y, hy⟩ : ∃ y, y = kbit K P1 c1 q b := ⟨_, rfl⟩
          have hy1 : y.1 ≤ 1 := by rw [hy]; exact kbit_one hG.ok _ _ _ HMAY.out
          have HQ := hid hq
          have HY := hid hy
          have HQN := hid hqn
          clear hq hy hqn
          go_wp2_with fail
          refine (CX2.out _).mono ?_
          rintro e w6 ⟨rfl, rfl⟩
          go_wp2_with fail
          refine (hG.bit U g gp np cap _ c1 q b _ HST.out HQN.out HMAY.out (hG.ok.fitM _ _ _ (by omega) HF.out)).mono ?_
          rintro e w7 ⟨rfl, hf7, h7⟩
          have hF7 := hid (HFR.out.trans hf7)
          have hfit7 := hid (hG.ok.fitB c1 (P1 q) b i HF.out)
          have H7 := hid (show KIs K U g gp np cap w7 { s with P := y.2.1 } y.2.2 by rw [HY.out]; exact h7)
          rw [show (kbit K ({ s with P := P1 } : LS).P c1 q b).1 = y.1 by rw [HY.out]]
          clear hf7 h7
          obtain ⟨z, hz⟩ : ∃ z, z = y.1 := ⟨_, rfl⟩
          rw [← hz] at hy1 ⊢
          have HZ := hid hz
          clear hz
          go_wp2_with fail
          go_roundw
          case rel =>
            refine ⟨i, 2 * m + z, false, y.2.1, y.2.2, by omega, by go_num, by go_num, rfl, ?_, ?_, ?_, hF7.out, H7.out, ?_⟩
            · have h1 := HM.out.1
              rw [show 8 - i = 8 - (i + 1) + 1 by omega, Nat.pow_succ]
              omega
            · have h1 := HM.out.2
              rw [show 8 - i + 1 = (8 - (i + 1) + 1) + 1 by omega, Nat.pow_succ]
              omega
            · have h1 := HGO.out
              rw [← h1]
              show _ = klitGo K k0 v i false o (2 * m + (kbit K P1 c1 (k0 + m) (bitAt v i)).1) (kbit K P1 c1 (k0 + m) (bitAt v i)).2.1 (kbit K P1 c1 (k0 + m) (bitAt v i)).2.2
              rw [HZ.out, HY.out, HQ.out, HB.out]
            · rw [HY.out]
              exact hfit7.out
          case measure => simp [intOf]
        | true =>
          obtain ⟨xo, hxo⟩ : ∃ xo, xo = o / 2 ^ i % 2 := ⟨_, rfl⟩
          have hxo1 : xo ≤ 1 := by omega
          obtain ⟨ox, hox⟩ : ∃ ox, ox = o / 2 ^ i := ⟨_, rfl⟩
          have hodv : (o : Int) / x = (ox : Int) := by rw [HX.out, hox]; rfl
          have hox9 : ox ≤ 256 := by rw [hox]; exact Nat.le_trans (Nat.div_le_self _ _) (by omega)
          have hoxm : (ox : Int).tmod 2 = (xo : Int) := by
            rw [hxo, ← hox, Int.tmod_eq_emod_of_nonneg (Int.natCast_nonneg _)]
            rfl
          obtain ⟨q, hq⟩ : ∃ q, q = k0 + 256 * (1 + xo) + m := ⟨_, rfl⟩
          have hqe : (k0 : Int) + 256 * (1 + (xo : Int)) + (m : Int) = (q : Int) := by omega
          have hqn : q < np := by have := HKN.out; omega
          obtain ⟨y, hy⟩ : ∃ y, y = kbit K P1 c1 q b := ⟨_, rfl⟩
          have hy1 : y.1 ≤ 1 := by rw [hy]; exact kbit_one hG.ok _ _ _ HMAY.out
          have HQ := hid hq
          have HY := hid hy
          have HQN := hid hqn
          have HXO := hid hxo
          clear hq hy hqn hxo hox
          go_wp2_with fail
          refine (CX2.out _).mono ?_
          rintro e w6 ⟨rfl, rfl⟩
          go_wp2_with fail
          refine (CX2.out _).mono ?_
          rintro e w6 ⟨rfl, rfl⟩
          go_wp2_with fail
          refine (hG.bit U g gp np cap _ c1 q b _ HST.out HQN.out HMAY.out (hG.ok.fitM _ _ _ (by omega) HF.out)).mono ?_
          rintro e w7 ⟨rfl, hf7, h7⟩
          have hF7 := hid (HFR.out.trans hf7)
          have hfit7 := hid (hG.ok.fitB c1 (P1 q) b i HF.out)
          have H7 := hid (show KIs K U g gp np cap w7 { s with P := y.2.1 } y.2.2 by rw [HY.out]; exact h7)
          rw [show (kbit K ({ s with P := P1 } : LS).P c1 q b).1 = y.1 by rw [HY.out]]
          clear hf7 h7
          obtain ⟨z, hz⟩ : ∃ z, z = y.1 := ⟨_, rfl⟩
          rw [← hz] at hy1 ⊢
          have HZ := hid hz
          clear hz
          go_wp2_with fail
          go_roundw
          case rel =>
            refine ⟨i, 2 * m + z, z == xo, y.2.1, y.2.2, by omega, by go_num, by go_num, ?_, ?_, ?_, ?_, hF7.out, H7.out, ?_⟩
            · congr 1
              rw [Bool.eq_iff_iff]
              simp
              omega
            · have h1 := HM.out.1
              rw [show 8 - i = 8 - (i + 1) + 1 by omega, Nat.pow_succ]
              omega
            · have h1 := HM.out.2
              rw [show 8 - i + 1 = (8 - (i + 1) + 1) + 1 by omega, Nat.pow_succ]
              omega
            · have h1 := HGO.out
              rw [← h1]
              show _ = klitGo K k0 v i ((kbit K P1 c1 (k0 + 256 * (1 + o / 2 ^ i % 2) + m) (bitAt v i)).1 == o / 2 ^ i % 2) o (2 * m + (kbit K P1 c1 (k0 + 256 * (1 + o / 2 ^ i % 2) + m) (bitAt v i)).1) (kbit K P1 c1 (k0 + 256 * (1 + o / 2 ^ i % 2) + m) (bitAt v i)).2.1 (kbit K P1 c1 (k0 + 256 * (1 + o / 2 ^ i % 2) + m) (bitAt v i)).2.2
              rw [← HXO.out, HZ.out, HY.out, HQ.out, HB.out]
            · rw [HY.out]
              exact hfit7.out
          case measure => simp [intOf]
end Go.Proofs.Ytjnegcambbeblaa

/- The document's walk through LZMA: a length. -/
namespace Go.Proofs.Ytjnegcambbeblaa
open Go.RowKit

def klen2 {C : Type} (K : Cdr C) (b sp : Nat) (v : Int) (r : Nat × (Nat → Int) × C) : Nat × (Nat → Int) × C :=
  if r.1 = 0 then (8 + (ktree K r.2.1 r.2.2 (b + 130 + 8 * sp) 3 (v - 8)).1, (ktree K r.2.1 r.2.2 (b + 130 + 8 * sp) 3 (v - 8)).2)
  else (16 + (ktree K r.2.1 r.2.2 (b + 258) 8 (v - 16)).1, (ktree K r.2.1 r.2.2 (b + 258) 8 (v - 16)).2)
def klen1 {C : Type} (K : Cdr C) (b sp : Nat) (v : Int) (r : Nat × (Nat → Int) × C) : Nat × (Nat → Int) × C :=
  if r.1 = 0 then ktree K r.2.1 r.2.2 (b + 2 + 8 * sp) 3 v
  else klen2 K b sp v (kbit K r.2.1 r.2.2 (b + 1) (min (v.tdiv 16) 1))
/-- a length, less two. -/
def klen {C : Type} (K : Cdr C) (P : Nat → Int) (c : C) (b sp : Nat) (v : Int) : Nat × (Nat → Int) × C := klen1 K b sp v (kbit K P c b (min (v.tdiv 8) 1))
theorem min_may {C : Type} {K : Cdr C} {v : Int} (h : K.free ∨ 0 ≤ v) (n : Int) (hn : 0 < n) : K.may (min (v.tdiv n) 1) := by
  rcases h with h | h
  · exact .inl h
  · have h1 : 0 ≤ v.tdiv n := Int.tdiv_nonneg h (by omega)
    exact .inr ⟨by omega, by omega⟩
/-- what is asked for behind a length's bit. -/
theorem min_less {C : Type} {K : Cdr C} (hK : K.Ok) {v : Int} (h : K.free ∨ 0 ≤ v) (n : Int) (hn : 0 < n) {P : Nat → Int} {c : C} {k : Nat} (h0 : (kbit K P c k (min (v.tdiv n) 1)).1 ≠ 0) : K.free ∨ 0 ≤ v - n := by
  rcases h with h | h
  · exact .inl h
  · rcases hK.echo with he | he
    · exact .inl he
    · refine .inr ?_
      have h1 : 0 ≤ v.tdiv n := Int.tdiv_nonneg h (by omega)
      have h2 : ((kbit K P c k (min (v.tdiv n) 1)).1 : Int) = min (v.tdiv n) 1 := he c (P k) _ (by omega) (by omega)
      have h3 : 1 ≤ v.tdiv n := by omega
      rw [Int.tdiv_eq_ediv_of_nonneg h] at h3
      have h4 := (Int.le_ediv_iff_mul_le hn).1 h3
      omega
set_option maxRecDepth 100000 in
set_option maxHeartbeats 1600000 in
theorem klen_any {U : Nat → Prop} {C : Type} {K : Cdr C} (hG : K.Good) (g gp np cap : Nat) (s : LS) (c : C) (b sp : Nat) (v : Int) (w : World) (h : KIs K U g gp np cap w s c) (hb : b + 514 ≤ np) (hb2 : b ≤ 1333) (hsp : sp < 16) (hv : K.free ∨ 0 ≤ v) (hv0 : -65536 ≤ v) (hv1 : v ≤ 65536) (hfit : K.fit c 10) :
    Calls Try.prog 79 #[.pointer (some ⟨g, 0, none⟩), .int .i64 b, .int .i64 sp, .int .i64 v] w (KPost K U g gp np cap (.int .i64 (klen K s.P c b sp v).1) { s with P := (klen K s.P c b sp v).2.1 } (klen K s.P c b sp v).2.2 w) := by
  obtain ⟨R, hR⟩ : ∃ R, R = klen K s.P c b sp v := ⟨_, rfl⟩
  rw [← hR]
  unfold klen at hR
  obtain ⟨y, hy⟩ : ∃ y, y = kbit K s.P c b (min (v.tdiv 8) 1) := ⟨_, rfl⟩
  rw [← hy] at hR
  have CB := hid (fun (bb : Int) (he : bb = min (v.tdiv 8) 1) => (show Calls Try.prog 105 #[.pointer (some ⟨g, 0, none⟩), .int .i64 b, .int .i64 bb] w (KPost K U g gp np cap (.int .i64 y.1) { s with P := y.2.1 } y.2.2 w) by
    rw [he, hy]
    exact hG.bit U g gp np cap s c b _ w h (by omega) (min_may hv 8 (by decide)) (hG.ok.fitM _ _ _ (by decide) hfit)))
  have HF1 := hid (show K.fit y.2.2 9 by rw [hy]; exact hG.ok.fitB c _ _ 9 hfit)
  have HV8 := hid (fun (h0 : y.1 ≠ 0) => min_less hG.ok hv 8 (by decide) (P := s.P) (c := c) (k := b) (by rw [← hy]; exact h0))
  have HR := hid hR
  have HV := hid hv
  have HB := hid hb
  have HVR := hid (And.intro hv0 hv1)
  have hd8 : IntKind.i64.wrap (v.tdiv 8) = v.tdiv 8 := div_range v 8 (by omega) (by omega)
  have hd16 : IntKind.i64.wrap (v.tdiv 16) = v.tdiv 16 := div_range v 16 (by omega) (by omega)
  clear h hR hv hb hy hfit hv0 hv1
  go_enter Try.func79, Try.ntmps79
  go_upto_region 1 with fail
  go_cut [15] (fun t wx => t = .bool (decide (y.1 = 0)) ∧ Fr (KF K U) w wx ∧ KIs K U g gp np cap wx { s with P := y.2.1 } y.2.2)
  case first =>
    go_wp2_with fail
    all_goals
      refine (CB.out _ (by omega)).mono ?_
      rintro e w1 ⟨rfl, hf1, h1⟩
      have HF := hid hf1
      have H1 := hid h1
      clear hf1 h1
      go_wp2_with fail
      go_meet
      refine ⟨?_, HF.out, H1.out⟩
      congr 1
      rw [Bool.eq_iff_iff]
      simp
  case rest =>
    obtain ⟨ht, hf1, h1⟩ := hcut
    have HF := hid hf1
    have H1 := hid h1
    obtain ⟨w1, hw1⟩ : ∃ w1, w1 = wc := ⟨_, rfl⟩
    rw [← hw1] at HF H1 ⊢
    clear hf1 h1 hw1
    by_cases hz : y.1 = 0
    · rw [decide_eq_true hz] at ht
      subst ht
      obtain ⟨q, hq⟩ : ∃ q, q = b + 2 + 8 * sp := ⟨_, rfl⟩
      have hqe : (b : Int) + 2 + 8 * (sp : Int) = (q : Int) := by omega
      have hqn : q + 2 ^ 3 ≤ np := by have := HB.out; omega
      have hq6 : q ≤ 60000 := by omega
      have HQ := hid hq
      have HQN := hid hqn
      have HRE := hid (show R = ktree K y.2.1 y.2.2 q 3 v by rw [HR.out]; unfold klen1; rw [if_pos hz, hq])
      clear hq hqn hz
      go_wp2_with fail
      refine (ktree_any hG g gp np cap _ y.2.2 q 3 v _ H1.out (by decide) HQN.out hq6 HV.out (by have := HVR.out; omega) (by have := HVR.out; omega) (hG.ok.fitM _ _ _ (by decide) HF1.out)).mono ?_
      rintro e w2 ⟨rfl, hf2, h2⟩
      have HE := HRE.out
      have HF2 := hid (HF.out.trans hf2)
      have H2 := hid (show KIs K U g gp np cap w2 { s with P := R.2.1 } R.2.2 by rw [HE]; exact h2)
      rw [show (ktree K ({ s with P := y.2.1 } : LS).P y.2.2 q 3 v).1 = R.1 by rw [HE]]
      clear hf2 h2 HE
      go_wp2_with fail
      go_ret
      exact ⟨rfl, HF2.out, H2.out⟩
    · rw [decide_eq_false hz] at ht
      subst ht
      have hv8 := HV8.out hz
      obtain ⟨x, hx⟩ : ∃ x, x = kbit K y.2.1 y.2.2 (b + 1) (min (v.tdiv 16) 1) := ⟨_, rfl⟩
      have hRx : R = klen2 K b sp v x := by rw [HR.out, hx]; unfold klen1; rw [if_neg hz]
      have CB2 := hid (fun (bb : Int) (he : bb = min (v.tdiv 16) 1) => (show Calls Try.prog 105 #[.pointer (some ⟨g, 0, none⟩), .int .i64 (b + 1 : Nat), .int .i64 bb] w1 (KPost K U g gp np cap (.int .i64 x.1) { s with P := x.2.1 } x.2.2 w1) by
        rw [he, hx]
        exact hG.bit U g gp np cap _ y.2.2 (b + 1) _ w1 H1.out (by have := HB.out; omega) (min_may HV.out 16 (by decide)) (hG.ok.fitM _ _ _ (by decide) HF1.out)))
      have HF2 := hid (show K.fit x.2.2 8 by rw [hx]; exact hG.ok.fitB _ _ _ 8 HF1.out)
      have HV16 := hid (fun (h0 : x.1 ≠ 0) => min_less hG.ok HV.out 16 (by decide) (P := y.2.1) (c := y.2.2) (k := b + 1) (by rw [← hx]; exact h0))
      have HRX := hid hRx
      have HV88 := hid hv8
      obtain ⟨b1, hb1⟩ : ∃ b1, b1 = b + 1 := ⟨_, rfl⟩
      rw [← hb1] at CB2
      have hb1e : (b : Int) + 1 = (b1 : Int) := by omega
      clear hx hRx hv8 hz hb1
      go_upto_region 3 with fail
      go_cut [31] (fun t wx => t = .bool (decide (x.1 = 0)) ∧ Fr (KF K U) w wx ∧ KIs K U g gp np cap wx { s with P := x.2.1 } x.2.2)
      case first =>
        go_wp2_with fail
        all_goals
          refine (CB2.out _ (by omega)).mono ?_
          rintro e w2 ⟨rfl, hf2, h2⟩
          have HF3 := hid (HF.out.trans hf2)
          have H3 := hid h2
          clear hf2 h2
          go_wp2_with fail
          go_meet
          refine ⟨?_, HF3.out, H3.out⟩
          congr 1
          rw [Bool.eq_iff_iff]
          simp
      case rest =>
        obtain ⟨ht, hf2, h2⟩ := hcut
        have HF3 := hid hf2
        have H3 := hid h2
        obtain ⟨w2, hw2⟩ : ∃ w2, w2 = wc := ⟨_, rfl⟩
        rw [← hw2] at HF3 H3 ⊢
        clear hf2 h2 hw2 hb1e
        by_cases hz : x.1 = 0
        · rw [decide_eq_true hz] at ht
          subst ht
          obtain ⟨q, hq⟩ : ∃ q, q = b + 130 + 8 * sp := ⟨_, rfl⟩
          have hqe : (b : Int) + 130 + 8 * (sp : Int) = (q : Int) := by omega
          have hqn : q + 2 ^ 3 ≤ np := by have := HB.out; omega
          have hq6 : q ≤ 60000 := by omega
          have hvw : IntKind.i64.wrap (v - 8) = v - 8 := by have := HVR.out; rw [IntKind.wrap_i64]; omega
          have HQN := hid hqn
          have HRE := hid (show R = (8 + (ktree K x.2.1 x.2.2 q 3 (v - 8)).1, (ktree K x.2.1 x.2.2 q 3 (v - 8)).2) by rw [HRX.out]; unfold klen2; rw [if_pos hz, hq])
          clear hq hqn hz
          go_wp2_with fail
          refine (ktree_any hG g gp np cap _ x.2.2 q 3 (v - 8) _ H3.out (by decide) HQN.out hq6 HV88.out (by have := HVR.out; omega) (by have := HVR.out; omega) (hG.ok.fitM _ _ _ (by decide) HF2.out)).mono ?_
          rintro e w3 ⟨rfl, hf3, h3⟩
          have HE := HRE.out
          have HF4 := hid (HF3.out.trans hf3)
          have H4 := hid (show KIs K U g gp np cap w3 { s with P := R.2.1 } R.2.2 by rw [HE]; exact h3)
          obtain ⟨z, hz⟩ : ∃ z, z = (ktree K x.2.1 x.2.2 q 3 (v - 8)).1 := ⟨_, rfl⟩
          have hzl := ktree_lt hG.ok x.2.1 x.2.2 q 3 HV88.out
          rw [← hz] at hzl
          rw [show (ktree K ({ s with P := x.2.1 } : LS).P x.2.2 q 3 (v - 8)).1 = z by rw [hz]]
          have HR1 := hid (show R.1 = 8 + z by rw [HE, hz])
          clear hf3 h3 HE hz
          go_wp2_with fail
          go_ret
          refine ⟨?_, HF4.out, H4.out⟩
          rw [HR1.out]
          go_num
        · rw [decide_eq_false hz] at ht
          subst ht
          obtain ⟨q, hq⟩ : ∃ q, q = b + 258 := ⟨_, rfl⟩
          have hqe : (b : Int) + 258 = (q : Int) := by omega
          have hqn : q + 2 ^ 8 ≤ np := by have := HB.out; omega
          have hq6 : q ≤ 60000 := by omega
          have hvw : IntKind.i64.wrap (v - 16) = v - 16 := by have := HVR.out; rw [IntKind.wrap_i64]; omega
          have HQN := hid hqn
          have HRE := hid (show R = (16 + (ktree K x.2.1 x.2.2 q 8 (v - 16)).1, (ktree K x.2.1 x.2.2 q 8 (v - 16)).2) by rw [HRX.out]; unfold klen2; rw [if_neg hz, hq])
          have HV2 := hid (HV16.out hz)
          clear hq hqn hz
          go_wp2_with fail
          refine (ktree_any hG g gp np cap _ x.2.2 q 8 (v - 16) _ H3.out (by decide) HQN.out hq6 HV2.out (by have := HVR.out; omega) (by have := HVR.out; omega) (hG.ok.fitM _ _ _ (by decide) HF2.out)).mono ?_
          rintro e w3 ⟨rfl, hf3, h3⟩
          have HE := HRE.out
          have HF4 := hid (HF3.out.trans hf3)
          have H4 := hid (show KIs K U g gp np cap w3 { s with P := R.2.1 } R.2.2 by rw [HE]; exact h3)
          obtain ⟨z, hz⟩ : ∃ z, z = (ktree K x.2.1 x.2.2 q 8 (v - 16)).1 := ⟨_, rfl⟩
          have hzl := ktree_lt hG.ok x.2.1 x.2.2 q 8 HV2.out
          rw [← hz] at hzl
          rw [show (ktree K ({ s with P := x.2.1 } : LS).P x.2.2 q 8 (v - 16)).1 = z by rw [hz]]
          have HR1 := hid (show R.1 = 16 + z by rw [HE, hz])
          clear hf3 h3 HE hz
          go_wp2_with fail
          go_ret
          refine ⟨?_, HF4.out, H4.out⟩
          rw [HR1.out]
          go_num
end Go.Proofs.Ytjnegcambbeblaa

/- The document's walk through LZMA: a distance's slot. -/
namespace Go.Proofs.Ytjnegcambbeblaa
open Go.RowKit

def slotGo : Nat → Nat → Nat
  | 0, d => d
  | k + 1, d => if d < 4 then d else 2 + slotGo k (d / 2)
/-- a distance's slot. -/
def slotL (d : Nat) : Nat := slotGo 30 d
theorem slotGo_lt : ∀ (k d : Nat), d < 4 * 2 ^ k → slotGo k d < 2 * k + 4
  | 0, d, h => by unfold slotGo; omega
  | k + 1, d, h => by
    unfold slotGo
    split
    · omega
    · have := slotGo_lt k (d / 2) (by rw [Nat.pow_succ] at h; omega)
      omega
theorem slotL_lt {d : Nat} (h : d < 4294967296) : slotL d < 64 := slotGo_lt 30 d (by omega)
theorem slotGo_ge : ∀ (k d : Nat), d < 4 * 2 ^ k → 4 ≤ d → 4 ≤ slotGo k d
  | 0, d, h, h4 => by omega
  | k + 1, d, h, h4 => by
    unfold slotGo
    rw [if_neg (by omega)]
    by_cases h8 : d / 2 < 4
    · cases k with
      | zero => show 4 ≤ 2 + d / 2; omega
      | succ k => unfold slotGo; rw [if_pos h8]; omega
    · have := slotGo_ge k (d / 2) (by rw [Nat.pow_succ] at h; omega) (by omega)
      omega
theorem slotGo_range : ∀ (k d : Nat), d < 4 * 2 ^ k → 4 ≤ d → slotB (slotGo k d) ≤ d ∧ d < slotB (slotGo k d) + 2 ^ slotN (slotGo k d)
  | 0, d, h, h4 => by omega
  | k + 1, d, h, h4 => by
    have e : slotGo (k + 1) d = 2 + slotGo k (d / 2) := by
      show (if d < 4 then d else 2 + slotGo k (d / 2)) = _
      rw [if_neg (by omega)]
    rw [e]
    by_cases h8 : d / 2 < 4
    · have e2 : slotGo k (d / 2) = d / 2 := by
        cases k with
        | zero => rfl
        | succ k => show (if d / 2 < 4 then d / 2 else _) = _; rw [if_pos h8]
      rw [e2]
      have : d = 4 ∨ d = 5 ∨ d = 6 ∨ d = 7 := by omega
      rcases this with rfl | rfl | rfl | rfl <;> decide
    · have h1 := slotGo_range k (d / 2) (by rw [Nat.pow_succ] at h; omega) (by omega)
      have h2 := slotGo_ge k (d / 2) (by rw [Nat.pow_succ] at h; omega) (by omega)
      obtain ⟨s, hs⟩ : ∃ s, s = slotGo k (d / 2) := ⟨_, rfl⟩
      rw [← hs] at h1 h2 ⊢
      have hN : slotN (2 + s) = slotN s + 1 := by unfold slotN; omega
      have hB : slotB (2 + s) = 2 * slotB s := by
        unfold slotB
        rw [hN, Nat.pow_succ, show (2 + s) % 2 = s % 2 by omega, Nat.mul_comm (2 ^ slotN s) 2, ← Nat.mul_assoc, Nat.mul_comm _ 2, Nat.mul_assoc]
      rw [hB, hN, Nat.pow_succ]
      omega
theorem slotL_range {d : Nat} (h : d < 4294967296) (h4 : 4 ≤ slotL d) : slotB (slotL d) ≤ d ∧ d < slotB (slotL d) + 2 ^ slotN (slotL d) := by
  refine slotGo_range 30 d (by omega) ?_
  by_cases hd : d < 4
  · have e : slotL d = d := by show (if d < 4 then d else _) = d; rw [if_pos hd]
    omega
  · omega
theorem ktreeGo_echo {C : Type} {K : Cdr C} (he : ∀ c p b, 0 ≤ b → b ≤ 1 → ((K.nb c p b).1 : Int) = b) (o u : Nat) : ∀ (i : Nat) (P : Nat → Int) (c : C) (m : Nat), (ktreeGo K o (u : Int) i P c m).1 = m * 2 ^ i + u % 2 ^ i
  | 0, P, c, m => by unfold ktreeGo; simp [Nat.mod_one]
  | i + 1, P, c, m => by
    have hb := bitAt_01 (Int.natCast_nonneg u) i
    have hu : bitAt (u : Int) i = ((u / 2 ^ i % 2 : Nat) : Int) := by
      unfold bitAt
      rw [Int.tdiv_eq_ediv_of_nonneg (Int.natCast_nonneg _), Int.tmod_eq_emod_of_nonneg (Int.ediv_nonneg (Int.natCast_nonneg _) (Int.natCast_nonneg _))]
      rfl
    have h1 : (kbit K P c (o + m) (bitAt (u : Int) i)).1 = u / 2 ^ i % 2 := by
      have := he c (P (o + m)) _ hb.1 hb.2
      rw [hu] at this
      have h2 : ((kbit K P c (o + m) (bitAt (u : Int) i)).1 : Int) = ((u / 2 ^ i % 2 : Nat) : Int) := by
        rw [hu]
        exact this
      omega
    show (ktreeGo K o (u : Int) i _ _ (2 * m + (kbit K P c (o + m) (bitAt (u : Int) i)).1)).1 = _
    rw [ktreeGo_echo he o u i, h1, Nat.pow_succ, Nat.mod_mul]
    rw [Nat.add_mul, Nat.mul_comm (2 ^ i) 2, ← Nat.mul_assoc, Nat.mul_comm m 2, Nat.mul_comm (2 ^ i) (u / 2 ^ i % 2)]
    omega
theorem ktree_echo {C : Type} {K : Cdr C} (he : ∀ c p b, 0 ≤ b → b ≤ 1 → ((K.nb c p b).1 : Int) = b) (P : Nat → Int) (c : C) (o B u : Nat) (hu : u < 2 ^ B) : (ktree K P c o B (u : Int)).1 = u := by
  show (ktreeGo K o (u : Int) B P c 1).1 - 2 ^ B = u
  rw [ktreeGo_echo he, Nat.mod_eq_of_lt hu]
  omega
set_option maxRecDepth 100000 in
set_option maxHeartbeats 1600000 in
theorem kslot_any (d : Nat) (hd : d < 4294967296) (w : World) : Calls Try.prog 108 #[.int .u32 d] w fun e w' => e = .returned (.int .i64 (slotL d : Nat)) ∧ w = w' := by
  have HD := hid hd
  clear hd
  go_enter Try.func108, Try.ntmps108
  go_wp2_with fail
  go_loopw [0, 3] (fun dv nv wr => ∃ (x n : Nat), n ≤ 30 ∧ dv = .int .u32 x ∧ nv = .int .i64 n ∧ x < 4 * 2 ^ (30 - n) ∧ 2 * n + slotGo (30 - n) x = slotL d ∧ w = wr) (fun dv _ _ => (intOf dv).toNat)
  case atStart => exact ⟨d, 0, by decide, rfl, rfl, by have := HD.out; omega, by simp [slotL], rfl⟩
  case round =>
    obtain ⟨x, n, hn, rfl, rfl, hx, hs, rfl⟩ := hrel
    have HX := hid hx
    have HS := hid hs
    clear hx hs
    by_cases h4 : x < 4
    · have h4' : ¬ (4 : Int) ≤ (x : Int) := by omega
      have e : slotL d = 2 * n + x := by
        rw [← HS.out]
        cases hk : 30 - n with
        | zero => rfl
        | succ k => show 2 * n + (if x < 4 then x else _) = _; rw [if_pos h4]
      have hxw : IntKind.i64.wrap (x : Int) = (x : Int) := by rw [IntKind.wrap_i64]; omega
      have HE := hid e
      clear e
      go_wp2_with fail
      go_ret
      refine ⟨?_, rfl⟩
      rw [HE.out]
      go_num
    · have h4' : (4 : Int) ≤ (x : Int) := by omega
      obtain ⟨y, hy⟩ : ∃ y, y = x / 2 := ⟨_, rfl⟩
      have hyw : (x : Int) / 2 = (y : Int) := by omega
      have hn30 : n < 30 := by
        have h1 := HX.out
        rcases Nat.lt_or_ge n 30 with h | h
        · exact h
        · rw [show 30 - n = 0 by omega] at h1
          omega
      have hyb : IntKind.u32.wrap (y : Int) = (y : Int) := by
        have h1 := HX.out
        have h2 : 2 ^ (30 - n) ≤ 2 ^ 30 := Nat.pow_le_pow_right (by decide) (by omega)
        rw [IntKind.wrap_u32']
        omega
      have HY := hid hy
      clear hy
      go_wp2_with fail
      go_roundw
      case rel =>
        refine ⟨y, n + 1, by omega, by go_num, by go_num, ?_, ?_, trivial⟩
        · have h1 := HX.out
          rw [show 30 - n = (30 - (n + 1)) + 1 by omega, Nat.pow_succ] at h1
          have := HY.out
          omega
        · rw [← HS.out, show 30 - n = (30 - (n + 1)) + 1 by omega]
          show _ = 2 * n + (if x < 4 then x else 2 + slotGo (30 - (n + 1)) (x / 2))
          rw [if_neg h4, ← HY.out]
          omega
      case measure =>
        have := HY.out
        simp [intOf]
        omega
end Go.Proofs.Ytjnegcambbeblaa

/- The document's walk through LZMA: a distance. -/
namespace Go.Proofs.Ytjnegcambbeblaa
open Go.RowKit

/-- what is told straight of a distance. -/
def restOf (v sl : Nat) : Int := ((v : Int) - (slotB sl : Nat)) % 4294967296 / 16
def kdist3 {C : Type} (K : Cdr C) (v sl : Nat) (P : Nat → Int) (h : Nat × C) : Nat × (Nat → Int) × C :=
  (slotB sl + 16 * h.1 + (krev K P h.2 803 4 ((v % 16 : Nat) : Int)).1, (krev K P h.2 803 4 ((v % 16 : Nat) : Int)).2)
def kdist2 {C : Type} (K : Cdr C) (v : Nat) (r : Nat × (Nat → Int) × C) : Nat × (Nat → Int) × C :=
  if r.1 < 4 then r
  else if r.1 < 14 then (slotB r.1 + (krev K r.2.1 r.2.2 (688 + (slotB r.1 - r.1)) (slotN r.1) ((v : Int) - (slotB r.1 : Nat))).1, (krev K r.2.1 r.2.2 (688 + (slotB r.1 - r.1)) (slotN r.1) ((v : Int) - (slotB r.1 : Nat))).2)
  else kdist3 K v r.1 r.2.1 (K.ns r.2.2 (slotN r.1 - 4) (restOf v r.1))
/-- a distance, by a length (less two). -/
def kdist {C : Type} (K : Cdr C) (P : Nat → Int) (c : C) (l v : Nat) : Nat × (Nat → Int) × C := kdist2 K v (ktree K P c (432 + 64 * min l 3) 6 (slotL v : Nat))
/-- the slot that was told is the distance's. -/
theorem slot_told {C : Type} {K : Cdr C} (hK : K.Ok) (P : Nat → Int) (c : C) (o v : Nat) (hv : v < 4294967296) : K.free ∨ (ktree K P c o 6 (slotL v : Nat)).1 = slotL v := by
  rcases hK.echo with he | he
  · exact .inl he
  · exact .inr (ktree_echo he P c o 6 _ (slotL_lt hv))
set_option maxRecDepth 100000 in
set_option maxHeartbeats 3200000 in
theorem kdist_any {U : Nat → Prop} {C : Type} {K : Cdr C} (hG : K.Good) (g gp np cap : Nat) (s : LS) (c : C) (l v : Nat) (w : World) (h : KIs K U g gp np cap w s c) (hl : l < 1000) (hv : v < 4294967296) (hfit : K.fit c 40) :
    Calls Try.prog 81 #[.pointer (some ⟨g, 0, none⟩), .int .i64 l, .int .u32 v] w (KPost K U g gp np cap (.int .u32 (kdist K s.P c l v).1) { s with P := (kdist K s.P c l v).2.1 } (kdist K s.P c l v).2.2 w) := by
  obtain ⟨R, hR⟩ : ∃ R, R = kdist K s.P c l v := ⟨_, rfl⟩
  rw [← hR]
  unfold kdist at hR
  have hnp : 2615 ≤ np := by
    obtain ⟨A, ov, hv2⟩ := h
    have h1 := hv2.ok.room
    have : 0 < 2 ^ (s.lc + s.lp) := Nat.pow_pos (by decide)
    omega
  obtain ⟨r, hr⟩ : ∃ r, r = ktree K s.P c (432 + 64 * min l 3) 6 (slotL v : Nat) := ⟨_, rfl⟩
  rw [← hr] at hR
  have hvs : K.free ∨ 0 ≤ ((slotL v : Nat) : Int) := .inr (Int.natCast_nonneg _)
  have hs64 := slotL_lt hv
  have hr64 : r.1 < 64 := by rw [hr]; exact ktree_lt hG.ok s.P c _ 6 hvs
  have htold : K.free ∨ r.1 = slotL v := by rw [hr]; exact slot_told hG.ok _ _ _ _ hv
  have CT := hid (fun (q : Int) (hq : q = ((432 + 64 * min l 3 : Nat) : Int)) (w1 : World) (hw : w = w1) => (show Calls Try.prog 107 #[.pointer (some ⟨g, 0, none⟩), .int .i64 q, .int .i64 6, .int .i64 (slotL v : Nat)] w1 (KPost K U g gp np cap (.int .i64 r.1) { s with P := r.2.1 } r.2.2 w) by
    rw [hq, hr, ← hw]
    exact ktree_any hG g gp np cap s c _ 6 _ w h (by decide) (by omega) (by omega) hvs (by omega) (by omega) (hG.ok.fitM _ _ _ (by decide) hfit)))
  have CS := hid (kslot_any v hv w)
  have hfr : ∀ (n : Nat), n ≤ 34 → K.fit r.2.2 n := by
    intro n hn
    have key : ∀ (i : Nat) (P : Nat → Int) (c : C) (m : Nat) (o : Nat) (x : Int), K.fit c (n + i) → K.fit (ktreeGo K o x i P c m).2.2 n := by
      intro i
      induction i with
      | zero => intro P c m o x hf; exact hf
      | succ i ih => intro P c m o x hf; exact ih _ _ _ o x (hG.ok.fitB c _ _ (n + i) hf)
    rw [hr]
    exact key 6 _ _ _ _ _ (hG.ok.fitM _ _ _ (by omega) hfit)
  have HFR := hid hfr
  have HR := hid hR
  have HTOLD := hid htold
  have HV := hid hv
  have HNP := hid hnp
  clear h hR hr hvs hs64 htold hv hfit hnp hfr
  go_enter Try.func81, Try.ntmps81
  go_upto_region 1 with fail
  go_cut [7] (fun t wx => t = .int .i64 r.1 ∧ Fr (KF K U) w wx ∧ KIs K U g gp np cap wx { s with P := r.2.1 } r.2.2)
  case first =>
    go_wp2_with fail
    all_goals
      refine CS.out.mono ?_
      rintro e w1 ⟨rfl, hw1⟩
      go_wp2_with fail
      refine (CT.out _ (by omega) _ hw1).mono ?_
      rintro e w2 ⟨rfl, hf1, h1⟩
      have HF := hid hf1
      have H1 := hid h1
      clear hf1 h1
      go_wp2_with fail
      go_meet
      exact ⟨rfl, HF.out, H1.out⟩
  case rest =>
    obtain ⟨rfl, hf1, h1⟩ := hcut
    have HF := hid hf1
    have H1 := hid h1
    obtain ⟨w1, hw1⟩ : ∃ w1, w1 = wc := ⟨_, rfl⟩
    rw [← hw1] at HF H1 ⊢
    clear hf1 h1 hw1
    obtain ⟨sl, hsl⟩ : ∃ x, x = r.1 := ⟨_, rfl⟩
    rw [← hsl] at hr64 ⊢
    by_cases h4 : sl < 4
    · have h4' : (sl : Int) < 4 := by omega
      have HRE := hid (show R = r by rw [HR.out]; unfold kdist2; rw [if_pos (by rw [← hsl]; exact h4)])
      have HS := hid hsl
      clear h4 hsl
      go_wp2_with fail
      go_ret
      rw [HRE.out]
      refine ⟨?_, HF.out, H1.out⟩
      rw [← HS.out]
      go_num
    · have h4' : ¬ (sl : Int) < 4 := by omega
      obtain ⟨N, hN⟩ : ∃ N, N = slotN sl := ⟨_, rfl⟩
      obtain ⟨Bs, hBs⟩ : ∃ B, B = slotB sl := ⟨_, rfl⟩
      obtain ⟨p, hp⟩ : ∃ p, p = sl % 2 := ⟨_, rfl⟩
      obtain ⟨hf, hhf⟩ : ∃ p, p = sl / 2 := ⟨_, rfl⟩
      have hm := slot_many (by omega) hr64
      rw [← hN, ← hBs] at hm
      have e1 : (sl : Int) / 2 = (hf : Int) := by omega
      have e2 : (hf : Int) - 1 = (N : Int) := by
        have : N = hf - 1 := by rw [hN, hhf]; rfl
        omega
      have e3 : (sl : Int) % 2 = (p : Int) := by omega
      have hp1 : p ≤ 1 := by omega
      have hN30 : N ≤ 30 := hm.2.1
      obtain ⟨X, hX⟩ : ∃ X : Int, X = ((2 ^ N : Nat) : Int) := ⟨_, rfl⟩
      have CX := hid (fun W : World => (show Calls Try.prog 76 #[.int .i64 N] W fun e w' => e = .returned (.int .i64 X) ∧ W = w' by rw [hX]; exact kpower_any N (by omega) W))
      have hBl : Bs ≤ 4294967296 := Nat.le_trans (Nat.le_add_right _ _) hm.2.2
      have e4 : IntKind.i64.wrap ((2 + (p : Int)) * X) = (Bs : Int) := by
        have : (2 + (p : Int)) * X = (Bs : Int) := by
          rw [hX, hBs, hp]
          unfold slotB
          rw [← hN]
          simp
        rw [this, IntKind.wrap_i64]
        clear hm
        omega
      have e5 : IntKind.i64.wrap (v : Int) = (v : Int) := by have := HV.out; rw [IntKind.wrap_i64]; omega
      have HS := hid (And.intro hsl (And.intro hN hBs))
      have HM := hid hm
      have HBL := hid hBl
      clear hBl
      by_cases h14 : sl < 14
      · have h14' : (sl : Int) < 14 := by omega
        have hfew := slot_few (by omega) h14
        rw [← hN, ← hBs] at hfew
        obtain ⟨q, hq⟩ : ∃ q, q = 688 + (Bs - sl) := ⟨_, rfl⟩
        have e6 : (688 : Int) + (Bs : Int) - (sl : Int) = (q : Int) := by omega
        obtain ⟨ve, hve⟩ : ∃ x : Int, x = (v : Int) - (Bs : Int) := ⟨_, rfl⟩
        have e7 : IntKind.i64.wrap ((v : Int) - (Bs : Int)) = ve := by have := HV.out; rw [hve, IntKind.wrap_i64]; omega
        have hve2 : K.free ∨ 0 ≤ ve := by
          rcases HTOLD.out with h | h
          · exact .inl h
          · refine .inr ?_
            have h1 := slotL_range HV.out (by rw [← h, ← hsl]; omega)
            rw [← h, ← hsl, ← hBs] at h1
            omega
        have hver : -4294967296 ≤ ve ∧ ve ≤ 4294967296 := by have := HV.out; omega
        obtain ⟨y, hy⟩ : ∃ y, y = krev K r.2.1 r.2.2 q N ve := ⟨_, rfl⟩
        have hyl : y.1 < 32 := by
          have h1 := krev_lt hG.ok r.2.1 r.2.2 q N hve2
          have h2 : 2 ^ N ≤ 2 ^ 5 := Nat.pow_le_pow_right (by decide) hfew.2.2.1
          rw [hy]
          omega
        have CR := hid (fun (W : World) (hW : KIs K U g gp np cap W { s with P := r.2.1 } r.2.2) => (show Calls Try.prog 109 #[.pointer (some ⟨g, 0, none⟩), .int .i64 q, .int .i64 N, .int .i64 ve] W (KPost K U g gp np cap (.int .i64 y.1) { s with P := y.2.1 } y.2.2 W) by
          rw [hy]
          exact krev_any hG g gp np cap _ r.2.2 q N ve W hW (by omega) (by have := HNP.out; omega) (by omega) hve2 hver.1 hver.2 (HFR.out _ (by omega))))
        have HRE := hid (show R = (Bs + y.1, y.2) by
          rw [HR.out, hy, hve, hq, hBs, hN]
          unfold kdist2
          rw [← hsl, if_neg h4, if_pos h14])
        have hB128 : Bs < 128 := hfew.2.2.2.1
        clear hsl hN hBs hp hhf hm hX h4 h14 hq hve hve2 hver hy hfew hN30
        go_wp2_with fail
        refine (CX.out _).mono ?_
        rintro e w2 ⟨rfl, rfl⟩
        go_wp2_with fail
        refine (CR.out _ H1.out).mono ?_
        rintro e w2 ⟨rfl, hf2, h2⟩
        have HF2 := hid (HF.out.trans hf2)
        have H2 := hid h2
        obtain ⟨z, hz⟩ : ∃ z, z = y.1 := ⟨_, rfl⟩
        rw [← hz] at hyl ⊢
        have HZ := hid hz
        clear hf2 h2 hz
        go_wp2_with fail
        go_ret
        rw [HRE.out]
        refine ⟨?_, HF2.out, H2.out⟩
        rw [← HZ.out]
        go_num
      · have h14' : ¬ (sl : Int) < 14 := by omega
        have hN6 : 6 ≤ N := by omega
        obtain ⟨dv, hdv⟩ : ∃ x : Nat, x = (((v : Int) - (Bs : Int)) % 4294967296).toNat := ⟨_, rfl⟩
        have e6 : IntKind.u32.wrap ((v : Int) - (Bs : Int)) = (dv : Int) := by rw [hdv, IntKind.wrap_u32']; omega
        have hBu : IntKind.u32.wrap (Bs : Int) = (Bs : Int) := by
          have h1 := hm.2.2
          have : 0 < 2 ^ N := Nat.pow_pos (by decide)
          rw [IntKind.wrap_u32']
          omega
        obtain ⟨rs, hrs⟩ : ∃ x : Nat, x = dv / 16 := ⟨_, rfl⟩
        have e7 : (dv : Int) / 16 = (rs : Int) := by omega
        have hrsb : rs < 4294967296 := by omega
        have e7b : (rs : Int) % 4294967296 = (rs : Int) := by omega
        have hrse : (rs : Int) = restOf v sl := by
          unfold restOf
          rw [← hBs]
          omega
        obtain ⟨n4, hn4⟩ : ∃ x, x = N - 4 := ⟨_, rfl⟩
        have e8 : (N : Int) - 4 = (n4 : Int) := by omega
        have hn26 : n4 ≤ 26 := by omega
        have hslt : K.free ∨ (0 ≤ (rs : Int) ∧ (rs : Int) < ((2 ^ n4 : Nat) : Int)) := by
          rcases HTOLD.out with h | h
          · exact .inl h
          · refine .inr ⟨Int.natCast_nonneg _, ?_⟩
            have h1 := slotL_range HV.out (by rw [← h, ← hsl]; omega)
            rw [← h, ← hsl, ← hBs, ← hN] at h1
            have h2 : 2 ^ N = 2 ^ n4 * 16 := by rw [hn4, show (16 : Nat) = 2 ^ 4 from rfl, ← Nat.pow_add]; congr 1; omega
            omega
        obtain ⟨x, hx⟩ : ∃ x, x = K.ns r.2.2 n4 (rs : Int) := ⟨_, rfl⟩
        have hxl : x.1 < 2 ^ n4 := by rw [hx]; exact hG.ok.slt r.2.2 n4 _ (by omega) (by simpa using hslt)
        have CS2 := hid (fun (W : World) (hW : KIs K U g gp np cap W { s with P := r.2.1 } r.2.2) => (show Calls Try.prog 110 #[.pointer (some ⟨g, 0, none⟩), .int .i64 n4, .int .u32 rs] W (KPost K U g gp np cap (.int .u32 x.1) { s with P := r.2.1 } x.2 W) by
          rw [hx]
          exact hG.str U g gp np cap _ r.2.2 n4 rs W hW (by omega) (Int.natCast_nonneg _) (by omega) (HFR.out _ (by omega))))
        obtain ⟨vm, hvm⟩ : ∃ x, x = v % 16 := ⟨_, rfl⟩
        have e9 : (v : Int) % 16 = (vm : Int) := by omega
        have hvm16 : vm < 16 := by omega
        obtain ⟨y, hy⟩ : ∃ y, y = krev K r.2.1 x.2 803 4 (vm : Int) := ⟨_, rfl⟩
        have hyl : y.1 < 16 := by rw [hy]; exact krev_lt hG.ok r.2.1 x.2 803 4 (.inr (Int.natCast_nonneg _))
        have hfx : K.fit x.2 4 := by rw [hx]; exact hG.ok.fitS r.2.2 n4 _ 4 (HFR.out _ (by omega))
        have CR := hid (fun (W : World) (hW : KIs K U g gp np cap W { s with P := r.2.1 } x.2) => (show Calls Try.prog 109 #[.pointer (some ⟨g, 0, none⟩), .int .i64 803, .int .i64 4, .int .i64 vm] W (KPost K U g gp np cap (.int .i64 y.1) { s with P := y.2.1 } y.2.2 W) by
          rw [hy, show (803 : Int) = ((803 : Nat) : Int) from rfl]
          have h9 : 803 + 2 ^ 4 ≤ np := by have := HNP.out; omega
          have h8 : 803 ≤ 60000 := by omega
          exact krev_any hG g gp np cap { s with P := r.2.1 } x.2 803 4 (vm : Int) W hW (by decide) h9 h8 (.inr (Int.natCast_nonneg _)) (by omega) (by omega) hfx))
        have HRE := hid (show R = (Bs + 16 * x.1 + y.1, y.2) by
          rw [HR.out, hy, hvm, hx, hn4, hrse, hBs, hN]
          unfold kdist2
          rw [← hsl, if_neg h4, if_neg h14]
          rfl)
        obtain ⟨hi, hhi⟩ : ∃ z, z = x.1 := ⟨_, rfl⟩
        obtain ⟨z, hz⟩ : ∃ z, z = y.1 := ⟨_, rfl⟩
        have hsum : Bs + 16 * hi + z < 4294967296 := by
          have h2 : 2 ^ N = 2 ^ n4 * 16 := by rw [hn4, show (16 : Nat) = 2 ^ 4 from rfl, ← Nat.pow_add]; congr 1; omega
          have h1 := hm.2.2
          omega
        obtain ⟨t1, ht1⟩ : ∃ t, t = 16 * hi := ⟨_, rfl⟩
        have e10 : IntKind.u32.wrap (16 * (hi : Int)) = (t1 : Int) := by rw [IntKind.wrap_u32']; omega
        obtain ⟨t2, ht2⟩ : ∃ t, t = Bs + t1 := ⟨_, rfl⟩
        have e11 : IntKind.u32.wrap ((Bs : Int) + (t1 : Int)) = (t2 : Int) := by rw [IntKind.wrap_u32']; omega
        obtain ⟨t3, ht3⟩ : ∃ t, t = t2 + z := ⟨_, rfl⟩
        have e12 : IntKind.u32.wrap ((t2 : Int) + (z : Int)) = (t3 : Int) := by rw [IntKind.wrap_u32']; omega
        have HT := hid (show R.1 = t3 by rw [HRE.out, ← hhi, ← hz]; omega)
        have hz16 : z < 16 := by omega
        have HH := hid (And.intro hhi hz)
        clear hsl hN hBs hp hhf hm hX h4 h14 hN6 hdv hrs hrsb hrse hn4 hn26 hslt hx hxl hvm hvm16 hy hyl hfx hhi hz hsum ht1 ht2 ht3 hN30
        go_wp2_with fail
        refine (CX.out _).mono ?_
        rintro e w2 ⟨rfl, rfl⟩
        go_wp2_with fail
        refine (CS2.out _ H1.out).mono ?_
        rintro e w2 ⟨rfl, hf2, h2⟩
        have HF2 := hid (HF.out.trans hf2)
        have H2 := hid h2
        rw [← HH.out.1]
        clear hf2 h2
        go_wp2_with fail
        refine (CR.out _ H2.out).mono ?_
        rintro e w3 ⟨rfl, hf3, h3⟩
        have HF3 := hid (HF2.out.trans hf3)
        have H3 := hid h3
        rw [← HH.out.2]
        clear hf3 h3
        go_wp2_with fail
        go_ret
        refine ⟨by rw [HT.out]; rfl, HF3.out, ?_⟩
        rw [HRE.out]
        exact H3.out
end Go.Proofs.Ytjnegcambbeblaa
