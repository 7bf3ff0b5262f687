/- The document's walk through LZMA: a distance. -/
import Derived.Test.YtjnegcambbeblaaMg10
namespace Go.Proofs.Ytjnegcambbeblaa
open Go.RowKit

/-- what is told straight of a distance. -/
def restOf (v sl : Nat) : Int := ((v : Int) - (slotB sl : Nat)) % 4294967296 / 16
def kdist3 {C : Type} (K : Cdr C) (v sl : Nat) (P : Nat → Int) (h : Nat × C) : Nat × (Nat → Int) × C :=
  (slotB sl + 16 * h.1 + (krev K P h.2 803 4 ((v % 16 : Nat) : Int)).1, (krev K P h.2 803 4 ((v % 16 : Nat) : Int)).2)
def kdist2 {C : Type} (K : Cdr C) (v : Nat) (r : Nat × (Nat → Int) × C) : Nat × (Nat → Int) × C :=
  if r.1 < 4 then r
  else if r.1 < 14 then (slotB r.1 + (krev K r.2.1 r.2.2 (688 + (slotB r.1 - r.1)) (slotN r.1) ((v : Int) - (slotB r.1 : Nat))).1, (krev K r.2.1 r.2.2 (688 + (slotB r.1 - r.1)) (slotN r.1) ((v : Int) - (slotB r.1 : Nat))).2)
  else kdist3 K v r.1 r.2.1 (K.ns r.2.2 (slotN r.1 - 4) (restOf v r.1))
/-- a distance, by a length (less two). -/
def kdist {C : Type} (K : Cdr C) (P : Nat → Int) (c : C) (l v : Nat) : Nat × (Nat → Int) × C := kdist2 K v (ktree K P c (432 + 64 * min l 3) 6 (slotL v : Nat))
/-- the slot that was told is the distance's. -/
theorem slot_told {C : Type} {K : Cdr C} (hK : K.Ok) (P : Nat → Int) (c : C) (o v : Nat) (hv : v < 4294967296) : K.free ∨ (ktree K P c o 6 (slotL v : Nat)).1 = slotL v := by
  rcases hK.echo with he | he
  · exact .inl he
  · exact .inr (ktree_echo he P c o 6 _ (slotL_lt hv))
set_option maxRecDepth 100000 in
set_option maxHeartbeats 3200000 in
theorem kdist_any {U : Nat → Prop} {C : Type} {K : Cdr C} (hG : K.Good) (g gp np cap : Nat) (s : LS) (c : C) (l v : Nat) (w : World) (h : KIs K U g gp np cap w s c) (hl : l < 1000) (hv : v < 4294967296) (hfit : K.fit c 40) :
    Calls Try.prog 81 #[.pointer (some ⟨g, 0, none⟩), .int .i64 l, .int .u32 v] w (KPost K U g gp np cap (.int .u32 (kdist K s.P c l v).1) { s with P := (kdist K s.P c l v).2.1 } (kdist K s.P c l v).2.2 w) := by
  obtain ⟨R, hR⟩ : ∃ R, R = kdist K s.P c l v := ⟨_, rfl⟩
  rw [← hR]
  unfold kdist at hR
  have hnp : 2615 ≤ np := by
    obtain ⟨A, ov, hv2⟩ := h
    have h1 := hv2.ok.room
    have : 0 < 2 ^ (s.lc + s.lp) := Nat.pow_pos (by decide)
    omega
  obtain ⟨r, hr⟩ : ∃ r, r = ktree K s.P c (432 + 64 * min l 3) 6 (slotL v : Nat) := ⟨_, rfl⟩
  rw [← hr] at hR
  have hvs : K.free ∨ 0 ≤ ((slotL v : Nat) : Int) := .inr (Int.natCast_nonneg _)
  have hs64 := slotL_lt hv
  have hr64 : r.1 < 64 := by rw [hr]; exact ktree_lt hG.ok s.P c _ 6 hvs
  have htold : K.free ∨ r.1 = slotL v := by rw [hr]; exact slot_told hG.ok _ _ _ _ hv
  have CT := hid (fun (q : Int) (hq : q = ((432 + 64 * min l 3 : Nat) : Int)) (w1 : World) (hw : w = w1) => (show Calls Try.prog 107 #[.pointer (some ⟨g, 0, none⟩), .int .i64 q, .int .i64 6, .int .i64 (slotL v : Nat)] w1 (KPost K U g gp np cap (.int .i64 r.1) { s with P := r.2.1 } r.2.2 w) by
    rw [hq, hr, ← hw]
    exact ktree_any hG g gp np cap s c _ 6 _ w h (by decide) (by omega) (by omega) hvs (by omega) (by omega) (hG.ok.fitM _ _ _ (by decide) hfit)))
  have CS := hid (kslot_any v hv w)
  have hfr : ∀ (n : Nat), n ≤ 34 → K.fit r.2.2 n := by
    intro n hn
    have key : ∀ (i : Nat) (P : Nat → Int) (c : C) (m : Nat) (o : Nat) (x : Int), K.fit c (n + i) → K.fit (ktreeGo K o x i P c m).2.2 n := by
      intro i
      induction i with
      | zero => intro P c m o x hf; exact hf
      | succ i ih => intro P c m o x hf; exact ih _ _ _ o x (hG.ok.fitB c _ _ (n + i) hf)
    rw [hr]
    exact key 6 _ _ _ _ _ (hG.ok.fitM _ _ _ (by omega) hfit)
  have HFR := hid hfr
  have HR := hid hR
  have HTOLD := hid htold
  have HV := hid hv
  have HNP := hid hnp
  clear h hR hr hvs hs64 htold hv hfit hnp hfr
  go_enter Try.func81, Try.ntmps81
  go_upto_region 1 with fail
  go_cut [7] (fun t wx => t = .int .i64 r.1 ∧ Fr (KF K U) w wx ∧ KIs K U g gp np cap wx { s with P := r.2.1 } r.2.2)
  case first =>
    go_wp2_with fail
    all_goals
      refine CS.out.mono ?_
      rintro e w1 ⟨rfl, hw1⟩
      go_wp2_with fail
      refine (CT.out _ (by omega) _ hw1).mono ?_
      rintro e w2 ⟨rfl, hf1, h1⟩
      have HF := hid hf1
      have H1 := hid h1
      clear hf1 h1
      go_wp2_with fail
      go_meet
      exact ⟨rfl, HF.out, H1.out⟩
  case rest =>
    obtain ⟨rfl, hf1, h1⟩ := hcut
    have HF := hid hf1
    have H1 := hid h1
    obtain ⟨w1, hw1⟩ : ∃ w1, w1 = wc := ⟨_, rfl⟩
    rw [← hw1] at HF H1 ⊢
    clear hf1 h1 hw1
    obtain ⟨sl, hsl⟩ : ∃ x, x = r.1 := ⟨_, rfl⟩
    rw [← hsl] at hr64 ⊢
    by_cases h4 : sl < 4
    · have h4' : (sl : Int) < 4 := by omega
      have HRE := hid (show R = r by rw [HR.out]; unfold kdist2; rw [if_pos (by rw [← hsl]; exact h4)])
      have HS := hid hsl
      clear h4 hsl
      go_wp2_with fail
      go_ret
      rw [HRE.out]
      refine ⟨?_, HF.out, H1.out⟩
      rw [← HS.out]
      go_num
    · have h4' : ¬ (sl : Int) < 4 := by omega
      obtain ⟨N, hN⟩ : ∃ N, N = slotN sl := ⟨_, rfl⟩
      obtain ⟨Bs, hBs⟩ : ∃ B, B = slotB sl := ⟨_, rfl⟩
      obtain ⟨p, hp⟩ : ∃ p, p = sl % 2 := ⟨_, rfl⟩
      obtain ⟨hf, hhf⟩ : ∃ p, p = sl / 2 := ⟨_, rfl⟩
      have hm := slot_many (by omega) hr64
      rw [← hN, ← hBs] at hm
      have e1 : (sl : Int) / 2 = (hf : Int) := by omega
      have e2 : (hf : Int) - 1 = (N : Int) := by
        have : N = hf - 1 := by rw [hN, hhf]; rfl
        omega
      have e3 : (sl : Int) % 2 = (p : Int) := by omega
      have hp1 : p ≤ 1 := by omega
      have hN30 : N ≤ 30 := hm.2.1
      obtain ⟨X, hX⟩ : ∃ X : Int, X = ((2 ^ N : Nat) : Int) := ⟨_, rfl⟩
      have CX := hid (fun W : World => (show Calls Try.prog 76 #[.int .i64 N] W fun e w' => e = .returned (.int .i64 X) ∧ W = w' by rw [hX]; exact kpower_any N (by omega) W))
      have hBl : Bs ≤ 4294967296 := Nat.le_trans (Nat.le_add_right _ _) hm.2.2
      have e4 : IntKind.i64.wrap ((2 + (p : Int)) * X) = (Bs : Int) := by
        have : (2 + (p : Int)) * X = (Bs : Int) := by
          rw [hX, hBs, hp]
          unfold slotB
          rw [← hN]
          simp
        rw [this, IntKind.wrap_i64]
        clear hm
        omega
      have e5 : IntKind.i64.wrap (v : Int) = (v : Int) := by have := HV.out; rw [IntKind.wrap_i64]; omega
      have HS := hid (And.intro hsl (And.intro hN hBs))
      have HM := hid hm
      have HBL := hid hBl
      clear hBl
      by_cases h14 : sl < 14
      · have h14' : (sl : Int) < 14 := by omega
        have hfew := slot_few (by omega) h14
        rw [← hN, ← hBs] at hfew
        obtain ⟨q, hq⟩ : ∃ q, q = 688 + (Bs - sl) := ⟨_, rfl⟩
        have e6 : (688 : Int) + (Bs : Int) - (sl : Int) = (q : Int) := by omega
        obtain ⟨ve, hve⟩ : ∃ x : Int, x = (v : Int) - (Bs : Int) := ⟨_, rfl⟩
        have e7 : IntKind.i64.wrap ((v : Int) - (Bs : Int)) = ve := by have := HV.out; rw [hve, IntKind.wrap_i64]; omega
        have hve2 : K.free ∨ 0 ≤ ve := by
          rcases HTOLD.out with h | h
          · exact .inl h
          · refine .inr ?_
            have h1 := slotL_range HV.out (by rw [← h, ← hsl]; omega)
            rw [← h, ← hsl, ← hBs] at h1
            omega
        have hver : -4294967296 ≤ ve ∧ ve ≤ 4294967296 := by have := HV.out; omega
        obtain ⟨y, hy⟩ : ∃ y, y = krev K r.2.1 r.2.2 q N ve := ⟨_, rfl⟩
        have hyl : y.1 < 32 := by
          have h1 := krev_lt hG.ok r.2.1 r.2.2 q N hve2
          have h2 : 2 ^ N ≤ 2 ^ 5 := Nat.pow_le_pow_right (by decide) hfew.2.2.1
          rw [hy]
          omega
        have CR := hid (fun (W : World) (hW : KIs K U g gp np cap W { s with P := r.2.1 } r.2.2) => (show Calls Try.prog 109 #[.pointer (some ⟨g, 0, none⟩), .int .i64 q, .int .i64 N, .int .i64 ve] W (KPost K U g gp np cap (.int .i64 y.1) { s with P := y.2.1 } y.2.2 W) by
          rw [hy]
          exact krev_any hG g gp np cap _ r.2.2 q N ve W hW (by omega) (by have := HNP.out; omega) (by omega) hve2 hver.1 hver.2 (HFR.out _ (by omega))))
        have HRE := hid (show R = (Bs + y.1, y.2) by
          rw [HR.out, hy, hve, hq, hBs, hN]
          unfold kdist2
          rw [← hsl, if_neg h4, if_pos h14])
        have hB128 : Bs < 128 := hfew.2.2.2.1
        clear hsl hN hBs hp hhf hm hX h4 h14 hq hve hve2 hver hy hfew hN30
        go_wp2_with fail
        refine (CX.out _).mono ?_
        rintro e w2 ⟨rfl, rfl⟩
        go_wp2_with fail
        refine (CR.out _ H1.out).mono ?_
        rintro e w2 ⟨rfl, hf2, h2⟩
        have HF2 := hid (HF.out.trans hf2)
        have H2 := hid h2
        obtain ⟨z, hz⟩ : ∃ z, z = y.1 := ⟨_, rfl⟩
        rw [← hz] at hyl ⊢
        have HZ := hid hz
        clear hf2 h2 hz
        go_wp2_with fail
        go_ret
        rw [HRE.out]
        refine ⟨?_, HF2.out, H2.out⟩
        rw [← HZ.out]
        go_num
      · have h14' : ¬ (sl : Int) < 14 := by omega
        have hN6 : 6 ≤ N := by omega
        obtain ⟨dv, hdv⟩ : ∃ x : Nat, x = (((v : Int) - (Bs : Int)) % 4294967296).toNat := ⟨_, rfl⟩
        have e6 : IntKind.u32.wrap ((v : Int) - (Bs : Int)) = (dv : Int) := by rw [hdv, IntKind.wrap_u32']; omega
        have hBu : IntKind.u32.wrap (Bs : Int) = (Bs : Int) := by
          have h1 := hm.2.2
          have : 0 < 2 ^ N := Nat.pow_pos (by decide)
          rw [IntKind.wrap_u32']
          omega
        obtain ⟨rs, hrs⟩ : ∃ x : Nat, x = dv / 16 := ⟨_, rfl⟩
        have e7 : (dv : Int) / 16 = (rs : Int) := by omega
        have hrsb : rs < 4294967296 := by omega
        have e7b : (rs : Int) % 4294967296 = (rs : Int) := by omega
        have hrse : (rs : Int) = restOf v sl := by
          unfold restOf
          rw [← hBs]
          omega
        obtain ⟨n4, hn4⟩ : ∃ x, x = N - 4 := ⟨_, rfl⟩
        have e8 : (N : Int) - 4 = (n4 : Int) := by omega
        have hn26 : n4 ≤ 26 := by omega
        have hslt : K.free ∨ (0 ≤ (rs : Int) ∧ (rs : Int) < ((2 ^ n4 : Nat) : Int)) := by
          rcases HTOLD.out with h | h
          · exact .inl h
          · refine .inr ⟨Int.natCast_nonneg _, ?_⟩
            have h1 := slotL_range HV.out (by rw [← h, ← hsl]; omega)
            rw [← h, ← hsl, ← hBs, ← hN] at h1
            have h2 : 2 ^ N = 2 ^ n4 * 16 := by rw [hn4, show (16 : Nat) = 2 ^ 4 from rfl, ← Nat.pow_add]; congr 1; omega
            omega
        obtain ⟨x, hx⟩ : ∃ x, x = K.ns r.2.2 n4 (rs : Int) := ⟨_, rfl⟩
        have hxl : x.1 < 2 ^ n4 := by rw [hx]; exact hG.ok.slt r.2.2 n4 _ (by omega) (by simpa using hslt)
        have CS2 := hid (fun (W : World) (hW : KIs K U g gp np cap W { s with P := r.2.1 } r.2.2) => (show Calls Try.prog 110 #[.pointer (some ⟨g, 0, none⟩), .int .i64 n4, .int .u32 rs] W (KPost K U g gp np cap (.int .u32 x.1) { s with P := r.2.1 } x.2 W) by
          rw [hx]
          exact hG.str U g gp np cap _ r.2.2 n4 rs W hW (by omega) (Int.natCast_nonneg _) (by omega) (HFR.out _ (by omega))))
        obtain ⟨vm, hvm⟩ : ∃ x, x = v % 16 := ⟨_, rfl⟩
        have e9 : (v : Int) % 16 = (vm : Int) := by omega
        have hvm16 : vm < 16 := by omega
        obtain ⟨y, hy⟩ : ∃ y, y = krev K r.2.1 x.2 803 4 (vm : Int) := ⟨_, rfl⟩
        have hyl : y.1 < 16 := by rw [hy]; exact krev_lt hG.ok r.2.1 x.2 803 4 (.inr (Int.natCast_nonneg _))
        have hfx : K.fit x.2 4 := by rw [hx]; exact hG.ok.fitS r.2.2 n4 _ 4 (HFR.out _ (by omega))
        have CR := hid (fun (W : World) (hW : KIs K U g gp np cap W { s with P := r.2.1 } x.2) => (show Calls Try.prog 109 #[.pointer (some ⟨g, 0, none⟩), .int .i64 803, .int .i64 4, .int .i64 vm] W (KPost K U g gp np cap (.int .i64 y.1) { s with P := y.2.1 } y.2.2 W) by
          rw [hy, show (803 : Int) = ((803 : Nat) : Int) from rfl]
          have h9 : 803 + 2 ^ 4 ≤ np := by have := HNP.out; omega
          have h8 : 803 ≤ 60000 := by omega
          exact krev_any hG g gp np cap { s with P := r.2.1 } x.2 803 4 (vm : Int) W hW (by decide) h9 h8 (.inr (Int.natCast_nonneg _)) (by omega) (by omega) hfx))
        have HRE := hid (show R = (Bs + 16 * x.1 + y.1, y.2) by
          rw [HR.out, hy, hvm, hx, hn4, hrse, hBs, hN]
          unfold kdist2
          rw [← hsl, if_neg h4, if_neg h14]
          rfl)
        obtain ⟨hi, hhi⟩ : ∃ z, z = x.1 := ⟨_, rfl⟩
        obtain ⟨z, hz⟩ : ∃ z, z = y.1 := ⟨_, rfl⟩
        have hsum : Bs + 16 * hi + z < 4294967296 := by
          have h2 : 2 ^ N = 2 ^ n4 * 16 := by rw [hn4, show (16 : Nat) = 2 ^ 4 from rfl, ← Nat.pow_add]; congr 1; omega
          have h1 := hm.2.2
          omega
        obtain ⟨t1, ht1⟩ : ∃ t, t = 16 * hi := ⟨_, rfl⟩
        have e10 : IntKind.u32.wrap (16 * (hi : Int)) = (t1 : Int) := by rw [IntKind.wrap_u32']; omega
        obtain ⟨t2, ht2⟩ : ∃ t, t = Bs + t1 := ⟨_, rfl⟩
        have e11 : IntKind.u32.wrap ((Bs : Int) + (t1 : Int)) = (t2 : Int) := by rw [IntKind.wrap_u32']; omega
        obtain ⟨t3, ht3⟩ : ∃ t, t = t2 + z := ⟨_, rfl⟩
        have e12 : IntKind.u32.wrap ((t2 : Int) + (z : Int)) = (t3 : Int) := by rw [IntKind.wrap_u32']; omega
        have HT := hid (show R.1 = t3 by rw [HRE.out, ← hhi, ← hz]; omega)
        have hz16 : z < 16 := by omega
        have HH := hid (And.intro hhi hz)
        clear hsl hN hBs hp hhf hm hX h4 h14 hN6 hdv hrs hrsb hrse hn4 hn26 hslt hx hxl hvm hvm16 hy hyl hfx hhi hz hsum ht1 ht2 ht3 hN30
        go_wp2_with fail
        refine (CX.out _).mono ?_
        rintro e w2 ⟨rfl, rfl⟩
        go_wp2_with fail
        refine (CS2.out _ H1.out).mono ?_
        rintro e w2 ⟨rfl, hf2, h2⟩
        have HF2 := hid (HF.out.trans hf2)
        have H2 := hid h2
        rw [← HH.out.1]
        clear hf2 h2
        go_wp2_with fail
        refine (CR.out _ H2.out).mono ?_
        rintro e w3 ⟨rfl, hf3, h3⟩
        have HF3 := hid (HF2.out.trans hf3)
        have H3 := hid h3
        rw [← HH.out.2]
        clear hf3 h3
        go_wp2_with fail
        go_ret
        refine ⟨by rw [HT.out]; rfl, HF3.out, ?_⟩
        rw [HRE.out]
        exact H3.out
end Go.Proofs.Ytjnegcambbeblaa
