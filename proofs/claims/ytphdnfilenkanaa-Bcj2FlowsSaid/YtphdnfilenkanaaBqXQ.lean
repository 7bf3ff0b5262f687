/- The walks through Bcj2Decodes, Bcj2Codes. -/
import Derived.Test.YtphdnfilenkanaaMg11
namespace Go.Proofs.Ytphdnfilenkanaa
open Go.RowKit

set_option maxRecDepth 100000 in
set_option maxHeartbeats 4000000 in
theorem bcj2Decodes_walk (q : Fq) (x : Int) (w : World) (h : q.wf w) (hx : (Lit.int .i64 x).wf = true) :
    Calls Try.prog 3 #[q.val, .int .i64 x] w fun e w' => e = .returned (.bool true) ∧ Fr Non w w' := by
  obtain ⟨a0, a1, a2, a3, n0, n1, n2, n3, c0, c1, c2, c3, F0, F1, F2, F3⟩ := q
  obtain ⟨hx0, hx1⟩ := wf_i64 hx
  have HWF := hid h
  clear h hx
  unfold Fq.val
  dsimp only
  go_enter Try.func3, Try.ntmps3
  go_wp2_with fail
  refine (awake15_any _).mono ?_
  rintro e w1 ⟨rfl, hf1⟩
  have hb1 := hf1.blk (blk_new w (.cells #[.slice a0 n0 c0, .slice a1 n1 c1, .slice a2 n2 c2, .slice a3 n3 c3] 24)) id
  have k0 := blk_cell hb1 (j := 0) (v := .slice a0 n0 c0) rfl
  have k1 := blk_cell hb1 (j := 1) (v := .slice a1 n1 c1) rfl
  have k2 := blk_cell hb1 (j := 2) (v := .slice a2 n2 c2) rfl
  have k3 := blk_cell hb1 (j := 3) (v := .slice a3 n3 c3) rfl
  have F1' := hid (show Fr Non w w1 from ((Fr.refl Non w).alloc _).trans hf1)
  have HB1 := hid hb1
  clear hf1 hb1
  by_cases l0 : 16384 < n0
  · have g0 : (16384 : Int) < (n0 : Int) := by omega
    clear l0
    go_wp2_with fail
    go_ret
    exact ⟨rfl, F1'.out⟩
  have g0 : ¬ (16384 : Int) < (n0 : Int) := by omega
  by_cases l1 : 16384 < n1
  · have g1 : (16384 : Int) < (n1 : Int) := by omega
    clear l1
    go_wp2_with fail
    go_ret
    exact ⟨rfl, F1'.out⟩
  have g1 : ¬ (16384 : Int) < (n1 : Int) := by omega
  by_cases l2 : 16384 < n2
  · have g2 : (16384 : Int) < (n2 : Int) := by omega
    clear l2
    go_wp2_with fail
    go_ret
    exact ⟨rfl, F1'.out⟩
  have g2 : ¬ (16384 : Int) < (n2 : Int) := by omega
  by_cases l3 : 16384 < n3
  · have g3 : (16384 : Int) < (n3 : Int) := by omega
    clear l3
    go_wp2_with fail
    go_ret
    exact ⟨rfl, F1'.out⟩
  have g3 : ¬ (16384 : Int) < (n3 : Int) := by omega
  obtain ⟨R, rfl, rfl, rfl, rfl, h4⟩ : ∃ R : Four, n0 = R.n0 ∧ n1 = R.n1 ∧ n2 = R.n2 ∧ n3 = R.n3 ∧ FourAt R w1.heap.size w1 a0 a1 a2 a3 c0 c1 c2 c3 :=
    ⟨⟨n0, n1, n2, n3, F0, F1, F2, F3, HWF.out.r0.2.2.2.2, HWF.out.r1.2.2.2.2, HWF.out.r2.2.2.2.2, HWF.out.r3.2.2.2.2⟩, rfl, rfl, rfl, rfl,
      FourAt.mono (B := w.heap.size) ⟨HWF.out.r0.2.2.2.1.fr F1'.out (fun _ _ e => e), HWF.out.r1.2.2.2.1.fr F1'.out (fun _ _ e => e), HWF.out.r2.2.2.2.1.fr F1'.out (fun _ _ e => e), HWF.out.r3.2.2.2.1.fr F1'.out (fun _ _ e => e), HWF.out.r0.1, HWF.out.r1.1, HWF.out.r2.1, HWF.out.r3.1, HWF.out.r0.2.2.1, HWF.out.r1.2.2.1, HWF.out.r2.2.2.1, HWF.out.r3.2.2.1, by show n0 ≤ _; omega, by show n1 ≤ _; omega, by show n2 ≤ _; omega, by show n3 ≤ _; omega⟩ F1'.out.size⟩
  have H4 := hid h4
  clear h4 l0 l1 l2 l3
  go_wp2_with (refine wpList_load_row rfl 24 _ rfl w.heap.size rfl 24 #[.slice a0 R.n0 c0, .slice a1 R.n1 c1, .slice a2 R.n2 c2, .slice a3 R.n3 c3] (0, 0) _ (by exact HB1.out) Try.underlying24 rfl (by kernel_rfl) ?_)
  refine (decodeQ_any R a0 a1 a2 a3 c0 c1 c2 c3 x x.toNat rfl hx0 hx1 _ (by exact H4.out)).mono ?_
  rintro e w3 ⟨k, hk1, hk2, hf3, hc⟩
  have hkn := (R.start_pos x.toNat (by omega)).count k hk1
  rw [R.start_mu] at hkn
  have hkb : k ≤ 49152 := by omega
  have HK1 := hid hk1
  have HK2 := hid hk2
  have HB3 := hid (hf3.blk HB1.out id)
  have H5 := hid ((H4.out.fr hf3 (fun _ _ e => e)).mono hf3.size)
  have F3' := hid (F1'.out.trans hf3)
  clear hk1 hk2 hf3 k0 k1 k2 k3 hkn g0 g1 g2 g3
  rcases hc with ⟨he, v, rfl, ho⟩ | ⟨he, rfl⟩
  · obtain ⟨a5, c5, rfl, _, _, hr⟩ := ho.rowN (n := k) (bytesQ_len _ _ _)
    have HE := hid he
    have HR := hid hr
    clear he ho hr
    go_wp2_with (refine wpList_load_row rfl 24 _ rfl w.heap.size rfl 24 #[.slice a0 R.n0 c0, .slice a1 R.n1 c1, .slice a2 R.n2 c2, .slice a3 R.n3 c3] (0, 0) _ (by exact HB3.out) Try.underlying24 rfl (by kernel_rfl) ?_)
    refine (rdecodeQ_any R a0 a1 a2 a3 c0 c1 c2 c3 x x.toNat rfl hx1 _ (by exact H5.out)).mono ?_
    rintro e w4 ⟨hf4, ⟨⟨j, hj1, hj2, hj3⟩, rfl⟩ | ⟨j, hj1, hj2, hj3, v2, rfl, ho2⟩⟩
    · exfalso
      have e := first_eq HK1.out HK2.out hj1 hj2
      subst e
      rw [HE.out] at hj3
      cases hj3
    · have e := first_eq HK1.out HK2.out hj1 hj2
      subst e
      obtain ⟨a6, c6, rfl, _, _, hr2⟩ := ho2.rowN (n := k) (bytesQ_len _ _ _)
      have R5 := hid ((HR.out.fr hf4 (fun _ _ e => e)).mono hf4.size)
      have R6 := hid hr2
      have F4' := hid (F3'.out.trans hf4)
      clear hj1 hj2 hj3 ho2 hr2 hf4
      go_wp2_with fail
      refine (bytes_yes a5 a6 k c5 c6 _ _ _ (by omega) w4.heap.size R5.out R6.out (fun _ _ => rfl)).mono ?_
      rintro e w5 ⟨rfl, hf5⟩
      go_wp2_with fail
      go_ret
      exact ⟨rfl, F4'.out.trans hf5⟩
  · have HE := hid he
    clear he
    go_wp2_with (refine wpList_load_row rfl 24 _ rfl w.heap.size rfl 24 #[.slice a0 R.n0 c0, .slice a1 R.n1 c1, .slice a2 R.n2 c2, .slice a3 R.n3 c3] (0, 0) _ (by exact HB3.out) Try.underlying24 rfl (by kernel_rfl) ?_)
    refine (rdecodeQ_any R a0 a1 a2 a3 c0 c1 c2 c3 x x.toNat rfl hx1 _ (by exact H5.out)).mono ?_
    rintro e w4 ⟨hf4, ⟨⟨j, hj1, hj2, hj3⟩, rfl⟩ | ⟨j, hj1, hj2, hj3, v2, rfl, ho2⟩⟩
    · have F4' := hid (F3'.out.trans hf4)
      clear hj1 hj2 hj3 hf4
      go_wp2_with fail
      refine (bytes_yes none none 0 0 0 (fun _ => 0) (fun _ => 0) _ (by decide) 0 (.inl rfl) (.inl rfl) (fun _ _ => rfl)).mono ?_
      rintro e w5 ⟨rfl, hf5⟩
      go_wp2_with fail
      go_ret
      exact ⟨rfl, F4'.out.trans hf5⟩
    · exfalso
      have e := first_eq HK1.out HK2.out hj1 hj2
      subst e
      rw [HE.out] at hj3
      cases hj3
theorem info_u8w : (Try.prog.info? 5).map (fun i => (i.zero, i.size, i.bytes)) = some (some (.int .u8 0), 1, 1) := by kernel_rfl
set_option maxRecDepth 100000 in
set_option maxHeartbeats 4000000 in
theorem bcj2Codes_walk (a : Option Addr) (n cap : Nat) (f : Nat → Int) (w : World) (hnc : n ≤ cap) (hcm : cap ≤ maxLen) (hnil : a = none → cap = 0) (h : RowIn w.heap.size .u8 w a n f) (hf : ∀ i, i < n → 0 ≤ f i ∧ f i < 256) :
    Calls Try.prog 4 #[.slice a n cap] w fun e w' => e = .returned (.bool true) ∧ Fr Non w w' := by
  have H := hid h
  have Hf := hid hf
  have Hnil := hid hnil
  unfold maxLen at hcm
  clear h hf hnil
  go_enter Try.func4, Try.ntmps4
  go_wp2_with fail
  refine (awake15_any _).mono ?_
  rintro e w1 ⟨rfl, hf1⟩
  have s1 := hf1.size
  have F1 := hid hf1
  have H1 := hid ((H.out.fr hf1 (fun _ _ => id)).mono s1)
  clear hf1
  by_cases hn : 16384 < n
  · have g0 : (16384 : Int) < (n : Int) := by omega
    clear hn
    go_wp2_with fail
    go_ret
    exact ⟨rfl, F1.out⟩
  have g0 : ¬ (16384 : Int) < (n : Int) := by omega
  go_wp2_with (refine opAppendRow (some 11) rfl rfl (.tmp 9) (.tmp 10) 22 rfl w1.heap.size .u8 5 1 Try.underlying22 info_u8w (.slice (some ⟨w1.heap.size, 0, none⟩) 0 0) [] rfl (Own.empty w1 _ .u8 5 (Nat.le_refl _)) w1.heap.size a n cap f rfl Hnil.out hnc (H1.out.fr ((Fr.refl Non _).alloc _) (fun _ _ => id)) (by decide) (by simp; omega) (by simp) ?_; intro v2 w2 hown2 hg2)
  have f2 : Fr Non w1 w2 := Fr.grown ((Fr.refl Non w1).alloc _) hg2 (fun k hk hlt => by simp [Value.ownBlock] at hk; omega)
  obtain ⟨ao, co, rfl, hlo, _, zo, ro⟩ := hown2.row5
  have e0 : ([] ++ (List.range n).map f).length = n := by simp
  rw [e0] at ro hlo ⊢
  have s2 := f2.size
  have F2 := hid (F1.out.trans f2)
  have H2 := hid ((H1.out.fr f2 (fun _ _ => id)).mono s2)
  have O2 := hid (ro.ext (f' := f) (fun i hi => by simp [List.getD, hi]))
  clear hown2 hg2 ro zo f2 e0
  go_wp2_with fail
  refine (codeQ_any ao n co f Hf.out _ (by omega) O2.out).mono ?_
  rintro e w3 ⟨v0, v1, v2, v3, rfl, hf3, o0, o1, o2, o3⟩
  have s3 := hf3.size
  have F3 := hid (F2.out.trans hf3)
  have H3 := hid ((H2.out.fr hf3 (fun _ _ => id)).mono s3)
  have O3 := hid ((O2.out.fr hf3 (fun _ _ => id)).mono s3)
  have P := hid (And.intro o0 (And.intro o1 (And.intro o2 o3)))
  clear hf3 o0 o1 o2 o3
  go_wp2_with fail
  refine (rcodeQ_any a n cap f Hf.out _ (by omega) H3.out).mono ?_
  rintro e w4 ⟨u0, u1, u2, u3, rfl, hf4, o0, o1, o2, o3⟩
  have s4 := hf4.size
  have F4 := hid (F3.out.trans hf4)
  have H4 := hid ((H3.out.fr hf4 (fun _ _ => id)).mono s4)
  have O4 := hid ((O3.out.fr hf4 (fun _ _ => id)).mono s4)
  have P0 := hid (P.out.1.fr hf4 (fun _ _ => id) |>.low (Nat.zero_le _))
  have P1 := hid (P.out.2.1.fr hf4 (fun _ _ => id) |>.low (Nat.zero_le _))
  have P2 := hid (P.out.2.2.1.fr hf4 (fun _ _ => id) |>.low (Nat.zero_le _))
  have P3 := hid (P.out.2.2.2.fr hf4 (fun _ _ => id) |>.low (Nat.zero_le _))
  have Q0 := hid (o0.low (Nat.zero_le _))
  have Q1 := hid (o1.low (Nat.zero_le _))
  have Q2 := hid (o2.low (Nat.zero_le _))
  have Q3 := hid (o3.low (Nat.zero_le _))
  clear hf4 o0 o1 o2 o3 P
  have hs := back_sum (by omega) Hf.out
  have hl := code_len Hf.out
  go_wp2_with fail
  refine (same_any v0 v1 v2 v3 u0 u1 u2 u3 _ _ _ _ 0 _ (by omega) P0.out P1.out P2.out P3.out Q0.out Q1.out Q2.out Q3.out).mono ?_
  rintro e w5 ⟨rfl, hf5⟩
  have s5 := hf5.size
  have F5 := hid (F4.out.trans hf5)
  have H5 := hid ((H4.out.fr hf5 (fun _ _ => id)).mono s5)
  have O5 := hid ((O4.out.fr hf5 (fun _ _ => id)).mono s5)
  clear hf5 hs hl
  go_wp2_with fail
  refine (bytes_yes ao a n co cap f f _ (by omega) w5.heap.size O5.out H5.out (fun _ _ => rfl)).mono ?_
  rintro e w6 ⟨rfl, hf6⟩
  go_wp2_with fail
  go_ret
  exact ⟨rfl, F5.out.trans hf6⟩
end Go.Proofs.Ytphdnfilenkanaa
