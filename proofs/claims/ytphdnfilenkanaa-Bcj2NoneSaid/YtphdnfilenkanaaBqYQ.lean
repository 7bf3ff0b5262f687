/- The walks through Bcj2Back, Bcj2None. -/
import Derived.Test.YtphdnfilenkanaaBqXQ
namespace Go.Proofs.Ytphdnfilenkanaa
open Go.RowKit

theorem dec_other {R : Four} {n : Nat} {w : World} {e : Ending} {w' : World} (hn : n ≤ 9223372036854775807) (h : DecQPost R n w e w') (hne : n ≠ R.n0 + R.n1 + R.n2) : e = .returned (.tuple #[.slice none 0 0, .int .i64 12]) ∧ Fr Non w w' := by
  obtain ⟨k, _, _, hf, h⟩ := h
  rcases h with ⟨h1, _⟩ | ⟨_, h2⟩
  · exact absurd (ends_sum R n (k + 1) hn h1) hne
  · exact ⟨h2, hf⟩
theorem dec_any {R : Four} {n : Nat} {w : World} {e : Ending} {w' : World} (h : DecQPost R n w e w') : (∃ (v : Value) (c : Int), e = .returned (.tuple #[v, .int .i64 c])) ∧ Fr Non w w' := by
  obtain ⟨k, _, _, hf, h⟩ := h
  rcases h with ⟨_, v, h1, _⟩ | ⟨_, h2⟩
  · exact ⟨⟨v, 0, h1⟩, hf⟩
  · exact ⟨⟨_, 12, h2⟩, hf⟩
theorem dec_same {n : Nat} {F : Nat → Int} (hn : n ≤ 9223372036854775807) (hF : ∀ i, i < n → 0 ≤ F i ∧ F i < 256) {w : World} {e : Ending} {w' : World} (h : DecQPost (fourC hF) n w e w') :
    Fr Non w w' ∧ ∃ a c, e = .returned (.tuple #[.slice a n c, .int .i64 0]) ∧ RowIn w'.heap.size .u8 w' a n F := by
  obtain ⟨k, hk1, hk2, hf, hc⟩ := h
  obtain ⟨b1, b2, b3, b4⟩ := back_q hn hF
  have e5 : k = n := first_eq hk1 hk2 b1 b2
  subst e5
  rw [b3, b4] at hc
  rcases hc with ⟨_, v, rfl, ho⟩ | ⟨h, _⟩
  · obtain ⟨a, c, rfl, _, _, hr⟩ := ho.rowN (n := k) (by simp)
    exact ⟨hf, a, c, rfl, hr.ext (fun i hi => by simp [List.getD, hi])⟩
  · cases h
set_option maxRecDepth 100000 in
set_option maxHeartbeats 4000000 in
theorem bcj2Back_walk (a : Option Addr) (n cap : Nat) (f : Nat → Int) (m : Int) (w : World) (hnc : n ≤ cap) (hcm : cap ≤ maxLen) (h : RowIn w.heap.size .u8 w a n f) (hf : ∀ i, i < n → 0 ≤ f i ∧ f i < 256) (hm : 0 ≤ m ∧ m < 256) :
    Calls Try.prog 5 #[.slice a n cap, .int .u8 m] w fun e w' => e = .returned (.bool true) ∧ Fr Non w w' := by
  have H := hid h
  have Hf := hid hf
  obtain ⟨hm0, hm1⟩ := hm
  unfold maxLen at hcm
  clear h hf
  go_enter Try.func5, Try.ntmps5
  go_wp2_with fail
  refine (awake15_any _).mono ?_
  rintro e w1 ⟨rfl, hf1⟩
  have s1 := hf1.size
  have F1 := hid hf1
  have H1 := hid ((H.out.fr hf1 (fun _ _ => id)).mono s1)
  clear hf1
  by_cases hn : 16384 < n
  · have g0 : (16384 : Int) < (n : Int) := by omega
    clear hn
    go_wp2_with fail
    go_ret
    exact ⟨rfl, F1.out⟩
  have g0 : ¬ (16384 : Int) < (n : Int) := by omega
  have hn63 : n ≤ 9223372036854775807 := by omega
  have HN := hid hn63
  have hn16 : n ≤ 16384 := by omega
  clear hn hn63 hcm
  go_wp2_with fail
  refine (codeQ_any a n cap f Hf.out _ hn16 H1.out).mono ?_
  rintro e w2 ⟨v0, v1, v2, v3, rfl, hf2, o0, o1, o2, o3⟩
  obtain ⟨a0, a1, a2, a3, c0, c1, c2, c3, rfl, rfl, rfl, rfl, h4⟩ := fourC_at Hf.out hn16 o0 o1 o2 o3
  have hsum : (fourC Hf.out).n0 + (fourC Hf.out).n1 + (fourC Hf.out).n2 = n := back_sum HN.out Hf.out
  have HDS := hid (fun (w : World) (e : Ending) (w' : World) (h : DecQPost (fourC Hf.out) n w e w') => dec_same HN.out Hf.out h)
  obtain ⟨R, hR⟩ : ∃ R, R = fourC Hf.out := ⟨_, rfl⟩
  rw [← hR] at h4 hsum HDS ⊢
  have s2 := hf2.size
  have F2 := hid (F1.out.trans hf2)
  have H4 := hid ((h4.fr ((Fr.refl Non w2).alloc (.cells #[.slice a0 R.n0 c0, .slice a1 R.n1 c1, .slice a2 R.n2 c2, .slice a3 R.n3 c3] 24)) (fun _ _ e => e)).mono (B' := (w2.alloc (.cells #[.slice a0 R.n0 c0, .slice a1 R.n1 c1, .slice a2 R.n2 c2, .slice a3 R.n3 c3] 24)).heap.size) (by simp))
  have HB2 := hid (blk_new w2 (.cells #[.slice a0 R.n0 c0, .slice a1 R.n1 c1, .slice a2 R.n2 c2, .slice a3 R.n3 c3] 24))
  have H2 := hid (((H1.out.fr hf2 (fun _ _ => id)).fr ((Fr.refl Non w2).alloc (.cells #[.slice a0 R.n0 c0, .slice a1 R.n1 c1, .slice a2 R.n2 c2, .slice a3 R.n3 c3] 24)) (fun _ _ => id)).mono (B' := (w2.alloc (.cells #[.slice a0 R.n0 c0, .slice a1 R.n1 c1, .slice a2 R.n2 c2, .slice a3 R.n3 c3] 24)).heap.size) (by simp; omega))
  have FW2 := hid (F2.out.alloc (.cells #[.slice a0 R.n0 c0, .slice a1 R.n1 c1, .slice a2 R.n2 c2, .slice a3 R.n3 c3] 24))
  have HSUM := hid hsum
  clear hf2 o0 o1 o2 o3 h4 hR hsum
  go_wp2_with (first
    | (refine wpList_store_row rfl 24 _ _ rfl w2.heap.size #[.slice a0 R.n0 c0, .slice a1 R.n1 c1, .slice a2 R.n2 c2, .slice a3 R.n3 c3] rfl rfl 24 #[.slice none 0 0, .slice none 0 0, .slice none 0 0, .slice none 0 0] (heap_alloc_new w2 _) (by kernel_rfl) rfl rfl ?_; rw [setRow_new])
    | (refine wpList_load_row rfl 24 _ rfl w2.heap.size rfl 24 #[.slice a0 R.n0 c0, .slice a1 R.n1 c1, .slice a2 R.n2 c2, .slice a3 R.n3 c3] (0, 0) _ (by exact HB2.out) Try.underlying24 rfl (by kernel_rfl) ?_))
  refine (decodeQ_any R a0 a1 a2 a3 c0 c1 c2 c3 n n (by omega) (by omega) (by omega) _ (by exact H4.out)).mono ?_
  intro e w3 hd
  obtain ⟨hf3, a5, c5, rfl, hr5⟩ := HDS.out _ _ _ hd
  have s3 := hf3.size
  have hb3 := hf3.blk HB2.out id
  have k0 := blk_cell hb3 (j := 0) (v := .slice a0 R.n0 c0) rfl
  have k1 := blk_cell hb3 (j := 1) (v := .slice a1 R.n1 c1) rfl
  have k2 := blk_cell hb3 (j := 2) (v := .slice a2 R.n2 c2) rfl
  have HB3 := hid hb3
  have H5 := hid ((H4.out.fr hf3 (fun _ _ e => e)).mono s3)
  have H3 := hid ((H2.out.fr hf3 (fun _ _ => id)).mono s3)
  have R5 := hid hr5
  have F3 := hid (FW2.out.trans hf3)
  clear hd hf3 hr5 hb3
  go_wp2_with fail
  refine (bytes_q a5 a n c5 cap f f _ (by omega) w3.heap.size R5.out H3.out (fun _ _ => rfl)).mono ?_
  rintro e w4 ⟨rfl, m4, rfl⟩
  have q1 : ((R.n0 : Int) + (R.n1 : Int) + (R.n2 : Int) != (n : Int)) = false := by have := HSUM.out; simp; omega
  have hb0 : (R.n0 : Int) ≤ 16384 := by have := HSUM.out; omega
  have hb1 : (R.n1 : Int) ≤ 16384 := by have := HSUM.out; omega
  have hb2 : (R.n2 : Int) ≤ 16384 := by have := HSUM.out; omega
  go_wp2_with (refine wpList_load_row rfl 24 _ rfl w2.heap.size rfl 24 #[.slice a0 R.n0 c0, .slice a1 R.n1 c1, .slice a2 R.n2 c2, .slice a3 R.n3 c3] (0, 0) _ (by exact (blk_drewN HB3.out)) Try.underlying24 rfl (by kernel_rfl) ?_)
  refine (decodeQ_any R a0 a1 a2 a3 c0 c1 c2 c3 _ ((n : Int) + 1 + m).toNat rfl (by omega) (by omega) _ (by exact (H5.out.fr ((Fr.refl Non w3).drewN m4) (fun _ _ e => e)).mono (by simp))).mono ?_
  intro e w5 hd
  obtain ⟨rfl, hf5⟩ := dec_other (by omega) hd (by have := HSUM.out; omega)
  have HB5 := hid (hf5.blk (blk_drewN HB3.out) id)
  have H6 := hid (((H5.out.fr ((Fr.refl Non w3).drewN m4) (fun _ _ e => e)).fr hf5 (fun _ _ e => e)).mono (B' := w5.heap.size) hf5.size)
  have F5 := hid ((F3.out.drewN m4).trans hf5)
  clear hd hf5 k0 k1 k2 q1
  by_cases h0 : n = 0
  · have q2 : ((n : Int) == 0) = true := by simp; omega
    have q3 : (n : Int) = 0 := by omega
    have hn0 : (0 : Int) ≤ (n : Int) := by omega
    have HQ := hid q3
    have H0 := hid h0
    clear h0 q3
    go_wp2_with (refine wpList_load_row rfl 24 _ rfl w2.heap.size rfl 24 #[.slice a0 R.n0 c0, .slice a1 R.n1 c1, .slice a2 R.n2 c2, .slice a3 R.n3 c3] (0, 0) _ (by exact HB5.out) Try.underlying24 rfl (by kernel_rfl) ?_)
    refine (decodeQ_any R a0 a1 a2 a3 c0 c1 c2 c3 _ ((n : Int) - 1 - m).toNat rfl (by omega) (by omega) _ (by exact H6.out)).mono ?_
    intro e w6 hd
    obtain ⟨⟨v, c, rfl⟩, hf6⟩ := dec_any hd
    clear hd
    cases hcc : (c == 12) with
    | true =>
      go_wp2_with fail
      go_ret
      exact ⟨rfl, F5.out.trans hf6⟩
    | false =>
      go_wp2_with fail
      go_ret
      exact ⟨rfl, F5.out.trans hf6⟩
  · go_wp2_with (refine wpList_load_row rfl 24 _ rfl w2.heap.size rfl 24 #[.slice a0 R.n0 c0, .slice a1 R.n1 c1, .slice a2 R.n2 c2, .slice a3 R.n3 c3] (0, 0) _ (by exact HB5.out) Try.underlying24 rfl (by kernel_rfl) ?_)
    refine (decodeQ_any R a0 a1 a2 a3 c0 c1 c2 c3 _ ((n : Int) - 1 - m).toNat rfl (by omega) (by omega) _ (by exact H6.out)).mono ?_
    intro e w6 hd
    obtain ⟨rfl, hf6⟩ := dec_other (by omega) hd (by have := HSUM.out; omega)
    clear hd
    go_wp2_with fail
    go_ret
    exact ⟨rfl, F5.out.trans hf6⟩
set_option maxRecDepth 100000 in
set_option maxHeartbeats 4000000 in
theorem bcj2None_walk (a : Option Addr) (n cap : Nat) (f : Nat → Int) (w : World) (hnc : n ≤ cap) (hcm : cap ≤ maxLen) (h : RowIn w.heap.size .u8 w a n f) (hf : ∀ i, i < n → 0 ≤ f i ∧ f i < 256) :
    Calls Try.prog 7 #[.slice a n cap] w fun e w' => e = .returned (.bool true) ∧ Fr Non w w' := by
  have hmk : ∀ w : World, (Instr.makeSlice 22 (.int .i64 5) (.int .i64 5)).run Try.prog w = .ok (.slice (some ⟨w.heap.size, 0, none⟩) 5 5) (w.alloc (.cells (arr .u8 5 (fun _ => 0)) 5)) := fun w => emake_u8 5 (by decide) w
  have H := hid h
  have Hf := hid hf
  unfold maxLen at hcm
  clear h hf
  go_enter Try.func7, Try.ntmps7
  go_wp2_with fail
  refine (awake15_any _).mono ?_
  rintro e w1 ⟨rfl, hf1⟩
  have s1 := hf1.size
  have F1 := hid hf1
  have H1 := hid ((H.out.fr hf1 (fun _ _ => id)).mono s1)
  clear hf1
  by_cases hn : 16384 < n
  · have g0 : (16384 : Int) < (n : Int) := by omega
    clear hn
    go_wp2_with fail
    go_ret
    exact ⟨rfl, F1.out⟩
  have g0 : ¬ (16384 : Int) < (n : Int) := by omega
  have hn16 : n ≤ 16384 := by omega
  clear hn hcm
  go_wp2_with fail
  go_loop [3] (fun iv => ∃ i : Nat, i ≤ n ∧ iv = .int .i64 i ∧ ∀ j, j < i → f j ≠ 232 ∧ f j ≠ 233 ∧ f j ≠ 15) (fun iv => n - (intOf iv).toNat)
  case atStart => exact ⟨0, Nat.zero_le _, rfl, fun j hj => by omega⟩
  case round =>
    obtain ⟨i, hi, rfl, hall⟩ := hrel
    have HALL := hid hall
    clear hall
    by_cases hlt : i < n
    · obtain ⟨b, off, rfl, hb, c0⟩ := H1.out.at hlt
      have hlt2 : (i : Int) < (n : Int) := by omega
      have hi0 : (0 : Int) ≤ (i : Int) := by omega
      by_cases e1 : f i = 232
      · have q1 : (f i == 232) = true := by simp [e1]
        clear e1
        go_wp2_with fail
        go_ret
        exact ⟨rfl, F1.out⟩
      have q1 : (f i == 232) = false := by simp [e1]
      by_cases e2 : f i = 233
      · have q2 : (f i == 233) = true := by simp [e2]
        clear e1 e2
        go_wp2_with fail
        go_ret
        exact ⟨rfl, F1.out⟩
      have q2 : (f i == 233) = false := by simp [e2]
      by_cases e3 : f i = 15
      · have q3 : (f i == 15) = true := by simp [e3]
        clear e1 e2 e3
        go_wp2_with fail
        go_ret
        exact ⟨rfl, F1.out⟩
      have q3 : (f i == 15) = false := by simp [e3]
      have HA2 := hid (show ∀ j, j < i + 1 → f j ≠ 232 ∧ f j ≠ 233 ∧ f j ≠ 15 from fun j hj => by
        by_cases e : j = i
        · subst e; exact ⟨e1, e2, e3⟩
        · exact HALL.out j (by omega))
      clear e1 e2 e3
      go_wp2_with fail
      go_round
      case rel => exact ⟨i + 1, by omega, by go_num, HA2.out⟩
      case measure => simp [intOf]; omega
    · have e : i = n := by omega
      subst e
      go_wp2_with fail
      refine (codeQ_any a i cap f Hf.out _ hn16 H1.out).mono ?_
      rintro e w2 ⟨v0, v1, v2, v3, rfl, hf2, o0, o1, o2, o3⟩
      obtain ⟨y1, y2, y3, y4⟩ := none_q Hf.out HALL.out
      rw [y1] at o0
      rw [y2] at o1
      rw [y3] at o2
      rw [y4] at o3
      obtain ⟨a0, c0, rfl, _, _, r0⟩ := o0.rowN (n := i) (by simp)
      obtain ⟨a1, c1, rfl, _, _, _⟩ := o1.rowN (n := 0) rfl
      obtain ⟨a2, c2, rfl, _, _, _⟩ := o2.rowN (n := 0) rfl
      obtain ⟨a3, c3, rfl, _, _, r3⟩ := o3.rowN (n := 5) rfl
      have s2 := hf2.size
      have F2 := hid (F1.out.trans hf2)
      obtain ⟨w3, hw3⟩ : ∃ w3, w3 = w2.alloc (.cells #[.slice a0 i c0, .slice a1 0 c1, .slice a2 0 c2, .slice a3 5 c3] 24) := ⟨_, rfl⟩
      have hf3 : Fr Non w2 w3 := by rw [hw3]; exact (Fr.refl _ _).alloc _
      have hb3 : w3.heap[w2.heap.size]? = some (.cells #[.slice a0 i c0, .slice a1 0 c1, .slice a2 0 c2, .slice a3 5 c3] 24) := by rw [hw3]; exact blk_new _ _
      have R0 := hid ((r0.ext (f' := f) (fun j hj => by simp [List.getD, hj])).fr hf3 (fun _ _ e => e) |>.mono hf3.size)
      have R3 := hid (show RowIn w3.heap.size .u8 w3 a3 5 (fun i => [0, 0, 0, 0, 0].getD i 0) from (r3.fr hf3 (fun _ _ e => e)).mono hf3.size)
      have H3 := hid (((H1.out.fr hf2 (fun _ _ => id)).mono s2).fr hf3 (fun _ _ e => e) |>.mono hf3.size)
      have F3 := hid (F2.out.trans hf3)
      have k0 := blk_cell hb3 (j := 0) (v := .slice a0 i c0) rfl
      have k1 := blk_cell hb3 (j := 1) (v := .slice a1 0 c1) rfl
      have k2 := blk_cell hb3 (j := 2) (v := .slice a2 0 c2) rfl
      have k3 := blk_cell hb3 (j := 3) (v := .slice a3 5 c3) rfl
      have HW3 := hid hw3
      have X5 := hid (And.intro arr_zeros5 (show ([0, 0, 0, 0, 0] : List Int).length = 5 from rfl))
      obtain ⟨G, hG⟩ : ∃ G, G = w2.heap.size := ⟨_, rfl⟩
      have HG := hid hG
      rw [← hG] at k0 k1 k2 k3
      clear o0 o1 o2 o3 y1 y2 y3 y4 hf2 r0 r3 hf3 hb3 hw3 hG
      go_upto_region 11 with (refine wpList_store_row rfl 24 _ _ rfl w2.heap.size #[.slice a0 i c0, .slice a1 0 c1, .slice a2 0 c2, .slice a3 5 c3] rfl rfl 24 #[.slice none 0 0, .slice none 0 0, .slice none 0 0, .slice none 0 0] (heap_alloc_new w2 _) (by kernel_rfl) rfl rfl ?_; rw [setRow_new])
      rw [← HW3.out, ← HG.out]
      go_region_held3 (fun wx => wx.cell? ⟨G, 0, none⟩ = some (.slice a0 i c0) ∧ wx.cell? ⟨G, 1, none⟩ = some (.slice a1 0 c1) ∧ wx.cell? ⟨G, 2, none⟩ = some (.slice a2 0 c2) ∧ wx.cell? ⟨G, 3, none⟩ = some (.slice a3 5 c3)) (exact ⟨Fr.cell (S := Non) (by repeat (first | exact Fr.refl _ _ | refine Fr.drewN ?_ _ | refine Fr.drew ?_ | refine Fr.alloc ?_ _)) k0 (fun e => e), Fr.cell (S := Non) (by repeat (first | exact Fr.refl _ _ | refine Fr.drewN ?_ _ | refine Fr.drew ?_ | refine Fr.alloc ?_ _)) k1 (fun e => e), Fr.cell (S := Non) (by repeat (first | exact Fr.refl _ _ | refine Fr.drewN ?_ _ | refine Fr.drew ?_ | refine Fr.alloc ?_ _)) k2 (fun e => e), Fr.cell (S := Non) (by repeat (first | exact Fr.refl _ _ | refine Fr.drewN ?_ _ | refine Fr.drew ?_ | refine Fr.alloc ?_ _)) k3 (fun e => e)⟩) (first
        | (go_at_call 11; (first
            | (with_reducible (show Calls _ _ #[.slice a0 _ _, .slice _ _ _] _ _); refine (bytes_q a0 a i c0 cap f f _ (by omega) w3.heap.size (R0.out.fr (by repeat (first | exact Fr.refl _ _ | refine Fr.drewN ?_ _ | refine Fr.drew ?_ | refine Fr.alloc ?_ _)) (fun _ _ e => e)) (H3.out.fr (by repeat (first | exact Fr.refl _ _ | refine Fr.drewN ?_ _ | refine Fr.drew ?_ | refine Fr.alloc ?_ _)) (fun _ _ e => e)) (fun _ _ => rfl)).mono ?_; rintro e w5 ⟨rfl, m5, rfl⟩)
            | (with_reducible (show Calls _ _ #[.slice a3 _ _, .slice _ _ _] _ _); refine (bytes_lit a3 5 c3 [0, 0, 0, 0, 0] _ X5.out.1 X5.out.2 (by decide) R3.out _ (by repeat (first | exact Fr.refl _ _ | refine Fr.drewN ?_ _ | refine Fr.drew ?_ | refine Fr.alloc ?_ _)) _ 5 (by first | exact blk_newE _ _ _ (by simp) | exact blk_drew (blk_newE _ _ _ (by simp)) | exact blk_drewN (blk_newE _ _ _ (by simp)))).mono ?_; rintro e w6 ⟨rfl, m6, rfl⟩))))
      all_goals
        go_wp2_with fail
        go_ret
        exact ⟨rfl, F3.out.trans (by repeat (first | exact Fr.refl _ _ | refine Fr.drewN ?_ _ | refine Fr.drew ?_ | refine Fr.alloc ?_ _))⟩
end Go.Proofs.Ytphdnfilenkanaa
