/- The walk through DeltaSides. -/
import Derived.Test.YtfedllfpgalalaaDelta4
namespace Go.Proofs.Ytfedllfpgalalaa
open Go.RowKit

set_option maxRecDepth 100000 in
theorem code_no (d : Int) (h : ¬ (1 ≤ d ∧ d ≤ 256)) (h0 : -9223372036854775808 ≤ d) (h1 : d ≤ 9223372036854775807) (a : Option Addr) (n cap : Nat) (w : World) :
    Calls Try.prog 12 #[.slice a n cap, .int .i64 d] w fun e w' => e = .returned (.tuple #[.slice none 0 0, .int .i64 11]) ∧ w = w' := by
  have H := hid h
  clear h
  go_enter Try.func12, Try.ntmps12
  go_wp2_with (go_at_call 19; refine (may_no _ _ H.out h0 h1).mono ?_; rintro e w' ⟨rfl, rfl⟩)
  go_ret2
  exact ⟨rfl, rfl⟩
set_option maxRecDepth 100000 in
theorem decode_no (d : Int) (h : ¬ (1 ≤ d ∧ d ≤ 256)) (h0 : -9223372036854775808 ≤ d) (h1 : d ≤ 9223372036854775807) (a : Option Addr) (n cap : Nat) (w : World) :
    Calls Try.prog 13 #[.slice a n cap, .int .i64 d] w fun e w' => e = .returned (.tuple #[.slice none 0 0, .int .i64 11]) ∧ w = w' := by
  have H := hid h
  clear h
  go_enter Try.func13, Try.ntmps13
  go_wp2_with (go_at_call 19; refine (may_no _ _ H.out h0 h1).mono ?_; rintro e w' ⟨rfl, rfl⟩)
  go_ret2
  exact ⟨rfl, rfl⟩
set_option maxRecDepth 100000 in
theorem refcode_no (d : Int) (h : ¬ (1 ≤ d ∧ d ≤ 256)) (a : Option Addr) (n cap : Nat) (w : World) :
    Calls Try.prog 15 #[.slice a n cap, .int .i64 d] w fun e w' => e = .returned (.tuple #[.slice none 0 0, .int .i64 11]) ∧ w = w' := by
  by_cases h1 : d < 1
  · clear h
    go_enter Try.func15, Try.ntmps15
    go_wp2_with fail
    go_ret2
    exact ⟨rfl, rfl⟩
  · have h2 : 256 < d := by omega
    clear h
    go_enter Try.func15, Try.ntmps15
    go_wp2_with fail
    go_ret2
    exact ⟨rfl, rfl⟩
set_option maxRecDepth 100000 in
theorem refdecode_no (d : Int) (h : ¬ (1 ≤ d ∧ d ≤ 256)) (a : Option Addr) (n cap : Nat) (w : World) :
    Calls Try.prog 16 #[.slice a n cap, .int .i64 d] w fun e w' => e = .returned (.tuple #[.slice none 0 0, .int .i64 11]) ∧ w = w' := by
  by_cases h1 : d < 1
  · clear h
    go_enter Try.func16, Try.ntmps16
    go_wp2_with fail
    go_ret2
    exact ⟨rfl, rfl⟩
  · have h2 : 256 < d := by omega
    clear h
    go_enter Try.func16, Try.ntmps16
    go_wp2_with fail
    go_ret2
    exact ⟨rfl, rfl⟩

set_option maxRecDepth 100000 in
set_option maxHeartbeats 2000000 in
theorem deltaSides_long (a : Option Addr) (n cap : Nat) (d : Int) (w : World) (hn : 32768 < n) :
    Calls Try.prog 5 #[.slice a n cap, .int .i64 d] w fun e w' => e = .returned (.bool true) ∧ Fr Non w w' := by
  have h : (32768 : Int) < (n : Int) := by omega
  clear hn
  go_enter Try.func5, Try.ntmps5
  go_wp2_with (go_at_call 11; refine (awake_any _).mono ?_; rintro e w1 ⟨rfl, hf1⟩)
  go_ret
  exact ⟨rfl, hf1⟩

theorem list_row {k : IntKind} {w : World} {B n : Nat} {a : Option Addr} {f : Nat → Int} (h : RowIn B k w a n (fun i => ((List.range n).map f).getD i 0)) : RowIn B k w a n f :=
  h.ext fun i hi => by simp [List.getD, hi]

set_option maxRecDepth 100000 in
set_option maxHeartbeats 4000000 in
theorem deltaSides_in (a : Option Addr) (n cap : Nat) (d : Int) (f : Nat → Int) (w : World) (hn : n ≤ 32768) (hnc : n ≤ cap) (hnil : a = none → cap = 0) (hd0 : 1 ≤ d) (hd1 : d ≤ 256)
    (h : RowIn w.heap.size .u8 w a n f) (hf : ∀ i, i < n → 0 ≤ f i ∧ f i < 256) :
    Calls Try.prog 5 #[.slice a n cap, .int .i64 d] w fun e w' => e = .returned (.bool true) ∧ Fr Non w w' := by
  have hn1 : ¬ (32768 : Int) < (n : Int) := by omega
  have H := hid h
  have Hf := hid hf
  have Hnil := hid hnil
  clear h hf hnil
  go_enter Try.func5, Try.ntmps5
  go_wp2_with fail
  refine (awake_any _).mono ?_
  rintro e w1 ⟨rfl, hf1⟩
  have s1 := hf1.size
  have F1 := hid hf1
  have H1 := hid (H.out.fr hf1 (fun _ _ => id) |>.mono s1)
  clear hf1
  go_wp2_with (refine opAppendRow (some 24) rfl rfl (.tmp 22) (.tmp 23) 22 rfl w1.heap.size .u8 5 1 Try.underlying22 Try.info_u8 (.slice (some ⟨w1.heap.size, 0, none⟩) 0 0) [] rfl (Own.empty w1 _ .u8 5 (Nat.le_refl _)) w1.heap.size a n cap f rfl Hnil.out hnc (H1.out.fr ((Fr.refl Non _).alloc _) (fun _ _ => id)) (by decide) (by simp; omega) (by simp) ?_; intro v2 w2 hown2 hg2)
  obtain ⟨ao, co, rfl, hlo, _, hro⟩ := hown2.rowN (n := n) (by simp)
  have O2 := hid (list_row hro)
  have f2 := clone_fr hg2
  have s2 := f2.size
  have F2 := hid (F1.out.trans f2)
  have H2 := hid (H1.out.fr f2 (fun _ _ => id) |>.mono s2)
  clear hown2 hg2 hro f2
  refine (codeI _ hd0 hd1 _ n co f _ (by omega) O2.out Hf.out).mono ?_
  rintro e w3 ⟨g3, hg3, rfl, hf3, hb3⟩
  have s3 := hf3.size
  have F3 := hid (F2.out.trans hf3)
  have H3 := hid (H2.out.fr hf3 (fun _ _ => id) |>.mono s3)
  have O3 := hid (O2.out.fr hf3 (fun _ _ => id) |>.mono s3)
  have X3 := hid (RowIn.ofArr0 hb3 |>.mono (blk_lt hb3))
  clear hf3 hb3
  go_wp2_with fail
  refine (refcodeI _ hd0 hd1 a n cap f _ (by omega) H3.out Hf.out).mono ?_
  rintro e w4 ⟨v4, rfl, hown4, hf4⟩
  obtain ⟨a4, c4, rfl, hl4, _, hr4⟩ := hown4.rowN (n := n) (by simp)
  have s4 := hf4.size
  have F4 := hid (F3.out.trans hf4)
  have H4 := hid (H3.out.fr hf4 (fun _ _ => id) |>.mono s4)
  have O4 := hid (O3.out.fr hf4 (fun _ _ => id) |>.mono s4)
  have X4 := hid (X3.out.fr hf4 (fun _ _ => id) |>.mono s4)
  have Y4 := hid (list_row hr4)
  clear hf4 hr4 hown4
  go_wp2_with fail
  refine (decodeI _ hd0 hd1 _ n co f _ (by omega) O4.out Hf.out).mono ?_
  rintro e w5 ⟨g5, hg5, rfl, hf5, hb5⟩
  have s5 := hf5.size
  have F5 := hid (F4.out.trans hf5)
  have H5 := hid (H4.out.fr hf5 (fun _ _ => id) |>.mono s5)
  have O5 := hid (O4.out.fr hf5 (fun _ _ => id) |>.mono s5)
  have X5 := hid (X4.out.fr hf5 (fun _ _ => id) |>.mono s5)
  have Y5 := hid (Y4.out.fr hf5 (fun _ _ => id) |>.mono s5)
  have Z5 := hid (RowIn.ofArr0 hb5 |>.mono (blk_lt hb5))
  clear hf5 hb5
  go_wp2_with fail
  refine (refdecodeI _ hd0 hd1 a n cap f _ (by omega) H5.out Hf.out).mono ?_
  rintro e w6 ⟨v6, rfl, hown6, hf6⟩
  obtain ⟨a6, c6, rfl, hl6, _, hr6⟩ := hown6.rowN (n := n) (by simp)
  have s6 := hf6.size
  have F6 := hid (F5.out.trans hf6)
  have H6 := hid (H5.out.fr hf6 (fun _ _ => id) |>.mono s6)
  have O6 := hid (O5.out.fr hf6 (fun _ _ => id) |>.mono s6)
  have X6 := hid (X5.out.fr hf6 (fun _ _ => id) |>.mono s6)
  have Y6 := hid (Y5.out.fr hf6 (fun _ _ => id) |>.mono s6)
  have Z6 := hid (Z5.out.fr hf6 (fun _ _ => id) |>.mono s6)
  have W6 := hid (list_row hr6)
  clear hf6 hr6 hown6
  go_wp2_with fail
  refine (props_yes _ _ hd0 hd1).mono ?_
  rintro e w7 ⟨rfl, hf7, hr7⟩
  have s7 := hf7.size
  have F7 := hid (F6.out.trans hf7)
  have H7 := hid (H6.out.fr hf7 (fun _ _ => id) |>.mono s7)
  have O7 := hid (O6.out.fr hf7 (fun _ _ => id) |>.mono s7)
  have X7 := hid (X6.out.fr hf7 (fun _ _ => id) |>.mono s7)
  have Y7 := hid (Y6.out.fr hf7 (fun _ _ => id) |>.mono s7)
  have Z7 := hid (Z6.out.fr hf7 (fun _ _ => id) |>.mono s7)
  have W7 := hid (W6.out.fr hf7 (fun _ _ => id) |>.mono s7)
  have R7 := hid hr7
  clear hf7 hr7
  go_wp2_with fail
  refine (parse_yes _ _ 1 (lit [d - 1]) _ R7.out (by show 0 ≤ d - 1; omega) (by show d - 1 < 256; omega)).mono ?_
  rintro e w' ⟨rfl, rfl⟩
  have ed : lit [d - 1] 0 + 1 = d := by show d - 1 + 1 = d; omega
  rw [ed]
  clear ed
  have q1 := fun m : Nat => bytes_q (some ⟨g3, 0, none⟩) a4 n n c4 _ _ (w7.drewN m) (by omega) w7.heap.size (by exact X7.out) (by exact Y7.out) (fun i _ => rfl)
  have q2 := fun m : Nat => bytes_q (some ⟨g5, 0, none⟩) a6 n n c6 _ _ (w7.drewN m) (by omega) w7.heap.size (by exact Z7.out) (by exact W7.out) (fun i _ => rfl)
  have q3 := fun m : Nat => bytes_q ao a n co cap _ _ (w7.drewN m) (by omega) w7.heap.size (by exact O7.out) (by exact H7.out) (fun i _ => rfl)
  have Q1 := hid q1
  have Q2 := hid q2
  have Q3 := hid q3
  clear q1 q2 q3
  go_wp2_with fail
  refine (Q1.out 0).mono ?_
  rintro e w' ⟨rfl, m1, rfl⟩
  go_wp2_with fail
  refine (Q2.out m1).mono ?_
  rintro e w' ⟨rfl, m2, rfl⟩
  go_wp2_with fail
  refine (Q3.out (m1 + m2)).mono ?_
  rintro e w' ⟨rfl, m3, rfl⟩
  go_wp2_with (go_at_call 19; refine (may_yes _ _ hd0 hd1).mono ?_; rintro e w' ⟨rfl, rfl⟩)
  go_ret
  exact ⟨rfl, F7.out.drewN _⟩

set_option maxRecDepth 100000 in
set_option maxHeartbeats 4000000 in
theorem deltaSides_out (a : Option Addr) (n cap : Nat) (d : Int) (f : Nat → Int) (w : World) (hn : n ≤ 32768) (hnc : n ≤ cap) (hnil : a = none → cap = 0) (hd : ¬ (1 ≤ d ∧ d ≤ 256))
    (hlo : -9223372036854775808 ≤ d) (hhi : d ≤ 9223372036854775807) (h : RowIn w.heap.size .u8 w a n f) :
    Calls Try.prog 5 #[.slice a n cap, .int .i64 d] w fun e w' => e = .returned (.bool true) ∧ Fr Non w w' := by
  have hn1 : ¬ (32768 : Int) < (n : Int) := by omega
  have H := hid h
  have Hd := hid hd
  have Hnil := hid hnil
  clear h hd hnil
  go_enter Try.func5, Try.ntmps5
  go_wp2_with fail
  refine (awake_any _).mono ?_
  rintro e w1 ⟨rfl, hf1⟩
  have s1 := hf1.size
  have F1 := hid hf1
  have H1 := hid (H.out.fr hf1 (fun _ _ => id) |>.mono s1)
  clear hf1
  go_wp2_with (refine opAppendRow (some 24) rfl rfl (.tmp 22) (.tmp 23) 22 rfl w1.heap.size .u8 5 1 Try.underlying22 Try.info_u8 (.slice (some ⟨w1.heap.size, 0, none⟩) 0 0) [] rfl (Own.empty w1 _ .u8 5 (Nat.le_refl _)) w1.heap.size a n cap f rfl Hnil.out hnc (H1.out.fr ((Fr.refl Non _).alloc _) (fun _ _ => id)) (by decide) (by simp; omega) (by simp) ?_; intro v2 w2 hown2 hg2)
  obtain ⟨ao, co, rfl, _, _, hro⟩ := hown2.rowN (n := n) (by simp)
  have O2 := hid (list_row hro)
  have f2 := clone_fr hg2
  have s2 := f2.size
  have F2 := hid (F1.out.trans f2)
  have H2 := hid (H1.out.fr f2 (fun _ _ => id) |>.mono s2)
  clear hown2 hg2 hro f2
  refine (code_no _ Hd.out hlo hhi _ n co _).mono ?_
  rintro e w' ⟨rfl, rfl⟩
  go_wp2_with fail
  refine (refcode_no _ Hd.out a n cap _).mono ?_
  rintro e w' ⟨rfl, rfl⟩
  go_wp2_with fail
  refine (decode_no _ Hd.out hlo hhi _ n co _).mono ?_
  rintro e w' ⟨rfl, rfl⟩
  go_wp2_with fail
  refine (refdecode_no _ Hd.out a n cap _).mono ?_
  rintro e w' ⟨rfl, rfl⟩
  go_wp2_with fail
  refine (props_no _ _ Hd.out hlo hhi).mono ?_
  rintro e w' ⟨rfl, rfl⟩
  go_wp2_with fail
  refine (parse_no _ 0 0 _ (by decide) (by decide)).mono ?_
  rintro e w' ⟨rfl, rfl⟩
  have q1 := fun m : Nat => bytes_q none none 0 0 0 (fun _ => 0) (fun _ => 0) (w2.drewN m) (by omega) 0 (.inl rfl) (.inl rfl) (fun i _ => rfl)
  have q3 := fun m : Nat => bytes_q ao a n co cap _ _ (w2.drewN m) (by omega) w2.heap.size (by exact O2.out) (by exact H2.out) (fun i _ => rfl)
  have Q1 := hid q1
  have Q3 := hid q3
  clear q1 q3
  by_cases hd1 : 1 ≤ d
  · have hd2 : decide (d ≤ 256) = false := by
      have := Hd.out
      simp; omega
    go_wp2_with fail
    refine (Q1.out 0).mono ?_
    rintro e w' ⟨rfl, m1, rfl⟩
    go_wp2_with fail
    refine (Q1.out m1).mono ?_
    rintro e w' ⟨rfl, m2, rfl⟩
    go_wp2_with fail
    refine (Q3.out (m1 + m2)).mono ?_
    rintro e w' ⟨rfl, m3, rfl⟩
    go_wp2_with (go_at_call 19; refine (may_no _ _ Hd.out hlo hhi).mono ?_; rintro e w' ⟨rfl, rfl⟩)
    go_ret
    exact ⟨rfl, F2.out.drewN _⟩
  · go_wp2_with fail
    refine (Q1.out 0).mono ?_
    rintro e w' ⟨rfl, m1, rfl⟩
    go_wp2_with fail
    refine (Q1.out m1).mono ?_
    rintro e w' ⟨rfl, m2, rfl⟩
    go_wp2_with fail
    refine (Q3.out (m1 + m2)).mono ?_
    rintro e w' ⟨rfl, m3, rfl⟩
    go_wp2_with (go_at_call 19; refine (may_no _ _ Hd.out hlo hhi).mono ?_; rintro e w' ⟨rfl, rfl⟩)
    go_ret
    exact ⟨rfl, F2.out.drewN _⟩
end Go.Proofs.Ytfedllfpgalalaa
