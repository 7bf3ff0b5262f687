/- BcjSides. -/
import Derived.Test.YtfedllfpgalalaaBcj10
namespace Go.Proofs.Ytfedllfpgalalaa
open Go.RowKit

theorem rcode_any (a : Option Addr) (n c : Nat) (f : Nat → Int) (w : World) (hn : n ≤ 1048576) (hnc : n ≤ c) (hnil : a = none → c = 0) (h : RowIn w.heap.size .u8 w a n f) (hf : ∀ i, i < n → 0 ≤ f i ∧ f i < 256) :
    Calls Try.prog 24 #[.slice a n c] w (RowPost w n (allB true n f)) := by
  have K := through_any a n c f true w hn hnc hnil h hf
  go_enter Try.func24, Try.ntmps24
  go_wp2_with (go_at_call 28; refine K.mono ?_; rintro e w' ⟨v, rfl, hp⟩)
  go_ret
  exact AllPost.row ⟨v, rfl, hp⟩
theorem rdecode_any (a : Option Addr) (n c : Nat) (f : Nat → Int) (w : World) (hn : n ≤ 1048576) (hnc : n ≤ c) (hnil : a = none → c = 0) (h : RowIn w.heap.size .u8 w a n f) (hf : ∀ i, i < n → 0 ≤ f i ∧ f i < 256) :
    Calls Try.prog 22 #[.slice a n c] w (RowPost w n (allB false n f)) := by
  have K := through_any a n c f false w hn hnc hnil h hf
  go_enter Try.func22, Try.ntmps22
  go_wp2_with (go_at_call 28; refine K.mono ?_; rintro e w' ⟨v, rfl, hp⟩)
  go_ret
  exact AllPost.row ⟨v, rfl, hp⟩
set_option maxRecDepth 100000 in
theorem bcjSides_long (a : Option Addr) (n cap : Nat) (w : World) (hn : 32768 < n) (hm : n ≤ 9223372036854775807) :
    Calls Try.prog 7 #[.slice a n cap] w fun e w' => e = .returned (.bool true) ∧ Fr Non w w' := by
  have h : (32768 : Int) < (n : Int) := by omega
  clear hn
  go_enter Try.func7, Try.ntmps7
  go_wp2_with (go_at_call 20; refine (bawake_any _).mono ?_; rintro e w1 ⟨rfl, hf1⟩)
  go_ret
  exact ⟨rfl, hf1⟩
set_option maxRecDepth 100000 in
theorem bcjSides_walk (a : Option Addr) (n cap : Nat) (f : Nat → Int) (w : World) (hn : n ≤ 32768) (hnc : n ≤ cap) (hnil : a = none → cap = 0)
    (h : RowIn w.heap.size .u8 w a n f) (hf : ∀ i, i < n → 0 ≤ f i ∧ f i < 256) :
    Calls Try.prog 7 #[.slice a n cap] w fun e w' => e = .returned (.bool true) ∧ Fr Non w w' := by
  have hn1 : ¬ (32768 : Int) < (n : Int) := by omega
  have H := hid h
  have Hf := hid hf
  have Hnil := hid hnil
  clear h hf hnil
  go_enter Try.func7, Try.ntmps7
  go_wp2_with fail
  refine (bawake_any _).mono ?_
  rintro e w1 ⟨rfl, hf1⟩
  have s1 := hf1.size
  have F1 := hid hf1
  have H1 := hid (H.out.fr hf1 (fun _ _ => id) |>.mono s1)
  clear hf1
  go_wp2_with (refine opAppendRow (some 11) rfl rfl (.tmp 9) (.tmp 10) 22 rfl w1.heap.size .u8 5 1 Try.underlying22 info_u8b (.slice (some ⟨w1.heap.size, 0, none⟩) 0 0) [] rfl (Own.empty w1 _ .u8 5 (Nat.le_refl _)) w1.heap.size a n cap f rfl Hnil.out hnc (H1.out.fr ((Fr.refl Non _).alloc _) (fun _ _ => id)) (by decide) (by simp; omega) (by simp) ?_; intro v2 w2 hown2 hg2)
  obtain ⟨ao, co, rfl, hlo, hmo, hzo, hro⟩ := rowOf (F := f) (n := n) (by simpa using hown2)
  have f2 := append_fr hg2
  have s2 := f2.size
  have F2 := hid (F1.out.trans f2)
  have H2 := hid ((H1.out.fr f2 (fun _ _ => id)).mono s2)
  have O2 := hid hro
  have ZO := hid hzo
  clear hown2 hg2 hro hzo f2
  go_wp2_with fail
  refine (bdecode_any ao n co f _ (by omega) hlo ZO.out O2.out Hf.out).mono ?_
  rintro e w3 ⟨a3, c3, rfl, hn3, hm3, hz3, hr3, hf3, _⟩
  have s3 := hf3.size
  have F3 := hid (F2.out.trans hf3)
  have H3 := hid ((H2.out.fr hf3 (fun _ _ => id)).mono s3)
  have O3 := hid ((O2.out.fr hf3 (fun _ _ => id)).mono s3)
  have R3 := hid hr3
  clear hf3 hr3 hz3
  go_wp2_with fail
  refine (rdecode_any a n cap f _ (by omega) hnc Hnil.out H3.out Hf.out).mono ?_
  rintro e w4 ⟨a4, c4, rfl, hn4, hm4, hz4, hr4, hf4, _⟩
  have s4 := hf4.size
  have F4 := hid (F3.out.trans hf4)
  have H4 := hid ((H3.out.fr hf4 (fun _ _ => id)).mono s4)
  have O4 := hid ((O3.out.fr hf4 (fun _ _ => id)).mono s4)
  have R34 := hid ((R3.out.fr hf4 (fun _ _ => id)).mono s4)
  have R4 := hid hr4
  clear hf4 hr4 hz4
  go_wp2_with fail
  refine (bytes_yes a3 a4 n c3 c4 _ _ _ (by omega) w4.heap.size R34.out R4.out (fun i _ => rfl)).mono ?_
  rintro e w5 ⟨rfl, hf5⟩
  have s5 := hf5.size
  have F5 := hid (F4.out.trans hf5)
  have H5 := hid ((H4.out.fr hf5 (fun _ _ => id)).mono s5)
  have O5 := hid ((O4.out.fr hf5 (fun _ _ => id)).mono s5)
  clear hf5
  go_wp2_with fail
  refine (bcode_any ao n co f _ (by omega) hlo ZO.out O5.out Hf.out).mono ?_
  rintro e w6 ⟨a6, c6, rfl, hn6, hm6, hz6, hr6, hf6, _⟩
  have s6 := hf6.size
  have F6 := hid (F5.out.trans hf6)
  have H6 := hid ((H5.out.fr hf6 (fun _ _ => id)).mono s6)
  have O6 := hid ((O5.out.fr hf6 (fun _ _ => id)).mono s6)
  have R6 := hid hr6
  clear hf6 hr6 hz6
  go_wp2_with fail
  refine (rcode_any a n cap f _ (by omega) hnc Hnil.out H6.out Hf.out).mono ?_
  rintro e w7 ⟨a7, c7, rfl, hn7, hm7, hz7, hr7, hf7, _⟩
  have s7 := hf7.size
  have F7 := hid (F6.out.trans hf7)
  have H7 := hid ((H6.out.fr hf7 (fun _ _ => id)).mono s7)
  have O7 := hid ((O6.out.fr hf7 (fun _ _ => id)).mono s7)
  have R67 := hid ((R6.out.fr hf7 (fun _ _ => id)).mono s7)
  have R7 := hid hr7
  clear hf7 hr7 hz7
  go_wp2_with fail
  refine (bytes_yes a6 a7 n c6 c7 _ _ _ (by omega) w7.heap.size R67.out R7.out (fun i _ => rfl)).mono ?_
  rintro e w8 ⟨rfl, hf8⟩
  have s8 := hf8.size
  have F8 := hid (F7.out.trans hf8)
  have H8 := hid ((H7.out.fr hf8 (fun _ _ => id)).mono s8)
  have O8 := hid ((O7.out.fr hf8 (fun _ _ => id)).mono s8)
  clear hf8
  go_wp2_with fail
  refine (bytes_yes ao a n co cap f f _ (by omega) w8.heap.size O8.out H8.out (fun i _ => rfl)).mono ?_
  rintro e w9 ⟨rfl, hf9⟩
  have F9 := hid (F8.out.trans hf9)
  clear hf9
  go_wp2_with fail
  go_ret
  exact ⟨rfl, F9.out⟩
end Go.Proofs.Ytfedllfpgalalaa
