/- The walk through DeltaBack. -/
import Derived.Test.YtfedllfpgalalaaDelta3
namespace Go.Proofs.Ytfedllfpgalalaa
open Go.RowKit

set_option maxRecDepth 100000 in
set_option maxHeartbeats 2000000 in
theorem deltaBack_long (a : Option Addr) (n cap : Nat) (D : Int) (w : World) (hn : 1048576 < n ∨ 32768 < n) (hm : n ≤ 9223372036854775807) :
    Calls Try.prog 3 #[.slice a n cap, .int .u8 D] w fun e w' => e = .returned (.bool true) ∧ Fr Non w w' := by
  have h : (32768 : Int) < (n : Int) := by omega
  clear hn
  go_enter Try.func3, Try.ntmps3
  go_wp2_with (go_at_call 11; refine (awake_any _).mono ?_; rintro e w1 ⟨rfl, hf1⟩)
  go_ret
  exact ⟨rfl, hf1⟩

set_option maxRecDepth 100000 in
set_option maxHeartbeats 2000000 in
theorem deltaBack_walk (a : Option Addr) (n cap : Nat) (D : Int) (f : Nat → Int) (w : World) (hn : n ≤ 32768) (hnc : n ≤ cap) (_hcm : cap ≤ maxLen) (hD0 : 0 ≤ D) (hD1 : D ≤ 255)
    (h : RowIn w.heap.size .u8 w a n f) (hf : ∀ i, i < n → 0 ≤ f i ∧ f i < 256) :
    Calls Try.prog 3 #[.slice a n cap, .int .u8 D] w fun e w' => e = .returned (.bool true) ∧ Fr Non w w' := by
  have hn1 : ¬ (32768 : Int) < (n : Int) := by omega
  have H := hid h
  have Hf := hid hf
  have hd0 : 1 ≤ D + 1 := by omega
  have hd1 : D + 1 ≤ 256 := by omega
  have hpos : 0 < (D + 1).toNat := by omega
  clear h hf
  by_cases hk : n < (D + 1).toNat
  · have hmin : ¬ D + 1 ≤ (n : Int) := by omega
    go_enter Try.func3, Try.ntmps3
    go_wp2_with (go_at_call 11; refine (awake_any _).mono ?_; rintro e w1 ⟨rfl, hf1⟩)
    have s1 := hf1.size
    have H1 := hid (H.out.fr hf1 (fun _ _ => id) |>.mono s1)
    refine (codeI _ hd0 hd1 a n cap f _ (by omega) H1.out Hf.out).mono ?_
    rintro e w2 ⟨g2, hg2, rfl, hf2, hb2⟩
    have s2 := hf2.size
    have F2 := hid (hf1.trans hf2)
    have H2 := hid (H1.out.fr hf2 (fun _ _ => id) |>.mono s2)
    have B2 := hid (RowIn.ofArr0 hb2 |>.mono (blk_lt hb2))
    clear hf1 hf2 hb2
    go_wp2_with fail
    refine (decodeI _ hd0 hd1 _ n n _ _ (by omega) B2.out (fun i _ => code13_bd _ _ _)).mono ?_
    rintro e w3 ⟨g3, hg3, rfl, hf3, hb3⟩
    have s3 := hf3.size
    have F3 := hid (F2.out.trans hf3)
    have H3 := hid (H2.out.fr hf3 (fun _ _ => id) |>.mono s3)
    have B3 := hid (B2.out.fr hf3 (fun _ _ => id) |>.mono s3)
    have C3 := hid (RowIn.ofArr0 hb3 |>.mono (blk_lt hb3))
    clear hf3 hb3
    go_wp2_with fail
    refine (decodeI _ hd0 hd1 a n cap f _ (by omega) H3.out Hf.out).mono ?_
    rintro e w4 ⟨g4, hg4, rfl, hf4, hb4⟩
    have s4 := hf4.size
    have F4 := hid (F3.out.trans hf4)
    have H4 := hid (H3.out.fr hf4 (fun _ _ => id) |>.mono s4)
    have B4 := hid (B3.out.fr hf4 (fun _ _ => id) |>.mono s4)
    have C4 := hid (C3.out.fr hf4 (fun _ _ => id) |>.mono s4)
    have D4 := hid (RowIn.ofArr0 hb4 |>.mono (blk_lt hb4))
    clear hf4 hb4
    go_wp2_with fail
    refine (codeI _ hd0 hd1 _ n n _ _ (by omega) D4.out (fun i _ => dec13_bd _ _ _ hpos)).mono ?_
    rintro e w5 ⟨g5, hg5, rfl, hf5, hb5⟩
    have s5 := hf5.size
    have F5 := hid (F4.out.trans hf5)
    have H5 := hid (H4.out.fr hf5 (fun _ _ => id) |>.mono s5)
    have B5 := hid (B4.out.fr hf5 (fun _ _ => id) |>.mono s5)
    have C5 := hid (C4.out.fr hf5 (fun _ _ => id) |>.mono s5)
    have D5 := hid (D4.out.fr hf5 (fun _ _ => id) |>.mono s5)
    have E5 := hid (RowIn.ofArr0 hb5 |>.mono (blk_lt hb5))
    clear hf5 hb5
    go_wp2_with fail
    have q1 := fun m : Nat => bytes_q (some ⟨g3, 0, none⟩) a n n cap _ f (w5.drewN m) (by omega) w5.heap.size (by exact C5.out) (by exact H5.out) (dec_code f _ hpos n Hf.out)
    have q2 := fun m : Nat => bytes_q (some ⟨g5, 0, none⟩) a n n cap _ f (w5.drewN m) (by omega) w5.heap.size (by exact E5.out) (by exact H5.out) (code_dec f _ hpos n Hf.out)
    have q3 := fun m : Nat => bytes_q (some ⟨g2, 0, none⟩) a n n cap _ f (w5.drewN m) (by omega) w5.heap.size (by exact B5.out) (by exact H5.out) (fun i hi => code_head f _ n Hf.out i (by omega) hi)
    have q4 := fun m : Nat => bytes_q (some ⟨g4, 0, none⟩) a n n cap _ f (w5.drewN m) (by omega) w5.heap.size (by exact D5.out) (by exact H5.out) (fun i hi => dec_head f _ n hpos Hf.out i (by omega) hi)
    have Q1 := hid q1
    have Q2 := hid q2
    have Q3 := hid q3
    have Q4 := hid q4
    clear q1 q2 q3 q4
    go_quiet ((go_at_call 14; (first | (with_reducible exact Calls.quiet_of (Q1.out _)) | (with_reducible exact Calls.quiet_of (Q2.out _)) | (with_reducible exact Calls.quiet_of (Q3.out _)) | (with_reducible exact Calls.quiet_of (Q4.out _)))))
    go_wp2_with fail
    go_ret
    exact ⟨rfl, F5.out.drewN _⟩
  · have hmin : D + 1 ≤ (n : Int) := by omega
    go_enter Try.func3, Try.ntmps3
    go_wp2_with (go_at_call 11; refine (awake_any _).mono ?_; rintro e w1 ⟨rfl, hf1⟩)
    have s1 := hf1.size
    have H1 := hid (H.out.fr hf1 (fun _ _ => id) |>.mono s1)
    refine (codeI _ hd0 hd1 a n cap f _ (by omega) H1.out Hf.out).mono ?_
    rintro e w2 ⟨g2, hg2, rfl, hf2, hb2⟩
    have s2 := hf2.size
    have F2 := hid (hf1.trans hf2)
    have H2 := hid (H1.out.fr hf2 (fun _ _ => id) |>.mono s2)
    have B2 := hid (RowIn.ofArr0 hb2 |>.mono (blk_lt hb2))
    clear hf1 hf2 hb2
    go_wp2_with fail
    refine (decodeI _ hd0 hd1 _ n n _ _ (by omega) B2.out (fun i _ => code13_bd _ _ _)).mono ?_
    rintro e w3 ⟨g3, hg3, rfl, hf3, hb3⟩
    have s3 := hf3.size
    have F3 := hid (F2.out.trans hf3)
    have H3 := hid (H2.out.fr hf3 (fun _ _ => id) |>.mono s3)
    have B3 := hid (B2.out.fr hf3 (fun _ _ => id) |>.mono s3)
    have C3 := hid (RowIn.ofArr0 hb3 |>.mono (blk_lt hb3))
    clear hf3 hb3
    go_wp2_with fail
    refine (decodeI _ hd0 hd1 a n cap f _ (by omega) H3.out Hf.out).mono ?_
    rintro e w4 ⟨g4, hg4, rfl, hf4, hb4⟩
    have s4 := hf4.size
    have F4 := hid (F3.out.trans hf4)
    have H4 := hid (H3.out.fr hf4 (fun _ _ => id) |>.mono s4)
    have B4 := hid (B3.out.fr hf4 (fun _ _ => id) |>.mono s4)
    have C4 := hid (C3.out.fr hf4 (fun _ _ => id) |>.mono s4)
    have D4 := hid (RowIn.ofArr0 hb4 |>.mono (blk_lt hb4))
    clear hf4 hb4
    go_wp2_with fail
    refine (codeI _ hd0 hd1 _ n n _ _ (by omega) D4.out (fun i _ => dec13_bd _ _ _ hpos)).mono ?_
    rintro e w5 ⟨g5, hg5, rfl, hf5, hb5⟩
    have s5 := hf5.size
    have F5 := hid (F4.out.trans hf5)
    have H5 := hid (H4.out.fr hf5 (fun _ _ => id) |>.mono s5)
    have B5 := hid (B4.out.fr hf5 (fun _ _ => id) |>.mono s5)
    have C5 := hid (C4.out.fr hf5 (fun _ _ => id) |>.mono s5)
    have D5 := hid (D4.out.fr hf5 (fun _ _ => id) |>.mono s5)
    have E5 := hid (RowIn.ofArr0 hb5 |>.mono (blk_lt hb5))
    clear hf5 hb5
    go_wp2_with fail
    have q1 := fun m : Nat => bytes_q (some ⟨g3, 0, none⟩) a n n cap _ f (w5.drewN m) (by omega) w5.heap.size (by exact C5.out) (by exact H5.out) (dec_code f _ hpos n Hf.out)
    have q2 := fun m : Nat => bytes_q (some ⟨g5, 0, none⟩) a n n cap _ f (w5.drewN m) (by omega) w5.heap.size (by exact E5.out) (by exact H5.out) (code_dec f _ hpos n Hf.out)
    have q3 := fun m : Nat => bytes_q (some ⟨g2, 0, none⟩) a (D + 1).toNat n cap _ f (w5.drewN m) (by omega) w5.heap.size (by exact B5.out.take (by omega)) (by exact H5.out.take (by omega)) (fun i hi => code_head f _ n Hf.out i hi (by omega))
    have q4 := fun m : Nat => bytes_q (some ⟨g4, 0, none⟩) a (D + 1).toNat n cap _ f (w5.drewN m) (by omega) w5.heap.size (by exact D5.out.take (by omega)) (by exact H5.out.take (by omega)) (fun i hi => dec_head f _ n hpos Hf.out i hi (by omega))
    have Q1 := hid q1
    have Q2 := hid q2
    have Q3 := hid q3
    have Q4 := hid q4
    clear q1 q2 q3 q4
    go_quiet ((go_at_call 14; (first | (with_reducible exact Calls.quiet_of (Q1.out _)) | (with_reducible exact Calls.quiet_of (Q2.out _)) | (with_reducible exact Calls.quiet_of (Q3.out _)) | (with_reducible exact Calls.quiet_of (Q4.out _)))))
    go_wp2_with fail
    go_ret
    exact ⟨rfl, F5.out.drewN _⟩
end Go.Proofs.Ytfedllfpgalalaa
