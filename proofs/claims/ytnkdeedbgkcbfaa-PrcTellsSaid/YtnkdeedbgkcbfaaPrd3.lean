/- PPMd's range decoder: NewDecoder. -/
import Derived.Test.YtnkdeedbgkcbfaaPrd2
namespace Go.Proofs.Ytnkdeedbgkcbfaa
open Go.RowKit

/-- the beginning: a byte, which must be 0; four more, the code. -/
def RD.four {S : Type} (nx : S → Int × Bool × S) : Nat → RD S → RD S
  | 0, d => d
  | k + 1, d => RD.four nx k ⟨(d.next nx).2.src, d.rng, d.code * 256 % 4294967296 + (d.next nx).1, (d.next nx).2.bad⟩
def RD.fst {S : Type} (nx : S → Int × Bool × S) (s0 : S) : Int × RD S := RD.next nx ⟨s0, 4294967295, 0, false⟩
def RD.pnew {S : Type} (nx : S → Int × Bool × S) (s0 : S) : RD S :=
  ⟨(RD.four nx 4 (RD.fst nx s0).2).src, (RD.four nx 4 (RD.fst nx s0).2).rng, (RD.four nx 4 (RD.fst nx s0).2).code,
   (RD.four nx 4 (RD.fst nx s0).2).bad || ((RD.fst nx s0).1 != 0 || decide ((RD.four nx 4 (RD.fst nx s0).2).rng ≤ (RD.four nx 4 (RD.fst nx s0).2).code))⟩
theorem or_byte' (c x : Int) (hc0 : 0 ≤ c) (hx0 : 0 ≤ x) (hx1 : x < 256) : bits BinOp.or IntKind.u32 (c * 256 % 4294967296) x = c * 256 % 4294967296 + x := by
  have h := or_byte c x hc0 hx0 hx1
  rw [IntKind.wrap_u32', IntKind.wrap_u32', Int.emod_eq_of_lt hx0 (by omega)] at h
  exact h
def NewPost {S : Type} (s : Sour S) (w : World) (d : RD S) (e : Ending) (w' : World) : Prop :=
  ∃ g, w.heap.size ≤ g ∧ g < w'.heap.size ∧ e = .returned (.pointer (some ⟨g, 0, none⟩)) ∧ Fr s.foot w w' ∧ DecIs s g w' d

set_option maxRecDepth 100000 in
set_option maxHeartbeats 1000000 in
theorem dnew_any {S : Type} (s : Sour S) (s0 : S) (w : World) (h : s.I w s0) (hlt : ∀ k, s.foot k → k < w.heap.size) :
    Calls Try.prog 17 #[.iface s.ty s.val] w (NewPost s w (RD.pnew s.nx s0)) := by
  have H := hid h
  have Hlt := hid hlt
  clear h hlt
  obtain ⟨g, hg⟩ : ∃ g, g = w.heap.size := ⟨_, rfl⟩
  have Hap : Hid (¬ s.foot g) := fun e => by have := Hlt.out g e; omega
  have D0 : Hid (DecIs s g (w.alloc (.cells #[.iface s.ty s.val, .int .u32 4294967295, .int .u32 0, .bool false] 63)) ⟨s0, 4294967295, 0, false⟩) :=
    ⟨by rw [hg]; exact blk_new _ _, s.keep _ _ _ Non H.out ((Fr.refl _ _).alloc _) (fun _ _ e => e), ⟨by show (0 : Int) ≤ 4294967295; decide, by show (4294967295 : Int) < 4294967296; decide, by show (0 : Int) ≤ 0; decide, by show (0 : Int) < 4294967296; decide⟩, Hap.out⟩
  have Hgg := hid hg
  clear hg
  go_enter Try.func17, Try.ntmps17
  go_wp2_with fail
  rw [← Hgg.out]
  obtain ⟨x, hx⟩ : ∃ x, x = (RD.next s.nx ⟨s0, 4294967295, 0, false⟩).1 := ⟨_, rfl⟩
  have hcall := dnext_any' s g _ _ D0.out
  rw [← hx] at hcall
  have HX := hid hx
  clear hx
  refine hcall.mono ?_
  clear hcall
  rintro e w1 ⟨rfl, hf1, hd1⟩
  have HF := hid (((Fr.refl (decFoot s g) w).alloc (.cells #[.iface s.ty s.val, .int .u32 4294967295, .int .u32 0, .bool false] 63)).trans hf1)
  have HD := hid (show DecIs s g w1 (RD.fst s.nx s0).2 by unfold RD.fst; rw [dnext_same]; exact hd1)
  clear hf1 hd1
  go_upto_block 0 with fail
  go_cut [] (fun wx => Fr (decFoot s g) w wx ∧ DecIs s g wx (RD.four s.nx 4 (RD.fst s.nx s0).2))
  case first =>
    go_wp2_with fail
    go_loopw [10] (fun i wr => ∃ (k : Nat) (d1 : RD S), k ≤ 4 ∧ i = .int .i64 k ∧ RD.four s.nx (4 - k) d1 = RD.four s.nx 4 (RD.fst s.nx s0).2 ∧ Fr (decFoot s g) w wr ∧ DecIs s g wr d1)
      (fun i _ => 4 - (intOf i).toNat)
    case atStart => exact ⟨0, (RD.fst s.nx s0).2, by decide, rfl, rfl, HF.out, HD.out⟩
    case round =>
      obtain ⟨k, d1, hk, rfl, hgo, hfr, hdec⟩ := hrel
      have c2 := blk_cell hdec.at_ (j := 2) (v := .int .u32 d1.code) rfl
      have f2 := blk_frozen hdec.at_ 2
      have o3 := hdec.ok.2.2.1
      have o4 := hdec.ok.2.2.2
      have Hgo := hid hgo
      have Hfr := hid hfr
      have Hdec := hid hdec
      clear hgo hfr hdec
      by_cases hlt : k < 4
      · obtain ⟨y, hy⟩ : ∃ y, y = (d1.next s.nx).1 := ⟨_, rfl⟩
        have hb0 : 0 ≤ y := by rw [hy]; exact (RD.next_byte s d1).1
        have hb1 : y < 256 := by rw [hy]; exact (RD.next_byte s d1).2
        have hcall : ∀ w0, DecIs s g w0 d1 → Calls Try.prog 31 #[.pointer (some ⟨g, 0, none⟩)] w0 (DPost s g w0 (.int .u8 y) ⟨(d1.next s.nx).2.src, d1.rng, d1.code, (d1.next s.nx).2.bad⟩) := fun w0 h0 => by
          have := dnext_any' s g d1 w0 h0
          rw [← hy] at this
          exact this
        have HC := hid hcall
        have HY := hid hy
        clear hcall hy
        go_wp2_with fail
        go_region_with (go_at_call 31; refine (HC.out _ (by first | exact Hdec.out.drew | exact Hdec.out)).mono ?_; rintro e w2 ⟨rfl, hf2, hd2⟩; have c2n := blk_cell hd2.at_ (j := 2) (v := .int .u32 d1.code) rfl; have f2n := blk_frozen hd2.at_ 2)
        all_goals
          have HF2 := hid hf2
          have HD2 := hid hd2
          clear hf2 hd2
          go_wp2_with fail
          go_roundw
          case rel =>
            refine ⟨k + 1, _, by omega, by go_num, ?_, ?_, HD2.out.set (d' := ⟨(d1.next s.nx).2.src, d1.rng, d1.code * 256 % 4294967296 + (d1.next s.nx).1, (d1.next s.nx).2.bad⟩) 2 _ (by rw [or_byte' _ _ o3 hb0 hb1, ← HY.out]; rfl) rfl ⟨HD2.out.ok.1, HD2.out.ok.2.1, by show 0 ≤ d1.code * 256 % 4294967296 + (d1.next s.nx).1; rw [← HY.out]; omega, by show d1.code * 256 % 4294967296 + (d1.next s.nx).1 < _; rw [← HY.out]; omega⟩⟩
            · have e : 4 - k = (4 - (k + 1)) + 1 := by omega
              have := Hgo.out
              rw [e] at this
              exact this
            · refine Fr.setCell ?_ (fun _ => .inl rfl) _
              exact Hfr.out.trans (Fr.trans (by first | exact (Fr.refl _ _).drew | exact Fr.refl _ _) HF2.out)
          case measure => simp [intOf]; omega
      · have e : k = 4 := by omega
        subst e
        go_wp2_with fail
        go_meet
        exact ⟨Hfr.out, by rw [← Hgo.out]; exact Hdec.out⟩
  case rest =>
    obtain ⟨hf, hd⟩ := hcut
    obtain ⟨D, hD⟩ : ∃ D, D = RD.four s.nx 4 (RD.fst s.nx s0).2 := ⟨_, rfl⟩
    rw [← hD] at hd
    have c1 := blk_cell hd.at_ (j := 1) (v := .int .u32 D.rng) rfl
    have c2 := blk_cell hd.at_ (j := 2) (v := .int .u32 D.code) rfl
    have c3 := blk_cell hd.at_ (j := 3) (v := .bool D.bad) rfl
    have f3 := blk_frozen hd.at_ 3
    have HF := hid hf
    have HD2 := hid hd
    have HDD := hid hD
    clear hf hd hD
    have hx1 : (RD.fst s.nx s0).1 = x := HX.out.symm
    have HX1 := hid hx1
    clear hx1
    cases hbad : D.bad with
    | true =>
      rw [hbad] at c3
      have HB := hid hbad
      clear hbad
      go_wp2_with fail
      go_region
      all_goals go_wp2_with fail
      go_ret
      have hs := HF.out.size
      refine ⟨g, by rw [Hgg.out]; exact Nat.le_refl _, ?_, rfl, ?_, ?_⟩
      · have := blk_lt HD2.out.at_
        simp [World.setCell]
        omega
      · refine Fr.mono (S := decFoot s g) ?_ (fun k hk h => h.resolve_left (by have := Hgg.out; omega))
        exact Fr.drew (HF.out.setCell (fun _ => .inl rfl) _)
      · unfold RD.pnew
        rw [← HDD.out, HB.out]
        exact DecIs.drew (HD2.out.set 3 _ rfl rfl HD2.out.ok)
    | false =>
      rw [hbad] at c3
      have HB := hid hbad
      clear hbad
      by_cases h0 : x = 0
      · have h1 : (x != 0) = false := by rw [h0]; rfl
        have H1 := hid h1
        clear h0
        go_wp2_with fail
        go_region
        all_goals go_wp2_with fail
        go_ret
        have hs := HF.out.size
        refine ⟨g, by rw [Hgg.out]; exact Nat.le_refl _, ?_, rfl, ?_, ?_⟩
        · have := blk_lt HD2.out.at_
          simp [World.setCell]
          omega
        · refine Fr.mono (S := decFoot s g) ?_ (fun k hk h => h.resolve_left (by have := Hgg.out; omega))
          exact Fr.drew (HF.out.setCell (fun _ => .inl rfl) _)
        · unfold RD.pnew
          rw [← HDD.out, HB.out, HX1.out, H1.out]
          exact DecIs.drew (HD2.out.set 3 _ rfl rfl HD2.out.ok)
      · have h1 : (x != 0) = true := by simpa using h0
        have H1 := hid h1
        clear h0
        go_wp2_with fail
        go_region
        all_goals go_wp2_with fail
        go_ret
        have hs := HF.out.size
        refine ⟨g, by rw [Hgg.out]; exact Nat.le_refl _, ?_, rfl, ?_, ?_⟩
        · have := blk_lt HD2.out.at_
          simp [World.setCell]
          omega
        · refine Fr.mono (S := decFoot s g) ?_ (fun k hk h => h.resolve_left (by have := Hgg.out; omega))
          exact Fr.drew (HF.out.setCell (fun _ => .inl rfl) _)
        · unfold RD.pnew
          rw [← HDD.out, HB.out, HX1.out, H1.out]
          exact DecIs.drew (HD2.out.set 3 _ rfl rfl HD2.out.ok)
end Go.Proofs.Ytnkdeedbgkcbfaa
