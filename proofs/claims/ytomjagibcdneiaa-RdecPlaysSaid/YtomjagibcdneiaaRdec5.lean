/- The range decoder: New, Fresh, Bad, Done. -/
import Derived.Test.YtomjagibcdneiaaRdec4
import Derived.Test.YtomjagibcdneiaaFeed
namespace Go.Proofs.Ytomjagibcdneiaa
open Go.RowKit

theorem dbadq_any {S : Type} (s : Sour S) (g : Nat) (d : RD S) (w : World) (h : DecIs s g w d) :
    Calls Try.prog 28 #[.pointer (some ⟨g, 0, none⟩)] w fun e w' => e = .returned (.bool d.bad) ∧ w = w' := by
  have c3 := blk_cell h.at_ (j := 3) (v := .bool d.bad) rfl
  clear h
  go_enter Try.func28, Try.ntmps28
  go_wp2
  go_ret
  exact ⟨rfl, rfl⟩
def RD.done {S : Type} (d : RD S) : Bool := !d.bad && d.code == 0
theorem ddone_any {S : Type} (s : Sour S) (g : Nat) (d : RD S) (w : World) (h : DecIs s g w d) :
    Calls Try.prog 29 #[.pointer (some ⟨g, 0, none⟩)] w fun e w' => e = .returned (.bool d.done) ∧ w = w' := by
  have c3 := blk_cell h.at_ (j := 3) (v := .bool d.bad) rfl
  have c2 := blk_cell h.at_ (j := 2) (v := .int .u32 d.code) rfl
  clear h
  unfold RD.done
  cases hb : d.bad with
  | true =>
    rw [hb] at c3
    go_enter Try.func29, Try.ntmps29
    go_wp2
    go_ret
    exact ⟨rfl, rfl⟩
  | false =>
    rw [hb] at c3
    go_enter Try.func29, Try.ntmps29
    go_wp2
    go_ret
    exact ⟨rfl, rfl⟩

theorem Try.info_u16 : (Try.prog.info? 22).map (fun i => (i.zero, i.size, i.bytes)) = some (some (.int .u16 0), 1, 2) := by kernel_rfl
theorem make_u16 (n : Nat) (hn : n ≤ 1048576) (w : World) : (Instr.makeSlice 26 (.int .i64 n) (.int .i64 n)).run Try.prog w = .ok (.slice (some ⟨w.heap.size, 0, none⟩) n n) (w.alloc (.cells (arr .u16 n (fun _ => 0)) 22)) := by
  obtain ⟨i, hi, hz0, hz1, hz2⟩ := info_parts Try.info_u16
  have h := run_make (P := Try.prog) w 26 22 i (.int .u16 0) Try.underlying26 hi hz0 .i64 .i64 n n (by omega) (by omega) (by rw [hz2]; omega) (by omega)
  simp only [Int.toNat_natCast, hz1, arr_made] at h
  exact h
/-- n fresh probabilities in a block of their own. -/
def FreshPost (w : World) (n : Nat) (e : Ending) (w' : World) : Prop :=
  ∃ g, w.heap.size ≤ g ∧ e = .returned (.slice (some ⟨g, 0, none⟩) n n) ∧ Fr Non w w' ∧ w'.heap[g]? = some (.cells (arr .u16 n (fun _ => 1024)) 22)
set_option maxRecDepth 100000 in
theorem fresh_any (n : Nat) (w : World) (hn : n ≤ 1048576) : Calls Try.prog 14 #[.int .i64 n] w (FreshPost w n) := by
  have hmk := make_u16 n hn
  go_enter Try.func14, Try.ntmps14
  go_wp2
  go_loopw [9] (fun i wr => ∃ k : Nat, k ≤ n ∧ i = .int .i64 k ∧ Fr Non w wr ∧ wr.heap[w.heap.size]? = some (.cells (arr .u16 n (fun j => if j < k then 1024 else 0)) 22))
    (fun i _ => n - (intOf i).toNat)
  case atStart => exact ⟨0, Nat.zero_le _, rfl, (Fr.refl _ _).alloc _, by simpa using blk_new w _⟩
  case round =>
    obtain ⟨k, hk, rfl, hfr, hrow⟩ := hrel
    have Hfr := hid hfr
    have Hrow := hid hrow
    clear hfr
    by_cases hlt : k < n
    · have hc := blk_cell hrow (arr_get _ _ _ hlt)
      have hz := blk_frozen hrow k
      clear hrow
      go_wp2
      go_roundw
      case rel =>
        refine ⟨k + 1, by omega, by go_num, Fr.setNew Hfr.out (Nat.le_refl _) _ _, ?_⟩
        have e := blk_set (i := k) (v := .int .u16 1024) Hrow.out
        rw [arr_set] at e
        refine e.trans ?_
        congr 2
        refine arr_ext fun i hi => ?_
        unfold upd
        by_cases e1 : i = k
        · rw [if_pos e1, if_pos (by omega)]
        · rw [if_neg e1]
          show (if i < k then _ else _) = _
          by_cases e2 : i < k
          · rw [if_pos e2, if_pos (by omega)]
          · rw [if_neg e2, if_neg (by omega)]
      case measure => simp [intOf]; omega
    · have e : k = n := by omega
      subst e
      clear hrow
      go_wp2
      go_ret
      refine ⟨w.heap.size, Nat.le_refl _, rfl, Hfr.out, Hrow.out.trans ?_⟩
      congr 2
      exact arr_ext fun i hi => if_pos hi

/-- the beginning: a byte, which must be 0; four more, the code. -/
def RD.first {S : Type} (nx : S → Int × Bool × S) (s0 : S) : RD S :=
  if (RD.next nx ⟨s0, 4294967295, 0, false⟩).1 = 0 then (RD.next nx ⟨s0, 4294967295, 0, false⟩).2
  else ⟨(RD.next nx ⟨s0, 4294967295, 0, false⟩).2.src, 4294967295, 0, true⟩
def RD.four {S : Type} (nx : S → Int × Bool × S) : Nat → RD S → RD S
  | 0, d => d
  | k + 1, d => RD.four nx k ⟨(d.next nx).2.src, d.rng, d.code * 256 % 4294967296 + (d.next nx).1, (d.next nx).2.bad⟩
def RD.new {S : Type} (nx : S → Int × Bool × S) (s0 : S) : RD S :=
  ⟨(RD.four nx 4 (RD.first nx s0)).src, (RD.four nx 4 (RD.first nx s0)).rng, (RD.four nx 4 (RD.first nx s0)).code,
   (RD.four nx 4 (RD.first nx s0)).bad || decide ((RD.four nx 4 (RD.first nx s0)).rng ≤ (RD.four nx 4 (RD.first nx s0)).code)⟩
theorem or_byte' (c x : Int) (hc0 : 0 ≤ c) (hx0 : 0 ≤ x) (hx1 : x < 256) : bits BinOp.or IntKind.u32 (c * 256 % 4294967296) x = c * 256 % 4294967296 + x := by
  have h := or_byte c x hc0 hx0 hx1
  rw [IntKind.wrap_u32', IntKind.wrap_u32', Int.emod_eq_of_lt hx0 (by omega)] at h
  exact h
def NewPost {S : Type} (s : Sour S) (w : World) (d : RD S) (e : Ending) (w' : World) : Prop :=
  ∃ g, w.heap.size ≤ g ∧ g < w'.heap.size ∧ e = .returned (.pointer (some ⟨g, 0, none⟩)) ∧ Fr s.foot w w' ∧ DecIs s g w' d

set_option maxRecDepth 100000 in
set_option maxHeartbeats 1000000 in
theorem dnew_any {S : Type} (s : Sour S) (s0 : S) (w : World) (h : s.I w s0) (hlt : ∀ k, s.foot k → k < w.heap.size) :
    Calls Try.prog 25 #[.iface s.ty s.val] w (NewPost s w (RD.new s.nx s0)) := by
  have H := hid h
  have Hlt := hid hlt
  clear h hlt
  obtain ⟨g, hg⟩ : ∃ g, g = w.heap.size := ⟨_, rfl⟩
  have Hap : Hid (¬ s.foot g) := fun e => by have := Hlt.out g e; omega
  have D0 : Hid (DecIs s g (w.alloc (.cells #[.iface s.ty s.val, .int .u32 4294967295, .int .u32 0, .bool false] 78)) ⟨s0, 4294967295, 0, false⟩) :=
    ⟨by rw [hg]; exact blk_new _ _, s.keep _ _ _ Non H.out ((Fr.refl _ _).alloc _) (fun _ _ e => e), ⟨by show (0 : Int) ≤ 4294967295; decide, by show (4294967295 : Int) < 4294967296; decide, by show (0 : Int) ≤ 0; decide, by show (0 : Int) < 4294967296; decide⟩, Hap.out⟩
  have Hgg := hid hg
  clear hg
  go_enter Try.func25, Try.ntmps25
  go_wp2_with fail
  rw [← Hgg.out]
  obtain ⟨x, hx⟩ : ∃ x, x = (RD.next s.nx ⟨s0, 4294967295, 0, false⟩).1 := ⟨_, rfl⟩
  have hcall := dnext_any' s g _ _ D0.out
  rw [← hx] at hcall
  have HX := hid hx
  clear hx
  refine hcall.mono ?_
  clear hcall
  rintro e w1 ⟨rfl, hf1, hd1⟩
  have HF1 : Hid (Fr (decFoot s g) w w1) := ((Fr.refl _ _).alloc _).trans hf1
  have f3 := blk_frozen hd1.at_ 3
  have c3 := blk_cell hd1.at_ (j := 3) rfl
  have HD1 := hid hd1
  clear hf1 hd1
  go_upto_if 9 with fail
  go_cut [] (fun wx => Fr (decFoot s g) w wx ∧ DecIs s g wx (RD.first s.nx s0))
  case first =>
    by_cases h0 : x = 0
    · have H0 := hid h0
      have h1 : (x != 0) = false := by rw [h0]; rfl
      have h2 : (x == 0) = true := by rw [h0]; rfl
      clear h0
      go_wp2_with fail
      go_meet
      unfold RD.first
      rw [← HX.out, if_pos H0.out]
      exact ⟨HF1.out, by rw [dnext_same]; exact HD1.out⟩
    · have H0 := hid h0
      have h1 : (x != 0) = true := by simpa using h0
      have h2 : (x == 0) = false := by simpa using h0
      clear h0
      go_wp2_with fail
      go_meet
      unfold RD.first
      rw [← HX.out, if_neg H0.out]
      exact ⟨HF1.out.setCell (fun _ => .inl rfl) _, HD1.out.set 3 _ rfl rfl HD1.out.ok⟩
  case rest =>
    obtain ⟨hf, hd⟩ := hcut
    have HF := hid hf
    have HD := hid hd
    clear hf hd c3 f3
    go_upto_block 0 with fail
    go_cut [] (fun wx => Fr (decFoot s g) w wx ∧ DecIs s g wx (RD.four s.nx 4 (RD.first s.nx s0)))
    case first =>
      go_wp2_with fail
      go_loopw [13] (fun i wr => ∃ (k : Nat) (d1 : RD S), k ≤ 4 ∧ i = .int .i64 k ∧ RD.four s.nx (4 - k) d1 = RD.four s.nx 4 (RD.first s.nx s0) ∧ Fr (decFoot s g) w wr ∧ DecIs s g wr d1)
        (fun i _ => 4 - (intOf i).toNat)
      case atStart => exact ⟨0, RD.first s.nx s0, by decide, rfl, rfl, HF.out, HD.out⟩
      case round =>
        obtain ⟨k, d1, hk, rfl, hgo, hfr, hdec⟩ := hrel
        have c2 := blk_cell hdec.at_ (j := 2) (v := .int .u32 d1.code) rfl
        have f2 := blk_frozen hdec.at_ 2
        have o3 := hdec.ok.2.2.1
        have o4 := hdec.ok.2.2.2
        have Hgo := hid hgo
        have Hfr := hid hfr
        have Hdec := hid hdec
        clear hgo hfr hdec
        by_cases hlt : k < 4
        · obtain ⟨y, hy⟩ : ∃ y, y = (d1.next s.nx).1 := ⟨_, rfl⟩
          have hb0 : 0 ≤ y := by rw [hy]; exact (RD.next_byte s d1).1
          have hb1 : y < 256 := by rw [hy]; exact (RD.next_byte s d1).2
          have hcall : ∀ w0, DecIs s g w0 d1 → Calls Try.prog 46 #[.pointer (some ⟨g, 0, none⟩)] w0 (DPost s g w0 (.int .u8 y) ⟨(d1.next s.nx).2.src, d1.rng, d1.code, (d1.next s.nx).2.bad⟩) := fun w0 h0 => by
            have := dnext_any' s g d1 w0 h0
            rw [← hy] at this
            exact this
          have HC := hid hcall
          have HY := hid hy
          clear hcall hy
          go_wp2_with fail
          go_region_with (go_at_call 46; refine (HC.out _ (by first | exact Hdec.out.drew | exact Hdec.out)).mono ?_; rintro e w2 ⟨rfl, hf2, hd2⟩; have c2n := blk_cell hd2.at_ (j := 2) (v := .int .u32 d1.code) rfl; have f2n := blk_frozen hd2.at_ 2)
          all_goals
            have HF2 := hid hf2
            have HD2 := hid hd2
            clear hf2 hd2
            go_wp2_with fail
            go_roundw
            case rel =>
              refine ⟨k + 1, _, by omega, by go_num, ?_, ?_, HD2.out.set (d' := ⟨(d1.next s.nx).2.src, d1.rng, d1.code * 256 % 4294967296 + (d1.next s.nx).1, (d1.next s.nx).2.bad⟩) 2 _ (by rw [or_byte' _ _ o3 hb0 hb1, ← HY.out]; rfl) rfl ⟨HD2.out.ok.1, HD2.out.ok.2.1, by show 0 ≤ d1.code * 256 % 4294967296 + (d1.next s.nx).1; rw [← HY.out]; omega, by show d1.code * 256 % 4294967296 + (d1.next s.nx).1 < _; rw [← HY.out]; omega⟩⟩
              · have e : 4 - k = (4 - (k + 1)) + 1 := by omega
                have := Hgo.out
                rw [e] at this
                exact this
              · refine Fr.setCell ?_ (fun _ => .inl rfl) _
                exact Hfr.out.trans (Fr.trans (by first | exact (Fr.refl _ _).drew | exact Fr.refl _ _) HF2.out)
            case measure => simp [intOf]; omega
        · have e : k = 4 := by omega
          subst e
          go_wp2_with fail
          go_meet
          exact ⟨Hfr.out, by rw [← Hgo.out]; exact Hdec.out⟩
    case rest =>
      obtain ⟨hf, hd⟩ := hcut
      obtain ⟨D, hD⟩ : ∃ D, D = RD.four s.nx 4 (RD.first s.nx s0) := ⟨_, rfl⟩
      rw [← hD] at hd
      have c1 := blk_cell hd.at_ (j := 1) (v := .int .u32 D.rng) rfl
      have c2 := blk_cell hd.at_ (j := 2) (v := .int .u32 D.code) rfl
      have c3 := blk_cell hd.at_ (j := 3) (v := .bool D.bad) rfl
      have f3 := blk_frozen hd.at_ 3
      have HF := hid hf
      have HD2 := hid hd
      have HDD := hid hD
      clear hf hd hD
      cases hbad : D.bad with
      | true =>
        rw [hbad] at c3
        have HB := hid hbad
        clear hbad
        go_wp2_with fail
        go_region
        all_goals go_wp2_with fail
        go_ret
        have hs := HF.out.size
        refine ⟨g, by rw [Hgg.out]; exact Nat.le_refl _, ?_, rfl, ?_, ?_⟩
        · have := blk_lt HD2.out.at_
          simp [World.setCell]
          omega
        · refine Fr.mono (S := decFoot s g) ?_ (fun k hk h => h.resolve_left (by have := Hgg.out; omega))
          exact Fr.drew (HF.out.setCell (fun _ => .inl rfl) _)
        · unfold RD.new
          rw [← HDD.out, HB.out]
          exact DecIs.drew (HD2.out.set 3 _ rfl rfl HD2.out.ok)
      | false =>
        rw [hbad] at c3
        have HB := hid hbad
        clear hbad
        go_wp2_with fail
        go_region
        all_goals go_wp2_with fail
        go_ret
        have hs := HF.out.size
        refine ⟨g, by rw [Hgg.out]; exact Nat.le_refl _, ?_, rfl, ?_, ?_⟩
        · have := blk_lt HD2.out.at_
          simp [World.setCell]
          omega
        · refine Fr.mono (S := decFoot s g) ?_ (fun k hk h => h.resolve_left (by have := Hgg.out; omega))
          exact Fr.drew (HF.out.setCell (fun _ => .inl rfl) _)
        · unfold RD.new
          rw [← HDD.out, HB.out]
          exact DecIs.drew (HD2.out.set 3 _ rfl rfl HD2.out.ok)
end Go.Proofs.Ytomjagibcdneiaa
