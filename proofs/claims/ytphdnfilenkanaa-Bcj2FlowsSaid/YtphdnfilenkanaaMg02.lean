/- Texts of this proof, one behind the other. -/
import Derived.Test.YtphdnfilenkanaaMg01
import Derived.Laws.CopyOwn
import Derived.Deep.RegionLaw
import Derived.Laws.CopyRow
import Derived.Laws.Rows
import Derived.Deep.RegionWith
import Derived.Deep.CutBlock
import Derived.Deep.DeepCutAuto

/- The range decoder: New, Fresh, Bad, Done. -/
namespace Go.Proofs.Ytphdnfilenkanaa
open Go.RowKit

theorem dbadq_any {S : Type} (s : Sour S) (g : Nat) (d : RD S) (w : World) (h : DecIs s g w d) :
    Calls Try.prog 34 #[.pointer (some ⟨g, 0, none⟩)] w fun e w' => e = .returned (.bool d.bad) ∧ w = w' := by
  have c3 := blk_cell h.at_ (j := 3) (v := .bool d.bad) rfl
  clear h
  go_enter Try.func34, Try.ntmps34
  go_wp2
  go_ret
  exact ⟨rfl, rfl⟩
def RD.done {S : Type} (d : RD S) : Bool := !d.bad && d.code == 0
theorem ddone_any {S : Type} (s : Sour S) (g : Nat) (d : RD S) (w : World) (h : DecIs s g w d) :
    Calls Try.prog 36 #[.pointer (some ⟨g, 0, none⟩)] w fun e w' => e = .returned (.bool d.done) ∧ w = w' := by
  have c3 := blk_cell h.at_ (j := 3) (v := .bool d.bad) rfl
  have c2 := blk_cell h.at_ (j := 2) (v := .int .u32 d.code) rfl
  clear h
  unfold RD.done
  cases hb : d.bad with
  | true =>
    rw [hb] at c3
    go_enter Try.func36, Try.ntmps36
    go_wp2
    go_ret
    exact ⟨rfl, rfl⟩
  | false =>
    rw [hb] at c3
    go_enter Try.func36, Try.ntmps36
    go_wp2
    go_ret
    exact ⟨rfl, rfl⟩

theorem Try.info_u16 : (Try.prog.info? 46).map (fun i => (i.zero, i.size, i.bytes)) = some (some (.int .u16 0), 1, 2) := by kernel_rfl
theorem make_u16 (n : Nat) (hn : n ≤ 1048576) (w : World) : (Instr.makeSlice 43 (.int .i64 n) (.int .i64 n)).run Try.prog w = .ok (.slice (some ⟨w.heap.size, 0, none⟩) n n) (w.alloc (.cells (arr .u16 n (fun _ => 0)) 46)) := by
  obtain ⟨i, hi, hz0, hz1, hz2⟩ := info_parts Try.info_u16
  have h := run_make (P := Try.prog) w 43 46 i (.int .u16 0) Try.underlying43 hi hz0 .i64 .i64 n n (by omega) (by omega) (by rw [hz2]; omega) (by omega)
  simp only [Int.toNat_natCast, hz1, arr_made] at h
  exact h
/-- n fresh probabilities in a block of their own. -/
def FreshPost (w : World) (n : Nat) (e : Ending) (w' : World) : Prop :=
  ∃ g, w.heap.size ≤ g ∧ e = .returned (.slice (some ⟨g, 0, none⟩) n n) ∧ Fr Non w w' ∧ w'.heap[g]? = some (.cells (arr .u16 n (fun _ => 1024)) 46)
set_option maxRecDepth 100000 in
theorem fresh_any (n : Nat) (w : World) (hn : n ≤ 1048576) : Calls Try.prog 39 #[.int .i64 n] w (FreshPost w n) := by
  have hmk := make_u16 n hn
  go_enter Try.func39, Try.ntmps39
  go_wp2
  go_loopw [9] (fun i wr => ∃ k : Nat, k ≤ n ∧ i = .int .i64 k ∧ Fr Non w wr ∧ wr.heap[w.heap.size]? = some (.cells (arr .u16 n (fun j => if j < k then 1024 else 0)) 46))
    (fun i _ => n - (intOf i).toNat)
  case atStart => exact ⟨0, Nat.zero_le _, rfl, (Fr.refl _ _).alloc _, by simpa using blk_new w _⟩
  case round =>
    obtain ⟨k, hk, rfl, hfr, hrow⟩ := hrel
    have Hfr := hid hfr
    have Hrow := hid hrow
    clear hfr
    by_cases hlt : k < n
    · have hc := blk_cell hrow (arr_get _ _ _ hlt)
      have hz := blk_frozen hrow k
      clear hrow
      go_wp2
      go_roundw
      case rel =>
        refine ⟨k + 1, by omega, by go_num, Fr.setNew Hfr.out (Nat.le_refl _) _ _, ?_⟩
        have e := blk_set (i := k) (v := .int .u16 1024) Hrow.out
        rw [arr_set] at e
        refine e.trans ?_
        congr 2
        refine arr_ext fun i hi => ?_
        unfold upd
        by_cases e1 : i = k
        · rw [if_pos e1, if_pos (by omega)]
        · rw [if_neg e1]
          show (if i < k then _ else _) = _
          by_cases e2 : i < k
          · rw [if_pos e2, if_pos (by omega)]
          · rw [if_neg e2, if_neg (by omega)]
      case measure => simp [intOf]; omega
    · have e : k = n := by omega
      subst e
      clear hrow
      go_wp2
      go_ret
      refine ⟨w.heap.size, Nat.le_refl _, rfl, Hfr.out, Hrow.out.trans ?_⟩
      congr 2
      exact arr_ext fun i hi => if_pos hi

/-- the beginning: a byte, which must be 0; four more, the code. -/
def RD.first {S : Type} (nx : S → Int × Bool × S) (s0 : S) : RD S :=
  if (RD.next nx ⟨s0, 4294967295, 0, false⟩).1 = 0 then (RD.next nx ⟨s0, 4294967295, 0, false⟩).2
  else ⟨(RD.next nx ⟨s0, 4294967295, 0, false⟩).2.src, 4294967295, 0, true⟩
def RD.four {S : Type} (nx : S → Int × Bool × S) : Nat → RD S → RD S
  | 0, d => d
  | k + 1, d => RD.four nx k ⟨(d.next nx).2.src, d.rng, d.code * 256 % 4294967296 + (d.next nx).1, (d.next nx).2.bad⟩
def RD.new {S : Type} (nx : S → Int × Bool × S) (s0 : S) : RD S :=
  ⟨(RD.four nx 4 (RD.first nx s0)).src, (RD.four nx 4 (RD.first nx s0)).rng, (RD.four nx 4 (RD.first nx s0)).code,
   (RD.four nx 4 (RD.first nx s0)).bad || decide ((RD.four nx 4 (RD.first nx s0)).rng ≤ (RD.four nx 4 (RD.first nx s0)).code)⟩
theorem or_byte' (c x : Int) (hc0 : 0 ≤ c) (hx0 : 0 ≤ x) (hx1 : x < 256) : bits BinOp.or IntKind.u32 (c * 256 % 4294967296) x = c * 256 % 4294967296 + x := by
  have h := or_byte c x hc0 hx0 hx1
  rw [IntKind.wrap_u32', IntKind.wrap_u32', Int.emod_eq_of_lt hx0 (by omega)] at h
  exact h
def NewPost {S : Type} (s : Sour S) (w : World) (d : RD S) (e : Ending) (w' : World) : Prop :=
  ∃ g, w.heap.size ≤ g ∧ g < w'.heap.size ∧ e = .returned (.pointer (some ⟨g, 0, none⟩)) ∧ Fr s.foot w w' ∧ DecIs s g w' d

set_option maxRecDepth 100000 in
set_option maxHeartbeats 1000000 in
theorem dnew_any {S : Type} (s : Sour S) (s0 : S) (w : World) (h : s.I w s0) (hlt : ∀ k, s.foot k → k < w.heap.size) :
    Calls Try.prog 31 #[.iface s.ty s.val] w (NewPost s w (RD.new s.nx s0)) := by
  have H := hid h
  have Hlt := hid hlt
  clear h hlt
  obtain ⟨g, hg⟩ : ∃ g, g = w.heap.size := ⟨_, rfl⟩
  have Hap : Hid (¬ s.foot g) := fun e => by have := Hlt.out g e; omega
  have D0 : Hid (DecIs s g (w.alloc (.cells #[.iface s.ty s.val, .int .u32 4294967295, .int .u32 0, .bool false] 90)) ⟨s0, 4294967295, 0, false⟩) :=
    ⟨by rw [hg]; exact blk_new _ _, s.keep _ _ _ Non H.out ((Fr.refl _ _).alloc _) (fun _ _ e => e), ⟨by show (0 : Int) ≤ 4294967295; decide, by show (4294967295 : Int) < 4294967296; decide, by show (0 : Int) ≤ 0; decide, by show (0 : Int) < 4294967296; decide⟩, Hap.out⟩
  have Hgg := hid hg
  clear hg
  go_enter Try.func31, Try.ntmps31
  go_wp2_with fail
  rw [← Hgg.out]
  obtain ⟨x, hx⟩ : ∃ x, x = (RD.next s.nx ⟨s0, 4294967295, 0, false⟩).1 := ⟨_, rfl⟩
  have hcall := dnext_any' s g _ _ D0.out
  rw [← hx] at hcall
  have HX := hid hx
  clear hx
  refine hcall.mono ?_
  clear hcall
  rintro e w1 ⟨rfl, hf1, hd1⟩
  have HF1 : Hid (Fr (decFoot s g) w w1) := ((Fr.refl _ _).alloc _).trans hf1
  have f3 := blk_frozen hd1.at_ 3
  have c3 := blk_cell hd1.at_ (j := 3) rfl
  have HD1 := hid hd1
  clear hf1 hd1
  go_upto_if 9 with fail
  go_cut [] (fun wx => Fr (decFoot s g) w wx ∧ DecIs s g wx (RD.first s.nx s0))
  case first =>
    by_cases h0 : x = 0
    · have H0 := hid h0
      have h1 : (x != 0) = false := by rw [h0]; rfl
      have h2 : (x == 0) = true := by rw [h0]; rfl
      clear h0
      go_wp2_with fail
      go_meet
      unfold RD.first
      rw [← HX.out, if_pos H0.out]
      exact ⟨HF1.out, by rw [dnext_same]; exact HD1.out⟩
    · have H0 := hid h0
      have h1 : (x != 0) = true := by simpa using h0
      have h2 : (x == 0) = false := by simpa using h0
      clear h0
      go_wp2_with fail
      go_meet
      unfold RD.first
      rw [← HX.out, if_neg H0.out]
      exact ⟨HF1.out.setCell (fun _ => .inl rfl) _, HD1.out.set 3 _ rfl rfl HD1.out.ok⟩
  case rest =>
    obtain ⟨hf, hd⟩ := hcut
    have HF := hid hf
    have HD := hid hd
    clear hf hd c3 f3
    go_upto_block 0 with fail
    go_cut [] (fun wx => Fr (decFoot s g) w wx ∧ DecIs s g wx (RD.four s.nx 4 (RD.first s.nx s0)))
    case first =>
      go_wp2_with fail
      go_loopw [13] (fun i wr => ∃ (k : Nat) (d1 : RD S), k ≤ 4 ∧ i = .int .i64 k ∧ RD.four s.nx (4 - k) d1 = RD.four s.nx 4 (RD.first s.nx s0) ∧ Fr (decFoot s g) w wr ∧ DecIs s g wr d1)
        (fun i _ => 4 - (intOf i).toNat)
      case atStart => exact ⟨0, RD.first s.nx s0, by decide, rfl, rfl, HF.out, HD.out⟩
      case round =>
        obtain ⟨k, d1, hk, rfl, hgo, hfr, hdec⟩ := hrel
        have c2 := blk_cell hdec.at_ (j := 2) (v := .int .u32 d1.code) rfl
        have f2 := blk_frozen hdec.at_ 2
        have o3 := hdec.ok.2.2.1
        have o4 := hdec.ok.2.2.2
        have Hgo := hid hgo
        have Hfr := hid hfr
        have Hdec := hid hdec
        clear hgo hfr hdec
        by_cases hlt : k < 4
        · obtain ⟨y, hy⟩ : ∃ y, y = (d1.next s.nx).1 := ⟨_, rfl⟩
          have hb0 : 0 ≤ y := by rw [hy]; exact (RD.next_byte s d1).1
          have hb1 : y < 256 := by rw [hy]; exact (RD.next_byte s d1).2
          have hcall : ∀ w0, DecIs s g w0 d1 → Calls Try.prog 44 #[.pointer (some ⟨g, 0, none⟩)] w0 (DPost s g w0 (.int .u8 y) ⟨(d1.next s.nx).2.src, d1.rng, d1.code, (d1.next s.nx).2.bad⟩) := fun w0 h0 => by
            have := dnext_any' s g d1 w0 h0
            rw [← hy] at this
            exact this
          have HC := hid hcall
          have HY := hid hy
          clear hcall hy
          go_wp2_with fail
          go_region_with (go_at_call 44; refine (HC.out _ (by first | exact Hdec.out.drew | exact Hdec.out)).mono ?_; rintro e w2 ⟨rfl, hf2, hd2⟩; have c2n := blk_cell hd2.at_ (j := 2) (v := .int .u32 d1.code) rfl; have f2n := blk_frozen hd2.at_ 2)
          all_goals
            have HF2 := hid hf2
            have HD2 := hid hd2
            clear hf2 hd2
            go_wp2_with fail
            go_roundw
            case rel =>
              refine ⟨k + 1, _, by omega, by go_num, ?_, ?_, HD2.out.set (d' := ⟨(d1.next s.nx).2.src, d1.rng, d1.code * 256 % 4294967296 + (d1.next s.nx).1, (d1.next s.nx).2.bad⟩) 2 _ (by rw [or_byte' _ _ o3 hb0 hb1, ← HY.out]; rfl) rfl ⟨HD2.out.ok.1, HD2.out.ok.2.1, by show 0 ≤ d1.code * 256 % 4294967296 + (d1.next s.nx).1; rw [← HY.out]; omega, by show d1.code * 256 % 4294967296 + (d1.next s.nx).1 < _; rw [← HY.out]; omega⟩⟩
              · have e : 4 - k = (4 - (k + 1)) + 1 := by omega
                have := Hgo.out
                rw [e] at this
                exact this
              · refine Fr.setCell ?_ (fun _ => .inl rfl) _
                exact Hfr.out.trans (Fr.trans (by first | exact (Fr.refl _ _).drew | exact Fr.refl _ _) HF2.out)
            case measure => simp [intOf]; omega
        · have e : k = 4 := by omega
          subst e
          go_wp2_with fail
          go_meet
          exact ⟨Hfr.out, by rw [← Hgo.out]; exact Hdec.out⟩
    case rest =>
      obtain ⟨hf, hd⟩ := hcut
      obtain ⟨D, hD⟩ : ∃ D, D = RD.four s.nx 4 (RD.first s.nx s0) := ⟨_, rfl⟩
      rw [← hD] at hd
      have c1 := blk_cell hd.at_ (j := 1) (v := .int .u32 D.rng) rfl
      have c2 := blk_cell hd.at_ (j := 2) (v := .int .u32 D.code) rfl
      have c3 := blk_cell hd.at_ (j := 3) (v := .bool D.bad) rfl
      have f3 := blk_frozen hd.at_ 3
      have HF := hid hf
      have HD2 := hid hd
      have HDD := hid hD
      clear hf hd hD
      cases hbad : D.bad with
      | true =>
        rw [hbad] at c3
        have HB := hid hbad
        clear hbad
        go_wp2_with fail
        go_region
        all_goals go_wp2_with fail
        go_ret
        have hs := HF.out.size
        refine ⟨g, by rw [Hgg.out]; exact Nat.le_refl _, ?_, rfl, ?_, ?_⟩
        · have := blk_lt HD2.out.at_
          simp [World.setCell]
          omega
        · refine Fr.mono (S := decFoot s g) ?_ (fun k hk h => h.resolve_left (by have := Hgg.out; omega))
          exact Fr.drew (HF.out.setCell (fun _ => .inl rfl) _)
        · unfold RD.new
          rw [← HDD.out, HB.out]
          exact DecIs.drew (HD2.out.set 3 _ rfl rfl HD2.out.ok)
      | false =>
        rw [hbad] at c3
        have HB := hid hbad
        clear hbad
        go_wp2_with fail
        go_region
        all_goals go_wp2_with fail
        go_ret
        have hs := HF.out.size
        refine ⟨g, by rw [Hgg.out]; exact Nat.le_refl _, ?_, rfl, ?_, ?_⟩
        · have := blk_lt HD2.out.at_
          simp [World.setCell]
          omega
        · refine Fr.mono (S := decFoot s g) ?_ (fun k hk h => h.resolve_left (by have := Hgg.out; omega))
          exact Fr.drew (HF.out.setCell (fun _ => .inl rfl) _)
        · unfold RD.new
          rw [← HDD.out, HB.out]
          exact DecIs.drew (HD2.out.set 3 _ rfl rfl HD2.out.ok)
end Go.Proofs.Ytphdnfilenkanaa

/- copy between rows, as one step of a region, and rows that read as numbers. -/
namespace Go.Proofs.Ytphdnfilenkanaa
open Go.RowKit

/-- a row with the cells cs laid over it from a place on. -/
def over (cur : Array Value) (off : Nat) (cs : List Value) : Array Value := (cur.toList.take off ++ (cs ++ cur.toList.drop (off + cs.length))).toArray
theorem over_size (cur : Array Value) (off : Nat) (cs : List Value) (h : off + cs.length ≤ cur.size) : (over cur off cs).size = cur.size := by
  have : off + cs.length ≤ cur.toList.length := by simpa using h
  simp [over]; omega
theorem over_get (cur : Array Value) (off : Nat) (cs : List Value) (h : off + cs.length ≤ cur.size) (j : Nat) :
    (over cur off cs)[j]? = if off ≤ j ∧ j < off + cs.length then cs[j - off]? else cur[j]? := by
  have h' : off + cs.length ≤ cur.toList.length := by simpa using h
  have hl : (cur.toList.take off).length = off := by simp; omega
  unfold over
  rw [List.getElem?_toArray]
  by_cases h1 : j < off
  · rw [List.getElem?_append_left (by omega), List.getElem?_take_of_lt h1, if_neg (by omega)]
    simp
  · rw [List.getElem?_append_right (by omega), hl]
    by_cases h2 : j < off + cs.length
    · rw [List.getElem?_append_left (by omega), if_pos ⟨by omega, h2⟩]
    · rw [List.getElem?_append_right (by omega), if_neg (by omega), List.getElem?_drop]
      have : off + cs.length + (j - off - cs.length) = j := by omega
      rw [this]
      simp
/-- the block g holds a row whose first n cells are the integers F. -/
def Lies (w : World) (g : Nat) (e : TypeId) (k : IntKind) (cap n : Nat) (F : Nat → Int) : Prop :=
  ∃ cur, w.heap[g]? = some (.cells cur e (0, 0)) ∧ cur.size = cap ∧ n ≤ cap ∧ ∀ i, i < n → cur[i]? = some (.int k (F i))
theorem Lies.fr {S : Nat → Prop} {w w' : World} {g : Nat} {e : TypeId} {k : IntKind} {cap n : Nat} {F : Nat → Int} (h : Lies w g e k cap n F) (hf : Fr S w w') (hs : ¬ S g) : Lies w' g e k cap n F := by
  obtain ⟨cur, h1, h2, h3, h4⟩ := h
  exact ⟨cur, hf.blk h1 hs, h2, h3, h4⟩
theorem Lies.cell {w : World} {g : Nat} {e : TypeId} {k : IntKind} {cap n : Nat} {F : Nat → Int} (h : Lies w g e k cap n F) {i : Nat} (hi : i < n) : w.cell? ⟨g, i, none⟩ = some (.int k (F i)) := by
  obtain ⟨cur, h1, h2, h3, h4⟩ := h
  exact blk_cell h1 (h4 i hi)
theorem Lies.frozen {w : World} {g : Nat} {e : TypeId} {k : IntKind} {cap n : Nat} {F : Nat → Int} (h : Lies w g e k cap n F) (i : Nat) : w.frozen? ⟨g, i, none⟩ = false := by
  obtain ⟨cur, h1, h2, h3, h4⟩ := h
  exact blk_frozen h1 i
theorem Lies.ext {w : World} {g : Nat} {e : TypeId} {k : IntKind} {cap n : Nat} {F F' : Nat → Int} (h : Lies w g e k cap n F) (hf : ∀ i, i < n → F i = F' i) : Lies w g e k cap n F' := by
  obtain ⟨cur, h1, h2, h3, h4⟩ := h
  exact ⟨cur, h1, h2, h3, fun i hi => by rw [h4 i hi, hf i hi]⟩
theorem Lies.set {w : World} {g : Nat} {e : TypeId} {k : IntKind} {cap n : Nat} {F : Nat → Int} (h : Lies w g e k cap n F) (i : Nat) (x : Int) : Lies (w.setCell ⟨g, i, none⟩ (.int k x)) g e k cap n (upd F i x) := by
  obtain ⟨cur, h1, h2, h3, h4⟩ := h
  refine ⟨_, blk_set h1, by simp [h2], h3, fun j hj => ?_⟩
  rw [Array.getElem?_setIfInBounds, upd]
  by_cases h : i = j
  · subst h; simp; omega
  · rw [if_neg h, if_neg (fun e => h e.symm)]; exact h4 j hj
theorem Lies.drewN {w : World} {g : Nat} {e : TypeId} {k : IntKind} {cap n : Nat} {F : Nat → Int} (h : Lies w g e k cap n F) (m : Nat) : Lies (w.drewN m) g e k cap n F := h
theorem Lies.arr {w : World} {g : Nat} {e : TypeId} {k : IntKind} {n : Nat} {F : Nat → Int} (h : Lies w g e k n n F) : w.heap[g]? = some (.cells (arr k n F) e) := by
  obtain ⟨cur, h1, h2, h3, h4⟩ := h
  have : cur = Go.Proofs.Ytphdnfilenkanaa.arr k n F := by
    apply Array.ext_getElem?
    intro i
    rw [arr_get?]
    by_cases h : i < n
    · rw [if_pos h]; exact h4 i h
    · rw [if_neg h]; simp; omega
  rw [← this]; exact h1
theorem Lies.ofArr {w : World} {g : Nat} {e : TypeId} {k : IntKind} {n : Nat} {F : Nat → Int} (h : w.heap[g]? = some (.cells (Go.Proofs.Ytphdnfilenkanaa.arr k n F) e)) : Lies w g e k n n F :=
  ⟨_, h, arr_size _ _ _, Nat.le_refl _, fun i hi => arr_get _ _ _ hi⟩
/-- numbers m laid over F from place off on. -/
def lay (F : Nat → Int) (off m : Nat) (f : Nat → Int) : Nat → Int := fun i => if off ≤ i ∧ i < off + m then f (i - off) else F i
/-- one copy of m integers, as a step of a region. -/
theorem step_copy_lay {P : Program} {ops : Array Oper} {o : Oper} {a : Act} {w : World} {K : Act → World → Prop} {Q : Exit → Act → World → Prop} {E : Prop} (hgd : o.guard = none) (d s : Operand) (dT sT : TypeId)
    (ho : o.op = .call { callee := .builtin .copy, args := #[d, s], argTypes := #[dT, sT] }) (elem t : TypeId) (hu : P.underlying dT = some (.slice elem)) (hsz : (P.info? elem).map (·.size) = some 1)
    (g off dLen dCap gs offs sLen sCap : Nat) (hd : a.eval d = .slice (some ⟨g, off, none⟩) dLen dCap) (hs : a.eval s = .slice (some ⟨gs, offs, none⟩) sLen sCap)
    (k : IntKind) (cap n : Nat) (F : Nat → Int) (hg : Lies w g t k cap n F) (m : Nat) (hm : m = Nat.min sLen dLen) (f : Nat → Int) (hsrc : ∀ i, i < m → w.cell? ⟨gs, offs + i, none⟩ = some (.int k (f i))) (hfit : off + m ≤ n)
    (h : ∀ w', Fr (fun i => i = g) w w' → Lies w' g t k cap n (lay F off m f) → K (a.put o.dst (goInt m)) w') :
    if Region.wanted o (yielded ops a.tmps) = true then Oper.wp P o a w K Q else E := by
  have hw : Region.wanted o (yielded ops a.tmps) = true := by simp [Region.wanted, hgd]
  rw [if_pos hw]
  obtain ⟨cur, h1, h2, h3, h4⟩ := hg
  obtain ⟨cs, hcs⟩ : ∃ cs, cs = (List.range m).map fun j => Value.int k (f j) := ⟨_, rfl⟩
  have hl : cs.length = m := by rw [hcs]; simp
  have hget : ∀ j, j < m → cs[j]? = some (.int k (f j)) := fun j hj => by rw [hcs]; simp [hj]
  have hrun := run_copy_row (P := P) w dT sT o.type elem g off dLen dCap ⟨gs, offs, none⟩ sLen sCap cur t cs hu hsz h1 (by rw [hl, hm]) ?_ (by rw [hl, h2]; omega) ?_
  · have hu : K (a.put o.dst (goInt cs.length)) (w.setRow g (over cur off cs)) → Oper.wp P o a w K Q := by
      intro hk
      unfold Oper.wp
      simp [execOp, ho, resolve, invoke, builtin, hd, hs, hrun, Result.andThen]
      exact hk
    refine hu ?_
    rw [hl]
    refine h _ ⟨rfl, rfl, rfl, by simp [World.setRow], fun i _ hi => setRow_other w g i _ hi⟩ ⟨over cur off cs, setRow_heap w g _ _ t _ h1, ?_, h3, fun i hi => ?_⟩
    · rw [over_size _ _ _ (by rw [hl, h2]; omega), h2]
    · rw [over_get _ _ _ (by rw [hl, h2]; omega), lay, hl]
      by_cases hc : off ≤ i ∧ i < off + m
      · rw [if_pos hc, if_pos hc]; exact hget _ (by omega)
      · rw [if_neg hc, if_neg hc]; exact h4 i hi
  · intro j v hj
    have hjm : j < m := by
      have := List.getElem?_eq_some_iff.1 hj
      obtain ⟨hlt, _⟩ := this
      omega
    rw [hget j hjm] at hj
    cases hj
    have e : (⟨gs, offs, none⟩ : Addr).add j = ⟨gs, offs + j, none⟩ := by unfold Addr.add; split <;> simp_all
    rw [e]
    exact hsrc j hjm
  · intro v hv
    rw [hcs] at hv
    simp at hv
    obtain ⟨j, _, rfl⟩ := hv
    rfl
/-- a slice of the call's own: empty without a block, or a block's row. -/
theorem Own.lies {w : World} {base : Nat} {k : IntKind} {e : TypeId} {v : Value} {xs : List Int} {n : Nat} (h : Own w base k e v xs) (hn : xs.length = n) (h0 : 0 < n) :
    ∃ g cap, v = .slice (some ⟨g, 0, none⟩) n cap ∧ base ≤ g ∧ cap ≤ maxLen ∧ Lies w g e k cap n (lit xs) := by
  subst hn
  obtain ⟨h1, h2⟩ := h
  rcases h2 with ⟨hv, hn⟩ | ⟨g, cap, cur, hv, hg, hh, hnc, hcm, hsz, htk⟩
  · omega
  · refine ⟨g, cap, hv, hg, hcm, cur, hh, by omega, hnc, fun i hi => ?_⟩
    have e1 := map_getD k xs hi
    rw [← htk, List.getElem?_take_of_lt (by omega)] at e1
    simpa [lit] using e1
theorem Lies.own {w : World} {base g cap n : Nat} {k : IntKind} {e : TypeId} {F : Nat → Int} (h : Lies w g e k cap n F) (hb : base ≤ g) (hc : cap ≤ maxLen) :
    Own w base k e (.slice (some ⟨g, 0, none⟩) n cap) ((List.range n).map F) := by
  obtain ⟨cur, h1, h2, h3, h4⟩ := h
  refine ⟨by simp, .inr ⟨g, cap, cur, by simp, hb, h1, by simpa using h3, hc, by omega, ?_⟩⟩
  apply List.ext_getElem?
  intro i
  simp only [List.length_map, List.length_range, Nat.mul_one]
  by_cases hi : i < n
  · rw [List.getElem?_take_of_lt hi]
    have := h4 i hi
    simpa [hi] using this
  · rw [List.getElem?_eq_none (by simp; omega)]
    simp [hi]
end Go.Proofs.Ytphdnfilenkanaa

/- bcj2: where a filter lies; row.meet, row.begin. -/
namespace Go.Proofs.Ytphdnfilenkanaa
open Go.RowKit

/-- the number of an instruction's probability, behind the byte a; none: it is no instruction. -/
def whichQ (a : Nat) (b : Int) : Option Nat := if b = 232 then some a else if b = 233 then some 256 else if a = 15 ∧ 128 ≤ b ∧ b ≤ 143 then some 257 else none
theorem whichQ_lt {a : Nat} {b : Int} {k : Nat} (ha : a < 256) (h : whichQ a b = some k) : k < 258 := by
  unfold whichQ at h
  split at h
  · injection h with h; omega
  · split at h
    · injection h with h; omega
    · split at h
      · injection h with h; omega
      · cases h
theorem and240 : ∀ x : Fin 256, (bits .and .u8 (x.val : Int) 240 = 128) ↔ (128 ≤ x.val ∧ x.val ≤ 143) := by decide +kernel
theorem and240' (b : Int) (h0 : 0 ≤ b) (h1 : b < 256) : (bits .and .u8 b 240 == 128) = decide (128 ≤ b ∧ b ≤ 143) := by
  have h := and240 ⟨b.toNat, by omega⟩
  have e : ((b.toNat : Nat) : Int) = b := by omega
  simp only at h
  rw [e] at h
  by_cases hb : 128 ≤ b ∧ b ≤ 143
  · rw [h.2 (by omega)]
    simp [hb.1, hb.2]
  · have : ¬ bits .and .u8 b 240 = 128 := fun x => hb (by have := h.1 x; omega)
    rw [decide_eq_false hb]
    simpa using this
def ptrQ (g off : Nat) (k : Option Nat) : Value := .pointer (k.map fun k => ⟨g, off + k, none⟩)

set_option maxRecDepth 100000 in
theorem meetq_any (g off a : Nat) (b : Int) (cs : Array Value) (T : TypeId) (w : World) (hb : w.heap[g]? = some (.cells cs T)) (hc : cs[off + 258]? = some (.int .u8 (a : Int))) (ha : a < 256) (h0 : 0 ≤ b) (h1 : b < 256) :
    Calls Try.prog 25 #[.pointer (some ⟨g, off, none⟩), .int .u8 b] w fun e w' => e = .returned (ptrQ g off (whichQ a b)) ∧ w' = w.setCell ⟨g, off + 258, none⟩ (.int .u8 b) := by
  have c0 := blk_cell hb hc
  have f0 := blk_frozen hb (off + 258)
  have ha0 : (0 : Int) ≤ (a : Int) := by omega
  have ha1 : (a : Int) < 256 := by omega
  have ha2 : (a : Int) < 258 := by omega
  clear hb hc
  by_cases e1 : b = 232
  · subst e1
    have HW := hid (show whichQ a 232 = some a from if_pos rfl)
    go_enter Try.func25, Try.ntmps25
    go_wp2
    go_ret
    refine ⟨?_, rfl⟩
    rw [HW.out]
    rfl
  · by_cases e2 : b = 233
    · subst e2
      have HW := hid (show whichQ a 233 = some 256 from rfl)
      go_enter Try.func25, Try.ntmps25
      go_wp2
      go_ret
      refine ⟨?_, rfl⟩
      rw [HW.out]
      rfl
    · have q1 : (b == 232) = false := by simp [e1]
      have q2 : (b == 233) = false := by simp [e2]
      have q3 := and240' b h0 h1
      by_cases e3 : a = 15
      · subst e3
        by_cases e4 : 128 ≤ b ∧ b ≤ 143
        · have HW := hid (show whichQ 15 b = some 257 from by unfold whichQ; rw [if_neg e1, if_neg e2, if_pos ⟨rfl, e4⟩])
          rw [decide_eq_true e4] at q3
          clear e1 e2 e4
          go_enter Try.func25, Try.ntmps25
          go_wp2
          go_ret
          refine ⟨?_, rfl⟩
          rw [HW.out]
          rfl
        · have HW := hid (show whichQ 15 b = none from by unfold whichQ; rw [if_neg e1, if_neg e2, if_neg (fun h => e4 h.2)])
          rw [decide_eq_false e4] at q3
          clear e1 e2 e4
          go_enter Try.func25, Try.ntmps25
          go_wp2
          go_ret
          refine ⟨?_, rfl⟩
          rw [HW.out]
          rfl
      · have HW := hid (show whichQ a b = none from by unfold whichQ; rw [if_neg e1, if_neg e2, if_neg (fun h => e3 h.1)])
        have q4 : ((a : Int) == 15) = false := by simp; omega
        clear e1 e2 e3 q3
        go_enter Try.func25, Try.ntmps25
        go_wp2
        go_ret
        refine ⟨?_, rfl⟩
        rw [HW.out]
        rfl

/-- one copy of cells, as a step of a region: the block behind it is written out by the prover. -/
theorem step_copy_raw {P : Program} {ops : Array Oper} {o : Oper} {a : Act} {w : World} {K : Act → World → Prop} {Q : Exit → Act → World → Prop} {E : Prop} (hgd : o.guard = none) (d s : Operand) (dT sT : TypeId)
    (ho : o.op = .call { callee := .builtin .copy, args := #[d, s], argTypes := #[dT, sT] }) (elem t : TypeId) (hu : P.underlying dT = some (.slice elem)) (hsz : (P.info? elem).map (·.size) = some 1)
    (g off dLen dCap gs offs sLen sCap : Nat) (hd : a.eval d = .slice (some ⟨g, off, none⟩) dLen dCap) (hs : a.eval s = .slice (some ⟨gs, offs, none⟩) sLen sCap)
    (cur new : Array Value) (hg : w.heap[g]? = some (.cells cur t)) (cs : List Value) (hm : cs.length = Nat.min sLen dLen) (hsrc : ∀ j v, cs[j]? = some v → w.cell? ((⟨gs, offs, none⟩ : Addr).add j) = some v) (hfit : off + cs.length ≤ cur.size)
    (h1 : ∀ v ∈ cs, v.oneCell' = true) (hnew : (cur.toList.take off ++ cs ++ cur.toList.drop (off + cs.length)).toArray = new)
    (h : ∀ w', Fr (fun i => i = g) w w' → w'.heap[g]? = some (.cells new t) → K (a.put o.dst (goInt cs.length)) w') :
    if Region.wanted o (yielded ops a.tmps) = true then Oper.wp P o a w K Q else E := by
  have hw : Region.wanted o (yielded ops a.tmps) = true := by simp [Region.wanted, hgd]
  rw [if_pos hw]
  have hrun := run_copy_row (P := P) w dT sT o.type elem g off dLen dCap ⟨gs, offs, none⟩ sLen sCap cur t cs hu hsz hg hm hsrc hfit h1
  rw [hnew] at hrun
  have hu : K (a.put o.dst (goInt cs.length)) (w.setRow g new) → Oper.wp P o a w K Q := by
    intro hk
    unfold Oper.wp
    simp [execOp, ho, resolve, invoke, builtin, hd, hs, hrun, Result.andThen]
    exact hk
  refine hu (h _ ⟨rfl, rfl, rfl, by simp [World.setRow], fun i _ hi => setRow_other w g i _ hi⟩ (setRow_heap w g _ _ t _ hg))
theorem src_cells {w : World} {gs : Nat} {cs : Array Value} {t : TypeId} {f : Nat × Nat} (h : w.heap[gs]? = some (.cells cs t f)) (offs : Nat) (l : List Value) (hl : ∀ j, j < l.length → cs[offs + j]? = l[j]?) :
    ∀ j v, l[j]? = some v → w.cell? ((⟨gs, offs, none⟩ : Addr).add j) = some v := by
  intro j v hj
  have hlt : j < l.length := (List.getElem?_eq_some_iff.1 hj).1
  have e : (⟨gs, offs, none⟩ : Addr).add j = ⟨gs, offs + j, none⟩ := by unfold Addr.add; split <;> simp_all
  rw [e]
  exact blk_cell h (by rw [hl j hlt]; exact hj)
theorem size_u16q : (Try.prog.info? 46).map (·.size) = some 1 := by kernel_rfl
theorem splice_arr (A B : Array Value) (k : IntKind) (n off : Nat) (q r : Nat → Int) (hA : A.size = off) :
    (((A ++ arr k n q) ++ B).toList.take off ++ (arr k n r).toList ++ ((A ++ arr k n q) ++ B).toList.drop (off + (arr k n r).toList.length)).toArray = (A ++ arr k n r) ++ B := by
  have h1 : A.toList.length = off := by simpa using hA
  have h2 : (arr k n r).toList.length = (arr k n q).toList.length := by simp [arr_size]
  rw [h2]
  simp only [Array.toList_append, List.append_assoc]
  rw [List.take_append_of_le_length (by omega), List.take_of_length_le (by omega)]
  rw [show off + (arr k n q).toList.length = A.toList.length + (arr k n q).toList.length from by omega, ← List.drop_drop, List.drop_left, List.drop_left]
  simp
theorem arr_one {k : IntKind} {n : Nat} {q : Nat → Int} : ∀ v ∈ (arr k n q).toList, v.oneCell' = true := by
  intro v hv
  simp [arr] at hv
  obtain ⟨i, _, rfl⟩ := hv
  rfl
def BegPost (g : Nat) (A B : Array Value) (T : TypeId) (w : World) (e : Ending) (w' : World) : Prop :=
  e = .returned (.tuple #[]) ∧ Fr (fun k => k = g) w w' ∧ w'.heap[g]? = some (.cells ((A ++ arr .u16 258 (fun _ => 1024)) ++ B) T)
set_option maxRecDepth 100000 in
theorem beginq_any (g off : Nat) (A B : Array Value) (q : Nat → Int) (T : TypeId) (w : World) (hA : A.size = off) (hb : w.heap[g]? = some (.cells ((A ++ arr .u16 258 q) ++ B) T)) :
    Calls Try.prog 24 #[.pointer (some ⟨g, off, none⟩)] w (BegPost g A B T w) := by
  have H := hid hb
  have HA := hid hA
  have hlt := blk_lt hb
  clear hb hA
  go_enter Try.func24, Try.ntmps24
  go_region_held3 (fun _ => True) (trivial) (first
    | (go_at_call 39; refine (fresh_any 258 _ (by decide)).mono ?_; rintro e w2 ⟨gs, hlo, rfl, hf2, hb2⟩)
    | (refine step_copy_raw rfl (.tmp 5) (.tmp 6) 43 43 rfl 46 T Try.underlying43 size_u16q g off 258 258 gs 0 258 258 rfl rfl ((A ++ arr .u16 258 q) ++ B) ((A ++ arr .u16 258 (fun _ => 1024)) ++ B) (by exact hf2.blk H.out id) (arr .u16 258 (fun _ => 1024)).toList (by simp [arr_size]) (src_cells (by exact hb2) 0 _ (fun j hj => by simp)) (by have := HA.out; simp [arr_size]; omega) arr_one (splice_arr A B .u16 258 off q _ HA.out) ?_; intro w3 hf3 hb3))
  go_wp2_with fail
  go_end0
  exact ⟨rfl, (Fr.drew (Fr.refl _ w)).trans (hf2.any.trans hf3), hb3⟩
end Go.Proofs.Ytphdnfilenkanaa

/- bcj2.Filter in plain words: its state, what Next and Finish answer; where it lies. -/
namespace Go.Proofs.Ytphdnfilenkanaa
open Go.RowKit

/-- a filter's layout: its block, its decoder's, its four sources. -/
structure BQ where
  g : Nat
  gr : Nat
  s0 : Sour Nat
  s1 : Sour Nat
  s2 : Sour Nat
  s3 : Sour Nat
/-- a filter's state. -/
structure FQ where
  m : Nat
  c : Nat
  j : Nat
  d : RD Nat
  q : Nat → Int
  ahead : Nat
  size : Nat
  told : Nat
  word : Nat → Int
  waits : Nat
  bad : Bool
def BQ.headC (L : BQ) : Array Value := #[.iface L.s0.ty L.s0.val, .iface L.s1.ty L.s1.val, .iface L.s2.ty L.s2.val, .iface L.s3.ty L.s3.val, .pointer (some ⟨L.gr, 0, none⟩)]
def FQ.tail (f : FQ) : Array Value := #[.int .u8 f.ahead, .int .i64 f.size, .int .i64 f.told, .int .u8 (f.word 0), .int .u8 (f.word 1), .int .u8 (f.word 2), .int .u8 (f.word 3), .int .i64 f.waits, .bool f.bad]
def BQ.cells (L : BQ) (f : FQ) : Array Value := (L.headC ++ arr .u16 258 f.q) ++ f.tail
theorem cellsQ_head (L : BQ) (f : FQ) {i : Nat} (h : i < 5) : (L.cells f)[i]? = L.headC[i]? := by
  unfold BQ.cells
  rw [Array.getElem?_append_left (by simp [arr_size, BQ.headC]; omega), Array.getElem?_append_left (by simp [BQ.headC]; omega)]
theorem cellsQ_p (L : BQ) (f : FQ) {i : Nat} (h : i < 258) : (L.cells f)[5 + i]? = some (.int .u16 (f.q i)) := by
  unfold BQ.cells
  rw [Array.getElem?_append_left (by simp [arr_size, BQ.headC]; omega), Array.getElem?_append_right (by simp [BQ.headC])]
  have e : 5 + i - L.headC.size = i := by simp [BQ.headC]
  rw [e, arr_get _ _ _ h]
theorem cellsQ_tail (L : BQ) (f : FQ) {i : Nat} : (L.cells f)[263 + i]? = f.tail[i]? := by
  unfold BQ.cells
  rw [Array.getElem?_append_right (by simp [arr_size, BQ.headC])]
  have e : 263 + i - (L.headC ++ arr .u16 258 f.q).size = i := by simp [arr_size, BQ.headC]
  rw [e]
theorem cellsQ_set_p (L : BQ) (f : FQ) {i : Nat} (h : i < 258) (x : Int) : (L.cells f).setIfInBounds (5 + i) (.int .u16 x) = L.cells { f with q := upd f.q i x } := by
  unfold BQ.cells
  rw [Array.setIfInBounds_append_left (by simp [arr_size, BQ.headC]; omega), Array.setIfInBounds_append_right (by simp [BQ.headC])]
  have e : 5 + i - L.headC.size = i := by simp [BQ.headC]
  rw [e, arr_set]
  rfl
theorem cellsQ_set (L : BQ) (f f' : FQ) {i : Nat} {v : Value} (hq : f'.q = f.q) (h : f.tail.setIfInBounds i v = f'.tail) : (L.cells f).setIfInBounds (263 + i) v = L.cells f' := by
  unfold BQ.cells
  rw [Array.setIfInBounds_append_right (by simp [arr_size, BQ.headC])]
  have e : 263 + i - (L.headC ++ arr .u16 258 f.q).size = i := by simp [arr_size, BQ.headC]
  rw [e, h, hq]
theorem cellsQ_size (L : BQ) (f : FQ) : (L.cells f).size = 272 := by simp [BQ.cells, BQ.headC, FQ.tail, arr_size]

def BQ.foot (L : BQ) (k : Nat) : Prop := k = L.g ∨ L.s0.foot k ∨ L.s1.foot k ∨ L.s2.foot k ∨ decFoot L.s3 L.gr k
/-- nobody's block is another one's. -/
structure BQ.Apart (L : BQ) : Prop where
  g0 : ¬ L.s0.foot L.g
  g1 : ¬ L.s1.foot L.g
  g2 : ¬ L.s2.foot L.g
  gd : ¬ decFoot L.s3 L.gr L.g
  a01 : ∀ k, L.s0.foot k → ¬ L.s1.foot k
  a02 : ∀ k, L.s0.foot k → ¬ L.s2.foot k
  a0d : ∀ k, L.s0.foot k → ¬ decFoot L.s3 L.gr k
  a12 : ∀ k, L.s1.foot k → ¬ L.s2.foot k
  a1d : ∀ k, L.s1.foot k → ¬ decFoot L.s3 L.gr k
  a2d : ∀ k, L.s2.foot k → ¬ decFoot L.s3 L.gr k
structure FQIs (L : BQ) (w : World) (f : FQ) : Prop where
  at_ : w.heap[L.g]? = some (.cells (L.cells f) 78)
  main : L.s0.I w f.m
  calls : L.s1.I w f.c
  jumps : L.s2.I w f.j
  dec : DecIs L.s3 L.gr w f.d
structure FQ.Ok (f : FQ) : Prop where
  pr : Pr f.q 258
  ahead : f.ahead < 256
  size : f.size ≤ 9223372036854775807
  told : f.told ≤ f.size
  waits : f.waits ≤ 4
theorem FQIs.keep {L : BQ} {w w' : World} {f : FQ} (h : FQIs L w f) {T : Nat → Prop} (hf : Fr T w w') (ht : ∀ k, L.foot k → ¬ T k) : FQIs L w' f :=
  ⟨hf.blk h.at_ (ht _ (.inl rfl)), L.s0.keep _ _ _ T h.main hf (fun k hk => ht k (.inr (.inl hk))), L.s1.keep _ _ _ T h.calls hf (fun k hk => ht k (.inr (.inr (.inl hk)))),
   L.s2.keep _ _ _ T h.jumps hf (fun k hk => ht k (.inr (.inr (.inr (.inl hk))))), h.dec.keep hf (fun k hk => ht k (.inr (.inr (.inr (.inr hk)))))⟩
/-- only the filter's own block has turned. -/
theorem FQIs.own {L : BQ} (ha : L.Apart) {w w' : World} {f f' : FQ} (h : FQIs L w f) (hf : Fr (fun k => k = L.g) w w') (hb : w'.heap[L.g]? = some (.cells (L.cells f') 78)) (h1 : f'.m = f.m) (h2 : f'.c = f.c) (h3 : f'.j = f.j) (h4 : f'.d = f.d) : FQIs L w' f' :=
  ⟨hb, by rw [h1]; exact L.s0.keep _ _ _ _ h.main hf (fun k hk e => ha.g0 (e ▸ hk)), by rw [h2]; exact L.s1.keep _ _ _ _ h.calls hf (fun k hk e => ha.g1 (e ▸ hk)),
   by rw [h3]; exact L.s2.keep _ _ _ _ h.jumps hf (fun k hk e => ha.g2 (e ▸ hk)), by rw [h4]; exact h.dec.keep hf (fun k hk e => ha.gd (e ▸ hk))⟩

/-! ### the plain state machine -/
/-- k bytes of a source behind a number: the number, whether one was missing, the source. -/
def takeQ (nx : Nat → Int × Bool × Nat) : Nat → Int → Bool → Nat → Int × Bool × Nat
  | 0, p, b, s => (p, b, s)
  | k + 1, p, b, s => takeQ nx k (p * 256 % 4294967296 + (nx s).1) (b || !(nx s).2.1) (nx s).2.2
def wordQ (p : Int) : Nat → Int := fun i => if i = 0 then p % 256 else if i = 1 then p / 256 % 256 else if i = 2 then p / 65536 % 256 else p / 16777216 % 256
/-- what stands apart comes to wait. -/
def FQ.target (n1 n2 : Nat → Int × Bool × Nat) (f : FQ) (b : Int) : FQ :=
  let r := if b = 232 then takeQ n1 4 0 f.bad f.c else takeQ n2 4 0 f.bad f.j
  let f1 : FQ := if b = 232 then { f with c := r.2.2 } else { f with j := r.2.2 }
  let bad := r.2.1 || decide (f.size - f.told < 4)
  if bad = true then { f1 with bad := true } else
  let p := (r.1 - (f.told + 4)) % 4294967296
  { f1 with word := wordQ p, waits := 4, ahead := (p / 16777216 % 256).toNat, bad := false }
def FQ.next (L : BQ) (f : FQ) : Int × Bool × FQ :=
  if f.bad = true ∨ f.told = f.size then (0, false, f)
  else if 0 < f.waits then (f.word (4 - f.waits), true, { f with waits := f.waits - 1, told := f.told + 1 })
  else if (L.s0.nx f.m).2.1 = false then (0, false, { f with m := (L.s0.nx f.m).2.2, bad := true })
  else
    let b := (L.s0.nx f.m).1
    let f1 : FQ := { f with m := (L.s0.nx f.m).2.2, told := f.told + 1, ahead := b.toNat }
    match whichQ f.ahead b with
    | none => (b, true, f1)
    | some k =>
      if f.told + 1 < f.size then
        let r := f.d.bit L.s3.nx (f.q k)
        let f2 : FQ := { f1 with d := r.2.2, q := upd f.q k r.2.1, bad := r.2.2.bad }
        if r.1 = 1 then (b, true, f2.target L.s1.nx L.s2.nx b) else (b, true, f2)
      else (b, true, f1)
end Go.Proofs.Ytphdnfilenkanaa

/- bcj2.Filter.target. -/
namespace Go.Proofs.Ytphdnfilenkanaa
open Go.RowKit

theorem takeQ_step (nx : Nat → Int × Bool × Nat) {k : Nat} (hk : k < 4) (p : Int) (b : Bool) (s : Nat) : takeQ nx (4 - k) p b s = takeQ nx (4 - (k + 1)) (p * 256 % 4294967296 + (nx s).1) (b || !(nx s).2.1) (nx s).2.2 := by
  rw [show 4 - k = 4 - (k + 1) + 1 from by omega]
  rfl
def TgtPost (L : BQ) (w : World) (f' : FQ) (e : Ending) (w' : World) : Prop := e = .returned (.tuple #[]) ∧ Fr L.foot w w' ∧ FQIs L w' f'
theorem takeQ_bd (s : Sour Nat) (k : Nat) : ∀ (p : Int) (b : Bool) (t : Nat), 0 ≤ p ∧ p < 4294967296 → 0 ≤ (takeQ s.nx k p b t).1 ∧ (takeQ s.nx k p b t).1 < 4294967296 := by
  induction k with
  | zero => intro p b t h; exact h
  | succ k ih => intro p b t h; have := s.byte t; exact ih _ _ _ (by omega)
theorem FQIs.calls_ {L : BQ} (ha : L.Apart) {w w' : World} {f : FQ} (h : FQIs L w f) {c : Nat} (hf : Fr L.s1.foot w w') (hi : L.s1.I w' c) : FQIs L w' { f with c := c } :=
  ⟨hf.blk h.at_ ha.g1, L.s0.keep _ _ _ _ h.main hf (fun k hk e => ha.a01 k hk e), hi, L.s2.keep _ _ _ _ h.jumps hf (fun k hk e => ha.a12 k e hk), h.dec.keep hf (fun k hk e => ha.a1d k e hk)⟩
theorem FQIs.jumps_ {L : BQ} (ha : L.Apart) {w w' : World} {f : FQ} (h : FQIs L w f) {c : Nat} (hf : Fr L.s2.foot w w') (hi : L.s2.I w' c) : FQIs L w' { f with j := c } :=
  ⟨hf.blk h.at_ ha.g2, L.s0.keep _ _ _ _ h.main hf (fun k hk e => ha.a02 k hk e), L.s1.keep _ _ _ _ h.calls hf (fun k hk e => ha.a12 k hk e), hi, h.dec.keep hf (fun k hk e => ha.a2d k e hk)⟩
theorem FQIs.bad_ {L : BQ} (ha : L.Apart) {w : World} {f : FQ} (h : FQIs L w f) (b : Bool) : FQIs L (w.setCell ⟨L.g, 271, none⟩ (.bool b)) { f with bad := b } := by
  refine h.own ha ((Fr.refl _ _).setOne _ _) ?_ rfl rfl rfl rfl
  have e := blk_set (i := 263 + 8) (v := .bool b) h.at_
  rw [cellsQ_set L f { f with bad := b } rfl rfl] at e
  exact e
theorem cellsQ_setT (L : BQ) (q : Nat → Int) (t : Array Value) (i : Nat) (v : Value) : ((L.headC ++ arr .u16 258 q) ++ t).setIfInBounds (263 + i) v = (L.headC ++ arr .u16 258 q) ++ t.setIfInBounds i v := by
  rw [Array.setIfInBounds_append_right (by simp [arr_size, BQ.headC])]
  have e : 263 + i - (L.headC ++ arr .u16 258 q).size = i := by simp [arr_size, BQ.headC]
  rw [e]
theorem FQIs.wait_ {L : BQ} (ha : L.Apart) {w : World} {f : FQ} (h : FQIs L w f) (x0 x1 x2 x3 x4 : Int) (P : Int) (h0 : x0 = P % 256) (h1 : x1 = P / 256 % 256) (h2 : x2 = P / 65536 % 256) (h3 : x3 = P / 16777216 % 256) (h4 : x4 = P / 16777216 % 256) :
    FQIs L ((((((w.setCell ⟨L.g, 266, none⟩ (.int .u8 x0)).setCell ⟨L.g, 267, none⟩ (.int .u8 x1)).setCell ⟨L.g, 268, none⟩ (.int .u8 x2)).setCell ⟨L.g, 269, none⟩ (.int .u8 x3)).setCell ⟨L.g, 270, none⟩ (.int .i64 4)).setCell ⟨L.g, 263, none⟩ (.int .u8 x4))
      { f with word := wordQ P, waits := 4, ahead := (P / 16777216 % 256).toNat } := by
  subst h0 h1 h2 h3 h4
  refine h.own ha (((((((Fr.refl _ _).setOne _ _).setOne _ _).setOne _ _).setOne _ _).setOne _ _).setOne _ _) ?_ rfl rfl rfl rfl
  have e := blk_set (i := 263 + 0) (v := .int .u8 (P / 16777216 % 256)) (blk_set (i := 263 + 7) (v := .int .i64 4) (blk_set (i := 263 + 6) (v := .int .u8 (P / 16777216 % 256)) (blk_set (i := 263 + 5) (v := .int .u8 (P / 65536 % 256)) (blk_set (i := 263 + 4) (v := .int .u8 (P / 256 % 256)) (blk_set (i := 263 + 3) (v := .int .u8 (P % 256)) h.at_)))))
  unfold BQ.cells at e
  rw [cellsQ_setT, cellsQ_setT, cellsQ_setT, cellsQ_setT, cellsQ_setT, cellsQ_setT] at e
  rw [e]
  unfold BQ.cells FQ.tail
  have e2 : (((P / 16777216 % 256).toNat : Nat) : Int) = P / 16777216 % 256 := by omega
  simp only [e2]
  rfl
theorem target_bad_c {n1 n2 : Nat → Int × Bool × Nat} {f : FQ} {p : Int} {b : Bool} {s : Nat} (h : takeQ n1 4 0 f.bad f.c = (p, b, s)) (hb : (b || decide (f.size - f.told < 4)) = true) : f.target n1 n2 232 = { f with c := s, bad := true } := by
  unfold FQ.target
  simp only [if_pos, h, hb]
theorem target_ok_c {n1 n2 : Nat → Int × Bool × Nat} {f : FQ} {p : Int} {s : Nat} (h : takeQ n1 4 0 f.bad f.c = (p, false, s)) (hb : ¬ f.size - f.told < 4) :
    f.target n1 n2 232 = { f with c := s, bad := false, word := wordQ ((p - (f.told + 4)) % 4294967296), waits := 4, ahead := ((p - (f.told + 4)) % 4294967296 / 16777216 % 256).toNat } := by
  unfold FQ.target
  simp [h, hb]
set_option maxRecDepth 100000 in
set_option maxHeartbeats 2000000 in
theorem ftarget_call (L : BQ) (ha : L.Apart) (f : FQ) (hok : f.Ok) (w : World) (h : FQIs L w f) :
    Calls Try.prog 35 #[.pointer (some ⟨L.g, 0, none⟩), .int .u8 232] w (TgtPost L w (f.target L.s1.nx L.s2.nx 232)) := by
  have c1 := blk_cell h.at_ (j := 1) (v := .iface L.s1.ty L.s1.val) (by rw [cellsQ_head _ _ (by decide)]; rfl)
  have c2 := blk_cell h.at_ (j := 2) (v := .iface L.s2.ty L.s2.val) (by rw [cellsQ_head _ _ (by decide)]; rfl)
  have H := hid h
  have HA := hid ha
  have HOK := hid hok
  clear h ha hok
  go_enter Try.func35, Try.ntmps35
  go_wp2_with fail
  go_loopw [5, 20] (fun pv kv wr => ∃ k : Nat, k ≤ 4 ∧ kv = .int .i64 k ∧ ∃ p : Int, ∃ b : Bool, ∃ s : Nat, pv = .int .u32 p ∧ 0 ≤ p ∧ p < 4294967296 ∧ takeQ L.s1.nx 4 0 f.bad f.c = takeQ L.s1.nx (4 - k) p b s ∧ FQIs L wr { f with c := s, bad := b } ∧ Fr L.foot w wr) (fun _ kv _ => 4 - (intOf kv).toNat)
  case atStart => exact ⟨0, by omega, rfl, 0, f.bad, f.c, rfl, by omega, by omega, rfl, H.out, Fr.refl _ _⟩
  case round =>
    obtain ⟨k, hk, rfl, p, b, s, rfl, hp0, hp1, htq, hfq, hfr⟩ := hrel
    have HTQ := hid htq
    have HFQ := hid hfq
    have HFR := hid hfr
    clear htq hfq hfr c1 c2
    by_cases hlt : k < 4
    · go_wp2_with (refine opInvoke rfl (.tmp 23) "Next" rfl L.s1.ty L.s1.val rfl L.s1.fid L.s1.val L.s1.meth L.s1.enter ?_; intro K hK)
      refine (L.s1.call _ s HFQ.out.calls).mono ?_
      rintro e w1 ⟨rfl, hf1, hi1⟩
      have hb := L.s1.byte s
      obtain ⟨nx, hnx⟩ : ∃ nx, nx = L.s1.nx s := ⟨_, rfl⟩
      rw [← hnx] at hb hi1 ⊢
      have HNX := hid hnx
      obtain ⟨x, ok, s'⟩ := nx
      obtain ⟨hb0, hb1⟩ := hb
      dsimp only at hb0 hb1 hi1
      have HF1 := hid hf1
      have H1 := hid (HFQ.out.calls_ HA.out hf1 hi1)
      have d8 := blk_cell H1.out.at_ (j := 263 + 8) (v := .bool b) (by rw [cellsQ_tail]; rfl)
      have z8 := blk_frozen H1.out.at_ (263 + 8)
      clear hf1 hi1 hnx
      have hor := or_byte' p x hp0 hb0 hb1
      have HTS := hid (show takeQ L.s1.nx 4 0 f.bad f.c = takeQ L.s1.nx (4 - (k + 1)) (p * 256 % 4294967296 + x) (b || !ok) s' from by have := takeQ_step L.s1.nx hlt p b s; rw [← HNX.out] at this; rw [HTQ.out, this])
      refine hK _ _ ?_
      clear hK K
      dsimp only
      cases b with
      | true =>
        go_wp2_with fail
        go_roundw
        case rel => exact ⟨k + 1, by omega, by go_num, _, true, s', rfl, by omega, by omega, HTS.out, H1.out.bad_ HA.out true, (HFR.out.then HF1.out (fun i hi e => .inr (.inr (.inl e)))).setCell (fun _ => .inl rfl) _⟩
        case measure => simp [intOf]; omega
      | false =>
        cases ok with
        | true =>
          go_wp2_with fail
          go_roundw
          case rel => exact ⟨k + 1, by omega, by go_num, _, false, s', rfl, by omega, by omega, HTS.out, H1.out.bad_ HA.out false, (HFR.out.then HF1.out (fun i hi e => .inr (.inr (.inl e)))).setCell (fun _ => .inl rfl) _⟩
          case measure => simp [intOf]; omega
        | false =>
          go_wp2_with fail
          go_roundw
          case rel => exact ⟨k + 1, by omega, by go_num, _, true, s', rfl, by omega, by omega, HTS.out, H1.out.bad_ HA.out true, (HFR.out.then HF1.out (fun i hi e => .inr (.inr (.inl e)))).setCell (fun _ => .inl rfl) _⟩
          case measure => simp [intOf]; omega
    · obtain rfl : k = 4 := by omega
      have d1 := blk_cell HFQ.out.at_ (j := 263 + 1) (v := .int .i64 f.size) (by rw [cellsQ_tail]; rfl)
      have d2 := blk_cell HFQ.out.at_ (j := 263 + 2) (v := .int .i64 f.told) (by rw [cellsQ_tail]; rfl)
      have d8 := blk_cell HFQ.out.at_ (j := 263 + 8) (v := .bool b) (by rw [cellsQ_tail]; rfl)
      have z8 := blk_frozen HFQ.out.at_ (263 + 8)
      have HR := hid (show takeQ L.s1.nx 4 0 f.bad f.c = (p, b, s) from HTQ.out)
      have ht0 := HOK.out.told
      have ht1 := HOK.out.size
      clear HTQ
      by_cases hs : f.size - f.told < 4
      · have q1 : (f.size : Int) - (f.told : Int) < 4 := by omega
        have HS := hid (show (b || decide (f.size - f.told < 4)) = true by rw [decide_eq_true hs]; simp)
        clear hs
        go_wp2_with fail
        go_quiet (fail)
        go_wp2_with fail
        go_end0
        rw [target_bad_c HR.out HS.out]
        exact ⟨rfl, (HFR.out.drewN _).setCell (fun _ => .inl rfl) _, (FQIs.bad_ HA.out (HFQ.out.keep ((Fr.refl Non _).drewN _) (fun _ _ e => e)) true)⟩
      · cases b with
        | true =>
          have q1 : ¬ (f.size : Int) - (f.told : Int) < 4 := by omega
          clear hs
          go_wp2_with fail
          go_quiet (fail)
          go_wp2_with fail
          go_end0
          rw [target_bad_c HR.out rfl]
          exact ⟨rfl, HFR.out.drewN _, HFQ.out.keep ((Fr.refl Non _).drewN _) (fun _ _ e => e)⟩
        | false =>
          have q1 : ¬ (f.size : Int) - (f.told : Int) < 4 := by omega
          have d3 := blk_cell HFQ.out.at_ (j := 263 + 3) (v := .int .u8 (f.word 0)) (by rw [cellsQ_tail]; rfl)
          have d4 := blk_cell HFQ.out.at_ (j := 263 + 4) (v := .int .u8 (f.word 1)) (by rw [cellsQ_tail]; rfl)
          have d5 := blk_cell HFQ.out.at_ (j := 263 + 5) (v := .int .u8 (f.word 2)) (by rw [cellsQ_tail]; rfl)
          have d6 := blk_cell HFQ.out.at_ (j := 263 + 6) (v := .int .u8 (f.word 3)) (by rw [cellsQ_tail]; rfl)
          have d7 := blk_cell HFQ.out.at_ (j := 263 + 7) (v := .int .i64 f.waits) (by rw [cellsQ_tail]; rfl)
          have d0 := blk_cell HFQ.out.at_ (j := 263 + 0) (v := .int .u8 f.ahead) (by rw [cellsQ_tail]; rfl)
          have z0 := blk_frozen HFQ.out.at_ (263 + 0)
          have z3 := blk_frozen HFQ.out.at_ (263 + 3)
          have z4 := blk_frozen HFQ.out.at_ (263 + 4)
          have z5 := blk_frozen HFQ.out.at_ (263 + 5)
          have z6 := blk_frozen HFQ.out.at_ (263 + 6)
          have z7 := blk_frozen HFQ.out.at_ (263 + 7)
          have HS := hid hs
          clear hs
          go_wp2_with fail
          go_quiet (fail)
          go_wp2_with fail
          go_end0
          rw [target_ok_c HR.out HS.out]
          refine ⟨rfl, ?_, ?_⟩
          · exact ((((((HFR.out.drewN _).setCell (fun _ => .inl rfl) _).setCell (fun _ => .inl rfl) _).setCell (fun _ => .inl rfl) _).setCell (fun _ => .inl rfl) _).setCell (fun _ => .inl rfl) _).setCell (fun _ => .inl rfl) _
          · exact FQIs.wait_ HA.out (HFQ.out.keep ((Fr.refl Non _).drewN _) (fun _ _ e => e)) _ _ _ _ _ ((p - (f.told + 4)) % 4294967296) (by omega) rfl rfl (by omega) (by omega)
end Go.Proofs.Ytphdnfilenkanaa

/- bcj2.Filter.target, for what is no call (written out of XBq2). -/
namespace Go.Proofs.Ytphdnfilenkanaa
open Go.RowKit

theorem target_bad_j {n1 n2 : Nat → Int × Bool × Nat} {f : FQ} {p x : Int} (hx : ¬ x = 232) {b : Bool} {s : Nat} (h : takeQ n2 4 0 f.bad f.j = (p, b, s)) (hb : (b || decide (f.size - f.told < 4)) = true) : f.target n1 n2 x = { f with j := s, bad := true } := by
  unfold FQ.target
  simp only [if_neg hx, h, hb, if_pos]
theorem target_ok_j {n1 n2 : Nat → Int × Bool × Nat} {f : FQ} {p x : Int} (hx : ¬ x = 232) {s : Nat} (h : takeQ n2 4 0 f.bad f.j = (p, false, s)) (hb : ¬ f.size - f.told < 4) :
    f.target n1 n2 x = { f with j := s, bad := false, word := wordQ ((p - (f.told + 4)) % 4294967296), waits := 4, ahead := ((p - (f.told + 4)) % 4294967296 / 16777216 % 256).toNat } := by
  unfold FQ.target
  simp [hx, h, hb]
set_option maxRecDepth 100000 in
set_option maxHeartbeats 2000000 in
theorem ftarget_jump (L : BQ) (ha : L.Apart) (f : FQ) (hok : f.Ok) (x0 : Int) (hx0 : ¬ x0 = 232) (w : World) (h : FQIs L w f) :
    Calls Try.prog 35 #[.pointer (some ⟨L.g, 0, none⟩), .int .u8 x0] w (TgtPost L w (f.target L.s1.nx L.s2.nx x0)) := by
  have c1 := blk_cell h.at_ (j := 1) (v := .iface L.s1.ty L.s1.val) (by rw [cellsQ_head _ _ (by decide)]; rfl)
  have c2 := blk_cell h.at_ (j := 2) (v := .iface L.s2.ty L.s2.val) (by rw [cellsQ_head _ _ (by decide)]; rfl)
  have H := hid h
  have HA := hid ha
  have HOK := hid hok
  have HX := hid hx0
  have hq0 : (x0 == 232) = false := by simp [hx0]
  clear h ha hok hx0
  go_enter Try.func35, Try.ntmps35
  go_wp2_with fail
  go_loopw [5, 20] (fun pv kv wr => ∃ k : Nat, k ≤ 4 ∧ kv = .int .i64 k ∧ ∃ p : Int, ∃ b : Bool, ∃ s : Nat, pv = .int .u32 p ∧ 0 ≤ p ∧ p < 4294967296 ∧ takeQ L.s2.nx 4 0 f.bad f.j = takeQ L.s2.nx (4 - k) p b s ∧ FQIs L wr { f with j := s, bad := b } ∧ Fr L.foot w wr) (fun _ kv _ => 4 - (intOf kv).toNat)
  case atStart => exact ⟨0, by omega, rfl, 0, f.bad, f.j, rfl, by omega, by omega, rfl, H.out, Fr.refl _ _⟩
  case round =>
    obtain ⟨k, hk, rfl, p, b, s, rfl, hp0, hp1, htq, hfq, hfr⟩ := hrel
    have HTQ := hid htq
    have HFQ := hid hfq
    have HFR := hid hfr
    clear htq hfq hfr c1 c2
    by_cases hlt : k < 4
    · go_wp2_with (refine opInvoke rfl (.tmp 23) "Next" rfl L.s2.ty L.s2.val rfl L.s2.fid L.s2.val L.s2.meth L.s2.enter ?_; intro K hK)
      refine (L.s2.call _ s HFQ.out.jumps).mono ?_
      rintro e w1 ⟨rfl, hf1, hi1⟩
      have hb := L.s2.byte s
      obtain ⟨nx, hnx⟩ : ∃ nx, nx = L.s2.nx s := ⟨_, rfl⟩
      rw [← hnx] at hb hi1 ⊢
      have HNX := hid hnx
      obtain ⟨x, ok, s'⟩ := nx
      obtain ⟨hb0, hb1⟩ := hb
      dsimp only at hb0 hb1 hi1
      have HF1 := hid hf1
      have H1 := hid (HFQ.out.jumps_ HA.out hf1 hi1)
      have d8 := blk_cell H1.out.at_ (j := 263 + 8) (v := .bool b) (by rw [cellsQ_tail]; rfl)
      have z8 := blk_frozen H1.out.at_ (263 + 8)
      clear hf1 hi1 hnx
      have hor := or_byte' p x hp0 hb0 hb1
      have HTS := hid (show takeQ L.s2.nx 4 0 f.bad f.j = takeQ L.s2.nx (4 - (k + 1)) (p * 256 % 4294967296 + x) (b || !ok) s' from by have := takeQ_step L.s2.nx hlt p b s; rw [← HNX.out] at this; rw [HTQ.out, this])
      refine hK _ _ ?_
      clear hK K
      dsimp only
      cases b with
      | true =>
        go_wp2_with fail
        go_roundw
        case rel => exact ⟨k + 1, by omega, by go_num, _, true, s', rfl, by omega, by omega, HTS.out, H1.out.bad_ HA.out true, (HFR.out.then HF1.out (fun i hi e => .inr (.inr (.inr (.inl e))))).setCell (fun _ => .inl rfl) _⟩
        case measure => simp [intOf]; omega
      | false =>
        cases ok with
        | true =>
          go_wp2_with fail
          go_roundw
          case rel => exact ⟨k + 1, by omega, by go_num, _, false, s', rfl, by omega, by omega, HTS.out, H1.out.bad_ HA.out false, (HFR.out.then HF1.out (fun i hi e => .inr (.inr (.inr (.inl e))))).setCell (fun _ => .inl rfl) _⟩
          case measure => simp [intOf]; omega
        | false =>
          go_wp2_with fail
          go_roundw
          case rel => exact ⟨k + 1, by omega, by go_num, _, true, s', rfl, by omega, by omega, HTS.out, H1.out.bad_ HA.out true, (HFR.out.then HF1.out (fun i hi e => .inr (.inr (.inr (.inl e))))).setCell (fun _ => .inl rfl) _⟩
          case measure => simp [intOf]; omega
    · obtain rfl : k = 4 := by omega
      have d1 := blk_cell HFQ.out.at_ (j := 263 + 1) (v := .int .i64 f.size) (by rw [cellsQ_tail]; rfl)
      have d2 := blk_cell HFQ.out.at_ (j := 263 + 2) (v := .int .i64 f.told) (by rw [cellsQ_tail]; rfl)
      have d8 := blk_cell HFQ.out.at_ (j := 263 + 8) (v := .bool b) (by rw [cellsQ_tail]; rfl)
      have z8 := blk_frozen HFQ.out.at_ (263 + 8)
      have HR := hid (show takeQ L.s2.nx 4 0 f.bad f.j = (p, b, s) from HTQ.out)
      have ht0 := HOK.out.told
      have ht1 := HOK.out.size
      clear HTQ
      by_cases hs : f.size - f.told < 4
      · have q1 : (f.size : Int) - (f.told : Int) < 4 := by omega
        have HS := hid (show (b || decide (f.size - f.told < 4)) = true by rw [decide_eq_true hs]; simp)
        clear hs
        go_wp2_with fail
        go_quiet (fail)
        go_wp2_with fail
        go_end0
        rw [target_bad_j HX.out HR.out HS.out]
        exact ⟨rfl, (HFR.out.drewN _).setCell (fun _ => .inl rfl) _, (FQIs.bad_ HA.out (HFQ.out.keep ((Fr.refl Non _).drewN _) (fun _ _ e => e)) true)⟩
      · cases b with
        | true =>
          have q1 : ¬ (f.size : Int) - (f.told : Int) < 4 := by omega
          clear hs
          go_wp2_with fail
          go_quiet (fail)
          go_wp2_with fail
          go_end0
          rw [target_bad_j HX.out HR.out rfl]
          exact ⟨rfl, HFR.out.drewN _, HFQ.out.keep ((Fr.refl Non _).drewN _) (fun _ _ e => e)⟩
        | false =>
          have q1 : ¬ (f.size : Int) - (f.told : Int) < 4 := by omega
          have d3 := blk_cell HFQ.out.at_ (j := 263 + 3) (v := .int .u8 (f.word 0)) (by rw [cellsQ_tail]; rfl)
          have d4 := blk_cell HFQ.out.at_ (j := 263 + 4) (v := .int .u8 (f.word 1)) (by rw [cellsQ_tail]; rfl)
          have d5 := blk_cell HFQ.out.at_ (j := 263 + 5) (v := .int .u8 (f.word 2)) (by rw [cellsQ_tail]; rfl)
          have d6 := blk_cell HFQ.out.at_ (j := 263 + 6) (v := .int .u8 (f.word 3)) (by rw [cellsQ_tail]; rfl)
          have d7 := blk_cell HFQ.out.at_ (j := 263 + 7) (v := .int .i64 f.waits) (by rw [cellsQ_tail]; rfl)
          have d0 := blk_cell HFQ.out.at_ (j := 263 + 0) (v := .int .u8 f.ahead) (by rw [cellsQ_tail]; rfl)
          have z0 := blk_frozen HFQ.out.at_ (263 + 0)
          have z3 := blk_frozen HFQ.out.at_ (263 + 3)
          have z4 := blk_frozen HFQ.out.at_ (263 + 4)
          have z5 := blk_frozen HFQ.out.at_ (263 + 5)
          have z6 := blk_frozen HFQ.out.at_ (263 + 6)
          have z7 := blk_frozen HFQ.out.at_ (263 + 7)
          have HS := hid hs
          clear hs
          go_wp2_with fail
          go_quiet (fail)
          go_wp2_with fail
          go_end0
          rw [target_ok_j HX.out HR.out HS.out]
          refine ⟨rfl, ?_, ?_⟩
          · exact ((((((HFR.out.drewN _).setCell (fun _ => .inl rfl) _).setCell (fun _ => .inl rfl) _).setCell (fun _ => .inl rfl) _).setCell (fun _ => .inl rfl) _).setCell (fun _ => .inl rfl) _).setCell (fun _ => .inl rfl) _
          · exact FQIs.wait_ HA.out (HFQ.out.keep ((Fr.refl Non _).drewN _) (fun _ _ e => e)) _ _ _ _ _ ((p - (f.told + 4)) % 4294967296) (by omega) rfl rfl (by omega) (by omega)

theorem FQIs.main_ {L : BQ} (ha : L.Apart) {w w' : World} {f : FQ} (h : FQIs L w f) {m : Nat} (hf : Fr L.s0.foot w w') (hi : L.s0.I w' m) : FQIs L w' { f with m := m } :=
  ⟨hf.blk h.at_ ha.g0, hi, L.s1.keep _ _ _ _ h.calls hf (fun k hk e => ha.a01 k e hk), L.s2.keep _ _ _ _ h.jumps hf (fun k hk e => ha.a02 k e hk), h.dec.keep hf (fun k hk e => ha.a0d k e hk)⟩
theorem FQIs.rc_ {L : BQ} (ha : L.Apart) {w w' : World} {f f' : FQ} (h : FQIs L w f) (hf : Fr (bitFoot L.s3 L.gr L.g) w w') (hd : DecIs L.s3 L.gr w' f'.d) (hb : w'.heap[L.g]? = some (.cells (L.cells f') 78)) (h1 : f'.m = f.m) (h2 : f'.c = f.c) (h3 : f'.j = f.j) : FQIs L w' f' :=
  ⟨hb, by rw [h1]; exact L.s0.keep _ _ _ _ h.main hf (fun k hk e => e.elim (fun e => ha.a0d k hk e) (fun e => ha.g0 (e ▸ hk))), by rw [h2]; exact L.s1.keep _ _ _ _ h.calls hf (fun k hk e => e.elim (fun e => ha.a1d k hk e) (fun e => ha.g1 (e ▸ hk))),
   by rw [h3]; exact L.s2.keep _ _ _ _ h.jumps hf (fun k hk e => e.elim (fun e => ha.a2d k hk e) (fun e => ha.g2 (e ▸ hk))), hd⟩
/-- a cell of the filter's end is set. -/
theorem FQIs.cell_ {L : BQ} (ha : L.Apart) {w : World} {f f' : FQ} (h : FQIs L w f) (i : Nat) (v : Value) (hq : f'.q = f.q) (ht : f.tail.setIfInBounds i v = f'.tail) (h1 : f'.m = f.m) (h2 : f'.c = f.c) (h3 : f'.j = f.j) (h4 : f'.d = f.d) : FQIs L (w.setCell ⟨L.g, 263 + i, none⟩ v) f' := by
  refine h.own ha ((Fr.refl _ _).setOne _ _) ?_ h1 h2 h3 h4
  have e := blk_set (i := 263 + i) (v := v) h.at_
  rw [cellsQ_set L f f' hq ht] at e
  exact e
theorem FQIs.get_ {L : BQ} {w : World} {f : FQ} (h : FQIs L w f) (i : Nat) {v : Value} (hv : f.tail[i]? = some v) : w.cell? ⟨L.g, 263 + i, none⟩ = some v := blk_cell h.at_ (by rw [cellsQ_tail]; exact hv)
theorem FQIs.froz_ {L : BQ} {w : World} {f : FQ} (h : FQIs L w f) (i : Nat) : w.frozen? ⟨L.g, 263 + i, none⟩ = false := blk_frozen h.at_ _
end Go.Proofs.Ytphdnfilenkanaa
