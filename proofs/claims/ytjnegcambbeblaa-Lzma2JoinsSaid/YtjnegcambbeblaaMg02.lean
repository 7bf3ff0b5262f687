/- Texts of this proof, one behind the other. -/
import Derived.Test.YtjnegcambbeblaaMg01
import Derived.Deep.CutBlock
import Derived.Deep.DeepCutAuto
import Derived.Deep.RegionLaw
import Derived.Laws.LoneSync
import Derived.BigQuiet
import Derived.Deep.QuietTactic
import Derived.BigRegion
import Derived.Laws.ResultCell
import Derived.Deep.RegionHeld3
import Derived.Deep.RegionWith
import Derived.StillTailTactics

/- The range decoder: reverse trees, bits told straight. -/
namespace Go.Proofs.Ytjnegcambbeblaa
open Go.RowKit

/-- k bits more of a reverse tree, the next one the i-th. -/
def RD.revGo {S : Type} (nx : S → Int × Bool × S) : Nat → Nat → RD S → (Nat → Int) → Nat → Nat → Nat × (Nat → Int) × RD S
  | 0, _, d, q, _, out => (out, q, d)
  | k + 1, i, d, q, m, out => RD.revGo nx k (i + 1) (d.bit nx (q m)).2.2 (upd q m (d.bit nx (q m)).2.1) (2 * m + (d.bit nx (q m)).1) (out + (d.bit nx (q m)).1 * 2 ^ i)
def RD.rev {S : Type} (nx : S → Int × Bool × S) (k : Nat) (d : RD S) (q : Nat → Int) : Nat × (Nat → Int) × RD S :=
  (if (RD.revGo nx k 0 d q 1 0).2.2.bad = true then 0 else (RD.revGo nx k 0 d q 1 0).1, (RD.revGo nx k 0 d q 1 0).2)
theorem or_high (out b i : Nat) (hb : b ≤ 1) (ho : out < 2 ^ i) (hi : i ≤ 32) : bits .or .i64 (out : Int) (wrap64 ((b : Int) * 2 ^ i)) = ((out + b * 2 ^ i : Nat) : Int) := by
  have hp : 2 ^ i ≤ 2 ^ 32 := Nat.pow_le_pow_right (by decide) hi
  have hbp : b * 2 ^ i ≤ 2 ^ 32 := by
    rcases Nat.le_one_iff_eq_zero_or_eq_one.1 hb with rfl | rfl
    · simp
    · simpa using hp
  have e : (b : Int) * 2 ^ i = ((b * 2 ^ i : Nat) : Int) := by simp
  rw [e, IntWalk.wrap64_in _ ⟨by omega, by omega⟩, i64_or_nat _ _ (by omega) (by omega), Nat.or_comm, nat_or_low _ _ i ho]
  congr 1
  omega

set_option maxRecDepth 100000 in
set_option maxHeartbeats 1000000 in
theorem drev_any {S : Type} (s : Sour S) (g gp off len cap B : Nat) (cs : Array Value) (T : TypeId) (d : RD S) (q : Nat → Int) (w : World) (h : DecIs s g w d) (hg : ¬ decFoot s g gp)
    (hb : w.heap[gp]? = some (.cells cs T)) (hc : ∀ j, j < 2 ^ B → cs[off + j]? = some (.int .u16 (q j))) (hp : Pr q (2 ^ B)) (hB : B ≤ 16) (hL : 2 ^ B ≤ len) (hlen : len ≤ 1048576) :
    Calls Try.prog 128 #[.pointer (some ⟨g, 0, none⟩), .slice (some ⟨gp, off, none⟩) len cap, .int .i64 B] w
      (TreePost s g gp off (2 ^ B) cs T w (.int .i64 (d.rev s.nx B q).1) (d.rev s.nx B q).2.1 (d.rev s.nx B q).2.2) := by
  have H := hid h
  have Hg := hid hg
  have Hb := hid hb
  have Hc := hid hc
  have Hp := hid hp
  clear h hg hb hc hp
  obtain ⟨L, hL1⟩ : ∃ L, L = 2 ^ B := ⟨_, rfl⟩
  rw [← hL1] at hL
  have HL := hid hL1
  clear hL1
  go_enter Try.func128, Try.ntmps128
  go_wp2
  go_loopw [7, 8, 12] (fun mv ov i wr => ∃ (k m out : Nat) (d1 : RD S) (q1 : Nat → Int) (cs1 : Array Value), k ≤ B ∧ i = .int .i64 k ∧ mv = .int .i64 m ∧ ov = .int .i64 out ∧ m < 2 ^ (k + 1) ∧ out < 2 ^ k ∧
      RD.revGo s.nx (B - k) k d1 q1 m out = RD.revGo s.nx B 0 d q 1 0 ∧ Fr (bitFoot s g gp) w wr ∧ DecIs s g wr d1 ∧ wr.heap[gp]? = some (.cells cs1 T) ∧ Win cs cs1 off L q1 ∧ Pr q1 L)
    (fun _ _ i _ => B - (intOf i).toNat)
  case atStart =>
    exact ⟨0, 1, 0, d, q, cs, Nat.zero_le _, rfl, rfl, rfl, by decide, by decide, rfl, Fr.refl _ _, H.out, Hb.out, Win.self (by rw [HL.out]; exact Hc.out), by rw [HL.out]; exact Hp.out⟩
  case round =>
    obtain ⟨k, m, out, d1, q1, cs1, hk, rfl, rfl, rfl, hm1, ho, hgo, hfr, hdec, hblk, hwin, hpr⟩ := hrel
    have Hgo := hid hgo
    have Hfr := hid hfr
    have Hdec := hid hdec
    have Hblk := hid hblk
    have Hwin := hid hwin
    have Hpr := hid hpr
    have Ho := hid ho
    clear hgo hfr hdec hblk hwin hpr ho
    by_cases hlt : k < B
    · have hmL : m < L := by
        have : 2 ^ (k + 1) ≤ 2 ^ B := Nat.pow_le_pow_right (by decide) hlt
        rw [HL.out]; omega
      have hm2 : m < 1048576 := by omega
      have hbit := Hpr.out m hmL
      have Hm1 := hid hm1
      clear hm1
      go_wp2_with fail
      refine (dbit_any s g gp (off + m) cs1 T d1 (q1 m) _ Hdec.out Hg.out Hblk.out (Hwin.out.cell m hmL) (by omega) (by omega)).mono ?_
      rintro e w1 ⟨rfl, hf1, hd1, hb1⟩
      have hb2 := bit_le s.nx d1 (q1 m)
      have hb3 := bit_prob s.nx d1 (q1 m) hbit.1 hbit.2
      have Hf1 := hid hf1
      have Hd1 := hid hd1
      have Hb1 := hid hb1
      have Hb3 := hid hb3
      have Hor := hid (or_bit m (d1.bit s.nx (q1 m)).1 hb2 (by omega))
      have Hor2 := hid (or_high out (d1.bit s.nx (q1 m)).1 k hb2 Ho.out (by omega))
      clear hf1 hd1 hb1 hb3
      go_wp2_with fail
      go_roundw
      case rel =>
        refine ⟨k + 1, 2 * m + (d1.bit s.nx (q1 m)).1, out + (d1.bit s.nx (q1 m)).1 * 2 ^ k, (d1.bit s.nx (q1 m)).2.2, upd q1 m (d1.bit s.nx (q1 m)).2.1, _, by omega, by go_num, by rw [Hor.out], ?_, ?_, ?_, ?_, ?_, Hd1.out, Hb1.out, Hwin.out.set hmL _, Hpr.out.upd m Hb3.out.1 Hb3.out.2⟩
        · rw [Hor2.out]
        · have := Hm1.out; rw [Nat.pow_succ]; omega
        · have := Ho.out
          have h2 : (d1.bit s.nx (q1 m)).1 * 2 ^ k ≤ 1 * 2 ^ k := Nat.mul_le_mul_right _ hb2
          rw [Nat.pow_succ]; omega
        · have e : B - k = (B - (k + 1)) + 1 := by omega
          have := Hgo.out
          rw [e] at this
          exact this
        · exact Fr.then Hfr.out Hf1.out (fun _ _ h => h)
      case measure => simp [intOf]; omega
    · have e : k = B := by omega
      subst e
      have hgo := Hgo.out
      rw [Nat.sub_self] at hgo
      have c3 := blk_cell Hdec.out.at_ (j := 3) (v := .bool d1.bad) rfl
      have hfin : ∀ v : Nat, v = (d.rev s.nx k q).1 → TreePost s g gp off (2 ^ k) cs T w (.int .i64 (d.rev s.nx k q).1) (d.rev s.nx k q).2.1 (d.rev s.nx k q).2.2 (.returned (.int .i64 v)) wr := by
        intro v hv
        unfold RD.rev at hv ⊢
        rw [← hgo] at hv ⊢
        exact ⟨by rw [hv], Hfr.out, Hdec.out, cs1, Hblk.out, by rw [← HL.out]; exact Hwin.out⟩
      have hval : (d.rev s.nx k q).1 = if d1.bad = true then 0 else out := by
        unfold RD.rev
        rw [← hgo]
        rfl
      have HFin := hid hfin
      have HVal := hid hval
      clear hfin hval hgo hm1
      cases hbad : d1.bad with
      | true =>
        rw [hbad] at c3
        have HB := hid hbad
        clear hbad
        go_wp2_with fail
        go_ret
        exact HFin.out 0 (by rw [HVal.out, if_pos HB.out])
      | false =>
        rw [hbad] at c3
        have HB := hid hbad
        clear hbad
        go_wp2_with fail
        go_ret
        exact HFin.out out (by rw [HVal.out, if_neg (by rw [HB.out]; decide)])

/-- one bit told straight. -/
def RD.str1 {S : Type} (nx : S → Int × Bool × S) (d : RD S) : Nat × RD S :=
  if d.rng / 2 ≤ d.code then (1, RD.level nx ⟨d.src, d.rng / 2, d.code - d.rng / 2, decide (d.rng / 2 ≤ d.code - d.rng / 2)⟩)
  else (0, RD.level nx ⟨d.src, d.rng / 2, d.code, false⟩)
def RD.strGo {S : Type} (nx : S → Int × Bool × S) : Nat → RD S → Nat → Nat × RD S
  | 0, d, out => (out, d)
  | k + 1, d, out => if d.bad = true then (out, d) else RD.strGo nx k (d.str1 nx).2 (2 * out + (d.str1 nx).1)
def RD.str {S : Type} (nx : S → Int × Bool × S) (k : Nat) (d : RD S) : Nat × RD S :=
  (if (RD.strGo nx k d 0).2.bad = true then 0 else (RD.strGo nx k d 0).1, (RD.strGo nx k d 0).2)
theorem strGo_bad {S : Type} (nx : S → Int × Bool × S) (k : Nat) (d : RD S) (out : Nat) (h : d.bad = true) : RD.strGo nx k d out = (out, d) := by
  cases k with
  | zero => rfl
  | succ k => show (if d.bad = true then _ else _) = _; rw [if_pos h]
theorem strGo_good {S : Type} (nx : S → Int × Bool × S) (k : Nat) (d : RD S) (out : Nat) (h : d.bad = false) : RD.strGo nx (k + 1) d out = RD.strGo nx k (d.str1 nx).2 (2 * out + (d.str1 nx).1) := by
  show (if d.bad = true then _ else _) = _
  rw [h]; rfl
def StrPost {S : Type} (s : Sour S) (g : Nat) (w : World) (r : Nat × RD S) (e : Ending) (w' : World) : Prop :=
  e = .returned (.int .u32 r.1) ∧ Fr (decFoot s g) w w' ∧ DecIs s g w' r.2
theorem or_one_u32 (out : Nat) (h : out < 2147483648) : bits .or .u32 ((out : Int) * 2) 1 = ((2 * out + 1 : Nat) : Int) := by
  rw [u32_or _ _ (by omega) (by omega) (by decide) (by decide)]
  have e : ((out : Int) * 2).toNat = out * 2 ^ 1 := by omega
  rw [e]
  show ((out * 2 ^ 1 ||| 1 : Nat) : Int) = _
  rw [nat_or_low _ _ 1 (by decide)]
  omega

set_option maxRecDepth 100000 in
set_option maxHeartbeats 1000000 in
theorem dstr_any {S : Type} (s : Sour S) (g B : Nat) (d : RD S) (w : World) (h : DecIs s g w d) (hB : B ≤ 32) :
    Calls Try.prog 129 #[.pointer (some ⟨g, 0, none⟩), .int .i64 B] w (StrPost s g w (d.str s.nx B)) := by
  have H := hid h
  clear h
  go_enter Try.func129, Try.ntmps129
  go_upto_block 0 with fail
  go_cut [5] (fun ov wx => ∃ (out : Nat) (d1 : RD S), ov = .int .u32 out ∧ RD.strGo s.nx B d 0 = (out, d1) ∧ Fr (decFoot s g) w wx ∧ DecIs s g wx d1)
  case first =>
    go_wp2_with fail
    go_loopw [5, 7] (fun ov i wr => ∃ (k out : Nat) (d1 : RD S), k ≤ B ∧ i = .int .i64 k ∧ ov = .int .u32 out ∧ out < 2 ^ k ∧ RD.strGo s.nx (B - k) d1 out = RD.strGo s.nx B d 0 ∧ Fr (decFoot s g) w wr ∧ DecIs s g wr d1)
      (fun _ i _ => B - (intOf i).toNat)
    case atStart => exact ⟨0, 0, d, Nat.zero_le _, rfl, rfl, by decide, rfl, Fr.refl _ _, H.out⟩
    case round =>
      obtain ⟨k, out, d1, hk, rfl, rfl, ho, hgo, hfr, hdec⟩ := hrel
      have c1 := blk_cell hdec.at_ (j := 1) (v := .int .u32 d1.rng) rfl
      have c2 := blk_cell hdec.at_ (j := 2) (v := .int .u32 d1.code) rfl
      have c3 := blk_cell hdec.at_ (j := 3) (v := .bool d1.bad) rfl
      have f1 := blk_frozen hdec.at_ 1
      have f2 := blk_frozen hdec.at_ 2
      have f3 := blk_frozen hdec.at_ 3
      obtain ⟨o1, o2, o3, o4⟩ := hdec.ok
      have Hgo := hid hgo
      have Hfr := hid hfr
      have Hdec := hid hdec
      have Ho := hid ho
      clear hgo hfr hdec ho
      by_cases hlt : k < B
      · cases hbad : d1.bad with
        | true =>
          rw [hbad] at c3
          have HB := hid hbad
          clear hbad
          go_wp2_with fail
          go_meet
          exact ⟨out, d1, rfl, by rw [← Hgo.out, strGo_bad _ _ _ _ HB.out], Hfr.out, Hdec.out⟩
        | false =>
          rw [hbad] at c3
          have HB := hid hbad
          clear hbad
          have ho2 : out < 2147483648 := by
            have h1 := Ho.out
            have h2 : 2 ^ k ≤ 2 ^ 31 := Nat.pow_le_pow_right (by decide) (by omega)
            omega
          have hgo2 := Hgo.out
          rw [show B - k = (B - (k + 1)) + 1 by omega, strGo_good _ _ _ _ HB.out] at hgo2
          have Hgo2 := hid hgo2
          clear hgo2
          by_cases hge : d1.rng / 2 ≤ d1.code
          · obtain ⟨D, hD⟩ : ∃ D, D = RD.level s.nx ⟨d1.src, d1.rng / 2, d1.code - d1.rng / 2, decide (d1.rng / 2 ≤ d1.code - d1.rng / 2)⟩ := ⟨_, rfl⟩
            have e : d1.str1 s.nx = (1, D) := by unfold RD.str1; rw [if_pos hge, hD]
            have e2 : ∀ w0, DecIs s g w0 ⟨d1.src, d1.rng / 2, d1.code - d1.rng / 2, decide (d1.rng / 2 ≤ d1.code - d1.rng / 2)⟩ → Calls Try.prog 115 #[.pointer (some ⟨g, 0, none⟩)] w0 (DPost s g w0 (.tuple #[]) D) := fun w0 h0 => by
              rw [hD]; exact dlevel_any s g _ w0 h0
            have E := hid e
            have E2 := hid e2
            have Hor := hid (or_one_u32 out ho2)
            clear e e2 hD
            go_wp2
            go_quiet (fail)
            go_wp2
            go_region
            all_goals go_wp2
            all_goals go_region
            all_goals go_wp2_with fail
            refine (E2.out _ (by
              refine DecIs.drew ?_
              exact (((Hdec.out.set (d' := ⟨d1.src, d1.rng / 2, d1.code, d1.bad⟩) 1 _ rfl rfl ⟨by show 0 ≤ d1.rng / 2; omega, by show d1.rng / 2 < _; omega, o3, o4⟩).drewN _).set (d' := ⟨d1.src, d1.rng / 2, d1.code - d1.rng / 2, d1.bad⟩) 2 _ rfl rfl ⟨by show 0 ≤ d1.rng / 2; omega, by show d1.rng / 2 < _; omega, by show 0 ≤ d1.code - d1.rng / 2; omega, by show d1.code - d1.rng / 2 < _; omega⟩).set 3 _ rfl rfl ⟨by show 0 ≤ d1.rng / 2; omega, by show d1.rng / 2 < _; omega, by show 0 ≤ d1.code - d1.rng / 2; omega, by show d1.code - d1.rng / 2 < _; omega⟩)).mono ?_
            rintro e w1 ⟨rfl, hf1, hd1⟩
            have HF1 := hid hf1
            have HD1 := hid hd1
            clear hf1 hd1
            go_wp2_with fail
            go_roundw
            case rel =>
              refine ⟨k + 1, 2 * out + 1, D, by omega, by go_num, by rw [Hor.out], ?_, ?_, ?_, HD1.out⟩
              · have := Ho.out; rw [Nat.pow_succ]; omega
              · have := Hgo2.out
                rw [E.out] at this
                exact this
              · refine Hfr.out.trans (Fr.trans ?_ HF1.out)
                refine Fr.drew ?_
                refine Fr.setCell ?_ (fun _ => .inl rfl) _
                refine Fr.setCell ?_ (fun _ => .inl rfl) _
                refine Fr.drewN ?_ _
                refine Fr.setCell ?_ (fun _ => .inl rfl) _
                exact Fr.refl _ _
            case measure => simp [intOf]; omega
          · obtain ⟨D, hD⟩ : ∃ D, D = RD.level s.nx ⟨d1.src, d1.rng / 2, d1.code, false⟩ := ⟨_, rfl⟩
            have e : d1.str1 s.nx = (0, D) := by unfold RD.str1; rw [if_neg hge, hD]
            have e2 : ∀ w0, DecIs s g w0 ⟨d1.src, d1.rng / 2, d1.code, false⟩ → Calls Try.prog 115 #[.pointer (some ⟨g, 0, none⟩)] w0 (DPost s g w0 (.tuple #[]) D) := fun w0 h0 => by
              rw [hD]; exact dlevel_any s g _ w0 h0
            have E := hid e
            have E2 := hid e2
            clear e e2 hD
            go_wp2
            go_quiet (fail)
            go_wp2
            go_region
            all_goals go_wp2_with fail
            refine (E2.out _ (by
              rw [show decide (d1.rng / 2 ≤ d1.code) = false from decide_eq_false (by omega)]
              exact ((Hdec.out.set (d' := ⟨d1.src, d1.rng / 2, d1.code, d1.bad⟩) 1 _ rfl rfl ⟨by show 0 ≤ d1.rng / 2; omega, by show d1.rng / 2 < _; omega, o3, o4⟩).drewN _).set 3 _ rfl rfl ⟨by show 0 ≤ d1.rng / 2; omega, by show d1.rng / 2 < _; omega, o3, o4⟩)).mono ?_
            rintro e w1 ⟨rfl, hf1, hd1⟩
            have HF1 := hid hf1
            have HD1 := hid hd1
            clear hf1 hd1
            go_wp2_with fail
            go_roundw
            case rel =>
              refine ⟨k + 1, 2 * out + 0, D, by omega, by go_num, by go_num, ?_, ?_, ?_, HD1.out⟩
              · have := Ho.out; rw [Nat.pow_succ]; omega
              · have := Hgo2.out
                rw [E.out] at this
                exact this
              · refine Hfr.out.trans (Fr.trans ?_ HF1.out)
                refine Fr.setCell ?_ (fun _ => .inl rfl) _
                refine Fr.drewN ?_ _
                refine Fr.setCell ?_ (fun _ => .inl rfl) _
                exact Fr.refl _ _
            case measure => simp [intOf]; omega
      · have e : k = B := by omega
        subst e
        go_wp2_with fail
        go_meet
        exact ⟨out, d1, rfl, by rw [← Hgo.out, Nat.sub_self]; rfl, Hfr.out, Hdec.out⟩
  case rest =>
    obtain ⟨out, d1, rfl, hgo, hfr, hdec⟩ := hcut
    have c3 := blk_cell hdec.at_ (j := 3) (v := .bool d1.bad) rfl
    have Hgo := hid hgo
    have Hfr := hid hfr
    have Hdec := hid hdec
    clear hgo hfr hdec
    cases hbad : d1.bad with
    | true =>
      rw [hbad] at c3
      have HB := hid hbad
      clear hbad
      go_wp2_with fail
      go_ret
      unfold RD.str
      rw [Hgo.out, if_pos HB.out]
      exact ⟨rfl, Hfr.out, Hdec.out⟩
    | false =>
      rw [hbad] at c3
      have HB := hid hbad
      clear hbad
      go_wp2_with fail
      go_ret
      unfold RD.str
      rw [Hgo.out, if_neg (by rw [HB.out]; decide)]
      exact ⟨rfl, Hfr.out, Hdec.out⟩
end Go.Proofs.Ytjnegcambbeblaa

/- The range decoder: New, Fresh, Bad, Done. -/
namespace Go.Proofs.Ytjnegcambbeblaa
open Go.RowKit

theorem dbadq_any {S : Type} (s : Sour S) (g : Nat) (d : RD S) (w : World) (h : DecIs s g w d) :
    Calls Try.prog 89 #[.pointer (some ⟨g, 0, none⟩)] w fun e w' => e = .returned (.bool d.bad) ∧ w = w' := by
  have c3 := blk_cell h.at_ (j := 3) (v := .bool d.bad) rfl
  clear h
  go_enter Try.func89, Try.ntmps89
  go_wp2
  go_ret
  exact ⟨rfl, rfl⟩
def RD.done {S : Type} (d : RD S) : Bool := !d.bad && d.code == 0
theorem ddone_any {S : Type} (s : Sour S) (g : Nat) (d : RD S) (w : World) (h : DecIs s g w d) :
    Calls Try.prog 67 #[.pointer (some ⟨g, 0, none⟩)] w fun e w' => e = .returned (.bool d.done) ∧ w = w' := by
  have c3 := blk_cell h.at_ (j := 3) (v := .bool d.bad) rfl
  have c2 := blk_cell h.at_ (j := 2) (v := .int .u32 d.code) rfl
  clear h
  unfold RD.done
  cases hb : d.bad with
  | true =>
    rw [hb] at c3
    go_enter Try.func67, Try.ntmps67
    go_wp2
    go_ret
    exact ⟨rfl, rfl⟩
  | false =>
    rw [hb] at c3
    go_enter Try.func67, Try.ntmps67
    go_wp2
    go_ret
    exact ⟨rfl, rfl⟩

theorem Try.info_u16 : (Try.prog.info? 40).map (fun i => (i.zero, i.size, i.bytes)) = some (some (.int .u16 0), 1, 2) := by kernel_rfl
theorem make_u16 (n : Nat) (hn : n ≤ 1048576) (w : World) : (Instr.makeSlice 82 (.int .i64 n) (.int .i64 n)).run Try.prog w = .ok (.slice (some ⟨w.heap.size, 0, none⟩) n n) (w.alloc (.cells (arr .u16 n (fun _ => 0)) 40)) := by
  obtain ⟨i, hi, hz0, hz1, hz2⟩ := info_parts Try.info_u16
  have h := run_make (P := Try.prog) w 82 40 i (.int .u16 0) Try.underlying82 hi hz0 .i64 .i64 n n (by omega) (by omega) (by rw [hz2]; omega) (by omega)
  simp only [Int.toNat_natCast, hz1, arr_made] at h
  exact h
/-- n fresh probabilities in a block of their own. -/
def FreshPost (w : World) (n : Nat) (e : Ending) (w' : World) : Prop :=
  ∃ g, w.heap.size ≤ g ∧ e = .returned (.slice (some ⟨g, 0, none⟩) n n) ∧ Fr Non w w' ∧ w'.heap[g]? = some (.cells (arr .u16 n (fun _ => 1024)) 40)
set_option maxRecDepth 100000 in
theorem fresh_any (n : Nat) (w : World) (hn : n ≤ 1048576) : Calls Try.prog 114 #[.int .i64 n] w (FreshPost w n) := by
  have hmk := make_u16 n hn
  go_enter Try.func114, Try.ntmps114
  go_wp2
  go_loopw [9] (fun i wr => ∃ k : Nat, k ≤ n ∧ i = .int .i64 k ∧ Fr Non w wr ∧ wr.heap[w.heap.size]? = some (.cells (arr .u16 n (fun j => if j < k then 1024 else 0)) 40))
    (fun i _ => n - (intOf i).toNat)
  case atStart => exact ⟨0, Nat.zero_le _, rfl, (Fr.refl _ _).alloc _, by simpa using blk_new w _⟩
  case round =>
    obtain ⟨k, hk, rfl, hfr, hrow⟩ := hrel
    have Hfr := hid hfr
    have Hrow := hid hrow
    clear hfr
    by_cases hlt : k < n
    · have hc := blk_cell hrow (arr_get _ _ _ hlt)
      have hz := blk_frozen hrow k
      clear hrow
      go_wp2
      go_roundw
      case rel =>
        refine ⟨k + 1, by omega, by go_num, Fr.setNew Hfr.out (Nat.le_refl _) _ _, ?_⟩
        have e := blk_set (i := k) (v := .int .u16 1024) Hrow.out
        rw [arr_set] at e
        refine e.trans ?_
        congr 2
        refine arr_ext fun i hi => ?_
        unfold upd
        by_cases e1 : i = k
        · rw [if_pos e1, if_pos (by omega)]
        · rw [if_neg e1]
          show (if i < k then _ else _) = _
          by_cases e2 : i < k
          · rw [if_pos e2, if_pos (by omega)]
          · rw [if_neg e2, if_neg (by omega)]
      case measure => simp [intOf]; omega
    · have e : k = n := by omega
      subst e
      clear hrow
      go_wp2
      go_ret
      refine ⟨w.heap.size, Nat.le_refl _, rfl, Hfr.out, Hrow.out.trans ?_⟩
      congr 2
      exact arr_ext fun i hi => if_pos hi

/-- the beginning: a byte, which must be 0; four more, the code. -/
def RD.first {S : Type} (nx : S → Int × Bool × S) (s0 : S) : RD S :=
  if (RD.next nx ⟨s0, 4294967295, 0, false⟩).1 = 0 then (RD.next nx ⟨s0, 4294967295, 0, false⟩).2
  else ⟨(RD.next nx ⟨s0, 4294967295, 0, false⟩).2.src, 4294967295, 0, true⟩
def RD.four {S : Type} (nx : S → Int × Bool × S) : Nat → RD S → RD S
  | 0, d => d
  | k + 1, d => RD.four nx k ⟨(d.next nx).2.src, d.rng, d.code * 256 % 4294967296 + (d.next nx).1, (d.next nx).2.bad⟩
def RD.new {S : Type} (nx : S → Int × Bool × S) (s0 : S) : RD S :=
  ⟨(RD.four nx 4 (RD.first nx s0)).src, (RD.four nx 4 (RD.first nx s0)).rng, (RD.four nx 4 (RD.first nx s0)).code,
   (RD.four nx 4 (RD.first nx s0)).bad || decide ((RD.four nx 4 (RD.first nx s0)).rng ≤ (RD.four nx 4 (RD.first nx s0)).code)⟩
theorem or_byte' (c x : Int) (hc0 : 0 ≤ c) (hx0 : 0 ≤ x) (hx1 : x < 256) : bits BinOp.or IntKind.u32 (c * 256 % 4294967296) x = c * 256 % 4294967296 + x := by
  have h := or_byte c x hc0 hx0 hx1
  rw [IntKind.wrap_u32', IntKind.wrap_u32', Int.emod_eq_of_lt hx0 (by omega)] at h
  exact h
def NewPost {S : Type} (s : Sour S) (w : World) (d : RD S) (e : Ending) (w' : World) : Prop :=
  ∃ g, w.heap.size ≤ g ∧ g < w'.heap.size ∧ e = .returned (.pointer (some ⟨g, 0, none⟩)) ∧ Fr s.foot w w' ∧ DecIs s g w' d

set_option maxRecDepth 100000 in
set_option maxHeartbeats 1000000 in
theorem dnew_any {S : Type} (s : Sour S) (s0 : S) (w : World) (h : s.I w s0) (hlt : ∀ k, s.foot k → k < w.heap.size) :
    Calls Try.prog 58 #[.iface s.ty s.val] w (NewPost s w (RD.new s.nx s0)) := by
  have H := hid h
  have Hlt := hid hlt
  clear h hlt
  obtain ⟨g, hg⟩ : ∃ g, g = w.heap.size := ⟨_, rfl⟩
  have Hap : Hid (¬ s.foot g) := fun e => by have := Hlt.out g e; omega
  have D0 : Hid (DecIs s g (w.alloc (.cells #[.iface s.ty s.val, .int .u32 4294967295, .int .u32 0, .bool false] 162)) ⟨s0, 4294967295, 0, false⟩) :=
    ⟨by rw [hg]; exact blk_new _ _, s.keep _ _ _ Non H.out ((Fr.refl _ _).alloc _) (fun _ _ e => e), ⟨by show (0 : Int) ≤ 4294967295; decide, by show (4294967295 : Int) < 4294967296; decide, by show (0 : Int) ≤ 0; decide, by show (0 : Int) < 4294967296; decide⟩, Hap.out⟩
  have Hgg := hid hg
  clear hg
  go_enter Try.func58, Try.ntmps58
  go_wp2_with fail
  rw [← Hgg.out]
  obtain ⟨x, hx⟩ : ∃ x, x = (RD.next s.nx ⟨s0, 4294967295, 0, false⟩).1 := ⟨_, rfl⟩
  have hcall := dnext_any' s g _ _ D0.out
  rw [← hx] at hcall
  have HX := hid hx
  clear hx
  refine hcall.mono ?_
  clear hcall
  rintro e w1 ⟨rfl, hf1, hd1⟩
  have HF1 : Hid (Fr (decFoot s g) w w1) := ((Fr.refl _ _).alloc _).trans hf1
  have f3 := blk_frozen hd1.at_ 3
  have c3 := blk_cell hd1.at_ (j := 3) rfl
  have HD1 := hid hd1
  clear hf1 hd1
  go_upto_if 9 with fail
  go_cut [] (fun wx => Fr (decFoot s g) w wx ∧ DecIs s g wx (RD.first s.nx s0))
  case first =>
    by_cases h0 : x = 0
    · have H0 := hid h0
      have h1 : (x != 0) = false := by rw [h0]; rfl
      have h2 : (x == 0) = true := by rw [h0]; rfl
      clear h0
      go_wp2_with fail
      go_meet
      unfold RD.first
      rw [← HX.out, if_pos H0.out]
      exact ⟨HF1.out, by rw [dnext_same]; exact HD1.out⟩
    · have H0 := hid h0
      have h1 : (x != 0) = true := by simpa using h0
      have h2 : (x == 0) = false := by simpa using h0
      clear h0
      go_wp2_with fail
      go_meet
      unfold RD.first
      rw [← HX.out, if_neg H0.out]
      exact ⟨HF1.out.setCell (fun _ => .inl rfl) _, HD1.out.set 3 _ rfl rfl HD1.out.ok⟩
  case rest =>
    obtain ⟨hf, hd⟩ := hcut
    have HF := hid hf
    have HD := hid hd
    clear hf hd c3 f3
    go_upto_block 0 with fail
    go_cut [] (fun wx => Fr (decFoot s g) w wx ∧ DecIs s g wx (RD.four s.nx 4 (RD.first s.nx s0)))
    case first =>
      go_wp2_with fail
      go_loopw [13] (fun i wr => ∃ (k : Nat) (d1 : RD S), k ≤ 4 ∧ i = .int .i64 k ∧ RD.four s.nx (4 - k) d1 = RD.four s.nx 4 (RD.first s.nx s0) ∧ Fr (decFoot s g) w wr ∧ DecIs s g wr d1)
        (fun i _ => 4 - (intOf i).toNat)
      case atStart => exact ⟨0, RD.first s.nx s0, by decide, rfl, rfl, HF.out, HD.out⟩
      case round =>
        obtain ⟨k, d1, hk, rfl, hgo, hfr, hdec⟩ := hrel
        have c2 := blk_cell hdec.at_ (j := 2) (v := .int .u32 d1.code) rfl
        have f2 := blk_frozen hdec.at_ 2
        have o3 := hdec.ok.2.2.1
        have o4 := hdec.ok.2.2.2
        have Hgo := hid hgo
        have Hfr := hid hfr
        have Hdec := hid hdec
        clear hgo hfr hdec
        by_cases hlt : k < 4
        · obtain ⟨y, hy⟩ : ∃ y, y = (d1.next s.nx).1 := ⟨_, rfl⟩
          have hb0 : 0 ≤ y := by rw [hy]; exact (RD.next_byte s d1).1
          have hb1 : y < 256 := by rw [hy]; exact (RD.next_byte s d1).2
          have hcall : ∀ w0, DecIs s g w0 d1 → Calls Try.prog 86 #[.pointer (some ⟨g, 0, none⟩)] w0 (DPost s g w0 (.int .u8 y) ⟨(d1.next s.nx).2.src, d1.rng, d1.code, (d1.next s.nx).2.bad⟩) := fun w0 h0 => by
            have := dnext_any' s g d1 w0 h0
            rw [← hy] at this
            exact this
          have HC := hid hcall
          have HY := hid hy
          clear hcall hy
          go_wp2_with fail
          go_region_with (go_at_call 86; refine (HC.out _ (by first | exact Hdec.out.drew | exact Hdec.out)).mono ?_; rintro e w2 ⟨rfl, hf2, hd2⟩; have c2n := blk_cell hd2.at_ (j := 2) (v := .int .u32 d1.code) rfl; have f2n := blk_frozen hd2.at_ 2)
          all_goals
            have HF2 := hid hf2
            have HD2 := hid hd2
            clear hf2 hd2
            go_wp2_with fail
            go_roundw
            case rel =>
              refine ⟨k + 1, _, by omega, by go_num, ?_, ?_, HD2.out.set (d' := ⟨(d1.next s.nx).2.src, d1.rng, d1.code * 256 % 4294967296 + (d1.next s.nx).1, (d1.next s.nx).2.bad⟩) 2 _ (by rw [or_byte' _ _ o3 hb0 hb1, ← HY.out]; rfl) rfl ⟨HD2.out.ok.1, HD2.out.ok.2.1, by show 0 ≤ d1.code * 256 % 4294967296 + (d1.next s.nx).1; rw [← HY.out]; omega, by show d1.code * 256 % 4294967296 + (d1.next s.nx).1 < _; rw [← HY.out]; omega⟩⟩
              · have e : 4 - k = (4 - (k + 1)) + 1 := by omega
                have := Hgo.out
                rw [e] at this
                exact this
              · refine Fr.setCell ?_ (fun _ => .inl rfl) _
                exact Hfr.out.trans (Fr.trans (by first | exact (Fr.refl _ _).drew | exact Fr.refl _ _) HF2.out)
            case measure => simp [intOf]; omega
        · have e : k = 4 := by omega
          subst e
          go_wp2_with fail
          go_meet
          exact ⟨Hfr.out, by rw [← Hgo.out]; exact Hdec.out⟩
    case rest =>
      obtain ⟨hf, hd⟩ := hcut
      obtain ⟨D, hD⟩ : ∃ D, D = RD.four s.nx 4 (RD.first s.nx s0) := ⟨_, rfl⟩
      rw [← hD] at hd
      have c1 := blk_cell hd.at_ (j := 1) (v := .int .u32 D.rng) rfl
      have c2 := blk_cell hd.at_ (j := 2) (v := .int .u32 D.code) rfl
      have c3 := blk_cell hd.at_ (j := 3) (v := .bool D.bad) rfl
      have f3 := blk_frozen hd.at_ 3
      have HF := hid hf
      have HD2 := hid hd
      have HDD := hid hD
      clear hf hd hD
      cases hbad : D.bad with
      | true =>
        rw [hbad] at c3
        have HB := hid hbad
        clear hbad
        go_wp2_with fail
        go_region
        all_goals go_wp2_with fail
        go_ret
        have hs := HF.out.size
        refine ⟨g, by rw [Hgg.out]; exact Nat.le_refl _, ?_, rfl, ?_, ?_⟩
        · have := blk_lt HD2.out.at_
          simp [World.setCell]
          omega
        · refine Fr.mono (S := decFoot s g) ?_ (fun k hk h => h.resolve_left (by have := Hgg.out; omega))
          exact Fr.drew (HF.out.setCell (fun _ => .inl rfl) _)
        · unfold RD.new
          rw [← HDD.out, HB.out]
          exact DecIs.drew (HD2.out.set 3 _ rfl rfl HD2.out.ok)
      | false =>
        rw [hbad] at c3
        have HB := hid hbad
        clear hbad
        go_wp2_with fail
        go_region
        all_goals go_wp2_with fail
        go_ret
        have hs := HF.out.size
        refine ⟨g, by rw [Hgg.out]; exact Nat.le_refl _, ?_, rfl, ?_, ?_⟩
        · have := blk_lt HD2.out.at_
          simp [World.setCell]
          omega
        · refine Fr.mono (S := decFoot s g) ?_ (fun k hk h => h.resolve_left (by have := Hgg.out; omega))
          exact Fr.drew (HF.out.setCell (fun _ => .inl rfl) _)
        · unfold RD.new
          rw [← HDD.out, HB.out]
          exact DecIs.drew (HD2.out.set 3 _ rfl rfl HD2.out.ok)
end Go.Proofs.Ytjnegcambbeblaa

/- lzma.ahead, as a source. -/
namespace Go.Proofs.Ytjnegcambbeblaa
open Go.RowKit

/-- a source, the byte that was taken ahead, whether there is one. -/
structure AhS (S : Type) where
  s : S
  b : Int
  full : Bool
def ahNx {S : Type} (nx : S → Int × Bool × S) (x : AhS S) : Int × Bool × AhS S :=
  if x.full = true then (x.b, true, ⟨x.s, x.b, false⟩) else ((nx x.s).1, (nx x.s).2.1, ⟨(nx x.s).2.2, x.b, false⟩)
def ahMore {S : Type} (nx : S → Int × Bool × S) (x : AhS S) : Bool × AhS S :=
  if x.full = true then (true, x) else ((nx x.s).2.1, ⟨(nx x.s).2.2, (nx x.s).1, (nx x.s).2.1⟩)
def AhAt {S : Type} (t : Sour S) (w : World) (g : Nat) (x : AhS S) : Prop := w.heap[g]? = some (.cells #[.iface t.ty t.val, .int .u8 x.b, .bool x.full] 120)
structure AhIs {S : Type} (t : Sour S) (g : Nat) (w : World) (x : AhS S) : Prop where
  at_ : AhAt t w g x
  src : t.I w x.s
  apart : ¬ t.foot g
  by_ : 0 ≤ x.b ∧ x.b < 256
def ahFoot {S : Type} (t : Sour S) (g : Nat) : Nat → Prop := fun k => k = g ∨ t.foot k
theorem AhIs.keep {S : Type} {t : Sour S} {g : Nat} {w w' : World} {x : AhS S} (h : AhIs t g w x) {T : Nat → Prop} (hf : Fr T w w') (ht : ∀ k, ahFoot t g k → ¬ T k) : AhIs t g w' x :=
  ⟨hf.blk h.at_ (ht g (.inl rfl)), t.keep _ _ _ _ h.src hf (fun k hk => ht k (.inr hk)), h.apart, h.by_⟩
set_option maxRecDepth 100000 in
theorem ahNext_any {S : Type} (t : Sour S) (g : Nat) (x : AhS S) (w : World) (h : AhIs t g w x) :
    Calls Try.prog 156 #[.pointer (some ⟨g, 0, none⟩)] w fun e w' => e = .returned (.tuple #[.int .u8 (ahNx t.nx x).1, .bool (ahNx t.nx x).2.1]) ∧ Fr (ahFoot t g) w w' ∧ AhIs t g w' (ahNx t.nx x).2.2 := by
  have c0 := blk_cell h.at_ (j := 0) (v := .iface t.ty t.val) rfl
  have c1 := blk_cell h.at_ (j := 1) (v := .int .u8 x.b) rfl
  have c2 := blk_cell h.at_ (j := 2) (v := .bool x.full) rfl
  have f2 := blk_frozen h.at_ 2
  have H := hid h
  clear h
  unfold ahNx
  cases hb : x.full with
  | true =>
    rw [hb] at c2
    rw [if_pos rfl]
    clear hb
    go_enter Try.func156, Try.ntmps156
    go_wp2_with fail
    go_ret2
    have hf : Fr (fun k => k = g) w (w.setCell ⟨g, 2, none⟩ (.bool false)) := (Fr.refl _ _).setOne _ _
    exact ⟨rfl, hf.mono (fun _ _ e => .inl e), blk_set (i := 2) H.out.at_, t.keep _ _ _ _ H.out.src hf (fun k hk e => H.out.apart (by have e : k = g := e; rw [← e]; exact hk)), H.out.apart, H.out.by_⟩
  | false =>
    rw [hb] at c2
    rw [if_neg (by decide)]
    have HFL := hid hb
    clear hb
    go_enter Try.func156, Try.ntmps156
    go_wp2_with (refine opInvoke rfl (.tmp 18) _ rfl t.ty t.val rfl t.fid t.val t.meth t.enter (fun K hK => ?_))
    refine (t.call _ _ H.out.src).mono ?_
    rintro e w1 ⟨rfl, hf1, hi1⟩
    have HF1 := hid hf1
    have HI1 := hid hi1
    clear hf1 hi1
    go_wp2_with fail
    go_ret2
    refine ⟨rfl, HF1.out.mono (fun _ _ e => .inr e), ?_, HI1.out, H.out.apart, H.out.by_⟩
    have e := HF1.out.blk H.out.at_ H.out.apart
    rw [HFL.out] at e
    exact e
set_option maxRecDepth 100000 in
theorem ahMore_any {S : Type} (t : Sour S) (g : Nat) (x : AhS S) (w : World) (h : AhIs t g w x) :
    Calls Try.prog 98 #[.pointer (some ⟨g, 0, none⟩)] w fun e w' => e = .returned (.bool (ahMore t.nx x).1) ∧ Fr (ahFoot t g) w w' ∧ AhIs t g w' (ahMore t.nx x).2 := by
  have c0 := blk_cell h.at_ (j := 0) (v := .iface t.ty t.val) rfl
  have c2 := blk_cell h.at_ (j := 2) (v := .bool x.full) rfl
  have H := hid h
  clear h
  unfold ahMore
  cases hb : x.full with
  | true =>
    rw [hb] at c2
    rw [if_pos rfl]
    clear hb
    go_enter Try.func98, Try.ntmps98
    go_wp2_with fail
    go_ret
    exact ⟨rfl, Fr.refl _ _, H.out⟩
  | false =>
    rw [hb] at c2
    rw [if_neg (by decide)]
    clear hb
    go_enter Try.func98, Try.ntmps98
    go_wp2_with (refine opInvoke rfl (.tmp 14) _ rfl t.ty t.val rfl t.fid t.val t.meth t.enter (fun K hK => ?_))
    refine (t.call _ _ H.out.src).mono ?_
    rintro e w1 ⟨rfl, hf1, hi1⟩
    have e1 := hf1.blk H.out.at_ H.out.apart
    have d1 := blk_cell e1 (j := 1) (v := .int .u8 x.b) rfl
    have d2 := blk_cell e1 (j := 2) (v := .bool x.full) rfl
    have z1 := blk_frozen e1 1
    have z2 := blk_frozen e1 2
    have HE1 := hid e1
    have HF1 := hid hf1
    have HI1 := hid hi1
    clear hf1 hi1 e1
    go_wp2_with fail
    go_ret
    have hf : Fr (fun k => k = g) w1 ((w1.setCell ⟨g, 1, none⟩ (.int .u8 (t.nx x.s).1)).setCell ⟨g, 2, none⟩ (.bool (t.nx x.s).2.1)) := ((Fr.refl _ _).setOne _ _).setOne _ _
    exact ⟨rfl, (HF1.out.mono (fun _ _ e => .inr e)).then hf (fun _ _ e => .inl e), blk_set (i := 2) (blk_set (i := 1) HE1.out), t.keep _ _ _ _ HI1.out hf (fun k hk e => H.out.apart (by have e : k = g := e; rw [← e]; exact hk)), H.out.apart, t.byte _⟩
/-- a source that was asked ahead, as a source. -/
def ahead {S : Type} (t : Sour S) (g : Nat) : Sour (AhS S) where
  ty := 99
  val := .pointer (some ⟨g, 0, none⟩)
  fid := 156
  foot := ahFoot t g
  I := AhIs t g
  nx := fun x => ((ahNx t.nx x).1 % 256, (ahNx t.nx x).2)
  byte := fun s => by dsimp only; omega
  meth := fun w => by kernel_rfl
  enter := fun w => by kernel_rfl
  call := fun w s h => by
    refine (ahNext_any t g s w h).mono fun e w' ⟨h1, h2, h3⟩ => ⟨?_, h2, h3⟩
    have hb : 0 ≤ (ahNx t.nx s).1 ∧ (ahNx t.nx s).1 < 256 := by
      unfold ahNx
      split
      · exact h.by_
      · exact t.byte _
    rw [h1]
    show _ = Ending.returned (.tuple #[.int .u8 ((ahNx t.nx s).1 % 256), .bool (ahNx t.nx s).2.1])
    rw [Int.emod_eq_of_lt hb.1 hb.2]
  keep := fun w w' s T h hf ht => h.keep hf ht
end Go.Proofs.Ytjnegcambbeblaa

/- A row of values of the call's own that grows by append. -/
namespace Go.Proofs.Ytjnegcambbeblaa
open Go.RowKit

def OwnV (w : World) (base : Nat) (e : TypeId) (v : Value) (xs : List Value) : Prop := w.ownsRow base e 1 v xs.length xs
theorem OwnV.block {w : World} {base : Nat} {e : TypeId} {v : Value} {xs : List Value} (h : OwnV w base e v xs) : ∀ g, v.ownBlock = some g → base ≤ g ∧ g < w.heap.size := World.ownsRow.lt h
theorem OwnV.alloc {w : World} {base : Nat} {e : TypeId} {v : Value} {xs : List Value} (h : OwnV w base e v xs) (o : Obj) : OwnV (w.alloc o) base e v xs := World.ownsRow.alloc h o
theorem OwnV.nil (w : World) (base : Nat) (e : TypeId) : OwnV w base e (.slice none 0 0) [] := World.ownsRow_nil w base e 1
theorem OwnV.fr {S : Nat → Prop} {w w' : World} {base : Nat} {e : TypeId} {v : Value} {xs : List Value} (h : OwnV w base e v xs) (hf : Fr S w w') (hs : ∀ g, v.ownBlock = some g → ¬ S g) : OwnV w' base e v xs := by
  obtain ⟨h1, h2⟩ := h
  refine ⟨h1, ?_⟩
  rcases h2 with h2 | ⟨g, cap, cur, hv, hg, hh, r⟩
  · exact .inl h2
  · exact .inr ⟨g, cap, cur, hv, hg, hf.blk hh (hs g (by rw [hv]; rfl)), r⟩
/-- a row just built. -/
theorem OwnV.built (w : World) (base : Nat) (e : TypeId) (xs : List Value) (hb : base ≤ w.heap.size) (hn : xs.length ≤ 1000) : OwnV (w.alloc (.cells xs.toArray e)) base e (.slice (some ⟨w.heap.size, 0, none⟩) xs.length xs.length) xs :=
  ⟨by simp, .inr ⟨w.heap.size, xs.length, xs.toArray, rfl, hb, blk_new _ _, Nat.le_refl _, by unfold maxLen; omega, by simp, by simp⟩⟩
theorem OwnV.get {w : World} {base : Nat} {e : TypeId} {v : Value} {xs : List Value} (h : OwnV w base e v xs) (h0 : 0 < xs.length) :
    ∃ g cap, v = .slice (some ⟨g, 0, none⟩) xs.length cap ∧ base ≤ g ∧ ∀ i x, xs[i]? = some x → w.cell? ⟨g, i, none⟩ = some x := by
  obtain ⟨h1, h2⟩ := h
  rcases h2 with ⟨_, hn⟩ | ⟨g, cap, cur, hv, hg, hh, hnc, hcm, hsz, htk⟩
  · omega
  · refine ⟨g, cap, hv, hg, fun i x hx => blk_cell hh ?_⟩
    have hi : i < xs.length := (List.getElem?_eq_some_iff.1 hx).1
    have htk' : cur.toList.take xs.length = xs := by simpa using htk
    have e : cur.toList[i]? = some x := by
      rw [← hx]
      conv => rhs; rw [← htk']
      exact (List.getElem?_take_of_lt hi).symm
    simpa using e
theorem run_growV {P : Program} {w : World} (base : Nat) (t ty e : TypeId) (z : Value) (bytes : Nat) (ht : P.underlying t = some (.slice e)) (hinfo : (P.info? e).map (fun i => (i.zero, i.size, i.bytes)) = some (some z, 1, bytes)) (hz : z.cells.size = 1)
    (v : Value) (xs ys : List Value) (hown : OwnV w base e v xs) (ad : Addr) (c : Nat) (hcell : ∀ j y, ys[j]? = some y → w.cell? (ad.add j) = some y) (h1 : ∀ u ∈ ys, u.oneCell' = true)
    (hb1 : 1 ≤ bytes) (hbytes : (xs.length + ys.length) * bytes ≤ 140737488355328) (hbase : base ≤ w.heap.size) :
    ∃ v' w', (Builtin.append_ #[t, t] ty #[v, .slice (some ad) ys.length c]).run P w = .ok v' w' ∧ OwnV w' base e v' (xs ++ ys) ∧ w.grownBy w' v.ownBlock := by
  obtain ⟨i, hi, hz0, hz1, hz2⟩ := info_parts hinfo
  have hm : xs.length + ys.length ≤ (xs.length + ys.length) * bytes := Nat.le_mul_of_pos_right _ hb1
  obtain ⟨v', w', hr, h2, h3, _⟩ := run_append_own (P := P) w base t ty e i z 1 bytes ht hi hz0 hz1 hz2 hz (by decide) v xs.length _ hown ad ys.length c ys (by simp) hcell h1 (by unfold maxLen; omega) hbytes hbase
  refine ⟨v', w', hr, ?_, h3⟩
  unfold OwnV
  simpa using h2
theorem step_growV {P : Program} {ops : Array Oper} {o : Oper} {a : Act} {w : World} {K : Act → World → Prop} {Q : Exit → Act → World → Prop} {E : Prop} (hgd : o.guard = none) (s x : Operand) (t : TypeId)
    (ho : o.op = .call { callee := .builtin .append, args := #[s, x], argTypes := #[t, t] })
    (base : Nat) (e : TypeId) (z : Value) (bytes : Nat) (ht : P.underlying t = some (.slice e)) (hinfo : (P.info? e).map (fun i => (i.zero, i.size, i.bytes)) = some (some z, 1, bytes)) (hz : z.cells.size = 1)
    (v : Value) (xs ys : List Value) (hs : a.eval s = v) (m : Nat) (hm : ys.length = m) (ad : Addr) (c : Nat) (hx : a.eval x = .slice (some ad) m c) (hown : OwnV w base e v xs) (hcell : ∀ j y, ys[j]? = some y → w.cell? (ad.add j) = some y) (h1 : ∀ u ∈ ys, u.oneCell' = true)
    (hb1 : 1 ≤ bytes) (hbytes : (xs.length + ys.length) * bytes ≤ 140737488355328) (hbase : base ≤ w.heap.size)
    (h : ∀ v' w', OwnV w' base e v' (xs ++ ys) → w.grownBy w' v.ownBlock → K (a.put o.dst v') w') :
    if Region.wanted o (yielded ops a.tmps) = true then Oper.wp P o a w K Q else E := by
  have hw : Region.wanted o (yielded ops a.tmps) = true := by simp [Region.wanted, hgd]
  rw [if_pos hw]
  subst hm
  obtain ⟨v', w', hr, h2, h3⟩ := run_growV (P := P) (w := w) base t o.type e z bytes ht hinfo hz v xs ys hown ad c hcell h1 hb1 hbytes hbase
  unfold Oper.wp execOp
  simp only [ho, resolve, invoke, builtin, Sem.run_bind, Sem.run_pure, Result.andThen_ok, List.map_toArray, List.map_cons, List.map_nil, hs, hx, hr]
  exact h v' w' h2 h3
theorem opGrowV {P : Program} {w : World} {ops : Array Oper} {rest : List Oper} {o : Oper} {a : Act} {Q : Exit → Act → World → Prop} (d : Option Tmp) (hgd : o.guard = none) (hd : o.dst = d) (s x : Operand) (t : TypeId)
    (ho : o.op = .call { callee := .builtin .append, args := #[s, x], argTypes := #[t, t] })
    (base : Nat) (e : TypeId) (z : Value) (bytes : Nat) (ht : P.underlying t = some (.slice e)) (hinfo : (P.info? e).map (fun i => (i.zero, i.size, i.bytes)) = some (some z, 1, bytes)) (hz : z.cells.size = 1)
    (v : Value) (xs ys : List Value) (hs : a.eval s = v) (hown : OwnV w base e v xs) (m : Nat) (hm : ys.length = m) (ad : Addr) (c : Nat) (hx : a.eval x = .slice (some ad) m c) (hcell : ∀ j y, ys[j]? = some y → w.cell? (ad.add j) = some y) (h1 : ∀ u ∈ ys, u.oneCell' = true)
    (hb1 : 1 ≤ bytes) (hbytes : (xs.length + ys.length) * bytes ≤ 140737488355328) (hbase : base ≤ w.heap.size)
    (h : ∀ v' w', OwnV w' base e v' (xs ++ ys) → w.grownBy w' v.ownBlock → wpList P ops Q rest (a.put d v') w') : wpList P ops Q (o :: rest) a w := by
  subst hm
  obtain ⟨v', w', hr, h2, h3⟩ := run_growV (P := P) (w := w) base t o.type e z bytes ht hinfo hz v xs ys hown ad c hcell h1 hb1 hbytes hbase
  refine wpList_plain hgd fun K hK => ?_
  unfold Oper.wp execOp
  simp only [ho, resolve, invoke, builtin, Sem.run_bind, Sem.run_pure, Result.andThen_ok, List.map_toArray, List.map_cons, List.map_nil, hs, hx, hr]
  refine hK _ _ ?_
  rw [hd]
  exact h v' w' h2 h3
/-- the cells of a row just built. -/
theorem new_cells (w : World) (xs : List Value) (e : TypeId) (g : Nat) (hg : g = w.heap.size) : ∀ j y, xs[j]? = some y → (w.alloc (.cells xs.toArray e)).cell? ((⟨g, 0, none⟩ : Addr).add j) = some y := by
  intro j y hj
  have e1 : (⟨g, 0, none⟩ : Addr).add j = ⟨g, 0 + j, none⟩ := by unfold Addr.add; split <;> simp_all
  rw [e1, hg]
  exact blk_cell (blk_new w _) (by simpa using hj)
end Go.Proofs.Ytjnegcambbeblaa

/- A meter: what its functions answer, and where it lies. -/
namespace Go.Proofs.Ytjnegcambbeblaa
open Go.RowKit

theorem aload_any (g i : Nat) (x : Int) (w : World) (hc : w.cell? ⟨g, i, none⟩ = some (.int .i64 x)) :
    Calls Try.prog 65 #[.pointer (some ⟨g, i, none⟩)] w fun e w' => e = .returned (.int .i64 x) ∧ w = w' := by
  have hl := run_call_load (P := Try.prog) Try.func97 (by kernel_rfl) (by kernel_rfl) (by kernel_rfl) .i64 (by kernel_rfl) hc
  go_enter Try.func65, Try.ntmps65
  go_wp2
  go_ret
  exact ⟨rfl, rfl⟩
theorem acas_any (g i : Nat) (x y : Int) (w : World) (hc : w.cell? ⟨g, i, none⟩ = some (.int .i64 x)) (hz : w.frozen? ⟨g, i, none⟩ = false) :
    Calls Try.prog 83 #[.pointer (some ⟨g, i, none⟩), .int .i64 x, .int .i64 y] w fun e w' => e = .returned (.bool true) ∧ w' = w.setCell ⟨g, i, none⟩ (.int .i64 y) := by
  have hl := run_call_cas_hit (P := Try.prog) Try.func112 (by kernel_rfl) (by kernel_rfl) (by kernel_rfl) .i64 (by kernel_rfl) (y := y) hc hz
  go_enter Try.func83, Try.ntmps83
  go_wp2
  go_ret
  exact ⟨rfl, rfl⟩
/-- a meter: the quota of memory, what is used, the most at a time, the code; the other things. -/
structure MS where
  most : Nat
  now : Nat
  peak : Nat
  code : Nat
  om : Nat
  fm : Nat
  dm : Nat
  sm : Nat
def MS.cells (m : MS) : Array Value := #[.int .i64 m.most, .int .i64 m.now, .int .i64 m.om, .int .i64 0, .int .i64 m.fm, .int .i64 0, .int .i64 m.dm, .int .i64 0, .int .i64 m.sm, .int .i64 0, .int .i64 m.peak, .int .i64 m.code]
def MAt (w : World) (g : Nat) (m : MS) : Prop := w.heap[g]? = some (.cells m.cells 137)
structure MS.Ok (m : MS) : Prop where
  now : m.now ≤ m.most
  most : m.most ≤ 9223372036854775807
  peak : m.now ≤ m.peak
def MS.mem (m : MS) (n : Nat) : Bool × MS :=
  if m.code ≠ 0 then (false, m) else if m.most - m.now < n then (false, { m with code := 101 }) else (true, { m with now := m.now + n, peak := max m.peak (m.now + n) })
def MS.free (m : MS) (n : Nat) : MS := { m with now := m.now - n }
def GivePost (g : Nat) (x : Int) (w : World) (e : Ending) (w' : World) : Prop := e = .returned (.tuple #[]) ∧ w' = w.setCell ⟨g, 1, none⟩ (.int .i64 x)
set_option maxRecDepth 100000 in
theorem give_m (g : Nat) (m : MS) (n : Nat) (w : World) (h : MAt w g m) (hok : m.Ok) (hn : n ≤ 9223372036854775807) :
    Calls Try.prog 84 #[.pointer (some ⟨g, 0, none⟩), .int .i64 n] w (GivePost g ((m.now - n : Nat) : Int) w) := by
  have c1 := blk_cell h (j := 1) (v := .int .i64 m.now) rfl
  have z1 := blk_frozen h 1
  have h1 := hok.now
  have h2 := hok.most
  by_cases hle : n ≤ m.now
  · have hle2 : (n : Int) ≤ (m.now : Int) := by omega
    have h0 : (0 : Int) ≤ (m.now : Int) - (n : Int) := by omega
    rw [show ((m.now - n : Nat) : Int) = (m.now : Int) - (n : Int) by omega]
    clear hle
    go_enter Try.func84, Try.ntmps84
    go_wp2_with fail
    go_loopw [4] (fun _ wr => wr = w) (fun _ _ => 0)
    case atStart => rfl
    case round =>
      subst hrel
      go_wp2_with fail
      refine (aload_any g 1 m.now _ c1).mono ?_
      rintro e w1 ⟨rfl, rfl⟩
      go_wp2_with fail
      refine (acas_any g 1 m.now _ _ c1 z1).mono ?_
      rintro e w1 ⟨rfl, rfl⟩
      go_wp2_with fail
      go_end0
      exact ⟨rfl, rfl⟩
  · have hle2 : (m.now : Int) < (n : Int) := by omega
    rw [show ((m.now - n : Nat) : Int) = 0 by omega]
    clear hle
    go_enter Try.func84, Try.ntmps84
    go_wp2_with fail
    go_loopw [4] (fun _ wr => wr = w) (fun _ _ => 0)
    case atStart => rfl
    case round =>
      subst hrel
      go_wp2_with fail
      refine (aload_any g 1 m.now _ c1).mono ?_
      rintro e w1 ⟨rfl, rfl⟩
      go_wp2_with fail
      refine (acas_any g 1 m.now _ _ c1 z1).mono ?_
      rintro e w1 ⟨rfl, rfl⟩
      go_wp2_with fail
      go_end0
      exact ⟨rfl, rfl⟩
def MPost (g : Nat) (w : World) (v : Value) (m : MS) (e : Ending) (w' : World) : Prop := e = .returned v ∧ Fr (fun k => k = g) w w' ∧ MAt w' g m
theorem free_m (g : Nat) (m : MS) (n : Nat) (w : World) (h : MAt w g m) (hok : m.Ok) (hn : n ≤ 9223372036854775807) :
    Calls Try.prog 56 #[.pointer (some ⟨g, 0, none⟩), .int .i64 n] w (MPost g w (.tuple #[]) (m.free n)) := by
  have H := hid h
  have HO := hid hok
  clear h hok
  have hn0 : (0 : Int) ≤ (n : Int) := by omega
  go_enter Try.func56, Try.ntmps56
  go_wp2_with fail
  refine (give_m g m n _ H.out HO.out hn).mono ?_
  rintro e w1 ⟨rfl, rfl⟩
  go_wp2_with fail
  go_end0
  exact ⟨rfl, (Fr.refl _ _).setOne _ _, blk_set (i := 1) H.out⟩
set_option maxRecDepth 100000 in
theorem ask_yes (g : Nat) (m : MS) (n : Nat) (w : World) (h : MAt w g m) (hok : m.Ok) (hn : n ≤ m.most - m.now) :
    Calls Try.prog 111 #[.pointer (some ⟨g, 0, none⟩), .int .i64 n] w fun e w' => e = .returned (.bool true) ∧ w' = w.setCell ⟨g, 1, none⟩ (.int .i64 ((m.now : Int) + n)) := by
  have c0 := blk_cell h (j := 0) (v := .int .i64 m.most) rfl
  have c1 := blk_cell h (j := 1) (v := .int .i64 m.now) rfl
  have z1 := blk_frozen h 1
  have h1 := hok.now
  have h2 := hok.most
  have h3 : ¬ (m.most : Int) - (m.now : Int) < (n : Int) := by omega
  have h4 : (m.now : Int) + (n : Int) ≤ 9223372036854775807 := by omega
  have h5 : (0 : Int) ≤ (m.most : Int) - (m.now : Int) := by omega
  clear h hn
  go_enter Try.func111, Try.ntmps111
  go_wp2_with fail
  go_loopw [5] (fun _ wr => wr = w) (fun _ _ => 0)
  case atStart => rfl
  case round =>
    subst hrel
    go_wp2_with fail
    refine (aload_any g 1 m.now _ c1).mono ?_
    rintro e w1 ⟨rfl, rfl⟩
    go_wp2_with fail
    refine (acas_any g 1 m.now _ _ c1 z1).mono ?_
    rintro e w1 ⟨rfl, rfl⟩
    go_wp2_with fail
    go_ret
    exact ⟨rfl, rfl⟩
set_option maxRecDepth 100000 in
theorem ask_no (g : Nat) (m : MS) (n : Nat) (w : World) (h : MAt w g m) (hok : m.Ok) (hn : m.most - m.now < n) :
    Calls Try.prog 111 #[.pointer (some ⟨g, 0, none⟩), .int .i64 n] w fun e w' => e = .returned (.bool false) ∧ w = w' := by
  have c0 := blk_cell h (j := 0) (v := .int .i64 m.most) rfl
  have c1 := blk_cell h (j := 1) (v := .int .i64 m.now) rfl
  have h1 := hok.now
  have h2 := hok.most
  have h3 : (m.most : Int) - (m.now : Int) < (n : Int) := by omega
  have h5 : (0 : Int) ≤ (m.most : Int) - (m.now : Int) := by omega
  clear h hn
  go_enter Try.func111, Try.ntmps111
  go_wp2_with fail
  go_loopw [5] (fun _ wr => wr = w) (fun _ _ => 0)
  case atStart => rfl
  case round =>
    subst hrel
    go_wp2_with fail
    refine (aload_any g 1 m.now _ c1).mono ?_
    rintro e w1 ⟨rfl, rfl⟩
    go_wp2_with fail
    go_ret
    exact ⟨rfl, rfl⟩
set_option maxRecDepth 100000 in
theorem use_m (g : Nat) (m : MS) (n : Nat) (w : World) (h : MAt w g m) (hok : m.Ok) (hn : n ≤ 9223372036854775807) :
    Calls Try.prog 82 #[.pointer (some ⟨g, 0, none⟩), .pointer (some ⟨g, 0, none⟩), .int .i64 n, .int .i64 101] w
      (MPost g w (.bool (m.mem n).1) (if m.code ≠ 0 then m else if m.most - m.now < n then { m with code := 101 } else { m with now := m.now + n })) := by
  have H := hid h
  have HO := hid hok
  have c11 := blk_cell h (j := 11) (v := .int .i64 m.code) rfl
  have hn0 : (0 : Int) ≤ (n : Int) := by omega
  clear h hok
  by_cases hc : m.code = 0
  · have q1 : ((m.code : Int) != 0) = false := by simp [hc]
    by_cases hlt : m.most - m.now < n
    · have HR := hid (show m.mem n = (false, { m with code := 101 }) by unfold MS.mem; rw [if_neg (by simp [hc]), if_pos hlt])
      rw [if_neg (by simp [hc]), if_pos hlt, HR.out]
      have z11 := blk_frozen H.out 11
      have HC := hid hc
      have HL := hid hlt
      rw [hc] at c11
      clear hc hlt
      go_enter Try.func82, Try.ntmps82
      go_wp2_with fail
      refine (aload_any g 11 0 _ (by exact c11)).mono ?_
      rintro e w1 ⟨rfl, rfl⟩
      go_wp2_with fail
      refine (ask_no g m n _ H.out HO.out HL.out).mono ?_
      rintro e w1 ⟨rfl, rfl⟩
      go_wp2_with fail
      refine (acas_any g 11 0 101 _ (by exact c11) (by exact z11)).mono ?_
      rintro e w1 ⟨rfl, rfl⟩
      go_wp2_with fail
      go_ret
      exact ⟨rfl, (Fr.refl _ _).setOne _ _, blk_set (i := 11) H.out⟩
    · have HR := hid (show m.mem n = (true, { m with now := m.now + n, peak := max m.peak (m.now + n) }) by unfold MS.mem; rw [if_neg (by simp [hc]), if_neg hlt])
      rw [if_neg (by simp [hc]), if_neg hlt, HR.out]
      have HL := hid hlt
      rw [hc] at c11
      clear hc hlt
      go_enter Try.func82, Try.ntmps82
      go_wp2_with fail
      refine (aload_any g 11 0 _ (by exact c11)).mono ?_
      rintro e w1 ⟨rfl, rfl⟩
      go_wp2_with fail
      refine (ask_yes g m n _ H.out HO.out (by have := HL.out; omega)).mono ?_
      rintro e w1 ⟨rfl, rfl⟩
      go_wp2_with fail
      go_ret
      exact ⟨rfl, (Fr.refl _ _).setOne _ _, blk_set (i := 1) H.out⟩
  · have HR := hid (show m.mem n = (false, m) by unfold MS.mem; rw [if_pos hc])
    rw [if_pos hc, HR.out]
    have q1 : ((m.code : Int) != 0) = true := by simp [hc]
    clear hc
    go_enter Try.func82, Try.ntmps82
    go_wp2_with fail
    refine (aload_any g 11 m.code _ (by exact c11)).mono ?_
    rintro e w1 ⟨rfl, rfl⟩
    go_wp2_with fail
    go_ret
    exact ⟨rfl, Fr.refl _ _, H.out⟩
theorem mcode_m (g : Nat) (m : MS) (w : World) (h : MAt w g m) :
    Calls Try.prog 54 #[.pointer (some ⟨g, 0, none⟩)] w fun e w' => e = .returned (.int .i64 m.code) ∧ w = w' := by
  have c11 := blk_cell h (j := 11) (v := .int .i64 m.code) rfl
  clear h
  go_enter Try.func54, Try.ntmps54
  go_wp2_with fail
  refine (aload_any g 11 m.code _ (by exact c11)).mono ?_
  rintro e w1 ⟨rfl, rfl⟩
  go_wp2_with fail
  go_ret
  exact ⟨rfl, rfl⟩
theorem mirrorm {P : Program} {f : FuncId} {args : Array Value} {w : World} {v : Value} (h : Calls P f args w fun e w' => e = .returned v ∧ w = w') : Calls P f args w fun e w' => e = .returned v ∧ w' = w :=
  h.mono fun _ _ ⟨h1, h2⟩ => ⟨h1, h2.symm⟩
set_option maxRecDepth 100000 in
set_option maxHeartbeats 1000000 in
theorem mem_m (g : Nat) (m : MS) (n : Nat) (w : World) (h : MAt w g m) (hok : m.Ok) (hn : n ≤ 9223372036854775807) :
    Calls Try.prog 53 #[.pointer (some ⟨g, 0, none⟩), .int .i64 n] w (MPost g w (.bool (m.mem n).1) (m.mem n).2) := by
  have H := hid h
  have HO := hid hok
  clear h hok
  go_enter Try.func53, Try.ntmps53
  go_wp2_with fail
  refine (use_m g m n _ H.out HO.out hn).mono ?_
  rintro e w1 ⟨rfl, hf1, hm1⟩
  by_cases hc : m.code ≠ 0
  · have HR := hid (show m.mem n = (false, m) by unfold MS.mem; rw [if_pos hc])
    rw [if_pos hc] at hm1
    rw [HR.out]
    have HM := hid hm1
    have HF := hid hf1
    clear hc hm1 hf1
    go_wp2_with fail
    go_ret
    exact ⟨by rw [HR.out]; rfl, HF.out, by rw [HR.out]; exact HM.out⟩
  · by_cases hlt : m.most - m.now < n
    · have HR := hid (show m.mem n = (false, { m with code := 101 }) by unfold MS.mem; rw [if_neg hc, if_pos hlt])
      rw [if_neg hc, if_pos hlt] at hm1
      rw [HR.out]
      have HM := hid hm1
      have HF := hid hf1
      clear hc hlt hm1 hf1
      go_wp2_with fail
      go_ret
      exact ⟨by rw [HR.out]; rfl, HF.out, by rw [HR.out]; exact HM.out⟩
    · have HR := hid (show m.mem n = (true, { m with now := m.now + n, peak := max m.peak (m.now + n) }) by unfold MS.mem; rw [if_neg hc, if_neg hlt])
      rw [if_neg hc, if_neg hlt] at hm1
      rw [HR.out]
      have c1 := blk_cell hm1 (j := 1) (v := .int .i64 ((m.now + n : Nat) : Int)) rfl
      have c10 := blk_cell hm1 (j := 10) (v := .int .i64 m.peak) rfl
      have z10 := blk_frozen hm1 10
      have HM := hid hm1
      have HF := hid hf1
      clear hc hlt hm1 hf1
      go_wp2_with fail
      go_loopw [5, 6] (fun _ _ wr => wr = w1) (fun _ _ _ => 0)
      case atStart => rfl
      case round =>
        subst hrel
        go_wp2_with fail
        go_quiet ((first
          | (go_at_call 65; exact Calls.quiet_of_same (mirrorm (aload_any g 10 m.peak _ (by exact c10))))
          | (go_at_call 65; exact Calls.quiet_of_same (mirrorm (aload_any g 1 _ _ (by exact c1))))))
        by_cases hle : m.now + n ≤ m.peak
        · have hle2 : ((m.now + n : Nat) : Int) ≤ (m.peak : Int) := by omega
          have HE := hid (show max m.peak (m.now + n) = m.peak by omega)
          clear hle
          go_wp2_with fail
          go_ret
          exact ⟨by rw [HR.out]; rfl, HF.out.drewN _, by rw [HR.out]; show MAt _ g { m with now := m.now + n, peak := max m.peak (m.now + n) }; rw [HE.out]; exact HM.out⟩
        · have hle2 : ¬ ((m.now + n : Nat) : Int) ≤ (m.peak : Int) := by omega
          have HE := hid (show max m.peak (m.now + n) = m.now + n by omega)
          clear hle
          go_wp2_with fail
          refine (acas_any g 10 m.peak _ _ (by exact c10) (by exact z10)).mono ?_
          rintro e w2 ⟨rfl, rfl⟩
          go_wp2_with fail
          go_ret
          exact ⟨by rw [HR.out]; rfl, (HF.out.drewN _).setOne _ _, by rw [HR.out]; show MAt _ g { m with now := m.now + n, peak := max m.peak (m.now + n) }; rw [HE.out]; exact blk_set (i := 10) HM.out⟩
end Go.Proofs.Ytjnegcambbeblaa

/- A meter: New, Used. -/
namespace Go.Proofs.Ytjnegcambbeblaa
open Go.RowKit

def MZ : Array Value := #[.int .i64 0, .int .i64 0, .int .i64 0, .int .i64 0, .int .i64 0, .int .i64 0, .int .i64 0, .int .i64 0, .int .i64 0, .int .i64 0, .int .i64 0, .int .i64 0]
def MNewPost (w : World) (m : MS) (e : Ending) (w' : World) : Prop := ∃ g, e = .returned (.pointer (some ⟨g, 0, none⟩)) ∧ w.heap.size ≤ g ∧ Fr Non w w' ∧ MAt w' g m
set_option maxRecDepth 100000 in
set_option maxHeartbeats 1000000 in
theorem mnew_raw (a b c d e : Nat) (w : World) (ha : a ≤ 9223372036854775807) (hb : b ≤ 9223372036854775807) (hc : c ≤ 9223372036854775807) (hd : d ≤ 9223372036854775807) (he : e ≤ 9223372036854775807) :
    Calls Try.prog 26 #[.agg #[.int .i64 a, .int .i64 b, .int .i64 c, .int .i64 d, .int .i64 e]] w (MNewPost w ⟨a, 0, 0, 0, b, c, d, e⟩) := by
  have ha0 : (0 : Int) ≤ (a : Int) := by omega
  have hb0 : (0 : Int) ≤ (b : Int) := by omega
  have hc0 : (0 : Int) ≤ (c : Int) := by omega
  have hd0 : (0 : Int) ≤ (d : Int) := by omega
  have he0 : (0 : Int) ≤ (e : Int) := by omega
  go_enter Try.func26, Try.ntmps26
  go_upto_region 2 with fail
  obtain ⟨W, hW⟩ : ∃ W, W = (w.alloc (.cells #[.int .i64 a, .int .i64 b, .int .i64 c, .int .i64 d, .int .i64 e] 57)).alloc (.cells #[.int .i64 0, .int .i64 0, .int .i64 0, .int .i64 0, .int .i64 0, .int .i64 0, .int .i64 0, .int .i64 0, .int .i64 0, .int .i64 0, .int .i64 0, .int .i64 0] 137) := ⟨_, rfl⟩
  rw [← hW]
  have hq : W.heap[w.heap.size]? = some (.cells #[.int .i64 a, .int .i64 b, .int .i64 c, .int .i64 d, .int .i64 e] 57) := by rw [hW]; exact blk_alloc (blk_new _ _)
  have hm : W.heap[w.heap.size + 1]? = some (.cells #[.int .i64 0, .int .i64 0, .int .i64 0, .int .i64 0, .int .i64 0, .int .i64 0, .int .i64 0, .int .i64 0, .int .i64 0, .int .i64 0, .int .i64 0, .int .i64 0] 137) := by
    rw [hW]
    have h := blk_new (w.alloc (.cells #[.int .i64 a, .int .i64 b, .int .i64 c, .int .i64 d, .int .i64 e] 57)) (.cells #[.int .i64 0, .int .i64 0, .int .i64 0, .int .i64 0, .int .i64 0, .int .i64 0, .int .i64 0, .int .i64 0, .int .i64 0, .int .i64 0, .int .i64 0, .int .i64 0] 137)
    simpa using h
  have hf : Fr Non w W := by rw [hW]; exact ((Fr.refl _ _).alloc _).alloc _
  clear hW
  have c0 := blk_cell hq (j := 0) (v := .int .i64 a) rfl
  have c1 := blk_cell hq (j := 1) (v := .int .i64 b) rfl
  have c2 := blk_cell hq (j := 2) (v := .int .i64 c) rfl
  have c3 := blk_cell hq (j := 3) (v := .int .i64 d) rfl
  have c4 := blk_cell hq (j := 4) (v := .int .i64 e) rfl
  have k0 := blk_cell hm (j := 0) (v := .int .i64 0) rfl
  have z0 := blk_frozen hm 0
  have k1 := blk_cell hm (j := 2) (v := .int .i64 0) rfl
  have z1 := blk_frozen hm 2
  have k2 := blk_cell hm (j := 4) (v := .int .i64 0) rfl
  have z2 := blk_frozen hm 4
  have k3 := blk_cell hm (j := 6) (v := .int .i64 0) rfl
  have z3 := blk_frozen hm 6
  have k4 := blk_cell hm (j := 8) (v := .int .i64 0) rfl
  have z4 := blk_frozen hm 8
  have HM := hid hm
  have HQ := hid hq
  have HF := hid hf
  clear hm hq hf
  go_cut [] (fun wx => Fr Non w wx ∧ wx.heap[w.heap.size + 1]? = some (.cells #[.int .i64 a, .int .i64 0, .int .i64 b, .int .i64 0, .int .i64 c, .int .i64 0, .int .i64 0, .int .i64 0, .int .i64 0, .int .i64 0, .int .i64 0, .int .i64 0] 137) ∧ wx.heap[w.heap.size]? = some (.cells #[.int .i64 a, .int .i64 b, .int .i64 c, .int .i64 d, .int .i64 e] 57))
  case first =>
    go_region
    go_wp2_with fail
    go_meet
    exact ⟨(((HF.out.setNew (g := w.heap.size + 1) (by omega) 0 _).setNew (g := w.heap.size + 1) (by omega) 2 _).setNew (g := w.heap.size + 1) (by omega) 4 _).drew, blk_drew (blk_set (i := 4) (blk_set (i := 2) (blk_set (i := 0) HM.out))), blk_drew (blk_set_ne (blk_set_ne (blk_set_ne HQ.out (by show w.heap.size ≠ w.heap.size + 1; omega)) (by show w.heap.size ≠ w.heap.size + 1; omega)) (by show w.heap.size ≠ w.heap.size + 1; omega))⟩
  case rest =>
  obtain ⟨hf2, hm2, hq2⟩ := hcut
  clear k0 k1 k2 k3 k4 z0 z1 z2 z3 z4 c0 c1 c2 c3 c4
  have k3 := blk_cell hm2 (j := 6) (v := .int .i64 0) rfl
  have k4 := blk_cell hm2 (j := 8) (v := .int .i64 0) rfl
  have z3 := blk_frozen hm2 6
  have z4 := blk_frozen hm2 8
  have c3 := blk_cell hq2 (j := 3) (v := .int .i64 d) rfl
  have c4 := blk_cell hq2 (j := 4) (v := .int .i64 e) rfl
  have HM2 := hid hm2
  have HF2 := hid hf2
  clear hm2 hf2 hq2
  go_wp2_with fail
  go_region
  go_wp2_with fail
  go_ret
  exact ⟨w.heap.size + 1, rfl, by omega, ((HF2.out.setNew (g := w.heap.size + 1) (by omega) 6 _).setNew (g := w.heap.size + 1) (by omega) 8 _).drew, blk_drew (blk_set (i := 8) (blk_set (i := 6) HM2.out))⟩
set_option maxRecDepth 100000 in
set_option maxHeartbeats 1000000 in
theorem mnew_neg (q : Int) (hq0 : q < 0) (b c d e : Nat) (w : World) (hb : b ≤ 9223372036854775807) (hc : c ≤ 9223372036854775807) (hd : d ≤ 9223372036854775807) (he : e ≤ 9223372036854775807) :
    Calls Try.prog 26 #[.agg #[.int .i64 q, .int .i64 b, .int .i64 c, .int .i64 d, .int .i64 e]] w (MNewPost w ⟨0, 0, 0, 0, b, c, d, e⟩) := by
  have hb0 : (0 : Int) ≤ (b : Int) := by omega
  have hc0 : (0 : Int) ≤ (c : Int) := by omega
  have hd0 : (0 : Int) ≤ (d : Int) := by omega
  have he0 : (0 : Int) ≤ (e : Int) := by omega
  go_enter Try.func26, Try.ntmps26
  go_upto_region 2 with fail
  obtain ⟨W, hW⟩ : ∃ W, W = (w.alloc (.cells #[.int .i64 q, .int .i64 b, .int .i64 c, .int .i64 d, .int .i64 e] 57)).alloc (.cells #[.int .i64 0, .int .i64 0, .int .i64 0, .int .i64 0, .int .i64 0, .int .i64 0, .int .i64 0, .int .i64 0, .int .i64 0, .int .i64 0, .int .i64 0, .int .i64 0] 137) := ⟨_, rfl⟩
  rw [← hW]
  have hq : W.heap[w.heap.size]? = some (.cells #[.int .i64 q, .int .i64 b, .int .i64 c, .int .i64 d, .int .i64 e] 57) := by rw [hW]; exact blk_alloc (blk_new _ _)
  have hm : W.heap[w.heap.size + 1]? = some (.cells #[.int .i64 0, .int .i64 0, .int .i64 0, .int .i64 0, .int .i64 0, .int .i64 0, .int .i64 0, .int .i64 0, .int .i64 0, .int .i64 0, .int .i64 0, .int .i64 0] 137) := by
    rw [hW]
    have h := blk_new (w.alloc (.cells #[.int .i64 q, .int .i64 b, .int .i64 c, .int .i64 d, .int .i64 e] 57)) (.cells #[.int .i64 0, .int .i64 0, .int .i64 0, .int .i64 0, .int .i64 0, .int .i64 0, .int .i64 0, .int .i64 0, .int .i64 0, .int .i64 0, .int .i64 0, .int .i64 0] 137)
    simpa using h
  have hf : Fr Non w W := by rw [hW]; exact ((Fr.refl _ _).alloc _).alloc _
  clear hW
  have c0 := blk_cell hq (j := 0) (v := .int .i64 q) rfl
  have c1 := blk_cell hq (j := 1) (v := .int .i64 b) rfl
  have c2 := blk_cell hq (j := 2) (v := .int .i64 c) rfl
  have c3 := blk_cell hq (j := 3) (v := .int .i64 d) rfl
  have c4 := blk_cell hq (j := 4) (v := .int .i64 e) rfl
  have k0 := blk_cell hm (j := 0) (v := .int .i64 0) rfl
  have z0 := blk_frozen hm 0
  have k1 := blk_cell hm (j := 2) (v := .int .i64 0) rfl
  have z1 := blk_frozen hm 2
  have k2 := blk_cell hm (j := 4) (v := .int .i64 0) rfl
  have z2 := blk_frozen hm 4
  have k3 := blk_cell hm (j := 6) (v := .int .i64 0) rfl
  have z3 := blk_frozen hm 6
  have k4 := blk_cell hm (j := 8) (v := .int .i64 0) rfl
  have z4 := blk_frozen hm 8
  have HM := hid hm
  have HQ := hid hq
  have HF := hid hf
  clear hm hq hf
  go_cut [] (fun wx => Fr Non w wx ∧ wx.heap[w.heap.size + 1]? = some (.cells #[.int .i64 0, .int .i64 0, .int .i64 b, .int .i64 0, .int .i64 c, .int .i64 0, .int .i64 0, .int .i64 0, .int .i64 0, .int .i64 0, .int .i64 0, .int .i64 0] 137) ∧ wx.heap[w.heap.size]? = some (.cells #[.int .i64 q, .int .i64 b, .int .i64 c, .int .i64 d, .int .i64 e] 57))
  case first =>
    go_region
    go_wp2_with fail
    go_meet
    exact ⟨(((HF.out.setNew (g := w.heap.size + 1) (by omega) 0 _).setNew (g := w.heap.size + 1) (by omega) 2 _).setNew (g := w.heap.size + 1) (by omega) 4 _).drew, blk_drew (blk_set (i := 4) (blk_set (i := 2) (blk_set (i := 0) HM.out))), blk_drew (blk_set_ne (blk_set_ne (blk_set_ne HQ.out (by show w.heap.size ≠ w.heap.size + 1; omega)) (by show w.heap.size ≠ w.heap.size + 1; omega)) (by show w.heap.size ≠ w.heap.size + 1; omega))⟩
  case rest =>
  obtain ⟨hf2, hm2, hq2⟩ := hcut
  clear k0 k1 k2 k3 k4 z0 z1 z2 z3 z4 c0 c1 c2 c3 c4
  have k3 := blk_cell hm2 (j := 6) (v := .int .i64 0) rfl
  have k4 := blk_cell hm2 (j := 8) (v := .int .i64 0) rfl
  have z3 := blk_frozen hm2 6
  have z4 := blk_frozen hm2 8
  have c3 := blk_cell hq2 (j := 3) (v := .int .i64 d) rfl
  have c4 := blk_cell hq2 (j := 4) (v := .int .i64 e) rfl
  have HM2 := hid hm2
  have HF2 := hid hf2
  clear hm2 hf2 hq2
  go_wp2_with fail
  go_region
  go_wp2_with fail
  go_ret
  exact ⟨w.heap.size + 1, rfl, by omega, ((HF2.out.setNew (g := w.heap.size + 1) (by omega) 6 _).setNew (g := w.heap.size + 1) (by omega) 8 _).drew, blk_drew (blk_set (i := 8) (blk_set (i := 6) HM2.out))⟩
theorem mnew_m (q : Int) (hq : q ≤ 9223372036854775807) (b c d e : Nat) (w : World) (hb : b ≤ 9223372036854775807) (hc : c ≤ 9223372036854775807) (hd : d ≤ 9223372036854775807) (he : e ≤ 9223372036854775807) :
    Calls Try.prog 26 #[.agg #[.int .i64 q, .int .i64 b, .int .i64 c, .int .i64 d, .int .i64 e]] w (MNewPost w ⟨q.toNat, 0, 0, 0, b, c, d, e⟩) := by
  by_cases h : q < 0
  · rw [show q.toNat = 0 by omega]; exact mnew_neg q h b c d e w hb hc hd he
  · obtain ⟨a, rfl⟩ := Int.eq_ofNat_of_zero_le (Int.not_lt.1 h)
    exact mnew_raw a b c d e w (by omega) hb hc hd he
/-- Used. -/
def usedV (m : MS) : Value := .agg #[.int .i64 m.now, .int .i64 m.peak, .int .i64 0, .int .i64 0, .int .i64 0, .int .i64 0]
set_option maxRecDepth 100000 in
set_option maxHeartbeats 1000000 in
theorem used_m (g : Nat) (m : MS) (w : World) (h : MAt w g m) :
    Calls Try.prog 25 #[.pointer (some ⟨g, 0, none⟩)] w fun e w' => e = .returned (usedV m) ∧ Fr Non w w' := by
  obtain ⟨W, hW⟩ : ∃ W, W = w.alloc (.cells #[.int .i64 0, .int .i64 0, .int .i64 0, .int .i64 0, .int .i64 0, .int .i64 0] 52) := ⟨_, rfl⟩
  have hf : Fr Non w W := by rw [hW]; exact (Fr.refl _ _).alloc _
  have hm : MAt W g m := hf.blk h id
  have hu : W.heap[w.heap.size]? = some (.cells #[.int .i64 0, .int .i64 0, .int .i64 0, .int .i64 0, .int .i64 0, .int .i64 0] 52) := by rw [hW]; exact blk_new _ _
  have c1 := blk_cell hm (j := 1) (v := .int .i64 m.now) rfl
  have c3 := blk_cell hm (j := 3) (v := .int .i64 0) rfl
  have c5 := blk_cell hm (j := 5) (v := .int .i64 0) rfl
  have c7 := blk_cell hm (j := 7) (v := .int .i64 0) rfl
  have c9 := blk_cell hm (j := 9) (v := .int .i64 0) rfl
  have c10 := blk_cell hm (j := 10) (v := .int .i64 m.peak) rfl
  have HW := hid hW
  have HF := hid hf
  have HU := hid hu
  clear h hm hf hu hW
  go_enter Try.func25, Try.ntmps25
  go_upto_region 1 with fail
  rw [← HW.out]
  refine wp_region_still_tail 29 (by kernel_rfl) (by kernel_rfl) ?_
  simp only [List.take_succ_cons, List.take_zero, List.drop_succ_cons, List.drop_zero]
  iterate 4 still_step
  still_call (mirrorm (aload_any g 1 m.now _ (by exact c1)))
  iterate 3 still_step
  still_call (mirrorm (aload_any g 10 m.peak _ (by exact c10)))
  iterate 4 still_step
  still_call (mirrorm (aload_any g 3 0 _ (by exact c3)))
  iterate 4 still_step
  still_call (mirrorm (aload_any g 5 0 _ (by exact c5)))
  iterate 4 still_step
  still_call (mirrorm (aload_any g 7 0 _ (by exact c7)))
  iterate 4 still_step
  still_call (mirrorm (aload_any g 9 0 _ (by exact c9)))
  refine wpStill_nil ?_
  change wpList _ _ _ _ _ W.drew
  have hu2 : W.drew.heap[w.heap.size]? = some (.cells #[.int .i64 0, .int .i64 0, .int .i64 0, .int .i64 0, .int .i64 0, .int .i64 0] 52) := HU.out
  have HU2 := hid hu2
  clear hu2
  go_wp2_with (refine wpList_store_row rfl 52 _ _ rfl w.heap.size #[.int .i64 m.now, .int .i64 m.peak, .int .i64 0, .int .i64 0, .int .i64 0, .int .i64 0] rfl rfl 52 #[.int .i64 0, .int .i64 0, .int .i64 0, .int .i64 0, .int .i64 0, .int .i64 0] (by exact HU2.out) (by kernel_rfl) rfl (by kernel_rfl) ?_)
  refine bodyPost_ret (v := usedV m) (results_cell_row rfl _ _ w.heap.size 52 #[.int .i64 m.now, .int .i64 m.peak, .int .i64 0, .int .i64 0, .int .i64 0, .int .i64 0] (0, 0) _ rfl (by exact setRow_heap _ _ _ _ _ _ HU2.out) Try.underlying52 rfl (by kernel_rfl)) rfl ?_
  exact ⟨rfl, HF.out.os, HF.out.tape, HF.out.output, by simp; exact HF.out.size, fun k hk _ => by
    rw [setRow_other _ _ _ _ (show k ≠ w.heap.size by omega)]
    exact HF.out.block k hk id⟩
end Go.Proofs.Ytjnegcambbeblaa
