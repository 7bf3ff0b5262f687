/- The range decoder: reverse trees, bits told straight. -/
import Derived.Test.YtomjagibcdneiaaRdec3
import Derived.Deep.CutBlock
import Derived.Deep.DeepCutAuto
namespace Go.Proofs.Ytomjagibcdneiaa
open Go.RowKit

/-- k bits more of a reverse tree, the next one the i-th. -/
def RD.revGo {S : Type} (nx : S → Int × Bool × S) : Nat → Nat → RD S → (Nat → Int) → Nat → Nat → Nat × (Nat → Int) × RD S
  | 0, _, d, q, _, out => (out, q, d)
  | k + 1, i, d, q, m, out => RD.revGo nx k (i + 1) (d.bit nx (q m)).2.2 (upd q m (d.bit nx (q m)).2.1) (2 * m + (d.bit nx (q m)).1) (out + (d.bit nx (q m)).1 * 2 ^ i)
def RD.rev {S : Type} (nx : S → Int × Bool × S) (k : Nat) (d : RD S) (q : Nat → Int) : Nat × (Nat → Int) × RD S :=
  (if (RD.revGo nx k 0 d q 1 0).2.2.bad = true then 0 else (RD.revGo nx k 0 d q 1 0).1, (RD.revGo nx k 0 d q 1 0).2)
theorem or_high (out b i : Nat) (hb : b ≤ 1) (ho : out < 2 ^ i) (hi : i ≤ 32) : bits .or .i64 (out : Int) (wrap64 ((b : Int) * 2 ^ i)) = ((out + b * 2 ^ i : Nat) : Int) := by
  have hp : 2 ^ i ≤ 2 ^ 32 := Nat.pow_le_pow_right (by decide) hi
  have hbp : b * 2 ^ i ≤ 2 ^ 32 := by
    rcases Nat.le_one_iff_eq_zero_or_eq_one.1 hb with rfl | rfl
    · simp
    · simpa using hp
  have e : (b : Int) * 2 ^ i = ((b * 2 ^ i : Nat) : Int) := by simp
  rw [e, IntWalk.wrap64_in _ ⟨by omega, by omega⟩, i64_or_nat _ _ (by omega) (by omega), Nat.or_comm, nat_or_low _ _ i ho]
  congr 1
  omega

set_option maxRecDepth 100000 in
set_option maxHeartbeats 1000000 in
theorem drev_any {S : Type} (s : Sour S) (g gp off len cap B : Nat) (cs : Array Value) (T : TypeId) (d : RD S) (q : Nat → Int) (w : World) (h : DecIs s g w d) (hg : ¬ decFoot s g gp)
    (hb : w.heap[gp]? = some (.cells cs T)) (hc : ∀ j, j < 2 ^ B → cs[off + j]? = some (.int .u16 (q j))) (hp : Pr q (2 ^ B)) (hB : B ≤ 16) (hL : 2 ^ B ≤ len) (hlen : len ≤ 1048576) :
    Calls Try.prog 36 #[.pointer (some ⟨g, 0, none⟩), .slice (some ⟨gp, off, none⟩) len cap, .int .i64 B] w
      (TreePost s g gp off (2 ^ B) cs T w (.int .i64 (d.rev s.nx B q).1) (d.rev s.nx B q).2.1 (d.rev s.nx B q).2.2) := by
  have H := hid h
  have Hg := hid hg
  have Hb := hid hb
  have Hc := hid hc
  have Hp := hid hp
  clear h hg hb hc hp
  obtain ⟨L, hL1⟩ : ∃ L, L = 2 ^ B := ⟨_, rfl⟩
  rw [← hL1] at hL
  have HL := hid hL1
  clear hL1
  go_enter Try.func36, Try.ntmps36
  go_wp2
  go_loopw [7, 8, 12] (fun mv ov i wr => ∃ (k m out : Nat) (d1 : RD S) (q1 : Nat → Int) (cs1 : Array Value), k ≤ B ∧ i = .int .i64 k ∧ mv = .int .i64 m ∧ ov = .int .i64 out ∧ m < 2 ^ (k + 1) ∧ out < 2 ^ k ∧
      RD.revGo s.nx (B - k) k d1 q1 m out = RD.revGo s.nx B 0 d q 1 0 ∧ Fr (bitFoot s g gp) w wr ∧ DecIs s g wr d1 ∧ wr.heap[gp]? = some (.cells cs1 T) ∧ Win cs cs1 off L q1 ∧ Pr q1 L)
    (fun _ _ i _ => B - (intOf i).toNat)
  case atStart =>
    exact ⟨0, 1, 0, d, q, cs, Nat.zero_le _, rfl, rfl, rfl, by decide, by decide, rfl, Fr.refl _ _, H.out, Hb.out, Win.self (by rw [HL.out]; exact Hc.out), by rw [HL.out]; exact Hp.out⟩
  case round =>
    obtain ⟨k, m, out, d1, q1, cs1, hk, rfl, rfl, rfl, hm1, ho, hgo, hfr, hdec, hblk, hwin, hpr⟩ := hrel
    have Hgo := hid hgo
    have Hfr := hid hfr
    have Hdec := hid hdec
    have Hblk := hid hblk
    have Hwin := hid hwin
    have Hpr := hid hpr
    have Ho := hid ho
    clear hgo hfr hdec hblk hwin hpr ho
    by_cases hlt : k < B
    · have hmL : m < L := by
        have : 2 ^ (k + 1) ≤ 2 ^ B := Nat.pow_le_pow_right (by decide) hlt
        rw [HL.out]; omega
      have hm2 : m < 1048576 := by omega
      have hbit := Hpr.out m hmL
      have Hm1 := hid hm1
      clear hm1
      go_wp2_with fail
      refine (dbit_any s g gp (off + m) cs1 T d1 (q1 m) _ Hdec.out Hg.out Hblk.out (Hwin.out.cell m hmL) (by omega) (by omega)).mono ?_
      rintro e w1 ⟨rfl, hf1, hd1, hb1⟩
      have hb2 := bit_le s.nx d1 (q1 m)
      have hb3 := bit_prob s.nx d1 (q1 m) hbit.1 hbit.2
      have Hf1 := hid hf1
      have Hd1 := hid hd1
      have Hb1 := hid hb1
      have Hb3 := hid hb3
      have Hor := hid (or_bit m (d1.bit s.nx (q1 m)).1 hb2 (by omega))
      have Hor2 := hid (or_high out (d1.bit s.nx (q1 m)).1 k hb2 Ho.out (by omega))
      clear hf1 hd1 hb1 hb3
      go_wp2_with fail
      go_roundw
      case rel =>
        refine ⟨k + 1, 2 * m + (d1.bit s.nx (q1 m)).1, out + (d1.bit s.nx (q1 m)).1 * 2 ^ k, (d1.bit s.nx (q1 m)).2.2, upd q1 m (d1.bit s.nx (q1 m)).2.1, _, by omega, by go_num, by rw [Hor.out], ?_, ?_, ?_, ?_, ?_, Hd1.out, Hb1.out, Hwin.out.set hmL _, Hpr.out.upd m Hb3.out.1 Hb3.out.2⟩
        · rw [Hor2.out]
        · have := Hm1.out; rw [Nat.pow_succ]; omega
        · have := Ho.out
          have h2 : (d1.bit s.nx (q1 m)).1 * 2 ^ k ≤ 1 * 2 ^ k := Nat.mul_le_mul_right _ hb2
          rw [Nat.pow_succ]; omega
        · have e : B - k = (B - (k + 1)) + 1 := by omega
          have := Hgo.out
          rw [e] at this
          exact this
        · exact Fr.then Hfr.out Hf1.out (fun _ _ h => h)
      case measure => simp [intOf]; omega
    · have e : k = B := by omega
      subst e
      have hgo := Hgo.out
      rw [Nat.sub_self] at hgo
      have c3 := blk_cell Hdec.out.at_ (j := 3) (v := .bool d1.bad) rfl
      have hfin : ∀ v : Nat, v = (d.rev s.nx k q).1 → TreePost s g gp off (2 ^ k) cs T w (.int .i64 (d.rev s.nx k q).1) (d.rev s.nx k q).2.1 (d.rev s.nx k q).2.2 (.returned (.int .i64 v)) wr := by
        intro v hv
        unfold RD.rev at hv ⊢
        rw [← hgo] at hv ⊢
        exact ⟨by rw [hv], Hfr.out, Hdec.out, cs1, Hblk.out, by rw [← HL.out]; exact Hwin.out⟩
      have hval : (d.rev s.nx k q).1 = if d1.bad = true then 0 else out := by
        unfold RD.rev
        rw [← hgo]
        rfl
      have HFin := hid hfin
      have HVal := hid hval
      clear hfin hval hgo hm1
      cases hbad : d1.bad with
      | true =>
        rw [hbad] at c3
        have HB := hid hbad
        clear hbad
        go_wp2_with fail
        go_ret
        exact HFin.out 0 (by rw [HVal.out, if_pos HB.out])
      | false =>
        rw [hbad] at c3
        have HB := hid hbad
        clear hbad
        go_wp2_with fail
        go_ret
        exact HFin.out out (by rw [HVal.out, if_neg (by rw [HB.out]; decide)])

/-- one bit told straight. -/
def RD.str1 {S : Type} (nx : S → Int × Bool × S) (d : RD S) : Nat × RD S :=
  if d.rng / 2 ≤ d.code then (1, RD.level nx ⟨d.src, d.rng / 2, d.code - d.rng / 2, decide (d.rng / 2 ≤ d.code - d.rng / 2)⟩)
  else (0, RD.level nx ⟨d.src, d.rng / 2, d.code, false⟩)
def RD.strGo {S : Type} (nx : S → Int × Bool × S) : Nat → RD S → Nat → Nat × RD S
  | 0, d, out => (out, d)
  | k + 1, d, out => if d.bad = true then (out, d) else RD.strGo nx k (d.str1 nx).2 (2 * out + (d.str1 nx).1)
def RD.str {S : Type} (nx : S → Int × Bool × S) (k : Nat) (d : RD S) : Nat × RD S :=
  (if (RD.strGo nx k d 0).2.bad = true then 0 else (RD.strGo nx k d 0).1, (RD.strGo nx k d 0).2)
theorem strGo_bad {S : Type} (nx : S → Int × Bool × S) (k : Nat) (d : RD S) (out : Nat) (h : d.bad = true) : RD.strGo nx k d out = (out, d) := by
  cases k with
  | zero => rfl
  | succ k => show (if d.bad = true then _ else _) = _; rw [if_pos h]
theorem strGo_good {S : Type} (nx : S → Int × Bool × S) (k : Nat) (d : RD S) (out : Nat) (h : d.bad = false) : RD.strGo nx (k + 1) d out = RD.strGo nx k (d.str1 nx).2 (2 * out + (d.str1 nx).1) := by
  show (if d.bad = true then _ else _) = _
  rw [h]; rfl
def StrPost {S : Type} (s : Sour S) (g : Nat) (w : World) (r : Nat × RD S) (e : Ending) (w' : World) : Prop :=
  e = .returned (.int .u32 r.1) ∧ Fr (decFoot s g) w w' ∧ DecIs s g w' r.2
theorem or_one_u32 (out : Nat) (h : out < 2147483648) : bits .or .u32 ((out : Int) * 2) 1 = ((2 * out + 1 : Nat) : Int) := by
  rw [u32_or _ _ (by omega) (by omega) (by decide) (by decide)]
  have e : ((out : Int) * 2).toNat = out * 2 ^ 1 := by omega
  rw [e]
  show ((out * 2 ^ 1 ||| 1 : Nat) : Int) = _
  rw [nat_or_low _ _ 1 (by decide)]
  omega

set_option maxRecDepth 100000 in
set_option maxHeartbeats 1000000 in
theorem dstr_any {S : Type} (s : Sour S) (g B : Nat) (d : RD S) (w : World) (h : DecIs s g w d) (hB : B ≤ 32) :
    Calls Try.prog 37 #[.pointer (some ⟨g, 0, none⟩), .int .i64 B] w (StrPost s g w (d.str s.nx B)) := by
  have H := hid h
  clear h
  go_enter Try.func37, Try.ntmps37
  go_upto_block 0 with fail
  go_cut [5] (fun ov wx => ∃ (out : Nat) (d1 : RD S), ov = .int .u32 out ∧ RD.strGo s.nx B d 0 = (out, d1) ∧ Fr (decFoot s g) w wx ∧ DecIs s g wx d1)
  case first =>
    go_wp2_with fail
    go_loopw [5, 7] (fun ov i wr => ∃ (k out : Nat) (d1 : RD S), k ≤ B ∧ i = .int .i64 k ∧ ov = .int .u32 out ∧ out < 2 ^ k ∧ RD.strGo s.nx (B - k) d1 out = RD.strGo s.nx B d 0 ∧ Fr (decFoot s g) w wr ∧ DecIs s g wr d1)
      (fun _ i _ => B - (intOf i).toNat)
    case atStart => exact ⟨0, 0, d, Nat.zero_le _, rfl, rfl, by decide, rfl, Fr.refl _ _, H.out⟩
    case round =>
      obtain ⟨k, out, d1, hk, rfl, rfl, ho, hgo, hfr, hdec⟩ := hrel
      have c1 := blk_cell hdec.at_ (j := 1) (v := .int .u32 d1.rng) rfl
      have c2 := blk_cell hdec.at_ (j := 2) (v := .int .u32 d1.code) rfl
      have c3 := blk_cell hdec.at_ (j := 3) (v := .bool d1.bad) rfl
      have f1 := blk_frozen hdec.at_ 1
      have f2 := blk_frozen hdec.at_ 2
      have f3 := blk_frozen hdec.at_ 3
      obtain ⟨o1, o2, o3, o4⟩ := hdec.ok
      have Hgo := hid hgo
      have Hfr := hid hfr
      have Hdec := hid hdec
      have Ho := hid ho
      clear hgo hfr hdec ho
      by_cases hlt : k < B
      · cases hbad : d1.bad with
        | true =>
          rw [hbad] at c3
          have HB := hid hbad
          clear hbad
          go_wp2_with fail
          go_meet
          exact ⟨out, d1, rfl, by rw [← Hgo.out, strGo_bad _ _ _ _ HB.out], Hfr.out, Hdec.out⟩
        | false =>
          rw [hbad] at c3
          have HB := hid hbad
          clear hbad
          have ho2 : out < 2147483648 := by
            have h1 := Ho.out
            have h2 : 2 ^ k ≤ 2 ^ 31 := Nat.pow_le_pow_right (by decide) (by omega)
            omega
          have hgo2 := Hgo.out
          rw [show B - k = (B - (k + 1)) + 1 by omega, strGo_good _ _ _ _ HB.out] at hgo2
          have Hgo2 := hid hgo2
          clear hgo2
          by_cases hge : d1.rng / 2 ≤ d1.code
          · obtain ⟨D, hD⟩ : ∃ D, D = RD.level s.nx ⟨d1.src, d1.rng / 2, d1.code - d1.rng / 2, decide (d1.rng / 2 ≤ d1.code - d1.rng / 2)⟩ := ⟨_, rfl⟩
            have e : d1.str1 s.nx = (1, D) := by unfold RD.str1; rw [if_pos hge, hD]
            have e2 : ∀ w0, DecIs s g w0 ⟨d1.src, d1.rng / 2, d1.code - d1.rng / 2, decide (d1.rng / 2 ≤ d1.code - d1.rng / 2)⟩ → Calls Try.prog 52 #[.pointer (some ⟨g, 0, none⟩)] w0 (DPost s g w0 (.tuple #[]) D) := fun w0 h0 => by
              rw [hD]; exact dlevel_any s g _ w0 h0
            have E := hid e
            have E2 := hid e2
            have Hor := hid (or_one_u32 out ho2)
            clear e e2 hD
            go_wp2
            go_quiet (fail)
            go_wp2
            go_region
            all_goals go_wp2
            all_goals go_region
            all_goals go_wp2_with fail
            refine (E2.out _ (by
              refine DecIs.drew ?_
              exact (((Hdec.out.set (d' := ⟨d1.src, d1.rng / 2, d1.code, d1.bad⟩) 1 _ rfl rfl ⟨by show 0 ≤ d1.rng / 2; omega, by show d1.rng / 2 < _; omega, o3, o4⟩).drewN _).set (d' := ⟨d1.src, d1.rng / 2, d1.code - d1.rng / 2, d1.bad⟩) 2 _ rfl rfl ⟨by show 0 ≤ d1.rng / 2; omega, by show d1.rng / 2 < _; omega, by show 0 ≤ d1.code - d1.rng / 2; omega, by show d1.code - d1.rng / 2 < _; omega⟩).set 3 _ rfl rfl ⟨by show 0 ≤ d1.rng / 2; omega, by show d1.rng / 2 < _; omega, by show 0 ≤ d1.code - d1.rng / 2; omega, by show d1.code - d1.rng / 2 < _; omega⟩)).mono ?_
            rintro e w1 ⟨rfl, hf1, hd1⟩
            have HF1 := hid hf1
            have HD1 := hid hd1
            clear hf1 hd1
            go_wp2_with fail
            go_roundw
            case rel =>
              refine ⟨k + 1, 2 * out + 1, D, by omega, by go_num, by rw [Hor.out], ?_, ?_, ?_, HD1.out⟩
              · have := Ho.out; rw [Nat.pow_succ]; omega
              · have := Hgo2.out
                rw [E.out] at this
                exact this
              · refine Hfr.out.trans (Fr.trans ?_ HF1.out)
                refine Fr.drew ?_
                refine Fr.setCell ?_ (fun _ => .inl rfl) _
                refine Fr.setCell ?_ (fun _ => .inl rfl) _
                refine Fr.drewN ?_ _
                refine Fr.setCell ?_ (fun _ => .inl rfl) _
                exact Fr.refl _ _
            case measure => simp [intOf]; omega
          · obtain ⟨D, hD⟩ : ∃ D, D = RD.level s.nx ⟨d1.src, d1.rng / 2, d1.code, false⟩ := ⟨_, rfl⟩
            have e : d1.str1 s.nx = (0, D) := by unfold RD.str1; rw [if_neg hge, hD]
            have e2 : ∀ w0, DecIs s g w0 ⟨d1.src, d1.rng / 2, d1.code, false⟩ → Calls Try.prog 52 #[.pointer (some ⟨g, 0, none⟩)] w0 (DPost s g w0 (.tuple #[]) D) := fun w0 h0 => by
              rw [hD]; exact dlevel_any s g _ w0 h0
            have E := hid e
            have E2 := hid e2
            clear e e2 hD
            go_wp2
            go_quiet (fail)
            go_wp2
            go_region
            all_goals go_wp2_with fail
            refine (E2.out _ (by
              rw [show decide (d1.rng / 2 ≤ d1.code) = false from decide_eq_false (by omega)]
              exact ((Hdec.out.set (d' := ⟨d1.src, d1.rng / 2, d1.code, d1.bad⟩) 1 _ rfl rfl ⟨by show 0 ≤ d1.rng / 2; omega, by show d1.rng / 2 < _; omega, o3, o4⟩).drewN _).set 3 _ rfl rfl ⟨by show 0 ≤ d1.rng / 2; omega, by show d1.rng / 2 < _; omega, o3, o4⟩)).mono ?_
            rintro e w1 ⟨rfl, hf1, hd1⟩
            have HF1 := hid hf1
            have HD1 := hid hd1
            clear hf1 hd1
            go_wp2_with fail
            go_roundw
            case rel =>
              refine ⟨k + 1, 2 * out + 0, D, by omega, by go_num, by go_num, ?_, ?_, ?_, HD1.out⟩
              · have := Ho.out; rw [Nat.pow_succ]; omega
              · have := Hgo2.out
                rw [E.out] at this
                exact this
              · refine Hfr.out.trans (Fr.trans ?_ HF1.out)
                refine Fr.setCell ?_ (fun _ => .inl rfl) _
                refine Fr.drewN ?_ _
                refine Fr.setCell ?_ (fun _ => .inl rfl) _
                exact Fr.refl _ _
            case measure => simp [intOf]; omega
      · have e : k = B := by omega
        subst e
        go_wp2_with fail
        go_meet
        exact ⟨out, d1, rfl, by rw [← Hgo.out, Nat.sub_self]; rfl, Hfr.out, Hdec.out⟩
  case rest =>
    obtain ⟨out, d1, rfl, hgo, hfr, hdec⟩ := hcut
    have c3 := blk_cell hdec.at_ (j := 3) (v := .bool d1.bad) rfl
    have Hgo := hid hgo
    have Hfr := hid hfr
    have Hdec := hid hdec
    clear hgo hfr hdec
    cases hbad : d1.bad with
    | true =>
      rw [hbad] at c3
      have HB := hid hbad
      clear hbad
      go_wp2_with fail
      go_ret
      unfold RD.str
      rw [Hgo.out, if_pos HB.out]
      exact ⟨rfl, Hfr.out, Hdec.out⟩
    | false =>
      rw [hbad] at c3
      have HB := hid hbad
      clear hbad
      go_wp2_with fail
      go_ret
      unfold RD.str
      rw [Hgo.out, if_neg (by rw [HB.out]; decide)]
      exact ⟨rfl, Hfr.out, Hdec.out⟩
end Go.Proofs.Ytomjagibcdneiaa
