/- Texts of this proof, one behind the other. -/
import Derived.Test.YtjnegcambbeblaaMg01
import Derived.Deep.CutBlock
import Derived.Deep.DeepCutAuto
import Derived.Deep.Slices
import Derived.Deep.Fields
import Derived.ChangeSame
import Derived.ProofKit
import Derived.OpenShut

/- The range decoder: reverse trees, bits told straight. -/
namespace Go.Proofs.Ytjnegcambbeblaa
open Go.RowKit

/-- k bits more of a reverse tree, the next one the i-th. -/
def RD.revGo {S : Type} (nx : S → Int × Bool × S) : Nat → Nat → RD S → (Nat → Int) → Nat → Nat → Nat × (Nat → Int) × RD S
  | 0, _, d, q, _, out => (out, q, d)
  | k + 1, i, d, q, m, out => RD.revGo nx k (i + 1) (d.bit nx (q m)).2.2 (upd q m (d.bit nx (q m)).2.1) (2 * m + (d.bit nx (q m)).1) (out + (d.bit nx (q m)).1 * 2 ^ i)
def RD.rev {S : Type} (nx : S → Int × Bool × S) (k : Nat) (d : RD S) (q : Nat → Int) : Nat × (Nat → Int) × RD S :=
  (if (RD.revGo nx k 0 d q 1 0).2.2.bad = true then 0 else (RD.revGo nx k 0 d q 1 0).1, (RD.revGo nx k 0 d q 1 0).2)
theorem or_high (out b i : Nat) (hb : b ≤ 1) (ho : out < 2 ^ i) (hi : i ≤ 32) : bits .or .i64 (out : Int) (wrap64 ((b : Int) * 2 ^ i)) = ((out + b * 2 ^ i : Nat) : Int) := by
  have hp : 2 ^ i ≤ 2 ^ 32 := Nat.pow_le_pow_right (by decide) hi
  have hbp : b * 2 ^ i ≤ 2 ^ 32 := by
    rcases Nat.le_one_iff_eq_zero_or_eq_one.1 hb with rfl | rfl
    · simp
    · simpa using hp
  have e : (b : Int) * 2 ^ i = ((b * 2 ^ i : Nat) : Int) := by simp
  rw [e, IntWalk.wrap64_in _ ⟨by omega, by omega⟩, i64_or_nat _ _ (by omega) (by omega), Nat.or_comm, nat_or_low _ _ i ho]
  congr 1
  omega

set_option maxRecDepth 100000 in
set_option maxHeartbeats 1000000 in
theorem drev_any {S : Type} (s : Sour S) (g gp off len cap B : Nat) (cs : Array Value) (T : TypeId) (d : RD S) (q : Nat → Int) (w : World) (h : DecIs s g w d) (hg : ¬ decFoot s g gp)
    (hb : w.heap[gp]? = some (.cells cs T)) (hc : ∀ j, j < 2 ^ B → cs[off + j]? = some (.int .u16 (q j))) (hp : Pr q (2 ^ B)) (hB : B ≤ 16) (hL : 2 ^ B ≤ len) (hlen : len ≤ 1048576) :
    Calls Try.prog 128 #[.pointer (some ⟨g, 0, none⟩), .slice (some ⟨gp, off, none⟩) len cap, .int .i64 B] w
      (TreePost s g gp off (2 ^ B) cs T w (.int .i64 (d.rev s.nx B q).1) (d.rev s.nx B q).2.1 (d.rev s.nx B q).2.2) := by
  have H := hid h
  have Hg := hid hg
  have Hb := hid hb
  have Hc := hid hc
  have Hp := hid hp
  clear h hg hb hc hp
  obtain ⟨L, hL1⟩ : ∃ L, L = 2 ^ B := ⟨_, rfl⟩
  rw [← hL1] at hL
  have HL := hid hL1
  clear hL1
  go_enter Try.func128, Try.ntmps128
  go_wp2
  go_loopw [7, 8, 12] (fun mv ov i wr => ∃ (k m out : Nat) (d1 : RD S) (q1 : Nat → Int) (cs1 : Array Value), k ≤ B ∧ i = .int .i64 k ∧ mv = .int .i64 m ∧ ov = .int .i64 out ∧ m < 2 ^ (k + 1) ∧ out < 2 ^ k ∧
      RD.revGo s.nx (B - k) k d1 q1 m out = RD.revGo s.nx B 0 d q 1 0 ∧ Fr (bitFoot s g gp) w wr ∧ DecIs s g wr d1 ∧ wr.heap[gp]? = some (.cells cs1 T) ∧ Win cs cs1 off L q1 ∧ Pr q1 L)
    (fun _ _ i _ => B - (intOf i).toNat)
  case atStart =>
    exact ⟨0, 1, 0, d, q, cs, Nat.zero_le _, rfl, rfl, rfl, by decide, by decide, rfl, Fr.refl _ _, H.out, Hb.out, Win.self (by rw [HL.out]; exact Hc.out), by rw [HL.out]; exact Hp.out⟩
  case round =>
    obtain ⟨k, m, out, d1, q1, cs1, hk, rfl, rfl, rfl, hm1, ho, hgo, hfr, hdec, hblk, hwin, hpr⟩ := hrel
    have Hgo := hid hgo
    have Hfr := hid hfr
    have Hdec := hid hdec
    have Hblk := hid hblk
    have Hwin := hid hwin
    have Hpr := hid hpr
    have Ho := hid ho
    clear hgo hfr hdec hblk hwin hpr ho
    by_cases hlt : k < B
    · have hmL : m < L := by
        have : 2 ^ (k + 1) ≤ 2 ^ B := Nat.pow_le_pow_right (by decide) hlt
        rw [HL.out]; omega
      have hm2 : m < 1048576 := by omega
      have hbit := Hpr.out m hmL
      have Hm1 := hid hm1
      clear hm1
      go_wp2_with fail
      refine (dbit_any s g gp (off + m) cs1 T d1 (q1 m) _ Hdec.out Hg.out Hblk.out (Hwin.out.cell m hmL) (by omega) (by omega)).mono ?_
      rintro e w1 ⟨rfl, hf1, hd1, hb1⟩
      have hb2 := bit_le s.nx d1 (q1 m)
      have hb3 := bit_prob s.nx d1 (q1 m) hbit.1 hbit.2
      have Hf1 := hid hf1
      have Hd1 := hid hd1
      have Hb1 := hid hb1
      have Hb3 := hid hb3
      have Hor := hid (or_bit m (d1.bit s.nx (q1 m)).1 hb2 (by omega))
      have Hor2 := hid (or_high out (d1.bit s.nx (q1 m)).1 k hb2 Ho.out (by omega))
      clear hf1 hd1 hb1 hb3
      go_wp2_with fail
      go_roundw
      case rel =>
        refine ⟨k + 1, 2 * m + (d1.bit s.nx (q1 m)).1, out + (d1.bit s.nx (q1 m)).1 * 2 ^ k, (d1.bit s.nx (q1 m)).2.2, upd q1 m (d1.bit s.nx (q1 m)).2.1, _, by omega, by go_num, by rw [Hor.out], ?_, ?_, ?_, ?_, ?_, Hd1.out, Hb1.out, Hwin.out.set hmL _, Hpr.out.upd m Hb3.out.1 Hb3.out.2⟩
        · rw [Hor2.out]
        · have := Hm1.out; rw [Nat.pow_succ]; omega
        · have := Ho.out
          have h2 : (d1.bit s.nx (q1 m)).1 * 2 ^ k ≤ 1 * 2 ^ k := Nat.mul_le_mul_right _ hb2
          rw [Nat.pow_succ]; omega
        · have e : B - k = (B - (k + 1)) + 1 := by omega
          have := Hgo.out
          rw [e] at this
          exact this
        · exact Fr.then Hfr.out Hf1.out (fun _ _ h => h)
      case measure => simp [intOf]; omega
    · have e : k = B := by omega
      subst e
      have hgo := Hgo.out
      rw [Nat.sub_self] at hgo
      have c3 := blk_cell Hdec.out.at_ (j := 3) (v := .bool d1.bad) rfl
      have hfin : ∀ v : Nat, v = (d.rev s.nx k q).1 → TreePost s g gp off (2 ^ k) cs T w (.int .i64 (d.rev s.nx k q).1) (d.rev s.nx k q).2.1 (d.rev s.nx k q).2.2 (.returned (.int .i64 v)) wr := by
        intro v hv
        unfold RD.rev at hv ⊢
        rw [← hgo] at hv ⊢
        exact ⟨by rw [hv], Hfr.out, Hdec.out, cs1, Hblk.out, by rw [← HL.out]; exact Hwin.out⟩
      have hval : (d.rev s.nx k q).1 = if d1.bad = true then 0 else out := by
        unfold RD.rev
        rw [← hgo]
        rfl
      have HFin := hid hfin
      have HVal := hid hval
      clear hfin hval hgo hm1
      cases hbad : d1.bad with
      | true =>
        rw [hbad] at c3
        have HB := hid hbad
        clear hbad
        go_wp2_with fail
        go_ret
        exact HFin.out 0 (by rw [HVal.out, if_pos HB.out])
      | false =>
        rw [hbad] at c3
        have HB := hid hbad
        clear hbad
        go_wp2_with fail
        go_ret
        exact HFin.out out (by rw [HVal.out, if_neg (by rw [HB.out]; decide)])

/-- one bit told straight. -/
def RD.str1 {S : Type} (nx : S → Int × Bool × S) (d : RD S) : Nat × RD S :=
  if d.rng / 2 ≤ d.code then (1, RD.level nx ⟨d.src, d.rng / 2, d.code - d.rng / 2, decide (d.rng / 2 ≤ d.code - d.rng / 2)⟩)
  else (0, RD.level nx ⟨d.src, d.rng / 2, d.code, false⟩)
def RD.strGo {S : Type} (nx : S → Int × Bool × S) : Nat → RD S → Nat → Nat × RD S
  | 0, d, out => (out, d)
  | k + 1, d, out => if d.bad = true then (out, d) else RD.strGo nx k (d.str1 nx).2 (2 * out + (d.str1 nx).1)
def RD.str {S : Type} (nx : S → Int × Bool × S) (k : Nat) (d : RD S) : Nat × RD S :=
  (if (RD.strGo nx k d 0).2.bad = true then 0 else (RD.strGo nx k d 0).1, (RD.strGo nx k d 0).2)
theorem strGo_bad {S : Type} (nx : S → Int × Bool × S) (k : Nat) (d : RD S) (out : Nat) (h : d.bad = true) : RD.strGo nx k d out = (out, d) := by
  cases k with
  | zero => rfl
  | succ k => show (if d.bad = true then _ else _) = _; rw [if_pos h]
theorem strGo_good {S : Type} (nx : S → Int × Bool × S) (k : Nat) (d : RD S) (out : Nat) (h : d.bad = false) : RD.strGo nx (k + 1) d out = RD.strGo nx k (d.str1 nx).2 (2 * out + (d.str1 nx).1) := by
  show (if d.bad = true then _ else _) = _
  rw [h]; rfl
def StrPost {S : Type} (s : Sour S) (g : Nat) (w : World) (r : Nat × RD S) (e : Ending) (w' : World) : Prop :=
  e = .returned (.int .u32 r.1) ∧ Fr (decFoot s g) w w' ∧ DecIs s g w' r.2
theorem or_one_u32 (out : Nat) (h : out < 2147483648) : bits .or .u32 ((out : Int) * 2) 1 = ((2 * out + 1 : Nat) : Int) := by
  rw [u32_or _ _ (by omega) (by omega) (by decide) (by decide)]
  have e : ((out : Int) * 2).toNat = out * 2 ^ 1 := by omega
  rw [e]
  show ((out * 2 ^ 1 ||| 1 : Nat) : Int) = _
  rw [nat_or_low _ _ 1 (by decide)]
  omega

set_option maxRecDepth 100000 in
set_option maxHeartbeats 1000000 in
theorem dstr_any {S : Type} (s : Sour S) (g B : Nat) (d : RD S) (w : World) (h : DecIs s g w d) (hB : B ≤ 32) :
    Calls Try.prog 129 #[.pointer (some ⟨g, 0, none⟩), .int .i64 B] w (StrPost s g w (d.str s.nx B)) := by
  have H := hid h
  clear h
  go_enter Try.func129, Try.ntmps129
  go_upto_block 0 with fail
  go_cut [5] (fun ov wx => ∃ (out : Nat) (d1 : RD S), ov = .int .u32 out ∧ RD.strGo s.nx B d 0 = (out, d1) ∧ Fr (decFoot s g) w wx ∧ DecIs s g wx d1)
  case first =>
    go_wp2_with fail
    go_loopw [5, 7] (fun ov i wr => ∃ (k out : Nat) (d1 : RD S), k ≤ B ∧ i = .int .i64 k ∧ ov = .int .u32 out ∧ out < 2 ^ k ∧ RD.strGo s.nx (B - k) d1 out = RD.strGo s.nx B d 0 ∧ Fr (decFoot s g) w wr ∧ DecIs s g wr d1)
      (fun _ i _ => B - (intOf i).toNat)
    case atStart => exact ⟨0, 0, d, Nat.zero_le _, rfl, rfl, by decide, rfl, Fr.refl _ _, H.out⟩
    case round =>
      obtain ⟨k, out, d1, hk, rfl, rfl, ho, hgo, hfr, hdec⟩ := hrel
      have c1 := blk_cell hdec.at_ (j := 1) (v := .int .u32 d1.rng) rfl
      have c2 := blk_cell hdec.at_ (j := 2) (v := .int .u32 d1.code) rfl
      have c3 := blk_cell hdec.at_ (j := 3) (v := .bool d1.bad) rfl
      have f1 := blk_frozen hdec.at_ 1
      have f2 := blk_frozen hdec.at_ 2
      have f3 := blk_frozen hdec.at_ 3
      obtain ⟨o1, o2, o3, o4⟩ := hdec.ok
      have Hgo := hid hgo
      have Hfr := hid hfr
      have Hdec := hid hdec
      have Ho := hid ho
      clear hgo hfr hdec ho
      by_cases hlt : k < B
      · cases hbad : d1.bad with
        | true =>
          rw [hbad] at c3
          have HB := hid hbad
          clear hbad
          go_wp2_with fail
          go_meet
          exact ⟨out, d1, rfl, by rw [← Hgo.out, strGo_bad _ _ _ _ HB.out], Hfr.out, Hdec.out⟩
        | false =>
          rw [hbad] at c3
          have HB := hid hbad
          clear hbad
          have ho2 : out < 2147483648 := by
            have h1 := Ho.out
            have h2 : 2 ^ k ≤ 2 ^ 31 := Nat.pow_le_pow_right (by decide) (by omega)
            omega
          have hgo2 := Hgo.out
          rw [show B - k = (B - (k + 1)) + 1 by omega, strGo_good _ _ _ _ HB.out] at hgo2
          have Hgo2 := hid hgo2
          clear hgo2
          by_cases hge : d1.rng / 2 ≤ d1.code
          · obtain ⟨D, hD⟩ : ∃ D, D = RD.level s.nx ⟨d1.src, d1.rng / 2, d1.code - d1.rng / 2, decide (d1.rng / 2 ≤ d1.code - d1.rng / 2)⟩ := ⟨_, rfl⟩
            have e : d1.str1 s.nx = (1, D) := by unfold RD.str1; rw [if_pos hge, hD]
            have e2 : ∀ w0, DecIs s g w0 ⟨d1.src, d1.rng / 2, d1.code - d1.rng / 2, decide (d1.rng / 2 ≤ d1.code - d1.rng / 2)⟩ → Calls Try.prog 115 #[.pointer (some ⟨g, 0, none⟩)] w0 (DPost s g w0 (.tuple #[]) D) := fun w0 h0 => by
              rw [hD]; exact dlevel_any s g _ w0 h0
            have E := hid e
            have E2 := hid e2
            have Hor := hid (or_one_u32 out ho2)
            clear e e2 hD
            go_wp2
            go_quiet (fail)
            go_wp2
            go_region
            all_goals go_wp2
            all_goals go_region
            all_goals go_wp2_with fail
            refine (E2.out _ (by
              refine DecIs.drew ?_
              exact (((Hdec.out.set (d' := ⟨d1.src, d1.rng / 2, d1.code, d1.bad⟩) 1 _ rfl rfl ⟨by show 0 ≤ d1.rng / 2; omega, by show d1.rng / 2 < _; omega, o3, o4⟩).drewN _).set (d' := ⟨d1.src, d1.rng / 2, d1.code - d1.rng / 2, d1.bad⟩) 2 _ rfl rfl ⟨by show 0 ≤ d1.rng / 2; omega, by show d1.rng / 2 < _; omega, by show 0 ≤ d1.code - d1.rng / 2; omega, by show d1.code - d1.rng / 2 < _; omega⟩).set 3 _ rfl rfl ⟨by show 0 ≤ d1.rng / 2; omega, by show d1.rng / 2 < _; omega, by show 0 ≤ d1.code - d1.rng / 2; omega, by show d1.code - d1.rng / 2 < _; omega⟩)).mono ?_
            rintro e w1 ⟨rfl, hf1, hd1⟩
            have HF1 := hid hf1
            have HD1 := hid hd1
            clear hf1 hd1
            go_wp2_with fail
            go_roundw
            case rel =>
              refine ⟨k + 1, 2 * out + 1, D, by omega, by go_num, by rw [Hor.out], ?_, ?_, ?_, HD1.out⟩
              · have := Ho.out; rw [Nat.pow_succ]; omega
              · have := Hgo2.out
                rw [E.out] at this
                exact this
              · refine Hfr.out.trans (Fr.trans ?_ HF1.out)
                refine Fr.drew ?_
                refine Fr.setCell ?_ (fun _ => .inl rfl) _
                refine Fr.setCell ?_ (fun _ => .inl rfl) _
                refine Fr.drewN ?_ _
                refine Fr.setCell ?_ (fun _ => .inl rfl) _
                exact Fr.refl _ _
            case measure => simp [intOf]; omega
          · obtain ⟨D, hD⟩ : ∃ D, D = RD.level s.nx ⟨d1.src, d1.rng / 2, d1.code, false⟩ := ⟨_, rfl⟩
            have e : d1.str1 s.nx = (0, D) := by unfold RD.str1; rw [if_neg hge, hD]
            have e2 : ∀ w0, DecIs s g w0 ⟨d1.src, d1.rng / 2, d1.code, false⟩ → Calls Try.prog 115 #[.pointer (some ⟨g, 0, none⟩)] w0 (DPost s g w0 (.tuple #[]) D) := fun w0 h0 => by
              rw [hD]; exact dlevel_any s g _ w0 h0
            have E := hid e
            have E2 := hid e2
            clear e e2 hD
            go_wp2
            go_quiet (fail)
            go_wp2
            go_region
            all_goals go_wp2_with fail
            refine (E2.out _ (by
              rw [show decide (d1.rng / 2 ≤ d1.code) = false from decide_eq_false (by omega)]
              exact ((Hdec.out.set (d' := ⟨d1.src, d1.rng / 2, d1.code, d1.bad⟩) 1 _ rfl rfl ⟨by show 0 ≤ d1.rng / 2; omega, by show d1.rng / 2 < _; omega, o3, o4⟩).drewN _).set 3 _ rfl rfl ⟨by show 0 ≤ d1.rng / 2; omega, by show d1.rng / 2 < _; omega, o3, o4⟩)).mono ?_
            rintro e w1 ⟨rfl, hf1, hd1⟩
            have HF1 := hid hf1
            have HD1 := hid hd1
            clear hf1 hd1
            go_wp2_with fail
            go_roundw
            case rel =>
              refine ⟨k + 1, 2 * out + 0, D, by omega, by go_num, by go_num, ?_, ?_, ?_, HD1.out⟩
              · have := Ho.out; rw [Nat.pow_succ]; omega
              · have := Hgo2.out
                rw [E.out] at this
                exact this
              · refine Hfr.out.trans (Fr.trans ?_ HF1.out)
                refine Fr.setCell ?_ (fun _ => .inl rfl) _
                refine Fr.drewN ?_ _
                refine Fr.setCell ?_ (fun _ => .inl rfl) _
                exact Fr.refl _ _
            case measure => simp [intOf]; omega
      · have e : k = B := by omega
        subst e
        go_wp2_with fail
        go_meet
        exact ⟨out, d1, rfl, by rw [← Hgo.out, Nat.sub_self]; rfl, Hfr.out, Hdec.out⟩
  case rest =>
    obtain ⟨out, d1, rfl, hgo, hfr, hdec⟩ := hcut
    have c3 := blk_cell hdec.at_ (j := 3) (v := .bool d1.bad) rfl
    have Hgo := hid hgo
    have Hfr := hid hfr
    have Hdec := hid hdec
    clear hgo hfr hdec
    cases hbad : d1.bad with
    | true =>
      rw [hbad] at c3
      have HB := hid hbad
      clear hbad
      go_wp2_with fail
      go_ret
      unfold RD.str
      rw [Hgo.out, if_pos HB.out]
      exact ⟨rfl, Hfr.out, Hdec.out⟩
    | false =>
      rw [hbad] at c3
      have HB := hid hbad
      clear hbad
      go_wp2_with fail
      go_ret
      unfold RD.str
      rw [Hgo.out, if_neg (by rw [HB.out]; decide)]
      exact ⟨rfl, Hfr.out, Hdec.out⟩
end Go.Proofs.Ytjnegcambbeblaa

/- slices.Clone at bytes; src.NewFeed. -/
namespace Go.Proofs.Ytjnegcambbeblaa
open Go.RowKit

theorem Try.info_u8 : (Try.prog.info? 5).map (fun i => (i.zero, i.size, i.bytes)) = some (some (.int .u8 0), 1, 1) := by kernel_rfl
theorem list_row {k : IntKind} {w : World} {B n : Nat} {a : Option Addr} {f : Nat → Int} (h : RowIn B k w a n (fun i => ((List.range n).map f).getD i 0)) : RowIn B k w a n f :=
  h.ext fun i hi => by simp [List.getD, hi]
/-- a clone: new cells with the same bytes (or nil for nil). -/
def ClonePost (w : World) (n : Nat) (f : Nat → Int) (e : Ending) (w' : World) : Prop :=
  ∃ a' c', e = .returned (.slice a' n c') ∧ Fr Non w w' ∧ RowIn w'.heap.size .u8 w' a' n f ∧ n ≤ c' ∧ c' ≤ maxLen ∧ ∀ ad, a' = some ad → w.heap.size ≤ ad.block ∧ ad.block < w'.heap.size

set_option maxRecDepth 100000 in
theorem clone_any (a : Option Addr) (n c : Nat) (f : Nat → Int) (w : World) (hn : n ≤ 1048576) (hnc : n ≤ c) (hnil : a = none → c = 0) (h : RowIn w.heap.size .u8 w a n f) :
    Calls Try.prog 59 #[.slice a n c] w (ClonePost w n f) := by
  have H := hid h
  clear h
  cases a with
  | none =>
    have hc : c = 0 := hnil rfl
    have hn0 : n = 0 := by omega
    subst hc hn0
    clear hnil
    have k0 := fun wx : World => Lib.run_eql_slice_nil (P := Try.prog) wx 30 5 none 0 0 0 0 Try.underlying30
    go_enter Try.func59, Try.ntmps59
    go_wp2
    go_ret
    exact ⟨none, 0, rfl, Fr.refl _ _, .inl rfl, Nat.le_refl _, by simp [maxLen], fun ad e => by cases e⟩
  | some ad =>
    clear hnil
    have k0 := fun wx : World => Lib.run_eql_slice_nil (P := Try.prog) wx 30 5 (some ad) n c 0 0 Try.underlying30
    go_enter Try.func59, Try.ntmps59
    go_wp2_with (refine opAppendRow (some 7) rfl rfl (.tmp 5) (.tmp 6) 30 rfl w.heap.size .u8 5 1 Try.underlying30 Try.info_u8 (.slice (some ⟨w.heap.size, 0, none⟩) 0 0) [] rfl (Own.empty w _ .u8 5 (Nat.le_refl _)) w.heap.size (some ad) n c f rfl (fun e => by cases e) hnc (H.out.fr ((Fr.refl Non _).alloc _) (fun _ _ => id)) (by decide) (by simp; omega) (by simp) ?_; intro v2 w2 hown2 hg2)
    go_ret
    obtain ⟨ao, co, rfl, hlo, hcm, hro⟩ := hown2.rowN (n := n) (by simp)
    refine ⟨ao, co, rfl, clone_fr hg2, list_row hro, hlo, hcm, fun ad e => ?_⟩
    subst e
    exact hown2.block ad.block rfl

/-- a new feed over a copy of the bytes. -/
def NewFeedPost (w : World) (n : Nat) (f : Nat → Int) (e : Ending) (w' : World) : Prop :=
  ∃ g a' c', e = .returned (.pointer (some ⟨g, 0, none⟩)) ∧ Fr Non w w' ∧ FeedAt w' g a' n c' 0 ∧ RowIn g .u8 w' a' n f ∧ ∀ k, feedFoot g a' k → w.heap.size ≤ k ∧ k < w'.heap.size
set_option maxRecDepth 100000 in
theorem newFeed_any (a : Option Addr) (n c : Nat) (f : Nat → Int) (w : World) (hn : n ≤ 1048576) (hnc : n ≤ c) (hnil : a = none → c = 0) (h : RowIn w.heap.size .u8 w a n f) :
    Calls Try.prog 22 #[.slice a n c] w (NewFeedPost w n f) := by
  have H := hid h
  have Hnil := hid hnil
  clear h hnil
  go_enter Try.func22, Try.ntmps22
  go_wp2_with fail
  refine (clone_any a n c f _ hn hnc Hnil.out H.out).mono ?_
  rintro e w1 ⟨a', c', rfl, hf1, hr1, hn1, hc1, hb1⟩
  have HF := hid hf1
  have HR := hid hr1
  have HB := hid hb1
  clear hf1 hr1 hb1
  go_wp2
  go_ret
  refine ⟨w1.heap.size, a', c', rfl, HF.out.alloc _, blk_new _ _, HR.out.fr ((Fr.refl Non _).alloc _) (fun _ _ => id), fun k hk => ?_⟩
  have hs := HF.out.size
  rcases hk with rfl | ⟨ad, e, rfl⟩
  · exact ⟨hs, by simp⟩
  · have := HB.out ad e
    refine ⟨this.1, ?_⟩
    simp
    omega
end Go.Proofs.Ytjnegcambbeblaa

/- The range decoder: New, Fresh, Bad, Done. -/
namespace Go.Proofs.Ytjnegcambbeblaa
open Go.RowKit

theorem dbadq_any {S : Type} (s : Sour S) (g : Nat) (d : RD S) (w : World) (h : DecIs s g w d) :
    Calls Try.prog 89 #[.pointer (some ⟨g, 0, none⟩)] w fun e w' => e = .returned (.bool d.bad) ∧ w = w' := by
  have c3 := blk_cell h.at_ (j := 3) (v := .bool d.bad) rfl
  clear h
  go_enter Try.func89, Try.ntmps89
  go_wp2
  go_ret
  exact ⟨rfl, rfl⟩
def RD.done {S : Type} (d : RD S) : Bool := !d.bad && d.code == 0
theorem ddone_any {S : Type} (s : Sour S) (g : Nat) (d : RD S) (w : World) (h : DecIs s g w d) :
    Calls Try.prog 67 #[.pointer (some ⟨g, 0, none⟩)] w fun e w' => e = .returned (.bool d.done) ∧ w = w' := by
  have c3 := blk_cell h.at_ (j := 3) (v := .bool d.bad) rfl
  have c2 := blk_cell h.at_ (j := 2) (v := .int .u32 d.code) rfl
  clear h
  unfold RD.done
  cases hb : d.bad with
  | true =>
    rw [hb] at c3
    go_enter Try.func67, Try.ntmps67
    go_wp2
    go_ret
    exact ⟨rfl, rfl⟩
  | false =>
    rw [hb] at c3
    go_enter Try.func67, Try.ntmps67
    go_wp2
    go_ret
    exact ⟨rfl, rfl⟩

theorem Try.info_u16 : (Try.prog.info? 40).map (fun i => (i.zero, i.size, i.bytes)) = some (some (.int .u16 0), 1, 2) := by kernel_rfl
theorem make_u16 (n : Nat) (hn : n ≤ 1048576) (w : World) : (Instr.makeSlice 82 (.int .i64 n) (.int .i64 n)).run Try.prog w = .ok (.slice (some ⟨w.heap.size, 0, none⟩) n n) (w.alloc (.cells (arr .u16 n (fun _ => 0)) 40)) := by
  obtain ⟨i, hi, hz0, hz1, hz2⟩ := info_parts Try.info_u16
  have h := run_make (P := Try.prog) w 82 40 i (.int .u16 0) Try.underlying82 hi hz0 .i64 .i64 n n (by omega) (by omega) (by rw [hz2]; omega) (by omega)
  simp only [Int.toNat_natCast, hz1, arr_made] at h
  exact h
/-- n fresh probabilities in a block of their own. -/
def FreshPost (w : World) (n : Nat) (e : Ending) (w' : World) : Prop :=
  ∃ g, w.heap.size ≤ g ∧ e = .returned (.slice (some ⟨g, 0, none⟩) n n) ∧ Fr Non w w' ∧ w'.heap[g]? = some (.cells (arr .u16 n (fun _ => 1024)) 40)
set_option maxRecDepth 100000 in
theorem fresh_any (n : Nat) (w : World) (hn : n ≤ 1048576) : Calls Try.prog 114 #[.int .i64 n] w (FreshPost w n) := by
  have hmk := make_u16 n hn
  go_enter Try.func114, Try.ntmps114
  go_wp2
  go_loopw [9] (fun i wr => ∃ k : Nat, k ≤ n ∧ i = .int .i64 k ∧ Fr Non w wr ∧ wr.heap[w.heap.size]? = some (.cells (arr .u16 n (fun j => if j < k then 1024 else 0)) 40))
    (fun i _ => n - (intOf i).toNat)
  case atStart => exact ⟨0, Nat.zero_le _, rfl, (Fr.refl _ _).alloc _, by simpa using blk_new w _⟩
  case round =>
    obtain ⟨k, hk, rfl, hfr, hrow⟩ := hrel
    have Hfr := hid hfr
    have Hrow := hid hrow
    clear hfr
    by_cases hlt : k < n
    · have hc := blk_cell hrow (arr_get _ _ _ hlt)
      have hz := blk_frozen hrow k
      clear hrow
      go_wp2
      go_roundw
      case rel =>
        refine ⟨k + 1, by omega, by go_num, Fr.setNew Hfr.out (Nat.le_refl _) _ _, ?_⟩
        have e := blk_set (i := k) (v := .int .u16 1024) Hrow.out
        rw [arr_set] at e
        refine e.trans ?_
        congr 2
        refine arr_ext fun i hi => ?_
        unfold upd
        by_cases e1 : i = k
        · rw [if_pos e1, if_pos (by omega)]
        · rw [if_neg e1]
          show (if i < k then _ else _) = _
          by_cases e2 : i < k
          · rw [if_pos e2, if_pos (by omega)]
          · rw [if_neg e2, if_neg (by omega)]
      case measure => simp [intOf]; omega
    · have e : k = n := by omega
      subst e
      clear hrow
      go_wp2
      go_ret
      refine ⟨w.heap.size, Nat.le_refl _, rfl, Hfr.out, Hrow.out.trans ?_⟩
      congr 2
      exact arr_ext fun i hi => if_pos hi

/-- the beginning: a byte, which must be 0; four more, the code. -/
def RD.first {S : Type} (nx : S → Int × Bool × S) (s0 : S) : RD S :=
  if (RD.next nx ⟨s0, 4294967295, 0, false⟩).1 = 0 then (RD.next nx ⟨s0, 4294967295, 0, false⟩).2
  else ⟨(RD.next nx ⟨s0, 4294967295, 0, false⟩).2.src, 4294967295, 0, true⟩
def RD.four {S : Type} (nx : S → Int × Bool × S) : Nat → RD S → RD S
  | 0, d => d
  | k + 1, d => RD.four nx k ⟨(d.next nx).2.src, d.rng, d.code * 256 % 4294967296 + (d.next nx).1, (d.next nx).2.bad⟩
def RD.new {S : Type} (nx : S → Int × Bool × S) (s0 : S) : RD S :=
  ⟨(RD.four nx 4 (RD.first nx s0)).src, (RD.four nx 4 (RD.first nx s0)).rng, (RD.four nx 4 (RD.first nx s0)).code,
   (RD.four nx 4 (RD.first nx s0)).bad || decide ((RD.four nx 4 (RD.first nx s0)).rng ≤ (RD.four nx 4 (RD.first nx s0)).code)⟩
theorem or_byte' (c x : Int) (hc0 : 0 ≤ c) (hx0 : 0 ≤ x) (hx1 : x < 256) : bits BinOp.or IntKind.u32 (c * 256 % 4294967296) x = c * 256 % 4294967296 + x := by
  have h := or_byte c x hc0 hx0 hx1
  rw [IntKind.wrap_u32', IntKind.wrap_u32', Int.emod_eq_of_lt hx0 (by omega)] at h
  exact h
def NewPost {S : Type} (s : Sour S) (w : World) (d : RD S) (e : Ending) (w' : World) : Prop :=
  ∃ g, w.heap.size ≤ g ∧ g < w'.heap.size ∧ e = .returned (.pointer (some ⟨g, 0, none⟩)) ∧ Fr s.foot w w' ∧ DecIs s g w' d

set_option maxRecDepth 100000 in
set_option maxHeartbeats 1000000 in
theorem dnew_any {S : Type} (s : Sour S) (s0 : S) (w : World) (h : s.I w s0) (hlt : ∀ k, s.foot k → k < w.heap.size) :
    Calls Try.prog 58 #[.iface s.ty s.val] w (NewPost s w (RD.new s.nx s0)) := by
  have H := hid h
  have Hlt := hid hlt
  clear h hlt
  obtain ⟨g, hg⟩ : ∃ g, g = w.heap.size := ⟨_, rfl⟩
  have Hap : Hid (¬ s.foot g) := fun e => by have := Hlt.out g e; omega
  have D0 : Hid (DecIs s g (w.alloc (.cells #[.iface s.ty s.val, .int .u32 4294967295, .int .u32 0, .bool false] 162)) ⟨s0, 4294967295, 0, false⟩) :=
    ⟨by rw [hg]; exact blk_new _ _, s.keep _ _ _ Non H.out ((Fr.refl _ _).alloc _) (fun _ _ e => e), ⟨by show (0 : Int) ≤ 4294967295; decide, by show (4294967295 : Int) < 4294967296; decide, by show (0 : Int) ≤ 0; decide, by show (0 : Int) < 4294967296; decide⟩, Hap.out⟩
  have Hgg := hid hg
  clear hg
  go_enter Try.func58, Try.ntmps58
  go_wp2_with fail
  rw [← Hgg.out]
  obtain ⟨x, hx⟩ : ∃ x, x = (RD.next s.nx ⟨s0, 4294967295, 0, false⟩).1 := ⟨_, rfl⟩
  have hcall := dnext_any' s g _ _ D0.out
  rw [← hx] at hcall
  have HX := hid hx
  clear hx
  refine hcall.mono ?_
  clear hcall
  rintro e w1 ⟨rfl, hf1, hd1⟩
  have HF1 : Hid (Fr (decFoot s g) w w1) := ((Fr.refl _ _).alloc _).trans hf1
  have f3 := blk_frozen hd1.at_ 3
  have c3 := blk_cell hd1.at_ (j := 3) rfl
  have HD1 := hid hd1
  clear hf1 hd1
  go_upto_if 9 with fail
  go_cut [] (fun wx => Fr (decFoot s g) w wx ∧ DecIs s g wx (RD.first s.nx s0))
  case first =>
    by_cases h0 : x = 0
    · have H0 := hid h0
      have h1 : (x != 0) = false := by rw [h0]; rfl
      have h2 : (x == 0) = true := by rw [h0]; rfl
      clear h0
      go_wp2_with fail
      go_meet
      unfold RD.first
      rw [← HX.out, if_pos H0.out]
      exact ⟨HF1.out, by rw [dnext_same]; exact HD1.out⟩
    · have H0 := hid h0
      have h1 : (x != 0) = true := by simpa using h0
      have h2 : (x == 0) = false := by simpa using h0
      clear h0
      go_wp2_with fail
      go_meet
      unfold RD.first
      rw [← HX.out, if_neg H0.out]
      exact ⟨HF1.out.setCell (fun _ => .inl rfl) _, HD1.out.set 3 _ rfl rfl HD1.out.ok⟩
  case rest =>
    obtain ⟨hf, hd⟩ := hcut
    have HF := hid hf
    have HD := hid hd
    clear hf hd c3 f3
    go_upto_block 0 with fail
    go_cut [] (fun wx => Fr (decFoot s g) w wx ∧ DecIs s g wx (RD.four s.nx 4 (RD.first s.nx s0)))
    case first =>
      go_wp2_with fail
      go_loopw [13] (fun i wr => ∃ (k : Nat) (d1 : RD S), k ≤ 4 ∧ i = .int .i64 k ∧ RD.four s.nx (4 - k) d1 = RD.four s.nx 4 (RD.first s.nx s0) ∧ Fr (decFoot s g) w wr ∧ DecIs s g wr d1)
        (fun i _ => 4 - (intOf i).toNat)
      case atStart => exact ⟨0, RD.first s.nx s0, by decide, rfl, rfl, HF.out, HD.out⟩
      case round =>
        obtain ⟨k, d1, hk, rfl, hgo, hfr, hdec⟩ := hrel
        have c2 := blk_cell hdec.at_ (j := 2) (v := .int .u32 d1.code) rfl
        have f2 := blk_frozen hdec.at_ 2
        have o3 := hdec.ok.2.2.1
        have o4 := hdec.ok.2.2.2
        have Hgo := hid hgo
        have Hfr := hid hfr
        have Hdec := hid hdec
        clear hgo hfr hdec
        by_cases hlt : k < 4
        · obtain ⟨y, hy⟩ : ∃ y, y = (d1.next s.nx).1 := ⟨_, rfl⟩
          have hb0 : 0 ≤ y := by rw [hy]; exact (RD.next_byte s d1).1
          have hb1 : y < 256 := by rw [hy]; exact (RD.next_byte s d1).2
          have hcall : ∀ w0, DecIs s g w0 d1 → Calls Try.prog 86 #[.pointer (some ⟨g, 0, none⟩)] w0 (DPost s g w0 (.int .u8 y) ⟨(d1.next s.nx).2.src, d1.rng, d1.code, (d1.next s.nx).2.bad⟩) := fun w0 h0 => by
            have := dnext_any' s g d1 w0 h0
            rw [← hy] at this
            exact this
          have HC := hid hcall
          have HY := hid hy
          clear hcall hy
          go_wp2_with fail
          go_region_with (go_at_call 86; refine (HC.out _ (by first | exact Hdec.out.drew | exact Hdec.out)).mono ?_; rintro e w2 ⟨rfl, hf2, hd2⟩; have c2n := blk_cell hd2.at_ (j := 2) (v := .int .u32 d1.code) rfl; have f2n := blk_frozen hd2.at_ 2)
          all_goals
            have HF2 := hid hf2
            have HD2 := hid hd2
            clear hf2 hd2
            go_wp2_with fail
            go_roundw
            case rel =>
              refine ⟨k + 1, _, by omega, by go_num, ?_, ?_, HD2.out.set (d' := ⟨(d1.next s.nx).2.src, d1.rng, d1.code * 256 % 4294967296 + (d1.next s.nx).1, (d1.next s.nx).2.bad⟩) 2 _ (by rw [or_byte' _ _ o3 hb0 hb1, ← HY.out]; rfl) rfl ⟨HD2.out.ok.1, HD2.out.ok.2.1, by show 0 ≤ d1.code * 256 % 4294967296 + (d1.next s.nx).1; rw [← HY.out]; omega, by show d1.code * 256 % 4294967296 + (d1.next s.nx).1 < _; rw [← HY.out]; omega⟩⟩
              · have e : 4 - k = (4 - (k + 1)) + 1 := by omega
                have := Hgo.out
                rw [e] at this
                exact this
              · refine Fr.setCell ?_ (fun _ => .inl rfl) _
                exact Hfr.out.trans (Fr.trans (by first | exact (Fr.refl _ _).drew | exact Fr.refl _ _) HF2.out)
            case measure => simp [intOf]; omega
        · have e : k = 4 := by omega
          subst e
          go_wp2_with fail
          go_meet
          exact ⟨Hfr.out, by rw [← Hgo.out]; exact Hdec.out⟩
    case rest =>
      obtain ⟨hf, hd⟩ := hcut
      obtain ⟨D, hD⟩ : ∃ D, D = RD.four s.nx 4 (RD.first s.nx s0) := ⟨_, rfl⟩
      rw [← hD] at hd
      have c1 := blk_cell hd.at_ (j := 1) (v := .int .u32 D.rng) rfl
      have c2 := blk_cell hd.at_ (j := 2) (v := .int .u32 D.code) rfl
      have c3 := blk_cell hd.at_ (j := 3) (v := .bool D.bad) rfl
      have f3 := blk_frozen hd.at_ 3
      have HF := hid hf
      have HD2 := hid hd
      have HDD := hid hD
      clear hf hd hD
      cases hbad : D.bad with
      | true =>
        rw [hbad] at c3
        have HB := hid hbad
        clear hbad
        go_wp2_with fail
        go_region
        all_goals go_wp2_with fail
        go_ret
        have hs := HF.out.size
        refine ⟨g, by rw [Hgg.out]; exact Nat.le_refl _, ?_, rfl, ?_, ?_⟩
        · have := blk_lt HD2.out.at_
          simp [World.setCell]
          omega
        · refine Fr.mono (S := decFoot s g) ?_ (fun k hk h => h.resolve_left (by have := Hgg.out; omega))
          exact Fr.drew (HF.out.setCell (fun _ => .inl rfl) _)
        · unfold RD.new
          rw [← HDD.out, HB.out]
          exact DecIs.drew (HD2.out.set 3 _ rfl rfl HD2.out.ok)
      | false =>
        rw [hbad] at c3
        have HB := hid hbad
        clear hbad
        go_wp2_with fail
        go_region
        all_goals go_wp2_with fail
        go_ret
        have hs := HF.out.size
        refine ⟨g, by rw [Hgg.out]; exact Nat.le_refl _, ?_, rfl, ?_, ?_⟩
        · have := blk_lt HD2.out.at_
          simp [World.setCell]
          omega
        · refine Fr.mono (S := decFoot s g) ?_ (fun k hk h => h.resolve_left (by have := Hgg.out; omega))
          exact Fr.drew (HF.out.setCell (fun _ => .inl rfl) _)
        · unfold RD.new
          rw [← HDD.out, HB.out]
          exact DecIs.drew (HD2.out.set 3 _ rfl rfl HD2.out.ok)
end Go.Proofs.Ytjnegcambbeblaa

/- Questions (api.Ask): how a list of them reads; Right; law04.ask. -/
namespace Go.Proofs.Ytjnegcambbeblaa
open Go.RowKit

structure Ask where
  kind : Int
  at_ : Int
  bits : Int
  val : Int
def Ask.agg (a : Ask) : Value := .agg #[.int .i64 a.kind, .int .i64 a.at_, .int .i64 a.bits, .int .u32 a.val]
def Ask.wf (a : Ask) : Prop := (-9223372036854775808 ≤ a.kind ∧ a.kind ≤ 9223372036854775807) ∧ (-9223372036854775808 ≤ a.at_ ∧ a.at_ ≤ 9223372036854775807) ∧ (-9223372036854775808 ≤ a.bits ∧ a.bits ≤ 9223372036854775807) ∧ 0 ≤ a.val ∧ a.val < 4294967296
/-- n questions l, as a slice that came in holds them. -/
def AsksIn (B : Nat) (w : World) (a : Option Addr) (n : Nat) (l : Nat → Ask) : Prop :=
  n = 0 ∨ ∃ b off, a = some ⟨b, off, none⟩ ∧ b < B ∧ ∀ i, i < n → w.cell? ⟨b, off + i * 4, none⟩ = some (.int .i64 (l i).kind) ∧ w.cell? ⟨b, off + i * 4 + 1, none⟩ = some (.int .i64 (l i).at_) ∧
    w.cell? ⟨b, off + i * 4 + 2, none⟩ = some (.int .i64 (l i).bits) ∧ w.cell? ⟨b, off + i * 4 + 3, none⟩ = some (.int .u32 (l i).val)
theorem AsksIn.fr {B : Nat} {w w' : World} {a : Option Addr} {n : Nat} {l : Nat → Ask} {S : Nat → Prop} (h : AsksIn B w a n l) (hf : Fr S w w') (hs : ∀ i, i < B → ¬ S i) : AsksIn B w' a n l := by
  rcases h with h | ⟨b, off, h1, h2, h3⟩
  · exact .inl h
  · exact .inr ⟨b, off, h1, h2, fun i hi => ⟨hf.cell (h3 i hi).1 (hs b h2), hf.cell (h3 i hi).2.1 (hs b h2), hf.cell (h3 i hi).2.2.1 (hs b h2), hf.cell (h3 i hi).2.2.2 (hs b h2)⟩⟩
theorem AsksIn.at {B : Nat} {w : World} {a : Option Addr} {n : Nat} {l : Nat → Ask} (h : AsksIn B w a n l) {i : Nat} (hi : i < n) :
    ∃ b off, a = some ⟨b, off, none⟩ ∧ b < B ∧ w.cell? ⟨b, off + i * 4, none⟩ = some (.int .i64 (l i).kind) ∧ w.cell? ⟨b, off + i * 4 + 1, none⟩ = some (.int .i64 (l i).at_) ∧
      w.cell? ⟨b, off + i * 4 + 2, none⟩ = some (.int .i64 (l i).bits) ∧ w.cell? ⟨b, off + i * 4 + 3, none⟩ = some (.int .u32 (l i).val) := by
  rcases h with h | ⟨b, off, h1, h2, h3⟩
  · omega
  · exact ⟨b, off, h1, h2, h3 i hi⟩

/-- may that be asked, with 600 probabilities? -/
def Ask.Right (a : Ask) : Prop := (a.kind = 0 ∧ 0 ≤ a.at_ ∧ a.at_ < 600) ∨ ((a.kind = 1 ∨ a.kind = 2) ∧ 0 ≤ a.at_ ∧ a.at_ < 340 ∧ 1 ≤ a.bits ∧ a.bits ≤ 8) ∨ (a.kind = 3 ∧ 0 ≤ a.bits ∧ a.bits ≤ 32)
instance (a : Ask) : Decidable a.Right := by unfold Ask.Right; infer_instance
def Ask.rightB (a : Ask) : Bool := decide a.Right
def RightPost (w : World) (b : Bool) (e : Ending) (w' : World) : Prop := e = .returned (.bool b) ∧ Fr Non w w'

/-- what is asked of a decoder: the answer, the probabilities, the decoder. -/
def spliceQ (q : Nat → Int) (off L : Nat) (r : Nat → Int) : Nat → Int := fun j => if off ≤ j ∧ j < off + L then r (j - off) else q j
def RD.ask {S : Type} (nx : S → Int × Bool × S) (d : RD S) (q : Nat → Int) (a : Ask) : Nat × (Nat → Int) × RD S :=
  if a.kind = 0 then ((d.bit nx (q a.at_.toNat)).1, upd q a.at_.toNat (d.bit nx (q a.at_.toNat)).2.1, (d.bit nx (q a.at_.toNat)).2.2)
  else if a.kind = 1 then ((d.tree nx a.bits.toNat (fun j => q (a.at_.toNat + j))).1, spliceQ q a.at_.toNat (2 ^ a.bits.toNat) (d.tree nx a.bits.toNat (fun j => q (a.at_.toNat + j))).2.1, (d.tree nx a.bits.toNat (fun j => q (a.at_.toNat + j))).2.2)
  else if a.kind = 2 then ((d.rev nx a.bits.toNat (fun j => q (a.at_.toNat + j))).1, spliceQ q a.at_.toNat (2 ^ a.bits.toNat) (d.rev nx a.bits.toNat (fun j => q (a.at_.toNat + j))).2.1, (d.rev nx a.bits.toNat (fun j => q (a.at_.toNat + j))).2.2)
  else ((d.str nx a.bits.toNat).1, q, (d.str nx a.bits.toNat).2)
theorem win_arr {N off L : Nat} {q r : Nat → Int} {cs' : Array Value} (h : Win (arr .u16 N q) cs' off L r) (hN : off + L ≤ N) : cs' = arr .u16 N (spliceQ q off L r) := by
  apply Array.ext_getElem?
  intro i
  rw [arr_get?]
  unfold spliceQ
  by_cases h1 : off ≤ i ∧ i < off + L
  · have := h.cell (i - off) (by omega)
    rw [show off + (i - off) = i by omega] at this
    rw [this, if_pos (by omega), if_pos h1]
  · rw [h.rest i (by omega), arr_get?, if_neg h1]
end Go.Proofs.Ytjnegcambbeblaa

/- law04.ask by its contract. -/
namespace Go.Proofs.Ytjnegcambbeblaa
open Go.RowKit

theorem treeGo_lt {S : Type} (nx : S → Int × Bool × S) : ∀ (k j : Nat) (d : RD S) (q : Nat → Int) (m : Nat), m < 2 ^ j → (RD.treeGo nx k d q m).1 < 2 ^ (j + k)
  | 0, j, d, q, m, h => h
  | k + 1, j, d, q, m, h => by
    have hb := bit_le nx d (q m)
    have := treeGo_lt nx k (j + 1) (d.bit nx (q m)).2.2 (upd q m (d.bit nx (q m)).2.1) (2 * m + (d.bit nx (q m)).1) (by rw [Nat.pow_succ]; omega)
    rw [show j + (k + 1) = j + 1 + k by omega]
    exact this
theorem tree_lt {S : Type} (nx : S → Int × Bool × S) (k : Nat) (d : RD S) (q : Nat → Int) : (d.tree nx k q).1 < 2 ^ k := by
  have h := treeGo_lt nx k 1 d q 1 (by decide)
  have hp : 0 < 2 ^ k := Nat.pow_pos (by decide)
  unfold RD.tree
  by_cases hb : (RD.treeGo nx k d q 1).2.2.bad = true
  · rw [if_pos hb]; exact hp
  · rw [if_neg hb]
    show (RD.treeGo nx k d q 1).1 - 2 ^ k < 2 ^ k
    rw [show 1 + k = k + 1 by omega, Nat.pow_succ] at h
    omega
theorem revGo_lt {S : Type} (nx : S → Int × Bool × S) : ∀ (k i : Nat) (d : RD S) (q : Nat → Int) (m out : Nat), out < 2 ^ i → (RD.revGo nx k i d q m out).1 < 2 ^ (i + k)
  | 0, i, d, q, m, out, h => h
  | k + 1, i, d, q, m, out, h => by
    have hb := bit_le nx d (q m)
    have h2 : (d.bit nx (q m)).1 * 2 ^ i ≤ 1 * 2 ^ i := Nat.mul_le_mul_right _ hb
    have := revGo_lt nx k (i + 1) (d.bit nx (q m)).2.2 (upd q m (d.bit nx (q m)).2.1) (2 * m + (d.bit nx (q m)).1) (out + (d.bit nx (q m)).1 * 2 ^ i) (by rw [Nat.pow_succ]; omega)
    rw [show i + (k + 1) = i + 1 + k by omega]
    exact this
theorem rev_lt {S : Type} (nx : S → Int × Bool × S) (k : Nat) (d : RD S) (q : Nat → Int) : (d.rev nx k q).1 < 2 ^ k := by
  have h := revGo_lt nx k 0 d q 1 0 (by decide)
  have hp : 0 < 2 ^ k := Nat.pow_pos (by decide)
  unfold RD.rev
  by_cases hb : (RD.revGo nx k 0 d q 1 0).2.2.bad = true
  · rw [if_pos hb]; exact hp
  · rw [if_neg hb]; rw [Nat.zero_add] at h; exact h

def AskPost {S : Type} (s : Sour S) (g gp : Nat) (w : World) (r : Nat × (Nat → Int) × RD S) (e : Ending) (w' : World) : Prop :=
  e = .returned (.int .u32 r.1) ∧ Fr (bitFoot s g gp) w w' ∧ DecIs s g w' r.2.2 ∧ w'.heap[gp]? = some (.cells (arr .u16 600 r.2.1) 40)

end Go.Proofs.Ytjnegcambbeblaa

/- Decoders over feeds; law04's first look, awake. -/
namespace Go.Proofs.Ytjnegcambbeblaa
open Go.RowKit

theorem make_u8 (n : Nat) (hn : n ≤ 1048576) (w : World) : (Instr.makeSlice 30 (.int .i64 n) (.int .i64 n)).run Try.prog w = .ok (.slice (some ⟨w.heap.size, 0, none⟩) n n) (w.alloc (.cells (arr .u8 n (fun _ => 0)) 5)) := by
  obtain ⟨i, hi, hz0, hz1, hz2⟩ := info_parts Try.info_u8
  have h := run_make (P := Try.prog) w 30 5 i (.int .u8 0) Try.underlying30 hi hz0 .i64 .i64 n n (by omega) (by omega) (by rw [hz2]; omega) (by omega)
  simp only [Int.toNat_natCast, hz1, arr_made] at h
  exact h

/-- a decoder at g over a feed of the n bytes f, all its blocks from lo on, below hi. -/
structure Deco (lo hi : Nat) (f : Nat → Int) (n : Nat) where
  fg : Nat
  a : Option Addr
  c : Nat
  g : Nat
  hf : ∀ i, i < n → 0 ≤ f i ∧ f i < 256
  low : ∀ k, decFoot (feed fg a n c f hf) g k → lo ≤ k ∧ k < hi
def Deco.s {lo hi : Nat} {f : Nat → Int} {n : Nat} (D : Deco lo hi f n) : Sour Nat := feed D.fg D.a n D.c f D.hf
def Deco.Is {lo hi : Nat} {f : Nat → Int} {n : Nat} (D : Deco lo hi f n) (w : World) (d : RD Nat) : Prop := DecIs D.s D.g w d

theorem feedNew_any (w : World) (n : Nat) (f : Nat → Int) (hf : ∀ i, i < n → 0 ≤ f i ∧ f i < 256) (hn : n ≤ 1048576) (e : Ending) (w' : World) (h : NewFeedPost w n f e w') :
    ∃ g a' c', e = .returned (.pointer (some ⟨g, 0, none⟩)) ∧ Fr Non w w' ∧ (feed g a' n c' f hf).I w' 0 ∧ ∀ k, (feed g a' n c' f hf).foot k → w.heap.size ≤ k ∧ k < w'.heap.size := by
  obtain ⟨g, a', c', h1, h2, h3, h4, h5⟩ := h
  exact ⟨g, a', c', h1, h2, ⟨Nat.zero_le _, hn, h3, h4⟩, h5⟩
/-- New over a feed. -/
def DecoPost (w0 _w : World) (f : Nat → Int) (n : Nat) (e : Ending) (w' : World) : Prop :=
  ∃ D : Deco w0.heap.size w'.heap.size f n, e = .returned (.pointer (some ⟨D.g, 0, none⟩)) ∧ Fr Non w0 w' ∧ D.Is w' (RD.new (feedNx f n) 0)
theorem newF_any (w0 w : World) (n : Nat) (f : Nat → Int) (hf : ∀ i, i < n → 0 ≤ f i ∧ f i < 256) (g : Nat) (a' : Option Addr) (c' : Nat) (hw : Fr Non w0 w) (hi : (feed g a' n c' f hf).I w 0)
    (hl : ∀ k, (feed g a' n c' f hf).foot k → w0.heap.size ≤ k ∧ k < w.heap.size) :
    Calls Try.prog 58 #[.iface 45 (.pointer (some ⟨g, 0, none⟩))] w (DecoPost w0 w f n) := by
  refine (dnew_any (feed g a' n c' f hf) 0 w hi (fun k hk => (hl k hk).2)).mono ?_
  rintro e w' ⟨gd, h1, h2, h3, h4, h5⟩
  have hs := hw.size
  have hs2 := h4.size
  refine ⟨⟨g, a', c', gd, hf, fun k hk => ?_⟩, h3, ?_, h5⟩
  · rcases hk with rfl | hk
    · exact ⟨by omega, h2⟩
    · have := hl k hk; exact ⟨this.1, by omega⟩
  · exact hw.then h4 (fun i hi hk => by have := hl i hk; omega)
theorem Deco.keep {lo hi : Nat} {f : Nat → Int} {n : Nat} {D : Deco lo hi f n} {w w' : World} {d : RD Nat} (h : D.Is w d) {T : Nat → Prop} (hf : Fr T w w') (ht : ∀ k, lo ≤ k → k < hi → ¬ T k) : D.Is w' d :=
  DecIs.keep h hf (fun k hk => ht k (D.low k hk).1 (D.low k hk).2)

theorem zeros_row (w : World) (n : Nat) (t : TypeId) (B : Nat) (hB : w.heap.size < B) : RowIn B .u8 (w.alloc (.cells (arr .u8 n (fun _ => 0)) t)) (some ⟨w.heap.size, 0, none⟩) n (fun _ => 0) :=
  (RowIn.ofArr0 (blk_new w _)).mono hB
theorem zeros_bd (n : Nat) : ∀ i, i < n → 0 ≤ (fun _ : Nat => (0 : Int)) i ∧ (fun _ : Nat => (0 : Int)) i < 256 := fun _ _ => by show (0 : Int) ≤ 0 ∧ (0 : Int) < 256; omega

theorem new5 : RD.new (feedNx (fun _ => 0) 5) 0 = ⟨5, 4294967295, 0, false⟩ := by kernel_rfl
theorem bit5 : RD.bit (feedNx (fun _ => 0) 5) ⟨5, 4294967295, 0, false⟩ 1024 = (0, 1056, ⟨5, 2147482624, 0, false⟩) := by kernel_rfl
theorem bad5 : (RD.new (feedNx (lit [1, 0, 0, 0, 0]) 5) 0).bad = true := by kernel_rfl

end Go.Proofs.Ytjnegcambbeblaa

/- A list of questions that came in, opened. (The first block is the kit's own page extra-structs, to be copied.) -/
namespace Go.Proofs.Ytjnegcambbeblaa
open Go.ChangeShapes Go.WideShapes Go.Deep Go.RowKit

section
variable {H : Type} {enc : TypeId × Value → H} {P : Program} {w : World} {base : Nat} {spare : Nat → Bool} {held : Bool}
theorem open_slice_fields {t e : TypeId} {fs : Array Field} {fuel : Nat} {cs : List Value} {x : DataW H × List MemPlace} (ht : P.underlying t = some (.slice e)) (he : P.underlying e = some (.struct fs))
    (hone : oneCellFields P fs = true) (hC : P.cellsOf e = fs.size) (h : DataW.trod enc P w base spare held fuel t cs = some x) :
    (cs = [.slice none 0 0] ∧ x = (.nil, [])) ∨
    ∃ (a : Addr) (len cap m : Nat) (D : Nat → DataW H) (Pl : Nat → List MemPlace), cs = [.slice (some a) len cap] ∧ base ≤ a.block ∧ len ≤ cap ∧ cap ≤ maxLen ∧ m = (if spare a.block then cap else len) ∧
      x = (.slice ((List.range len).map D) ((List.range (m - len)).map fun j => D (len + j)), MemPlace.row a (m * fs.size) ++ (List.range m).flatMap Pl) ∧
      ∀ i, i < m → ∃ (ys : List (DataW H × List MemPlace)) (n : Nat), D i = .agg (ys.map (·.1)) ∧ Pl i = ys.flatMap (·.2) ∧ ys.length = fs.size ∧
        ∀ (j : Nat) (f : Field), fs[j]? = some f → ∃ (v : Value) (y : DataW H × List MemPlace), w.cell? (a.add (i * fs.size + j)) = some v ∧ ys[j]? = some y ∧ DataW.trod enc P w base spare held n f.type [v] = some y := by
  rcases open_slice ht h with h0 | ⟨a, len, cap, m, n, D, Pl, hcs, hb, hl, hm, hmm, hx, hi⟩
  · exact .inl h0
  · refine .inr ⟨a, len, cap, m, D, Pl, hcs, hb, hl, hm, hmm, by rw [hC] at hx; exact hx, fun i him => ?_⟩
    obtain ⟨cs', hc, ht'⟩ := hi i him
    rw [hC] at hc
    obtain ⟨ys, n', hn', hy, hlen, hyl, hf⟩ := DataW.trod_struct he ht'
    obtain ⟨_, hcl, hat⟩ := World.cells?_some hc
    simp only [Prod.mk.injEq] at hy
    refine ⟨ys, n', hy.1, hy.2, hyl, fun j f hj => ?_⟩
    obtain ⟨ho, hk⟩ := hone_of hone j f hj
    have hjl : j < fs.size := (Array.getElem?_eq_some_iff.1 hj).1
    have hcell := hat j hjl
    have hv : cs'[j]? = some (cs'[j]'(by omega)) := List.getElem?_eq_getElem (by omega)
    have h1 := hf j f hj
    rw [ho, hk] at h1
    have hone' : (cs'.drop j).take 1 = [cs'[j]'(by omega)] := by
      rw [List.drop_eq_getElem_cons (by omega)]
      rfl
    rw [hone'] at h1
    have hys : ys[j]? = some (ys[j]'(by omega)) := List.getElem?_eq_getElem (by omega)
    refine ⟨_, _, ?_, hys, h1.trans hys⟩
    rw [← Go.Deep.add_add, hcell, hv]
end

def AskRow (w : World) (a : Option Addr) (len cap : Nat) (l : Nat → Ask) : Prop :=
  len ≤ cap ∧ cap ≤ maxLen ∧ AsksIn w.heap.size w a len l ∧ (a = none → cap = 0) ∧ ∀ i, i < len → (l i).wf
end Go.Proofs.Ytjnegcambbeblaa

/- law04: same; what a row of questions does, in plain terms. -/
namespace Go.Proofs.Ytjnegcambbeblaa
open Go.RowKit

/-! ### plain: what a bad decoder tells -/
theorem upd_id (q : Nat → Int) (m : Nat) : upd q m (q m) = q := by
  funext j; unfold upd; by_cases h : j = m
  · rw [if_pos h, h]
  · rw [if_neg h]
theorem bit_bad {S : Type} (nx : S → Int × Bool × S) (d : RD S) (p : Int) (h : d.bad = true) : d.bit nx p = (0, p, d) := if_pos h
theorem treeGo_bad {S : Type} (nx : S → Int × Bool × S) : ∀ (k : Nat) (d : RD S) (q : Nat → Int) (m : Nat), d.bad = true → (RD.treeGo nx k d q m).2 = (q, d)
  | 0, d, q, m, h => rfl
  | k + 1, d, q, m, h => by
    show (RD.treeGo nx k (d.bit nx (q m)).2.2 (upd q m (d.bit nx (q m)).2.1) (2 * m + (d.bit nx (q m)).1)).2 = _
    rw [bit_bad nx d (q m) h, upd_id]
    exact treeGo_bad nx k d q _ h
theorem revGo_bad {S : Type} (nx : S → Int × Bool × S) : ∀ (k i : Nat) (d : RD S) (q : Nat → Int) (m out : Nat), d.bad = true → (RD.revGo nx k i d q m out).2 = (q, d)
  | 0, i, d, q, m, out, h => rfl
  | k + 1, i, d, q, m, out, h => by
    show (RD.revGo nx k (i + 1) (d.bit nx (q m)).2.2 (upd q m (d.bit nx (q m)).2.1) (2 * m + (d.bit nx (q m)).1) (out + (d.bit nx (q m)).1 * 2 ^ i)).2 = _
    rw [bit_bad nx d (q m) h, upd_id]
    exact revGo_bad nx k (i + 1) d q _ _ h
theorem tree_bad {S : Type} (nx : S → Int × Bool × S) (k : Nat) (d : RD S) (q : Nat → Int) (h : d.bad = true) : d.tree nx k q = (0, q, d) := by
  unfold RD.tree
  rw [treeGo_bad nx k d q 1 h]
  simp only [h, if_true]
theorem rev_bad {S : Type} (nx : S → Int × Bool × S) (k : Nat) (d : RD S) (q : Nat → Int) (h : d.bad = true) : d.rev nx k q = (0, q, d) := by
  unfold RD.rev
  rw [revGo_bad nx k 0 d q 1 0 h]
  simp only [h, if_true]
theorem str_bad {S : Type} (nx : S → Int × Bool × S) (k : Nat) (d : RD S) (h : d.bad = true) : d.str nx k = (0, d) := by
  unfold RD.str
  rw [strGo_bad nx k d 0 h]
  simp only [h, if_true]
theorem spliceQ_id (q : Nat → Int) (off L : Nat) : spliceQ q off L (fun j => q (off + j)) = q := by
  funext j; unfold spliceQ
  by_cases h : off ≤ j ∧ j < off + L
  · rw [if_pos h]; show q (off + (j - off)) = q j; rw [show off + (j - off) = j by omega]
  · rw [if_neg h]
/-- a bad decoder tells 0, and changes nothing. -/
theorem ask_bad {S : Type} (nx : S → Int × Bool × S) (d : RD S) (q : Nat → Int) (a : Ask) (h : d.bad = true) : d.ask nx q a = (0, q, d) := by
  unfold RD.ask
  by_cases h0 : a.kind = 0
  · rw [if_pos h0, bit_bad nx d _ h, upd_id]
  · rw [if_neg h0]
    by_cases h1 : a.kind = 1
    · rw [if_pos h1, tree_bad nx _ d _ h, spliceQ_id]
    · rw [if_neg h1]
      by_cases h2 : a.kind = 2
      · rw [if_pos h2, rev_bad nx _ d _ h, spliceQ_id]
      · rw [if_neg h2, str_bad nx _ d h]

/-! ### plain: probabilities stay in their bounds -/
theorem treeGo_pr {S : Type} (nx : S → Int × Bool × S) : ∀ (k j : Nat) (d : RD S) (q : Nat → Int) (m L : Nat), Pr q L → m < 2 ^ j → 2 ^ (j + k) ≤ 2 * L → Pr (RD.treeGo nx k d q m).2.1 L
  | 0, j, d, q, m, L, h, _, _ => h
  | k + 1, j, d, q, m, L, h, hm, hL => by
    have hb := bit_le nx d (q m)
    have hmL : m < L := by
      have : 2 ^ (j + 1) ≤ 2 ^ (j + (k + 1)) := Nat.pow_le_pow_right (by decide) (by omega)
      rw [Nat.pow_succ] at this
      omega
    have hp := h m hmL
    have hb2 := bit_prob nx d (q m) hp.1 hp.2
    exact treeGo_pr nx k (j + 1) _ _ _ L (h.upd m hb2.1 hb2.2) (by rw [Nat.pow_succ]; omega) (by rw [show j + 1 + k = j + (k + 1) by omega]; exact hL)
theorem revGo_pr {S : Type} (nx : S → Int × Bool × S) : ∀ (k i j : Nat) (d : RD S) (q : Nat → Int) (m out L : Nat), Pr q L → m < 2 ^ j → 2 ^ (j + k) ≤ 2 * L → Pr (RD.revGo nx k i d q m out).2.1 L
  | 0, i, j, d, q, m, out, L, h, _, _ => h
  | k + 1, i, j, d, q, m, out, L, h, hm, hL => by
    have hb := bit_le nx d (q m)
    have hmL : m < L := by
      have : 2 ^ (j + 1) ≤ 2 ^ (j + (k + 1)) := Nat.pow_le_pow_right (by decide) (by omega)
      rw [Nat.pow_succ] at this
      omega
    have hp := h m hmL
    have hb2 := bit_prob nx d (q m) hp.1 hp.2
    exact revGo_pr nx k (i + 1) (j + 1) _ _ _ _ L (h.upd m hb2.1 hb2.2) (by rw [Nat.pow_succ]; omega) (by rw [show j + 1 + k = j + (k + 1) by omega]; exact hL)
theorem splice_pr {q r : Nat → Int} {off L N : Nat} (h : Pr q N) (hr : Pr r L) : Pr (spliceQ q off L r) N := by
  intro j hj
  unfold spliceQ
  by_cases e : off ≤ j ∧ j < off + L
  · rw [if_pos e]; exact hr _ (by omega)
  · rw [if_neg e]; exact h j hj
theorem ask_pr {S : Type} (nx : S → Int × Bool × S) (d : RD S) (q : Nat → Int) (a : Ask) (ha : a.Right) (h : Pr q 600) : Pr (d.ask nx q a).2.1 600 := by
  have hsub : (a.kind = 1 ∨ a.kind = 2) → Pr (fun j => q (a.at_.toNat + j)) (2 ^ a.bits.toNat) := by
    intro hk j hj
    rcases ha with ⟨h0, _⟩ | ⟨_, h1, h2, h3, h4⟩ | ⟨h0, _⟩
    · omega
    · have : 2 ^ a.bits.toNat ≤ 2 ^ 8 := Nat.pow_le_pow_right (by decide) (by omega)
      exact h _ (by omega)
    · omega
  unfold RD.ask
  by_cases h0 : a.kind = 0
  · rw [if_pos h0]
    have hat : a.at_.toNat < 600 := by
      rcases ha with ⟨_, h1, h2⟩ | ⟨hk, _⟩ | ⟨hk, _⟩ <;> omega
    have hp := h _ hat
    have hb2 := bit_prob nx d (q a.at_.toNat) hp.1 hp.2
    exact h.upd _ hb2.1 hb2.2
  · rw [if_neg h0]
    by_cases h1 : a.kind = 1
    · rw [if_pos h1]
      exact splice_pr h (treeGo_pr nx _ 1 d _ 1 _ (hsub (.inl h1)) (by decide) (by rw [show 1 + a.bits.toNat = a.bits.toNat + 1 by omega, Nat.pow_succ]; omega))
    · rw [if_neg h1]
      by_cases h2 : a.kind = 2
      · rw [if_pos h2]
        exact splice_pr h (revGo_pr nx _ 0 1 d _ 1 0 _ (hsub (.inr h2)) (by decide) (by rw [show 1 + a.bits.toNat = a.bits.toNat + 1 by omega, Nat.pow_succ]; omega))
      · rw [if_neg h2]; exact h

/-- k questions of a row, those that may be asked. -/
def RD.run {S : Type} (nx : S → Int × Bool × S) (l : Nat → Ask) (d : RD S) (q : Nat → Int) : Nat → RD S × (Nat → Int)
  | 0 => (d, q)
  | k + 1 => if (l k).rightB = true then ((RD.ask nx (RD.run nx l d q k).1 (RD.run nx l d q k).2 (l k)).2.2, (RD.ask nx (RD.run nx l d q k).1 (RD.run nx l d q k).2 (l k)).2.1) else RD.run nx l d q k
theorem fresh_pr : Pr (fun _ => 1024) 600 := fun _ _ => by show (31 : Int) ≤ 1024 ∧ (1024 : Int) ≤ 2017; omega
end Go.Proofs.Ytjnegcambbeblaa

/- law04: the decoder and its probabilities through a row of questions. -/
namespace Go.Proofs.Ytjnegcambbeblaa
open Go.RowKit

/-- the decoder and its 600 probabilities, in a world that grew out of w. -/
structure St {lo hi : Nat} {f : Nat → Int} {n : Nat} (D : Deco lo hi f n) (gp : Nat) (w wr : World) (r : RD Nat × (Nat → Int)) : Prop where
  fr : Fr Non w wr
  dec : D.Is wr r.1
  blk : wr.heap[gp]? = some (.cells (arr .u16 600 r.2) 40)
  pr : Pr r.2 600
theorem St.any {lo hi : Nat} {f : Nat → Int} {n : Nat} {D : Deco lo hi f n} {gp : Nat} {w wr w' : World} {r : RD Nat × (Nat → Int)} (h : St D gp w wr r) (hf : Fr Non wr w') : St D gp w w' r :=
  ⟨h.fr.trans hf, Deco.keep h.dec hf (fun _ _ _ e => e), hf.blk h.blk id, h.pr⟩
/-- n integers f from cell off of block b on. -/
def RowAt (k : IntKind) (w : World) (b off n : Nat) (f : Nat → Int) : Prop := ∀ i, i < n → w.cell? ⟨b, off + i, none⟩ = some (.int k (f i))
theorem RowAt.fr {k : IntKind} {w w' : World} {b off n : Nat} {f : Nat → Int} {S : Nat → Prop} (h : RowAt k w b off n f) (hf : Fr S w w') (hs : ¬ S b) : RowAt k w' b off n f := fun i hi => hf.cell (h i hi) hs
theorem RowAt.row {k : IntKind} {w : World} {b off n : Nat} {f : Nat → Int} (h : RowAt k w b off n f) : RowIn (b + 1) k w (some ⟨b, off, none⟩) n f := .inr ⟨b, off, rfl, by omega, h⟩

end Go.Proofs.Ytjnegcambbeblaa

/- The document's decoder (04): next, level, Bit. -/
namespace Go.Proofs.Ytjnegcambbeblaa
open Go.RowKit

/-- the document's decoder over the n bytes f (blocks below lo), at block g. -/
structure RefIs (a : Option Addr) (n cap : Nat) (f : Nat → Int) (lo g : Nat) (w : World) (x : RD Nat) : Prop where
  at_ : w.heap[g]? = some (.cells #[.slice a n cap, .int .i64 x.src, .int .u64 x.rng, .int .u64 x.code, .bool x.bad] 128)
  row : RowIn lo .u8 w a n f
  low : lo ≤ g
  src : x.src ≤ n
  ok : x.Ok
theorem RefIs.keep {a : Option Addr} {n cap : Nat} {f : Nat → Int} {lo g : Nat} {w w' : World} {x : RD Nat} (h : RefIs a n cap f lo g w x) {T : Nat → Prop} (hf : Fr T w w') (hg : ¬ T g) (ht : ∀ k, k < lo → ¬ T k) : RefIs a n cap f lo g w' x :=
  ⟨hf.blk h.at_ hg, h.row.fr hf ht, h.low, h.src, h.ok⟩
theorem RefIs.drewN {a : Option Addr} {n cap : Nat} {f : Nat → Int} {lo g : Nat} {w : World} {x : RD Nat} (h : RefIs a n cap f lo g w x) (k : Nat) : RefIs a n cap f lo g (w.drewN k) x := h.keep ((Fr.refl Non w).drewN k) id (fun _ _ => id)
theorem RefIs.drew {a : Option Addr} {n cap : Nat} {f : Nat → Int} {lo g : Nat} {w : World} {x : RD Nat} (h : RefIs a n cap f lo g w x) : RefIs a n cap f lo g w.drew x := h.keep ((Fr.refl Non w).drew) id (fun _ _ => id)
theorem RefIs.set1 {a : Option Addr} {n cap : Nat} {f : Nat → Int} {lo g : Nat} {w : World} {x : RD Nat} (h : RefIs a n cap f lo g w x) {s : Nat} (hs : s ≤ n) {v : Value} (hv : v = .int .i64 s) : RefIs a n cap f lo g (w.setCell ⟨g, 1, none⟩ v) ⟨s, x.rng, x.code, x.bad⟩ := by
  subst hv
  exact ⟨blk_set (i := 1) h.at_, h.row.fr (S := fun k => k = g) ((Fr.refl _ _).setOne _ _) (fun k hk e => by have := h.low; omega), h.low, hs, h.ok⟩
theorem RefIs.set2 {a : Option Addr} {n cap : Nat} {f : Nat → Int} {lo g : Nat} {w : World} {x : RD Nat} (h : RefIs a n cap f lo g w x) {r : Int} (h0 : 0 ≤ r) (h1 : r < 4294967296) : RefIs a n cap f lo g (w.setCell ⟨g, 2, none⟩ (.int .u64 r)) ⟨x.src, r, x.code, x.bad⟩ :=
  ⟨blk_set (i := 2) h.at_, h.row.fr (S := fun k => k = g) ((Fr.refl _ _).setOne _ _) (fun k hk e => by have := h.low; omega), h.low, h.src, ⟨h0, h1, h.ok.2.2.1, h.ok.2.2.2⟩⟩
theorem RefIs.set3 {a : Option Addr} {n cap : Nat} {f : Nat → Int} {lo g : Nat} {w : World} {x : RD Nat} (h : RefIs a n cap f lo g w x) {c : Int} (h0 : 0 ≤ c) (h1 : c < 4294967296) : RefIs a n cap f lo g (w.setCell ⟨g, 3, none⟩ (.int .u64 c)) ⟨x.src, x.rng, c, x.bad⟩ :=
  ⟨blk_set (i := 3) h.at_, h.row.fr (S := fun k => k = g) ((Fr.refl _ _).setOne _ _) (fun k hk e => by have := h.low; omega), h.low, h.src, ⟨h.ok.1, h.ok.2.1, h0, h1⟩⟩
theorem RefIs.set4 {a : Option Addr} {n cap : Nat} {f : Nat → Int} {lo g : Nat} {w : World} {x : RD Nat} (h : RefIs a n cap f lo g w x) (b : Bool) : RefIs a n cap f lo g (w.setCell ⟨g, 4, none⟩ (.bool b)) ⟨x.src, x.rng, x.code, b⟩ :=
  ⟨blk_set (i := 4) h.at_, h.row.fr (S := fun k => k = g) ((Fr.refl _ _).setOne _ _) (fun k hk e => by have := h.low; omega), h.low, h.src, h.ok⟩
def RPost (a : Option Addr) (n cap : Nat) (f : Nat → Int) (lo g : Nat) (w : World) (v : Value) (x : RD Nat) (e : Ending) (w' : World) : Prop :=
  e = .returned v ∧ Fr (fun k => k = g) w w' ∧ RefIs a n cap f lo g w' x

set_option maxRecDepth 100000 in
set_option maxHeartbeats 2000000 in
theorem rnext_any (a : Option Addr) (n cap : Nat) (f : Nat → Int) (hf : ∀ i, i < n → 0 ≤ f i ∧ f i < 256) (lo g : Nat) (x : RD Nat) (w : World) (hn : n ≤ 1048576) (h : RefIs a n cap f lo g w x) :
    Calls Try.prog 96 #[.pointer (some ⟨g, 0, none⟩)] w (RPost a n cap f lo g w (.int .u64 (x.next (feedNx f n)).1) (x.next (feedNx f n)).2) := by
  have H := hid h
  obtain ⟨src, rng, code, bad⟩ := x
  have c0 := blk_cell h.at_ (j := 0) (v := .slice a n cap) rfl
  have c1 := blk_cell h.at_ (j := 1) (v := .int .i64 src) rfl
  have c4 := blk_cell h.at_ (j := 4) (v := .bool bad) rfl
  have f1 := blk_frozen h.at_ 1
  have f4 := blk_frozen h.at_ 4
  have hsrc : src ≤ n := h.src
  clear h
  cases bad with
  | true =>
    have e : RD.next (feedNx f n) (⟨src, rng, code, true⟩ : RD Nat) = (0, ⟨src, rng, code, true⟩) := if_pos rfl
    rw [e]
    clear e
    go_enter Try.func96, Try.ntmps96
    go_wp2_with fail
    go_quiet (fail)
    go_wp2_with fail
    go_ret
    refine ⟨rfl, ?_, ?_⟩
    · repeat (first | exact Fr.refl _ _ | refine Fr.drewN ?_ _ | refine Fr.drew ?_ | refine Fr.setOne ?_ _ _)
    · exact (H.out.drewN _).set4 true
  | false =>
    by_cases hs : src < n
    · have e : RD.next (feedNx f n) (⟨src, rng, code, false⟩ : RD Nat) = (f src, ⟨src + 1, rng, code, false⟩) := by
        unfold RD.next
        rw [if_neg Bool.false_ne_true]
        have e1 : feedNx f n src = (f src % 256, true, src + 1) := if_pos hs
        have e2 : f src % 256 = f src := by have := hf src hs; omega
        show ((feedNx f n src).1, (⟨(feedNx f n src).2.2, rng, code, !(feedNx f n src).2.1⟩ : RD Nat)) = _
        rw [e1, e2]
        rfl
      rw [e]
      clear e
      obtain ⟨b, off, rfl, hb, cb⟩ := H.out.row.at hs
      have hbg : ¬ b = g := by have := H.out.low; omega
      have hfs := hf src hs
      clear hf
      go_enter Try.func96, Try.ntmps96
      go_wp2_with fail
      go_quiet (fail)
      go_wp2_with fail
      go_quiet (fail)
      go_wp2_with fail
      go_ret
      refine ⟨rfl, ?_, ?_⟩
      · repeat (first | exact Fr.refl _ _ | refine Fr.drewN ?_ _ | refine Fr.drew ?_ | refine Fr.setOne ?_ _ _)
      · exact ((H.out.drewN _).set1 (s := src + 1) (by omega) (by rw [Int.natCast_add]; rfl)).drewN _
    · have hsn : src = n := by omega
      subst hsn
      have e : RD.next (feedNx f src) (⟨src, rng, code, false⟩ : RD Nat) = (0, ⟨src, rng, code, true⟩) := by
        unfold RD.next
        rw [if_neg Bool.false_ne_true]
        have e1 : feedNx f src src = (0, false, src) := if_neg (by omega)
        show ((feedNx f src src).1, (⟨(feedNx f src src).2.2, rng, code, !(feedNx f src src).2.1⟩ : RD Nat)) = _
        rw [e1]
        rfl
      rw [e]
      clear e hf
      go_enter Try.func96, Try.ntmps96
      go_wp2_with fail
      go_quiet (fail)
      go_wp2_with fail
      go_ret
      refine ⟨rfl, ?_, ?_⟩
      · repeat (first | exact Fr.refl _ _ | refine Fr.drewN ?_ _ | refine Fr.drew ?_ | refine Fr.setOne ?_ _ _)
      · exact (H.out.drewN _).set4 true
end Go.Proofs.Ytjnegcambbeblaa

/- The document's decoder (04): level, Bit. -/
namespace Go.Proofs.Ytjnegcambbeblaa
open Go.RowKit

theorem feed_byte {f : Nat → Int} {n : Nat} (x : RD Nat) : 0 ≤ (x.next (feedNx f n)).1 ∧ (x.next (feedNx f n)).1 < 256 := by
  unfold RD.next
  by_cases h : x.bad = true
  · rw [if_pos h]; exact ⟨Int.le_refl 0, by show (0 : Int) < 256; decide⟩
  · rw [if_neg h]
    show 0 ≤ (feedNx f n x.src).1 ∧ (feedNx f n x.src).1 < 256
    unfold feedNx
    by_cases h2 : x.src < n
    · rw [if_pos h2]; show 0 ≤ f x.src % 256 ∧ f x.src % 256 < 256; omega
    · rw [if_neg h2]; exact ⟨Int.le_refl 0, by show (0 : Int) < 256; decide⟩
set_option maxRecDepth 100000 in
set_option maxHeartbeats 2000000 in
theorem rlevel_any (a : Option Addr) (n cap : Nat) (f : Nat → Int) (hf : ∀ i, i < n → 0 ≤ f i ∧ f i < 256) (lo g : Nat) (x : RD Nat) (w : World) (hn : n ≤ 1048576) (h : RefIs a n cap f lo g w x) :
    Calls Try.prog 135 #[.pointer (some ⟨g, 0, none⟩)] w (RPost a n cap f lo g w (.tuple #[]) (x.level (feedNx f n))) := by
  have H := hid h
  have c2 := blk_cell h.at_ (j := 2) (v := .int .u64 x.rng) rfl
  have f2 := blk_frozen h.at_ 2
  obtain ⟨o1, o2, o3, o4⟩ := h.ok
  clear h
  by_cases hlt : x.rng < 16777216
  · rw [RD.level_lt _ _ hlt]
    have HS := hid (H.out.set2 (r := x.rng * 256) (by omega) (by omega))
    have c3 := blk_cell HS.out.at_ (j := 3) (v := .int .u64 x.code) rfl
    have HN := hid (RD.next_rng (feedNx f n) x (x.rng * 256))
    obtain ⟨hb0, hb1⟩ := feed_byte (f := f) (n := n) x
    obtain ⟨b, hb⟩ : ∃ b, b = (x.next (feedNx f n)).1 := ⟨_, rfl⟩
    rw [← hb] at hb0 hb1 HN ⊢
    have HB := hid hb
    clear hb
    go_enter Try.func135, Try.ntmps135
    go_wp2_with fail
    go_region_with (go_at_call 96; refine (rnext_any a n cap f hf lo g ⟨x.src, x.rng * 256, x.code, x.bad⟩ _ hn (by first | exact HS.out.drew | exact HS.out)).mono ?_; rw [HN.out]; rintro e w1 ⟨rfl, hf1, h1⟩; have k3 := blk_cell h1.at_ (j := 3) (v := .int .u64 x.code) rfl; have g3 := blk_frozen h1.at_ 3; have H1 := hid h1; have HF1 := hid (((Fr.refl (fun k => k = g) _).drew).trans hf1); clear h1 hf1)
    all_goals
      go_wp2_with fail
      go_end0
      refine ⟨rfl, Fr.trans ((Fr.refl (fun k => k = g) w).setOne _ _) (Fr.setOne HF1.out _ _), ?_⟩
      have e1 : IntKind.u64.wrap (x.code * 256) = x.code * 256 := by rw [IntKind.wrap_u64]; omega
      have e2 : IntKind.u64.wrap (x.code * 256 + b) = x.code * 256 + b := by rw [IntKind.wrap_u64]; omega
      have e : (IntKind.u64.wrap (IntKind.u64.wrap (x.code * 256) + b)).tmod 4294967296 = x.code * 256 % 4294967296 + b := by
        rw [e1, e2, Int.tmod_eq_emod_of_nonneg (by omega)]; omega
      rw [e]
      exact H1.out.set3 (by omega) (by omega)
  · rw [RD.level_ge _ _ hlt]
    clear hf
    go_enter Try.func135, Try.ntmps135
    go_wp2_with fail
    go_end0
    exact ⟨rfl, Fr.refl _ _, H.out⟩
def RBPost (a : Option Addr) (n cap : Nat) (f : Nat → Int) (lo g : Nat) (w : World) (r : Nat × Int × RD Nat) (e : Ending) (w' : World) : Prop :=
  e = .returned (.tuple #[.int .i64 r.1, .int .u16 r.2.1]) ∧ Fr (fun k => k = g) w w' ∧ RefIs a n cap f lo g w' r.2.2
set_option maxRecDepth 100000 in
set_option maxHeartbeats 4000000 in
theorem rbit_any (a : Option Addr) (n cap : Nat) (f : Nat → Int) (hf : ∀ i, i < n → 0 ≤ f i ∧ f i < 256) (lo g : Nat) (x : RD Nat) (p : Int) (w : World) (hn : n ≤ 1048576) (h : RefIs a n cap f lo g w x) (hp0 : 0 ≤ p) (hp1 : p ≤ 2048) :
    Calls Try.prog 124 #[.pointer (some ⟨g, 0, none⟩), .int .u16 p] w (RBPost a n cap f lo g w (x.bit (feedNx f n) p)) := by
  have H := hid h
  obtain ⟨src, rng, code, bad⟩ := x
  have c2 := blk_cell h.at_ (j := 2) (v := .int .u64 rng) rfl
  have c3 := blk_cell h.at_ (j := 3) (v := .int .u64 code) rfl
  have c4 := blk_cell h.at_ (j := 4) (v := .bool bad) rfl
  have f2 := blk_frozen h.at_ 2
  have f3 := blk_frozen h.at_ 3
  obtain ⟨o1, o2, o3, o4⟩ := h.ok
  simp only at o1 o2 o3 o4
  clear h
  have Hf := hid hf
  clear hf
  cases bad with
  | true =>
    have e : RD.bit (feedNx f n) (⟨src, rng, code, true⟩ : RD Nat) p = (0, p, ⟨src, rng, code, true⟩) := if_pos rfl
    rw [e]
    clear e
    go_enter Try.func124, Try.ntmps124
    go_wp2_with fail
    go_ret2
    exact ⟨rfl, Fr.refl _ _, H.out⟩
  | false =>
    obtain ⟨t, ht⟩ : ∃ t, t = rng / 2048 * p := ⟨_, rfl⟩
    have ht0 : 0 ≤ t := by rw [ht]; exact Int.mul_nonneg (by omega) hp0
    have ht1 : t ≤ rng := by
      have : rng / 2048 * p ≤ rng / 2048 * 2048 := Int.mul_le_mul_of_nonneg_left hp1 (by omega)
      omega
    have ht2 : rng / 2048 * p = t := ht.symm
    have htw : IntKind.u64.wrap t = t := by rw [IntKind.wrap_u64]; omega
    have hpw : IntKind.u64.wrap p = p := by rw [IntKind.wrap_u64]; omega
    have HT := hid ht
    clear ht
    by_cases hlt : code < t
    · have e : RD.bit (feedNx f n) (⟨src, rng, code, false⟩ : RD Nat) p = (0, p + (2048 - p) / 32, RD.level (feedNx f n) ⟨src, t, code, false⟩) := by
        unfold RD.bit
        rw [if_neg Bool.false_ne_true, if_pos (by show code < rng / 2048 * p; rw [ht2]; exact hlt), ← HT.out]
      rw [e]
      clear e
      have HS := hid (H.out.set2 (r := t) ht0 (by omega))
      go_enter Try.func124, Try.ntmps124
      go_wp2_with fail
      refine (rlevel_any a n cap f Hf.out lo g ⟨src, t, code, false⟩ _ hn HS.out).mono ?_
      rintro e w1 ⟨rfl, hf1, h1⟩
      have H1 := hid h1
      have HF1 := hid (Fr.trans ((Fr.refl (fun k => k = g) w).setOne _ _) hf1)
      clear hf1 h1
      have ev : IntKind.u16.wrap (p + IntKind.u16.wrap ((2048 - p).tdiv 32)) = p + (2048 - p) / 32 := by
        rw [Int.tdiv_eq_ediv_of_nonneg (by omega), IntKind.wrap_u16, IntKind.wrap_u16]; omega
      go_wp2_with fail
      go_ret2
      exact ⟨by rw [← ev]; rfl, HF1.out, H1.out⟩
    · have e : RD.bit (feedNx f n) (⟨src, rng, code, false⟩ : RD Nat) p = (if (RD.level (feedNx f n) ⟨src, rng - t, code - t, false⟩).bad = true then 0 else 1, p - p / 32, RD.level (feedNx f n) ⟨src, rng - t, code - t, false⟩) := by
        unfold RD.bit
        rw [if_neg Bool.false_ne_true, if_neg (by show ¬ code < rng / 2048 * p; rw [ht2]; exact hlt), ← HT.out]
      rw [e]
      clear e
      have HS := hid ((H.out.set3 (c := code - t) (by omega) (by omega)).set2 (r := rng - t) (by omega) (by omega))
      obtain ⟨x1, hx1⟩ : ∃ x1, x1 = RD.level (feedNx f n) (⟨src, rng - t, code - t, false⟩ : RD Nat) := ⟨_, rfl⟩
      rw [← hx1]
      have HX1 := hid hx1
      have ev : IntKind.u16.wrap (p - IntKind.u16.wrap (p.tdiv 32)) = p - p / 32 := by
        rw [Int.tdiv_eq_ediv_of_nonneg (by omega), IntKind.wrap_u16, IntKind.wrap_u16]; omega
      clear hx1
      cases hbad : x1.bad with
      | true =>
        rw [if_pos rfl]
        go_enter Try.func124, Try.ntmps124
        go_wp2_with fail
        refine (rlevel_any a n cap f Hf.out lo g ⟨src, rng - t, code - t, false⟩ _ hn HS.out).mono ?_
        rintro e w1 ⟨rfl, hf1, h1⟩
        rw [← HX1.out] at h1
        have k4 := blk_cell h1.at_ (j := 4) (v := .bool x1.bad) rfl
        rw [hbad] at k4
        have H1 := hid h1
        have HF1 := hid (Fr.trans (((Fr.refl (fun k => k = g) w).setOne _ _).setOne _ _) hf1)
        clear hf1 h1
        go_wp2_with fail
        go_ret2
        exact ⟨by rw [← ev]; rfl, HF1.out, H1.out⟩
      | false =>
        rw [if_neg Bool.false_ne_true]
        go_enter Try.func124, Try.ntmps124
        go_wp2_with fail
        refine (rlevel_any a n cap f Hf.out lo g ⟨src, rng - t, code - t, false⟩ _ hn HS.out).mono ?_
        rintro e w1 ⟨rfl, hf1, h1⟩
        rw [← HX1.out] at h1
        have k4 := blk_cell h1.at_ (j := 4) (v := .bool x1.bad) rfl
        rw [hbad] at k4
        have H1 := hid h1
        have HF1 := hid (Fr.trans (((Fr.refl (fun k => k = g) w).setOne _ _).setOne _ _) hf1)
        clear hf1 h1
        go_wp2_with fail
        go_ret2
        exact ⟨by rw [← ev]; rfl, HF1.out, H1.out⟩
end Go.Proofs.Ytjnegcambbeblaa
