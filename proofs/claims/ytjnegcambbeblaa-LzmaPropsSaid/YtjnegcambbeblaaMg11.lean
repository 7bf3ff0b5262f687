/- Texts of this proof, one behind the other. -/
import Derived.Test.YtjnegcambbeblaaMg02
import Derived.Test.YtjnegcambbeblaaMg09
import Derived.Laws.CopyRow
import Derived.Laws.ResultCell
import Derived.Laws.Rows
import Derived.StillTailTactics
import Derived.BigRegion

/- src: a cursor over four bytes: New, Num(4); Put of four bytes. -/
namespace Go.Proofs.Ytjnegcambbeblaa
open Go.RowKit

def CurAt (w : World) (g : Nat) (a : Option Addr) (n c : Nat) (at_ : Int) : Prop := w.heap[g]? = some (.cells #[.slice a n c, .int .i64 at_, .int .i64 0] 171)
def CurNewPost (w : World) (n : Nat) (f : Nat → Int) (e : Ending) (w' : World) : Prop :=
  ∃ g a' c', e = .returned (.pointer (some ⟨g, 0, none⟩)) ∧ Fr Non w w' ∧ CurAt w' g a' n c' 0 ∧ RowIn g .u8 w' a' n f ∧ n ≤ c' ∧ c' ≤ maxLen ∧ w.heap.size ≤ g ∧ g < w'.heap.size
set_option maxRecDepth 100000 in
theorem curNew_any (a : Option Addr) (n c : Nat) (f : Nat → Int) (w : World) (hn : n ≤ 1048576) (hnc : n ≤ c) (hnil : a = none → c = 0) (h : RowIn w.heap.size .u8 w a n f) :
    Calls Try.prog 69 #[.slice a n c] w (CurNewPost w n f) := by
  have H := hid h
  have Hnil := hid hnil
  clear h hnil
  go_enter Try.func69, Try.ntmps69
  go_wp2_with fail
  refine (clone_any a n c f _ hn hnc Hnil.out H.out).mono ?_
  rintro e w1 ⟨a', c', rfl, hf1, hr1, hn1, hc1, hb1⟩
  have HF := hid hf1
  have HR := hid hr1
  clear hf1 hr1 hb1
  go_wp2
  go_ret
  exact ⟨w1.heap.size, a', c', rfl, HF.out.alloc _, blk_new _ _, HR.out.fr ((Fr.refl Non _).alloc _) (fun _ _ => id), hn1, hc1, HF.out.size, by simp⟩
theorem sized4 (w : World) : Calls Try.prog 99 #[.int .i64 4] w fun e w' => e = .returned (.bool true) ∧ w = w' := by
  go_enter Try.func99, Try.ntmps99
  go_wp2
  go_ret
  exact ⟨rfl, rfl⟩
theorem curLeft_any (w : World) (g : Nat) (a : Option Addr) (n c : Nat) (hn : n ≤ 1048576) (h : CurAt w g a n c 0) : Calls Try.prog 120 #[.pointer (some ⟨g, 0, none⟩)] w fun e w' => e = .returned (.int .i64 n) ∧ Fr Non w w' := by
  have c0 := blk_cell h (j := 0) (v := .slice a n c) rfl
  have c1 := blk_cell h (j := 1) (v := .int .i64 0) rfl
  have hw : IntKind.i64.wrap (n : Int) = (n : Int) := by rw [IntKind.wrap_i64]; omega
  clear h
  go_enter Try.func120, Try.ntmps120
  go_upto_region 1 with fail
  go_quiet (fail)
  go_wp2
  go_ret
  refine ⟨?_, (Fr.refl Non _).drewN _⟩
  first
    | rfl
    | (congr 2; omega)
/-- the number of k bytes, the least first. -/
def leN (f : Nat → Int) : Nat → Int
  | 0 => 0
  | k + 1 => leN f k + f k * 256 ^ k
theorem leN_bd {f : Nat → Int} : ∀ k, (∀ i, i < k → 0 ≤ f i ∧ f i < 256) → 0 ≤ leN f k ∧ leN f k < 256 ^ k
  | 0, _ => ⟨Int.le_refl _, by show (0 : Int) < 1; decide⟩
  | k + 1, h => by
    obtain ⟨h1, h2⟩ := leN_bd k (fun i hi => h i (by omega))
    obtain ⟨h3, h4⟩ := h k (by omega)
    have hp : (0 : Int) < 256 ^ k := Int.pow_pos (by decide)
    show 0 ≤ leN f k + f k * 256 ^ k ∧ leN f k + f k * 256 ^ k < 256 ^ (k + 1)
    rw [Int.pow_succ]
    generalize (256 : Int) ^ k = X at *
    have h5 : 0 ≤ f k * X := Int.mul_nonneg h3 (by omega)
    have h6 : f k * X ≤ 255 * X := Int.mul_le_mul_of_nonneg_right (by omega) (by omega)
    omega
theorem u64_low (a x : Int) (k : Nat) (h0 : 0 ≤ x) (h1 : x < 2 ^ k) (ha : 0 ≤ a) (hk : k ≤ 56) (ha2 : a < 256) : bits .or .u64 x (a * 2 ^ k) = x + a * 2 ^ k := by
  obtain ⟨m, rfl⟩ := Int.eq_ofNat_of_zero_le ha
  obtain ⟨y, rfl⟩ := Int.eq_ofNat_of_zero_le h0
  have hp : 2 ^ k ≤ 2 ^ 56 := Nat.pow_le_pow_right (by decide) hk
  have e1 : (m : Int) * 2 ^ k = ((m * 2 ^ k : Nat) : Int) := by push_cast; rfl
  have h1' : y < 2 ^ k := by
    have e : ((2 : Int) ^ k) = ((2 ^ k : Nat) : Int) := by push_cast; rfl
    rw [e] at h1
    exact Int.ofNat_lt.1 h1
  have hm : m * 2 ^ k ≤ 255 * 2 ^ 56 := Nat.mul_le_mul (by omega) hp
  rw [e1, u64_or_nat y (m * 2 ^ k) (by omega) (by omega), Nat.or_comm, nat_or_low m y k h1']
  push_cast
  omega
theorem wrap_u64q (n : Int) : IntKind.u64.wrap n = n % 18446744073709551616 := by simp [IntKind.wrap, IntKind.bits, IntKind.signed]
def TakePost (w : World) (g : Nat) (f : Nat → Int) (e : Ending) (w' : World) : Prop :=
  ∃ a' c', e = .returned (.slice a' 4 c') ∧ Fr (fun k => k = g) w w' ∧ RowIn w'.heap.size .u8 w' a' 4 f
set_option maxRecDepth 100000 in
set_option maxHeartbeats 800000 in
theorem take4 (w : World) (g : Nat) (a : Option Addr) (c : Nat) (f : Nat → Int) (h : CurAt w g a 4 c 0) (hc : 4 ≤ c) (hcm : c ≤ maxLen) (hr : RowIn g .u8 w a 4 f) :
    Calls Try.prog 102 #[.pointer (some ⟨g, 0, none⟩), .int .u64 4] w (TakePost w g f) := by
  obtain ⟨b, off, rfl, hB, hx⟩ := hr.at (show 0 < 4 by decide)
  have HA := hid h
  have HR := hid hr
  unfold maxLen at hcm
  have c2 := blk_cell h (j := 2) (v := .int .i64 0) rfl
  clear h hr hx
  go_enter Try.func102, Try.ntmps102
  go_wp2_with fail
  refine (curLeft_any w g _ 4 c (by decide) HA.out).mono ?_
  rintro e w1 ⟨rfl, hf1⟩
  have h1 := hf1.blk HA.out id
  have c0 := blk_cell h1 (j := 0) (v := .slice (some ⟨b, off, none⟩) 4 c) rfl
  have c1 := blk_cell h1 (j := 1) (v := .int .i64 0) rfl
  have c2 := blk_cell h1 (j := 2) (v := .int .i64 0) rfl
  have z1 := blk_frozen h1 1
  have H1 := hid h1
  have HR1 := hid (HR.out.fr hf1 (fun _ _ e => e))
  have F1 := hid hf1
  clear h1 hf1
  have hc9 : (4 : Int) ≤ (c : Int) := by omega
  have hc8 : ¬ c = 0 := by omega
  have hw4 : IntKind.i64.wrap 4 = 4 := by decide
  have hc7 : ¬ (c : Int) = 0 := by omega
  go_upto_region 4 with fail
  go_cut [5] (fun v wx => ∃ a' c', v = .slice a' 4 c' ∧ Fr Non w1 wx ∧ RowIn wx.heap.size .u8 wx a' 4 f ∧ ∀ ad, a' = some ad → g < ad.block)
  case first =>
    have hcl := hid (fun W (hW : Fr Non w1 W) => clone_any (some ⟨b, off, none⟩) 4 c f W (by decide) hc (fun e => by cases e) ((HR1.out.fr hW (fun _ _ e => e)).mono (Nat.le_of_lt (Nat.lt_of_lt_of_le (blk_lt H1.out) hW.size))))
    go_region_with (first | (go_at_call 59; refine (hcl.out _ (by repeat (first | exact Fr.refl _ _ | refine Fr.drewN ?_ _ | refine Fr.drew ?_))).mono ?_; rintro e wm ⟨a', c', rfl, hfm, hrm, _, _, hbm⟩; have HFM := hid hfm; have HRM := hid hrm; have HBM := hid (show ∀ ad, a' = some ad → g < ad.block from fun ad e => Nat.lt_of_lt_of_le (Nat.lt_of_lt_of_le (blk_lt H1.out) (Fr.size (S := Non) (by repeat (first | exact Fr.refl _ _ | refine Fr.drewN ?_ _ | refine Fr.drew ?_)))) (hbm ad e).1); clear hfm hrm hbm) | fail)
    all_goals
      go_wp2_with fail
      go_meet
      exact ⟨a', c', rfl, Fr.trans (by repeat (first | exact Fr.refl _ _ | refine Fr.drewN ?_ _ | refine Fr.drew ?_)) HFM.out, HRM.out, HBM.out⟩
  case rest =>
    obtain ⟨a', c', rfl, hf2, hr2, hb2⟩ := hcut
    obtain ⟨w2, hw2⟩ : ∃ w2, w2 = wc := ⟨_, rfl⟩
    rw [← hw2] at hf2 hr2 ⊢
    have h2 := hf2.blk H1.out id
    clear hw2 c0 c1 c2 z1
    have c1 := blk_cell h2 (j := 1) (v := .int .i64 0) rfl
    have z1 := blk_frozen h2 1
    have F2 := hid (F1.out.trans hf2)
    have R2 := hid hr2
    have B2 := hid hb2
    clear hf2 hr2 h2 hb2
    go_wp2_with fail
    go_ret
    have hf3 : Fr (fun k => k = g) w2 (w2.setCell ⟨g, 1, none⟩ (.int .i64 4)) := (Fr.refl _ _).setOne _ _
    refine ⟨a', c', rfl, F2.out.any.trans hf3, ?_⟩
    rcases R2.out with h | ⟨b, off, e, hb, hc⟩
    · cases h
    · exact .inr ⟨b, off, e, by simpa using hb, fun i hi => hf3.cell (hc i hi) (fun e1 => by have e2 : b = g := e1; have h9 : g < b := B2.out _ e; omega)⟩
set_option maxRecDepth 100000 in
set_option maxHeartbeats 800000 in
theorem least4 (a : Option Addr) (c B : Nat) (f : Nat → Int) (w : World) (hr : RowIn B .u8 w a 4 f) (hf : ∀ i, i < 4 → 0 ≤ f i ∧ f i < 256) :
    Calls Try.prog 101 #[.slice a 4 c] w fun e w' => e = .returned (.int .u64 (leN f 4)) ∧ w = w' := by
  have HR := hid hr
  have HF := hid hf
  clear hr hf
  go_enter Try.func101, Try.ntmps101
  go_wp2_with fail
  go_loopw [3, 8] (fun v i wr => ∃ k : Nat, k ≤ 4 ∧ i = .int .i64 k ∧ v = .int .u64 (leN f k) ∧ wr = w) (fun v i _ => 4 - (intOf i).toNat)
  case atStart => exact ⟨0, by decide, rfl, rfl, rfl⟩
  case round =>
    obtain ⟨k, hk, rfl, rfl, rfl⟩ := hrel
    by_cases hlt : k < 4
    · obtain ⟨b, off, rfl, hB, hx⟩ := HR.out.at hlt
      obtain ⟨hv0, hv1⟩ := leN_bd k (fun i hi => HF.out i (by omega))
      obtain ⟨hx0, hx1⟩ := HF.out k hlt
      have h0 : (0 : Int) ≤ (k : Int) := by omega
      have h1 : (k : Int) < 4 := by omega
      have HU := hid (u64_low (f k) (leN f k) (8 * k) hv0 (by rw [Int.pow_mul]; exact hv1) hx0 (by omega) hx1)
      have HV := hid (And.intro hv0 hv1)
      clear hv0 hv1
      obtain ⟨y, hy⟩ : ∃ y, y = leN f k := ⟨_, rfl⟩
      rw [← hy] at HU ⊢
      have HY := hid hy
      clear hy
      go_wp2_with fail
      have hw : IntKind.u64.wrap (f k * 2 ^ (8 * k)) = f k * 2 ^ (8 * k) := by
        rw [wrap_u64q]
        have hp : (2 : Int) ^ (8 * k) ≤ 2 ^ 24 := by
          have : 2 ^ (8 * k) ≤ 2 ^ 24 := Nat.pow_le_pow_right (by decide) (by omega)
          exact_mod_cast this
        have hp0 : (0 : Int) ≤ 2 ^ (8 * k) := Int.le_of_lt (Int.pow_pos (by decide))
        have h5 : 0 ≤ f k * 2 ^ (8 * k) := Int.mul_nonneg hx0 hp0
        have h6 : f k * 2 ^ (8 * k) ≤ 255 * 2 ^ 24 := Int.le_trans (Int.mul_le_mul_of_nonneg_right (by omega : f k ≤ 255) hp0) (Int.mul_le_mul_of_nonneg_left hp (by decide))
        exact Int.emod_eq_of_lt h5 (Int.lt_of_le_of_lt h6 (by decide))
      rw [hw, HU.out, HY.out]
      refine ⟨⟨k + 1, by omega, by go_num, ?_, trivial⟩, ?_⟩
      · congr 1
        show leN f k + f k * 2 ^ (8 * k) = leN f k + f k * 256 ^ k
        rw [Int.pow_mul]
        rfl
      · simp [intOf]; omega
    · have e : k = 4 := by omega
      subst e
      go_wp2_with fail
      go_ret
      exact ⟨rfl, rfl⟩
theorem num4 (w : World) (g : Nat) (a : Option Addr) (c : Nat) (f : Nat → Int) (h : CurAt w g a 4 c 0) (hc : 4 ≤ c) (hcm : c ≤ maxLen) (hr : RowIn g .u8 w a 4 f) (hf : ∀ i, i < 4 → 0 ≤ f i ∧ f i < 256) :
    Calls Try.prog 70 #[.pointer (some ⟨g, 0, none⟩), .int .i64 4] w fun e w' => e = .returned (.int .u64 (leN f 4)) ∧ Fr (fun k => k = g) w w' := by
  have H := hid h
  have HR := hid hr
  have HF := hid hf
  clear h hr hf
  go_enter Try.func70, Try.ntmps70
  go_wp2_with fail
  refine (sized4 _).mono ?_
  rintro e w1 ⟨rfl, rfl⟩
  go_wp2_with fail
  refine (take4 w g a c f H.out hc hcm HR.out).mono ?_
  rintro e w2 ⟨a', c', rfl, hf2, hr2⟩
  have F2 := hid hf2
  have R2 := hid hr2
  clear hf2 hr2
  go_wp2_with fail
  refine (least4 a' c' _ f w2 R2.out HF.out).mono ?_
  rintro e w3 ⟨rfl, rfl⟩
  go_wp2_with fail
  go_ret
  exact ⟨rfl, F2.out⟩
/-- a clone is a row of the call's own. -/
theorem clone_own (a : Option Addr) (n c : Nat) (f : Nat → Int) (w : World) (hn : n ≤ 1048576) (hnc : n ≤ c) (hnil : a = none → c = 0) (h : RowIn w.heap.size .u8 w a n f) :
    Calls Try.prog 59 #[.slice a n c] w fun e w' => ∃ v, e = .returned v ∧ Fr Non w w' ∧ Own w' w.heap.size .u8 5 v ((List.range n).map f) := by
  have H := hid h
  clear h
  cases a with
  | none =>
    have hc : c = 0 := hnil rfl
    have hn0 : n = 0 := by omega
    subst hc hn0
    clear hnil
    have k0 := fun wx : World => Lib.run_eql_slice_nil (P := Try.prog) wx 30 5 none 0 0 0 0 Try.underlying30
    go_enter Try.func59, Try.ntmps59
    go_wp2
    go_ret
    exact ⟨_, rfl, Fr.refl _ _, Own.nil _ _ _ _⟩
  | some ad =>
    clear hnil
    have k0 := fun wx : World => Lib.run_eql_slice_nil (P := Try.prog) wx 30 5 (some ad) n c 0 0 Try.underlying30
    go_enter Try.func59, Try.ntmps59
    go_wp2_with (refine opAppendRow (some 7) rfl rfl (.tmp 5) (.tmp 6) 30 rfl w.heap.size .u8 5 1 Try.underlying30 Try.info_u8 (.slice (some ⟨w.heap.size, 0, none⟩) 0 0) [] rfl (Own.empty w _ .u8 5 (Nat.le_refl _)) w.heap.size (some ad) n c f rfl (fun e => by cases e) hnc (H.out.fr ((Fr.refl Non _).alloc _) (fun _ _ => id)) (by decide) (by simp; omega) (by simp) ?_; intro v2 w2 hown2 hg2)
    go_ret
    exact ⟨_, rfl, clone_fr hg2, hown2⟩
/-- the bytes of a number, the least first. -/
def leB (v : Int) (k : Nat) : List Int := (List.range k).map (fun i => v / 256 ^ i % 256)
set_option maxRecDepth 100000 in
set_option maxHeartbeats 800000 in
theorem put4 (a : Option Addr) (c : Nat) (x v : Int) (w : World) (hr : RowIn w.heap.size .u8 w a 1 (fun _ => x)) (hc : 1 ≤ c) (hnil : a = none → c = 0) (hv0 : 0 ≤ v) (hv1 : v < 4294967296) :
    Calls Try.prog 71 #[.slice a 1 c, .int .i64 4, .int .u64 v] w fun e w' => ∃ u, e = .returned u ∧ Fr Non w w' ∧ RowO w' w.heap.size u (x :: leB v 4) := by
  have HR := hid hr
  have HNIL := hid hnil
  clear hr hnil
  go_enter Try.func71, Try.ntmps71
  go_wp2_with fail
  refine (clone_own a 1 c (fun _ => x) w (by decide) hc HNIL.out HR.out).mono ?_
  rintro e w1 ⟨v1, rfl, hf1, ho1⟩
  have F1 := hid hf1
  have O1 := hid ho1
  clear hf1 ho1
  go_wp2_with fail
  refine (sized4 _).mono ?_
  rintro e w2 ⟨rfl, rfl⟩
  go_wp2_with fail
  go_loopw [7, 2, 15] (fun u y i wr => ∃ k : Nat, k ≤ 4 ∧ i = .int .i64 k ∧ y = .int .u64 (v / 256 ^ k) ∧ Fr Non w wr ∧ Own wr w.heap.size .u8 5 u (x :: leB v k)) (fun u y i _ => 4 - (intOf i).toNat)
  case atStart => exact ⟨0, by decide, rfl, by simp, F1.out, O1.out⟩
  case round =>
    obtain ⟨k, hk, rfl, rfl, hfr, hown⟩ := hrel
    have HFR := hid hfr
    have HOW := hid hown
    clear hfr hown
    by_cases hlt : k < 4
    · have h1 : (k : Int) < 4 := by omega
      have h0 : (0 : Int) ≤ (k : Int) := by omega
      have hyw : IntKind.u8.wrap (v / 256 ^ k) = v / 256 ^ k % 256 := by rw [IntKind.wrap_u8]
      have hsz := HFR.out.size
      have hl4 : (x :: leB v k).length ≤ 5 := by simp [leB]; omega
      go_wp2_with (refine opAppend1 (some 21) rfl rfl (.tmp 17) (.tmp 20) 30 rfl w.heap.size .u8 5 1 Try.underlying30 Try.info_u8q _ _ rfl (by exact HOW.out.alloc _) ⟨_, 0, none⟩ 1 _ rfl (cell_new1 _ _ _) (by decide) (by omega) (by simp; omega) ?_; intro v6 w6 hown6 hg6)
      have hf6 : Fr Non w w6 := Fr.grown (HFR.out.alloc _) hg6 (fun b hb hlt => by have := (HOW.out.block b hb).1; omega)
      have e1 : v / 256 ^ k / 256 = v / 256 ^ (k + 1) := by
        obtain ⟨m, rfl⟩ := Int.eq_ofNat_of_zero_le hv0
        have e : ((256 : Int) ^ k) = ((256 ^ k : Nat) : Int) := by push_cast; rfl
        have e2 : ((256 : Int) ^ (k + 1)) = ((256 ^ (k + 1) : Nat) : Int) := by push_cast; rfl
        rw [e, e2]
        have e3 : m / 256 ^ k / 256 = m / 256 ^ (k + 1) := by rw [Nat.div_div_eq_div_mul, Nat.pow_succ]
        exact_mod_cast e3
      have e2 : x :: leB v (k + 1) = x :: leB v k ++ [v / 256 ^ k % 256] := by
        unfold leB; rw [List.range_succ, List.map_append]; rfl
      refine ⟨⟨k + 1, by omega, by go_num, by rw [e1], hf6, ?_⟩, ?_⟩
      · rw [e2]
        first
          | exact hown6
          | (rw [hyw] at hown6; exact hown6)
      · simp [intOf]; omega
    · have e : k = 4 := by omega
      subst e
      go_wp2_with fail
      go_ret
      exact ⟨_, rfl, HFR.out, HOW.out.rowO⟩
end Go.Proofs.Ytjnegcambbeblaa

/- lzma: Parse, Props; the document's. -/
namespace Go.Proofs.Ytjnegcambbeblaa
open Go.RowKit

theorem results_cell_tmp_row {P : Program} {fn : Func} {p u : Tmp} {ty : TypeId} (h : fn.results = #[.cell p ty, .tmp u]) (tmps : Array Value) (w : World) (g : Nat) (t : TypeId) (cs : Array Value) (fr : Nat × Nat) (d : TypeDesc)
    (hp : tmps.getD p undef = .pointer (some ⟨g, 0, none⟩)) (hg : w.heap[g]? = some (.cells cs t fr))
    (hu : P.underlying ty = some d) (hd : (match d with | .struct _ | .array _ _ => true | _ => false) = true) (hi : (P.info? ty).map (·.size) = some cs.size) :
    (results fn tmps).run P w = .ok (.tuple #[.agg cs, tmps.getD u undef]) w := by
  have hp' : tmps[p]?.getD undef = .pointer (some ⟨g, 0, none⟩) := by simpa using hp
  rw [results_cell_tmp h]
  simp [hp', asAddr, Result.andThen, run_loadVar_row w g t ty cs fr d hg hu hd hi]
theorem results_cell_tmp_row' {P : Program} {fn : Func} {p u : Tmp} {ty : TypeId} (h : fn.results = #[.cell p ty, .tmp u]) (tmps : Array Value) (w : World) (g : Nat) (t : TypeId) (cs : Array Value) (fr : Nat × Nat) (d : TypeDesc) (y : Value)
    (hp : tmps.getD p undef = .pointer (some ⟨g, 0, none⟩)) (hy : tmps.getD u undef = y) (hg : w.heap[g]? = some (.cells cs t fr))
    (hu : P.underlying ty = some d) (hd : (match d with | .struct _ | .array _ _ => true | _ => false) = true) (hi : (P.info? ty).map (·.size) = some cs.size) :
    (results fn tmps).run P w = .ok (.tuple #[.agg cs, y]) w := by
  rw [results_cell_tmp_row h tmps w g t cs fr d hp hg hu hd hi, hy]
/-- a setting's properties, read. -/
def pSet (f : Nat → Int) : Lset := ⟨f 0 % 9, f 0 / 9 % 5, f 0 / 45, max 4096 (f 1 + 256 * f 2 + 65536 * f 3 + 16777216 * f 4)⟩
def pParse (f : Nat → Int) (n : Nat) : Lset × Int := if n ≠ 5 ∨ 225 ≤ f 0 then (⟨0, 0, 0, 0⟩, 11) else (pSet f, 0)
def PsPost (f : Nat → Int) (n : Nat) (w : World) (e : Ending) (w' : World) : Prop := e = .returned (.tuple #[(pParse f n).1.val, .int .i64 (pParse f n).2]) ∧ Fr Non w w'
theorem setNew_fr {w w' : World} (h : Fr Non w w') {g : Nat} (hg : w.heap.size ≤ g) (c : Array Value) : Fr Non w (w'.setRow g c) := by
  refine ⟨h.os, h.tape, h.output, by simp [World.setRow]; exact h.size, fun k hk _ => ?_⟩
  rw [setRow_other _ _ _ _ (show k ≠ g by omega)]
  exact h.block k hk id
theorem leN4 (f : Nat → Int) : leN f 4 = f 0 + 256 * f 1 + 65536 * f 2 + 16777216 * f 3 := by
  show 0 + f 0 * 256 ^ 0 + f 1 * 256 ^ 1 + f 2 * 256 ^ 2 + f 3 * 256 ^ 3 = _
  rw [show (256 : Int) ^ 0 = 1 from rfl, show (256 : Int) ^ 1 = 256 from rfl, show (256 : Int) ^ 2 = 65536 from rfl, show (256 : Int) ^ 3 = 16777216 from rfl]
  omega
set_option maxRecDepth 100000 in
set_option maxHeartbeats 800000 in
theorem parse_any (a : Option Addr) (n c : Nat) (f : Nat → Int) (w : World) (hn : n ≤ 1048576) (hnc : n ≤ c) (hnil : a = none → c = 0) (hr : RowIn w.heap.size .u8 w a n f) (hf : ∀ i, i < n → 0 ≤ f i ∧ f i < 256) :
    Calls Try.prog 31 #[.slice a n c] w (PsPost f n w) := by
  obtain ⟨R, hR⟩ : ∃ R, R = pParse f n := ⟨_, rfl⟩
  unfold PsPost
  rw [← hR]
  unfold pParse at hR
  have HR := hid hr
  have Hf := hid hf
  have HRE := hid hR
  have HNIL := hid hnil
  have HF0 := hid ((Fr.refl Non w).alloc (.cells #[.int .i64 0, .int .i64 0, .int .i64 0, .int .i64 0] 23))
  have HB0 := hid (blk_new w (.cells #[.int .i64 0, .int .i64 0, .int .i64 0, .int .i64 0] 23))
  clear hr hf hR hnil
  go_enter Try.func31, Try.ntmps31
  by_cases h5 : n = 5
  · subst h5
    obtain ⟨b, off, rfl, hB, hx⟩ := HR.out.at (show 0 < 5 by decide)
    rw [Nat.add_zero] at hx
    obtain ⟨hx0, hx1⟩ := Hf.out 0 (by decide)
    obtain ⟨W, hW⟩ : ∃ W, W = w.alloc (.cells #[.int .i64 0, .int .i64 0, .int .i64 0, .int .i64 0] 23) := ⟨_, rfl⟩
    have hxW := HF0.out.cell hx id
    rw [← hW] at HF0 HB0 hxW
    obtain ⟨x, hxe⟩ : ∃ x, x = f 0 := ⟨_, rfl⟩
    rw [← hxe] at hx hx0 hx1 hxW
    have HXE := hid hxe
    clear hxe
    by_cases h225 : 225 ≤ x
    · have hc : decide (225 ≤ x) = true := decide_eq_true h225
      have HE := hid (show R = (⟨0, 0, 0, 0⟩, 11) by rw [HRE.out, if_pos (.inr (by rw [← HXE.out]; exact h225))])
      rw [HE.out]
      go_upto_region 2 with fail
      go_wp2_with fail
      refine bodyPost_ret (v := .tuple #[.agg #[.int .i64 0, .int .i64 0, .int .i64 0, .int .i64 0], .int .i64 11]) (results_cell_tmp_row' rfl _ _ w.heap.size 23 #[.int .i64 0, .int .i64 0, .int .i64 0, .int .i64 0] (0, 0) _ _ rfl rfl (by exact blk_new w _) Try.underlying23 rfl (by kernel_rfl)) rfl ?_
      exact ⟨rfl, (Fr.refl Non w).alloc _⟩
    · have hc : decide (225 ≤ x) = false := decide_eq_false h225
      have HE := hid (show R = (pSet f, 0) by rw [HRE.out, if_neg (by rw [← HXE.out]; intro e; exact e.elim (fun e => e rfl) h225)])
      have HX9 := hid (show x < 225 by omega)
      rw [HE.out]
      have hc8 : ¬ c = 1 := by have := HR.out; omega
      have hc7 : ¬ (c : Int) = 1 := by omega
      have hc5 : (5 : Int) ≤ (c : Int) := by omega
      clear h225
      go_upto_region 4 with fail
      rw [← hW]
      have HW := hid hW
      clear hW
      have HRW := hid (HR.out.fr HF0.out (fun _ _ => id))
      go_wp2_with fail
      refine (curNew_any (some ⟨b, off + 1, none⟩) 4 (c - 1) (fun i => f (i + 1)) W (by decide) (by omega) (fun e => by cases e) (.inr ⟨b, off + 1, rfl, Nat.lt_of_lt_of_le hB HF0.out.size, fun i hi => by
        rcases HRW.out with h | ⟨b', o', e, hb, hcc⟩
        · cases h
        · injection e with e; injection e with e1 e2
          subst e1 e2
          have := hcc (i + 1) (by omega)
          rw [show off + (i + 1) = off + 1 + i by omega] at this
          exact this⟩)).mono ?_
      rintro e w1 ⟨g, a', c', rfl, hf1, hcur, hrow, hc1, hc2, hg0, hg1⟩
      have F1 := hid hf1
      have CUR := hid hcur
      have ROW := hid hrow
      have HB1 := hid (hf1.blk HB0.out id)
      have HG := hid hg0
      clear hf1 hcur hrow
      go_wp2_with fail
      refine (num4 w1 g a' c' _ CUR.out hc1 hc2 ROW.out (fun i hi => Hf.out (i + 1) (by omega))).mono ?_
      rintro e w2 ⟨rfl, hf2⟩
      have F2 := hid (F1.out.then hf2 (fun k hk e => by have e' : k = g := e; have := HG.out; omega))
      have hgW : w.heap.size ≠ g := by have := HG.out; have := blk_lt HB0.out; omega
      have HB2 := hid (hf2.blk HB1.out hgW)
      clear hf2 hgW
      obtain ⟨v, hv⟩ : ∃ v, v = leN (fun i => f (i + 1)) 4 := ⟨_, rfl⟩
      rw [← hv]
      have hbd := leN_bd (f := fun i => f (i + 1)) 4 (fun i hi => Hf.out (i + 1) (by omega))
      rw [← hv] at hbd
      have hv0 : 0 ≤ v := hbd.1
      have hv1 : v < 4294967296 := hbd.2
      have HVE := hid (show v = f 1 + 256 * f 2 + 65536 * f 3 + 16777216 * f 4 by rw [hv, leN4])
      clear hv hbd
      have hcv : IntKind.i64.wrap v = v := by rw [IntKind.wrap_i64]; omega
      by_cases hv4 : 4096 < v
      · have hv4' : ¬ v ≤ 4096 := by omega
        have HM := hid (show max 4096 v = v by omega)
        go_wp2_with (refine wpList_store_row rfl 23 _ _ rfl w.heap.size #[.int .i64 (x % 9), .int .i64 (x / 9 % 5), .int .i64 (x / 45), .int .i64 v] rfl rfl 23 #[.int .i64 0, .int .i64 0, .int .i64 0, .int .i64 0] (by exact HB2.out) (by kernel_rfl) rfl (by kernel_rfl) ?_)
        refine bodyPost_ret (v := .tuple #[.agg #[.int .i64 (x % 9), .int .i64 (x / 9 % 5), .int .i64 (x / 45), .int .i64 v], .int .i64 0]) (results_cell_tmp_row' rfl _ _ w.heap.size 23 #[.int .i64 (x % 9), .int .i64 (x / 9 % 5), .int .i64 (x / 45), .int .i64 v] (0, 0) _ _ rfl rfl (by exact setRow_heap _ _ _ _ _ _ HB2.out) Try.underlying23 rfl (by kernel_rfl)) rfl ?_
        refine ⟨?_, setNew_fr (HF0.out.trans F2.out) (Nat.le_refl _) _⟩
        show _ = Ending.returned (.tuple #[.agg #[.int .i64 (f 0 % 9), .int .i64 (f 0 / 9 % 5), .int .i64 (f 0 / 45), .int .i64 (max 4096 (f 1 + 256 * f 2 + 65536 * f 3 + 16777216 * f 4))], .int .i64 0])
        rw [← HVE.out, ← HXE.out, HM.out]
      · have hv4' : v ≤ 4096 := by omega
        have HM := hid (show max 4096 v = 4096 by omega)
        go_wp2_with (refine wpList_store_row rfl 23 _ _ rfl w.heap.size #[.int .i64 (x % 9), .int .i64 (x / 9 % 5), .int .i64 (x / 45), .int .i64 4096] rfl rfl 23 #[.int .i64 0, .int .i64 0, .int .i64 0, .int .i64 0] (by exact HB2.out) (by kernel_rfl) rfl (by kernel_rfl) ?_)
        refine bodyPost_ret (v := .tuple #[.agg #[.int .i64 (x % 9), .int .i64 (x / 9 % 5), .int .i64 (x / 45), .int .i64 4096], .int .i64 0]) (results_cell_tmp_row' rfl _ _ w.heap.size 23 #[.int .i64 (x % 9), .int .i64 (x / 9 % 5), .int .i64 (x / 45), .int .i64 4096] (0, 0) _ _ rfl rfl (by exact setRow_heap _ _ _ _ _ _ HB2.out) Try.underlying23 rfl (by kernel_rfl)) rfl ?_
        refine ⟨?_, setNew_fr (HF0.out.trans F2.out) (Nat.le_refl _) _⟩
        show _ = Ending.returned (.tuple #[.agg #[.int .i64 (f 0 % 9), .int .i64 (f 0 / 9 % 5), .int .i64 (f 0 / 45), .int .i64 (max 4096 (f 1 + 256 * f 2 + 65536 * f 3 + 16777216 * f 4))], .int .i64 0])
        rw [← HVE.out, ← HXE.out, HM.out]
  · have HE := hid (show R = (⟨0, 0, 0, 0⟩, 11) by rw [HRE.out, if_pos (.inl h5)])
    rw [HE.out]
    have hne : ((n : Int) == 5) = false := by simp; omega
    go_wp2_with fail
    refine bodyPost_ret (v := .tuple #[.agg #[.int .i64 0, .int .i64 0, .int .i64 0, .int .i64 0], .int .i64 11]) (results_cell_tmp_row' rfl _ _ w.heap.size 23 #[.int .i64 0, .int .i64 0, .int .i64 0, .int .i64 0] (0, 0) _ _ rfl rfl (by exact blk_new w _) Try.underlying23 rfl (by kernel_rfl)) rfl ?_
    exact ⟨rfl, (Fr.refl Non w).alloc _⟩
end Go.Proofs.Ytjnegcambbeblaa

/- lzma: the document's Parse. -/
namespace Go.Proofs.Ytjnegcambbeblaa
open Go.RowKit

set_option maxRecDepth 100000 in
set_option maxHeartbeats 800000 in
theorem rparse_any (a : Option Addr) (n c : Nat) (f : Nat → Int) (w : World) (hn : n ≤ 1048576) (hr : RowIn w.heap.size .u8 w a n f) (hf : ∀ i, i < n → 0 ≤ f i ∧ f i < 256) :
    Calls Try.prog 32 #[.slice a n c] w (PsPost f n w) := by
  obtain ⟨R, hR⟩ : ∃ R, R = pParse f n := ⟨_, rfl⟩
  unfold PsPost
  rw [← hR]
  unfold pParse at hR
  have HR := hid hr
  have Hf := hid hf
  have HRE := hid hR
  have HF0 := hid ((Fr.refl Non w).alloc (.cells #[.int .i64 0, .int .i64 0, .int .i64 0, .int .i64 0] 23))
  have HB0 := hid (blk_new w (.cells #[.int .i64 0, .int .i64 0, .int .i64 0, .int .i64 0] 23))
  clear hr hf hR
  go_enter Try.func32, Try.ntmps32
  by_cases h5 : n = 5
  · subst h5
    obtain ⟨b, off, rfl, hB, _⟩ := HR.out.at (show 0 < 5 by decide)
    have hcell : ∀ i, i < 5 → w.cell? ⟨b, off + i, none⟩ = some (.int .u8 (f i)) := by
      intro i hi
      rcases HR.out with h | ⟨b', o', e, hb, hcc⟩
      · cases h
      · injection e with e; injection e with e1 e2
        subst e1 e2
        exact hcc i hi
    have hx := hcell 0 (by decide)
    rw [Nat.add_zero] at hx
    have hcs := hid hcell
    clear hcell
    obtain ⟨hx0, hx1⟩ := Hf.out 0 (by decide)
    obtain ⟨x, hxe⟩ : ∃ x, x = f 0 := ⟨_, rfl⟩
    rw [← hxe] at hx hx0 hx1
    have HXE := hid hxe
    clear hxe
    by_cases h225 : 225 ≤ x
    · have hc : decide (225 ≤ x) = true := decide_eq_true h225
      have HE := hid (show R = (⟨0, 0, 0, 0⟩, 11) by rw [HRE.out, if_pos (.inr (by rw [← HXE.out]; exact h225))])
      rw [HE.out]
      go_wp2_with fail
      refine bodyPost_ret (v := .tuple #[.agg #[.int .i64 0, .int .i64 0, .int .i64 0, .int .i64 0], .int .i64 11]) (results_cell_tmp_row' rfl _ _ w.heap.size 23 #[.int .i64 0, .int .i64 0, .int .i64 0, .int .i64 0] (0, 0) _ _ rfl rfl (by exact blk_new w _) Try.underlying23 rfl (by kernel_rfl)) rfl ?_
      exact ⟨rfl, (Fr.refl Non w).alloc _⟩
    · have hc : decide (225 ≤ x) = false := decide_eq_false h225
      have HE := hid (show R = (pSet f, 0) by rw [HRE.out, if_neg (by rw [← HXE.out]; intro e; exact e.elim (fun e => e rfl) h225)])
      have HX9 := hid (show x < 225 by omega)
      rw [HE.out]
      go_upto_region 3 with fail
      obtain ⟨W, hW⟩ : ∃ W, W = w.alloc (.cells #[.int .i64 0, .int .i64 0, .int .i64 0, .int .i64 0] 23) := ⟨_, rfl⟩
      have hx2 := HF0.out.cell hx id
      obtain ⟨y1, hy1⟩ : ∃ y, y = f 1 := ⟨_, rfl⟩
      obtain ⟨y2, hy2⟩ : ∃ y, y = f 2 := ⟨_, rfl⟩
      obtain ⟨y3, hy3⟩ : ∃ y, y = f 3 := ⟨_, rfl⟩
      obtain ⟨y4, hy4⟩ : ∃ y, y = f 4 := ⟨_, rfl⟩
      have c1 := HF0.out.cell (hcs.out 1 (by decide)) id
      have c2 := HF0.out.cell (hcs.out 2 (by decide)) id
      have c3 := HF0.out.cell (hcs.out 3 (by decide)) id
      have c4 := HF0.out.cell (hcs.out 4 (by decide)) id
      obtain ⟨a10, a11⟩ := Hf.out 1 (by decide)
      obtain ⟨a20, a21⟩ := Hf.out 2 (by decide)
      obtain ⟨a30, a31⟩ := Hf.out 3 (by decide)
      obtain ⟨a40, a41⟩ := Hf.out 4 (by decide)
      rw [← hy1] at c1 a10 a11
      rw [← hy2] at c2 a20 a21
      rw [← hy3] at c3 a30 a31
      rw [← hy4] at c4 a40 a41
      rw [← hW] at hx2 c1 c2 c3 c4 ⊢
      have HW := hid hW
      have HY := hid (And.intro hy1 (And.intro hy2 (And.intro hy3 hy4)))
      clear hW hy1 hy2 hy3 hy4 hx
      obtain ⟨v, hv⟩ : ∃ v, v = y1 + 256 * y2 + 65536 * y3 + 16777216 * y4 := ⟨_, rfl⟩
      have hv0 : 0 ≤ v := by omega
      have hv1 : v < 4294967296 := by omega
      have e1 : IntKind.i64.wrap (256 * y2) = 256 * y2 := by rw [IntKind.wrap_i64]; omega
      have e2 : IntKind.i64.wrap (y1 + 256 * y2) = y1 + 256 * y2 := by rw [IntKind.wrap_i64]; omega
      have e3 : IntKind.i64.wrap (65536 * y3) = 65536 * y3 := by rw [IntKind.wrap_i64]; omega
      have e4 : IntKind.i64.wrap (y1 + 256 * y2 + 65536 * y3) = y1 + 256 * y2 + 65536 * y3 := by rw [IntKind.wrap_i64]; omega
      have e5 : IntKind.i64.wrap (16777216 * y4) = 16777216 * y4 := by rw [IntKind.wrap_i64]; omega
      have e6 : IntKind.i64.wrap (y1 + 256 * y2 + 65536 * y3 + 16777216 * y4) = v := by rw [hv, IntKind.wrap_i64]; omega
      have HV := hid hv
      have q0 := fun o => ((Fr.refl Non W).alloc o).cell hx2 id
      have q1 := fun o => ((Fr.refl Non W).alloc o).cell c1 id
      have q2 := fun o => ((Fr.refl Non W).alloc o).cell c2 id
      have q3 := fun o => ((Fr.refl Non W).alloc o).cell c3 id
      have q4 := fun o => ((Fr.refl Non W).alloc o).cell c4 id
      go_region_held3 (fun wx => wx.cell? ⟨b, off, none⟩ = some (.int .u8 x) ∧ wx.cell? ⟨b, off + 1, none⟩ = some (.int .u8 y1) ∧ wx.cell? ⟨b, off + 2, none⟩ = some (.int .u8 y2) ∧ wx.cell? ⟨b, off + 3, none⟩ = some (.int .u8 y3) ∧ wx.cell? ⟨b, off + 4, none⟩ = some (.int .u8 y4)) (first | exact ⟨hx2, c1, c2, c3, c4⟩ | exact ⟨q0 _, q1 _, q2 _, q3 _, q4 _⟩) (fail)
      have w0 : IntKind.i64.wrap x = x := by rw [IntKind.wrap_i64]; omega
      have w1 : IntKind.i64.wrap y1 = y1 := by rw [IntKind.wrap_i64]; omega
      have w2 : IntKind.i64.wrap y2 = y2 := by rw [IntKind.wrap_i64]; omega
      have w3 : IntKind.i64.wrap y3 = y3 := by rw [IntKind.wrap_i64]; omega
      have w4 : IntKind.i64.wrap y4 = y4 := by rw [IntKind.wrap_i64]; omega
      have w5 : IntKind.i64.wrap (x / 9) = x / 9 := by rw [IntKind.wrap_i64]; omega
      have w6 : IntKind.i64.wrap (x / 45) = x / 45 := by rw [IntKind.wrap_i64]; omega
      rw [w0, w1, w2, w3, w4, e1, e2, e3, e4, e5, e6, Int.tdiv_eq_ediv_of_nonneg hx0, Int.tdiv_eq_ediv_of_nonneg hx0, w5, w6, Int.tmod_eq_emod_of_nonneg hx0, Int.tmod_eq_emod_of_nonneg (show 0 ≤ x / 9 by omega)]
      clear w0 w1 w2 w3 w4 w5 w6
      clear q0 q1 q2 q3 q4
      go_upto_region 4 with fail
      obtain ⟨gz, hgz⟩ : ∃ g, g = W.heap.size := ⟨_, rfl⟩
      obtain ⟨Z, hZ⟩ : ∃ Z, Z = (W.alloc (.cells #[.int .i64 (x % 9), .int .i64 (x / 9 % 5), .int .i64 (x / 45), .int .i64 v] 23)).drew := ⟨_, rfl⟩
      have hnz : Z.heap[gz]? = some (.cells #[.int .i64 (x % 9), .int .i64 (x / 9 % 5), .int .i64 (x / 45), .int .i64 v] 23) := by rw [hZ, hgz]; exact blk_drew (blk_new _ _)
      have HWS := hid (show W.heap.size = w.heap.size + 1 by rw [HW.out]; simp)
      have HGZ := hid hgz
      have HFW := hid (show Fr Non w Z by rw [hZ]; exact ((show Fr Non w W by rw [HW.out]; exact HF0.out).alloc _).drew)
      have HBW := hid (show Z.heap[w.heap.size]? = some (.cells #[.int .i64 0, .int .i64 0, .int .i64 0, .int .i64 0] 23) by rw [hZ]; refine blk_drew (blk_alloc ?_); rw [HW.out]; exact HB0.out)
      have k3 := blk_cell hnz (j := 3) (v := .int .i64 v) rfl
      have z3 := blk_frozen hnz 3
      rw [← hZ, ← hgz]
      have HN0 := hid hnz
      clear hZ hgz hnz hv e1 e2 e3 e4 e5 e6 c1 c2 c3 c4 hx2
      by_cases hv4 : v < 4096
      · have HM := hid (show max 4096 v = 4096 by omega)
        have hd : decide (v < 4096) = true := decide_eq_true hv4
        go_upto_region 6 with fail
        have HNZ := hid (show (Z.setCell ⟨gz, 3, none⟩ (.int .i64 4096)).heap[gz]? = some (.cells #[.int .i64 (x % 9), .int .i64 (x / 9 % 5), .int .i64 (x / 45), .int .i64 4096] 23) from blk_set (i := 3) HN0.out)
        have HFZ := hid (show Fr (fun k => k = gz) Z (Z.setCell ⟨gz, 3, none⟩ (.int .i64 4096)) from (Fr.refl _ _).setOne _ _)
        have HBZ := hid (HFZ.out.blk HBW.out (fun e => by have := HWS.out; rw [HGZ.out] at e; omega))
        go_wp2_with (first
          | (refine wpList_load_row rfl 23 _ rfl gz rfl 23 #[.int .i64 (x % 9), .int .i64 (x / 9 % 5), .int .i64 (x / 45), .int .i64 4096] (0, 0) _ (by exact HNZ.out) Try.underlying23 rfl (by kernel_rfl) ?_)
          | (refine wpList_store_row rfl 23 _ _ rfl w.heap.size #[.int .i64 (x % 9), .int .i64 (x / 9 % 5), .int .i64 (x / 45), .int .i64 4096] rfl rfl 23 #[.int .i64 0, .int .i64 0, .int .i64 0, .int .i64 0] (by exact HBZ.out) (by kernel_rfl) rfl (by kernel_rfl) ?_))
        refine bodyPost_ret (v := .tuple #[.agg #[.int .i64 (x % 9), .int .i64 (x / 9 % 5), .int .i64 (x / 45), .int .i64 4096], .int .i64 0]) (results_cell_tmp_row' rfl _ _ w.heap.size 23 #[.int .i64 (x % 9), .int .i64 (x / 9 % 5), .int .i64 (x / 45), .int .i64 4096] (0, 0) _ _ rfl rfl (by exact setRow_heap _ _ _ _ _ _ HBZ.out) Try.underlying23 rfl (by kernel_rfl)) rfl ?_
        refine ⟨?_, setNew_fr (HFW.out.then HFZ.out (fun k hk e => by have := HWS.out; have e' : k = gz := e; rw [HGZ.out] at e'; omega)) (Nat.le_refl _) _⟩
        show _ = Ending.returned (.tuple #[.agg #[.int .i64 (f 0 % 9), .int .i64 (f 0 / 9 % 5), .int .i64 (f 0 / 45), .int .i64 (max 4096 (f 1 + 256 * f 2 + 65536 * f 3 + 16777216 * f 4))], .int .i64 0])
        rw [← HY.out.1, ← HY.out.2.1, ← HY.out.2.2.1, ← HY.out.2.2.2, ← HXE.out, ← HV.out, HM.out]
      · have HM := hid (show max 4096 v = v by omega)
        have hd : decide (v < 4096) = false := decide_eq_false hv4
        go_upto_region 6 with fail
        have HNZ := HN0
        have HFZ := hid (Fr.refl (fun k => k = gz) Z)
        have HBZ := hid (HFZ.out.blk HBW.out (fun e => by have := HWS.out; rw [HGZ.out] at e; omega))
        go_wp2_with (first
          | (refine wpList_load_row rfl 23 _ rfl gz rfl 23 #[.int .i64 (x % 9), .int .i64 (x / 9 % 5), .int .i64 (x / 45), .int .i64 v] (0, 0) _ (by exact HNZ.out) Try.underlying23 rfl (by kernel_rfl) ?_)
          | (refine wpList_store_row rfl 23 _ _ rfl w.heap.size #[.int .i64 (x % 9), .int .i64 (x / 9 % 5), .int .i64 (x / 45), .int .i64 v] rfl rfl 23 #[.int .i64 0, .int .i64 0, .int .i64 0, .int .i64 0] (by exact HBZ.out) (by kernel_rfl) rfl (by kernel_rfl) ?_))
        refine bodyPost_ret (v := .tuple #[.agg #[.int .i64 (x % 9), .int .i64 (x / 9 % 5), .int .i64 (x / 45), .int .i64 v], .int .i64 0]) (results_cell_tmp_row' rfl _ _ w.heap.size 23 #[.int .i64 (x % 9), .int .i64 (x / 9 % 5), .int .i64 (x / 45), .int .i64 v] (0, 0) _ _ rfl rfl (by exact setRow_heap _ _ _ _ _ _ HBZ.out) Try.underlying23 rfl (by kernel_rfl)) rfl ?_
        refine ⟨?_, setNew_fr (HFW.out.then HFZ.out (fun k hk e => by have := HWS.out; have e' : k = gz := e; rw [HGZ.out] at e'; omega)) (Nat.le_refl _) _⟩
        show _ = Ending.returned (.tuple #[.agg #[.int .i64 (f 0 % 9), .int .i64 (f 0 / 9 % 5), .int .i64 (f 0 / 45), .int .i64 (max 4096 (f 1 + 256 * f 2 + 65536 * f 3 + 16777216 * f 4))], .int .i64 0])
        rw [← HY.out.1, ← HY.out.2.1, ← HY.out.2.2.1, ← HY.out.2.2.2, ← HXE.out, ← HV.out, HM.out]
  · have HE := hid (show R = (⟨0, 0, 0, 0⟩, 11) by rw [HRE.out, if_pos (.inl h5)])
    rw [HE.out]
    have hne : ((n : Int) == 5) = false := by simp; omega
    go_wp2_with fail
    refine bodyPost_ret (v := .tuple #[.agg #[.int .i64 0, .int .i64 0, .int .i64 0, .int .i64 0], .int .i64 11]) (results_cell_tmp_row' rfl _ _ w.heap.size 23 #[.int .i64 0, .int .i64 0, .int .i64 0, .int .i64 0] (0, 0) _ _ rfl rfl (by exact blk_new w _) Try.underlying23 rfl (by kernel_rfl)) rfl ?_
    exact ⟨rfl, (Fr.refl Non w).alloc _⟩
end Go.Proofs.Ytjnegcambbeblaa

/- lzma: Props; the document's; two settings that are equal. -/
namespace Go.Proofs.Ytjnegcambbeblaa
open Go.RowKit

theorem eqLz (a b c d : Int) (w : World) : (Op.equalIn 10000 23 (.agg #[.int .i64 a, .int .i64 b, .int .i64 c, .int .i64 d]) (.agg #[.int .i64 a, .int .i64 b, .int .i64 c, .int .i64 d])).run Try.prog w = .ok true w := by
  have u3 := Try.underlying3
  have a3 := Try.isAgg3
  have z3 := Try.sizeOf3
  rw [show (10000 : Nat) = 9999 + 1 from rfl, Op.equalIn]
  simp only [Sem.run_bind, run_underlying Try.underlying23, Result.andThen_ok]
  go_simp
def lProps (p : Lset) : List Int := if p.may = true then ((p.pb * 5 + p.lp) * 9 + p.lc) :: leB p.dict 4 else []
def PrPost (p : Lset) (w : World) (e : Ending) (w' : World) : Prop := ∃ u, e = .returned u ∧ Fr Non w w' ∧ RowO w' w.heap.size u (lProps p)
set_option maxRecDepth 100000 in
set_option maxHeartbeats 800000 in
theorem props_any (p : Lset) (w : World) : Calls Try.prog 35 #[.agg #[.int .i64 p.lc, .int .i64 p.lp, .int .i64 p.pb, .int .i64 p.dict]] w (PrPost p w) := by
  obtain ⟨R, hR⟩ : ∃ R, R = lProps p := ⟨_, rfl⟩
  unfold PrPost
  rw [← hR]
  have HR := hid hR
  clear hR
  go_enter Try.func35, Try.ntmps35
  go_upto_region 1 with fail
  have k0 := blk_cell (blk_new w (.cells #[.int .i64 p.lc, .int .i64 p.lp, .int .i64 p.pb, .int .i64 p.dict] 23)) (j := 0) (v := .int .i64 p.lc) rfl
  have k1 := blk_cell (blk_new w (.cells #[.int .i64 p.lc, .int .i64 p.lp, .int .i64 p.pb, .int .i64 p.dict] 23)) (j := 1) (v := .int .i64 p.lp) rfl
  have k2 := blk_cell (blk_new w (.cells #[.int .i64 p.lc, .int .i64 p.lp, .int .i64 p.pb, .int .i64 p.dict] 23)) (j := 2) (v := .int .i64 p.pb) rfl
  have k3 := blk_cell (blk_new w (.cells #[.int .i64 p.lc, .int .i64 p.lp, .int .i64 p.pb, .int .i64 p.dict] 23)) (j := 3) (v := .int .i64 p.dict) rfl
  go_wp2_with fail
  refine (show Calls Try.prog 33 #[.agg #[.int .i64 p.lc, .int .i64 p.lp, .int .i64 p.pb, .int .i64 p.dict]] _ _ from lmay_any p _).mono ?_
  rintro e w1 ⟨rfl, hf1⟩
  have F1 := hid (((Fr.refl Non w).alloc _).trans hf1)
  have hb := hf1.blk (blk_new w (.cells #[.int .i64 p.lc, .int .i64 p.lp, .int .i64 p.pb, .int .i64 p.dict] 23)) id
  clear k0 k1 k2 k3 hf1
  have k0 := blk_cell hb (j := 0) (v := .int .i64 p.lc) rfl
  have k1 := blk_cell hb (j := 1) (v := .int .i64 p.lp) rfl
  have k2 := blk_cell hb (j := 2) (v := .int .i64 p.pb) rfl
  have k3 := blk_cell hb (j := 3) (v := .int .i64 p.dict) rfl
  have HB := hid hb
  clear hb
  cases hm : p.may with
  | false =>
    have HE := hid (show R = [] by rw [HR.out]; unfold lProps; rw [if_neg (by rw [hm]; decide)])
    clear hm
    go_wp2_with fail
    go_ret
    rw [HE.out]
    exact ⟨_, rfl, F1.out, (Own.nil _ _ .u8 5).rowO⟩
  | true =>
    have HE := hid (show R = ((p.pb * 5 + p.lp) * 9 + p.lc) :: leB p.dict 4 by rw [HR.out]; unfold lProps; rw [if_pos hm])
    obtain ⟨m1, m2, m3, m4, m5, m6, m7, m8⟩ := Lset.may_iff.1 hm
    clear hm
    obtain ⟨z, hz⟩ : ∃ z, z = (p.pb * 5 + p.lp) * 9 + p.lc := ⟨_, rfl⟩
    have hz0 : 0 ≤ z := by omega
    have hz1 : z < 225 := by omega
    have w1' : IntKind.i64.wrap (p.pb * 5) = p.pb * 5 := by rw [IntKind.wrap_i64]; omega
    have w2' : IntKind.i64.wrap (p.pb * 5 + p.lp) = p.pb * 5 + p.lp := by rw [IntKind.wrap_i64]; omega
    have w3' : IntKind.i64.wrap ((p.pb * 5 + p.lp) * 9) = (p.pb * 5 + p.lp) * 9 := by rw [IntKind.wrap_i64]; omega
    have w4' : IntKind.i64.wrap ((p.pb * 5 + p.lp) * 9 + p.lc) = z := by rw [hz, IntKind.wrap_i64]; omega
    have w5' : IntKind.u8.wrap z = z := by rw [IntKind.wrap_u8]; omega
    have w6' : IntKind.u64.wrap p.dict = p.dict := by rw [wrap_u64q]; omega
    have HZ := hid hz
    have k3' := fun o => blk_cell (blk_alloc (o' := o) HB.out) (j := 3) (v := .int .i64 p.dict) rfl
    go_wp2_with fail
    rw [← hz]
    refine (put4 (some ⟨w1.heap.size, 0, none⟩) 1 z p.dict _ (.inr ⟨_, 0, rfl, by simp, fun i hi => by
      obtain rfl : i = 0 := by omega
      exact cell_new1 _ _ _⟩) (Nat.le_refl _) (fun e => by cases e) (by omega) (by omega)).mono ?_
    rintro e w2 ⟨u, rfl, hf2, hu2⟩
    have F2 := hid (show Fr Non w w2 from (F1.out.alloc _).trans hf2)
    have U2 := hid (hu2.low (b2 := w.heap.size) (by simp; have := F1.out.size; omega))
    clear hf2 hu2
    go_wp2_with fail
    go_ret
    rw [HE.out, ← HZ.out]
    exact ⟨_, rfl, F2.out, U2.out⟩
set_option maxRecDepth 100000 in
set_option maxHeartbeats 800000 in
theorem rprops_any (p : Lset) (w : World) : Calls Try.prog 36 #[.agg #[.int .i64 p.lc, .int .i64 p.lp, .int .i64 p.pb, .int .i64 p.dict]] w (PrPost p w) := by
  obtain ⟨R, hR⟩ : ∃ R, R = lProps p := ⟨_, rfl⟩
  unfold PrPost
  rw [← hR]
  have HR := hid hR
  clear hR
  go_enter Try.func36, Try.ntmps36
  go_upto_region 1 with fail
  have k0 := blk_cell (blk_new w (.cells #[.int .i64 p.lc, .int .i64 p.lp, .int .i64 p.pb, .int .i64 p.dict] 23)) (j := 0) (v := .int .i64 p.lc) rfl
  have k1 := blk_cell (blk_new w (.cells #[.int .i64 p.lc, .int .i64 p.lp, .int .i64 p.pb, .int .i64 p.dict] 23)) (j := 1) (v := .int .i64 p.lp) rfl
  have k2 := blk_cell (blk_new w (.cells #[.int .i64 p.lc, .int .i64 p.lp, .int .i64 p.pb, .int .i64 p.dict] 23)) (j := 2) (v := .int .i64 p.pb) rfl
  have k3 := blk_cell (blk_new w (.cells #[.int .i64 p.lc, .int .i64 p.lp, .int .i64 p.pb, .int .i64 p.dict] 23)) (j := 3) (v := .int .i64 p.dict) rfl
  go_wp2_with fail
  refine (show Calls Try.prog 14 #[.agg #[.int .i64 p.lc, .int .i64 p.lp, .int .i64 p.pb, .int .i64 p.dict]] _ _ from rmay_any p _).mono ?_
  rintro e w1 ⟨rfl, hf1⟩
  have F1 := hid (((Fr.refl Non w).alloc _).trans hf1)
  have hb := hf1.blk (blk_new w (.cells #[.int .i64 p.lc, .int .i64 p.lp, .int .i64 p.pb, .int .i64 p.dict] 23)) id
  clear k0 k1 k2 k3 hf1
  have k0 := blk_cell hb (j := 0) (v := .int .i64 p.lc) rfl
  have k1 := blk_cell hb (j := 1) (v := .int .i64 p.lp) rfl
  have k2 := blk_cell hb (j := 2) (v := .int .i64 p.pb) rfl
  have k3 := blk_cell hb (j := 3) (v := .int .i64 p.dict) rfl
  have HB := hid hb
  clear hb
  cases hm : p.may with
  | false =>
    have HE := hid (show R = [] by rw [HR.out]; unfold lProps; rw [if_neg (by rw [hm]; decide)])
    clear hm
    go_wp2_with fail
    go_ret
    rw [HE.out]
    exact ⟨_, rfl, F1.out, (Own.nil _ _ .u8 5).rowO⟩
  | true =>
    have HE := hid (show R = ((p.pb * 5 + p.lp) * 9 + p.lc) :: leB p.dict 4 by rw [HR.out]; unfold lProps; rw [if_pos hm])
    obtain ⟨m1, m2, m3, m4, m5, m6, m7, m8⟩ := Lset.may_iff.1 hm
    clear hm
    obtain ⟨d, hd⟩ : ∃ d, d = p.dict := ⟨_, rfl⟩
    rw [← hd] at k3 m7 m8
    have hd0 : 0 ≤ d := by omega
    obtain ⟨z, hz⟩ : ∃ z, z = 45 * p.pb + 9 * p.lp + p.lc := ⟨_, rfl⟩
    have hz0 : 0 ≤ z := by omega
    have hz1 : z < 225 := by omega
    have w1' : IntKind.i64.wrap (45 * p.pb) = 45 * p.pb := by rw [IntKind.wrap_i64]; omega
    have w2' : IntKind.i64.wrap (9 * p.lp) = 9 * p.lp := by rw [IntKind.wrap_i64]; omega
    have w3' : IntKind.i64.wrap (45 * p.pb + 9 * p.lp) = 45 * p.pb + 9 * p.lp := by rw [IntKind.wrap_i64]; omega
    have w4' : IntKind.i64.wrap (45 * p.pb + 9 * p.lp + p.lc) = z := by rw [hz, IntKind.wrap_i64]; omega
    have w5' : IntKind.u8.wrap z = z := by rw [IntKind.wrap_u8]; omega
    have HZ := hid (show z = (p.pb * 5 + p.lp) * 9 + p.lc by rw [hz]; omega)
    have HD := hid hd
    clear hd
    go_wp2_with fail
    go_ret
    rw [HE.out, ← HZ.out, ← HD.out, ← hz]
    have hB : z :: leB d 4 = [z, d % 256, d / 256 % 256, d / 65536 % 256, d / 16777216] := by
      show [z, d / 256 ^ 0 % 256, d / 256 ^ 1 % 256, d / 256 ^ 2 % 256, d / 256 ^ 3 % 256] = _
      rw [show (256 : Int) ^ 0 = 1 from rfl, show (256 : Int) ^ 1 = 256 from rfl, show (256 : Int) ^ 2 = 65536 from rfl, show (256 : Int) ^ 3 = 16777216 from rfl, Int.ediv_one, show d / 16777216 % 256 = d / 16777216 by omega]
    rw [hB]
    refine ⟨_, rfl, F1.out.alloc _, ⟨some ⟨w1.heap.size, 0, none⟩, 5, rfl, Nat.le_refl _, (fun e => by cases e), .inr ⟨w1.heap.size, 0, rfl, by simp, fun i hi => blk_cell (blk_new _ _) ?_⟩, fun ad e => ?_⟩⟩
    · rw [Nat.zero_add]
      match i, hi with
      | 0, _ => rfl
      | 1, _ => rfl
      | 2, _ => rfl
      | 3, _ => rfl
      | 4, _ => rfl
    · injection e with e
      subst e
      exact F1.out.size
end Go.Proofs.Ytjnegcambbeblaa

/- LzmaProps' walk. -/
namespace Go.Proofs.Ytjnegcambbeblaa
open Go.RowKit

/-- a setting's properties are read as it was. -/
theorem pParse_props {p : Lset} (h : p.may = true) : pParse (fun i => (lProps p).getD i 0) 5 = (p, 0) := by
  obtain ⟨m1, m2, m3, m4, m5, m6, m7, m8⟩ := Lset.may_iff.1 h
  have hl : lProps p = [(p.pb * 5 + p.lp) * 9 + p.lc, p.dict / 256 ^ 0 % 256, p.dict / 256 ^ 1 % 256, p.dict / 256 ^ 2 % 256, p.dict / 256 ^ 3 % 256] := by
    unfold lProps; rw [if_pos h]; rfl
  rw [show (256 : Int) ^ 0 = 1 from rfl, show (256 : Int) ^ 1 = 256 from rfl, show (256 : Int) ^ 2 = 65536 from rfl, show (256 : Int) ^ 3 = 16777216 from rfl, Int.ediv_one] at hl
  unfold pParse
  rw [hl, if_neg (by
    intro e
    rcases e with e | e
    · exact e rfl
    · have e' : 225 ≤ (p.pb * 5 + p.lp) * 9 + p.lc := e
      omega)]
  obtain ⟨a, b, c, d⟩ := p
  dsimp only at m1 m2 m3 m4 m5 m6 m7 m8
  have e1 : ((c * 5 + b) * 9 + a) % 9 = a := by omega
  have e2 : ((c * 5 + b) * 9 + a) / 9 % 5 = b := by omega
  have e3 : ((c * 5 + b) * 9 + a) / 45 = c := by omega
  have e4 : max 4096 (d % 256 + 256 * (d / 256 % 256) + 65536 * (d / 65536 % 256) + 16777216 * (d / 16777216 % 256)) = d := by omega
  show ((⟨((c * 5 + b) * 9 + a) % 9, ((c * 5 + b) * 9 + a) / 9 % 5, ((c * 5 + b) * 9 + a) / 45, max 4096 (d % 256 + 256 * (d / 256 % 256) + 65536 * (d / 65536 % 256) + 16777216 * (d / 16777216 % 256))⟩ : Lset), (0 : Int)) = _
  rw [e1, e2, e3, e4]
theorem lProps_by {p : Lset} : ∀ i, i < (lProps p).length → 0 ≤ (lProps p).getD i 0 ∧ (lProps p).getD i 0 < 256 := by
  intro i hi
  unfold lProps at hi ⊢
  by_cases h : p.may = true
  · rw [if_pos h] at hi ⊢
    obtain ⟨m1, m2, m3, m4, m5, m6, m7, m8⟩ := Lset.may_iff.1 h
    match i with
    | 0 => show 0 ≤ (p.pb * 5 + p.lp) * 9 + p.lc ∧ (p.pb * 5 + p.lp) * 9 + p.lc < 256; omega
    | i + 1 =>
      have hi4 : i < 4 := by simp [leB] at hi; omega
      have e : (((p.pb * 5 + p.lp) * 9 + p.lc) :: leB p.dict 4).getD (i + 1) 0 = p.dict / 256 ^ i % 256 := by simp [leB, List.getD, hi4]
      rw [e]
      omega
  · rw [if_neg h] at hi; simp at hi
theorem lProps_len (p : Lset) : (lProps p).length ≤ 5 := by
  unfold lProps
  split
  · simp [leB]
  · simp
set_option maxRecDepth 100000 in
set_option maxHeartbeats 800000 in
theorem lzmaProps_walk (a : Option Addr) (n cap : Nat) (f : Nat → Int) (p : Lset) (w : World) (hnc : n ≤ cap) (hcm : cap ≤ maxLen) (hnil : a = none → cap = 0) (hr : RowIn w.heap.size .u8 w a n f) (hf : ∀ i, i < n → 0 ≤ f i ∧ f i < 256) :
    Calls Try.prog 7 #[.slice a n cap, p.val] w fun e w' => e = .returned (.bool true) ∧ Fr Non w w' := by
  have HV := hid (show p.val = .agg #[.int .i64 p.lc, .int .i64 p.lp, .int .i64 p.pb, .int .i64 p.dict] from rfl)
  rw [HV.out]
  have HR := hid hr
  have Hf := hid hf
  have HNIL := hid hnil
  have HNC := hid hnc
  have hn63 : (n : Int) ≤ 9223372036854775807 := by unfold maxLen at hcm; omega
  clear hr hf hnil hnc hcm
  go_enter Try.func7, Try.ntmps7
  go_wp2_with fail
  refine (awake08_any _).mono ?_
  rintro e w1 ⟨rfl, hf1⟩
  have hb1 := hf1.blk (blk_new w (.cells #[.int .i64 p.lc, .int .i64 p.lp, .int .i64 p.pb, .int .i64 p.dict] 23)) id
  have F1 := hid (((Fr.refl Non w).alloc _).trans hf1)
  have HB1 := hid hb1
  clear hf1 hb1
  by_cases hlong : 1000 < n
  · have hl : (1000 : Int) < (n : Int) := by omega
    clear hlong
    go_wp2_with fail
    go_ret
    exact ⟨rfl, F1.out⟩
  have hl : ¬ (1000 : Int) < (n : Int) := by omega
  have HN := hid (show n ≤ 1000 by omega)
  clear hlong
  go_wp2_with fail
  refine (parse_any a n cap f w1 (by have := HN.out; omega) HNC.out HNIL.out ((HR.out.fr F1.out (fun _ _ e => e)).mono F1.out.size) Hf.out).mono ?_
  rintro e w2 ⟨rfl, hf2⟩
  obtain ⟨q, qc⟩ : ∃ q, q = pParse f n := ⟨_, rfl⟩
  rw [← qc]
  have QC := hid qc
  obtain ⟨⟨x0, x1, x2, x3⟩, ec⟩ := q
  dsimp only
  have F2 := hid (F1.out.trans hf2)
  have HB2 := hid (hf2.blk HB1.out id)
  clear hf2 qc
  rw [show (Lset.val ⟨x0, x1, x2, x3⟩) = .agg #[.int .i64 x0, .int .i64 x1, .int .i64 x2, .int .i64 x3] from rfl]
  go_wp2_with fail
  refine (rparse_any a n cap f _ (by have := HN.out; omega) (by exact (HR.out.fr (F2.out.alloc _) (fun _ _ e => e)).mono (Fr.size (F2.out.alloc _))) Hf.out).mono ?_
  rintro e w3 ⟨rfl, hf3⟩
  rw [← QC.out]
  dsimp only
  rw [show (Lset.val ⟨x0, x1, x2, x3⟩) = .agg #[.int .i64 x0, .int .i64 x1, .int .i64 x2, .int .i64 x3] from rfl]
  obtain ⟨gx, hgx⟩ : ∃ g, g = w2.heap.size := ⟨_, rfl⟩
  obtain ⟨gy, hgy⟩ : ∃ g, g = w3.heap.size := ⟨_, rfl⟩
  have hbx := hf3.blk (blk_new w2 _) id
  rw [← hgx] at hbx
  have F3 := hid ((F2.out.alloc _).trans hf3)
  have HBX := hid hbx
  have HB3 := hid (hf3.blk (blk_alloc HB2.out) id)
  clear hbx hf3
  rw [← hgx]
  go_upto_region 7 with fail
  obtain ⟨X, hX⟩ : ∃ X, X = w3.alloc (.cells #[.int .i64 x0, .int .i64 x1, .int .i64 x2, .int .i64 x3] 23) := ⟨_, rfl⟩
  have hby := blk_new w3 (.cells #[.int .i64 x0, .int .i64 x1, .int .i64 x2, .int .i64 x3] 23)
  have hbx := blk_alloc (o' := .cells #[.int .i64 x0, .int .i64 x1, .int .i64 x2, .int .i64 x3] 23) HBX.out
  have hb := blk_alloc (o' := .cells #[.int .i64 x0, .int .i64 x1, .int .i64 x2, .int .i64 x3] 23) HB3.out
  have FX := hid (show Fr Non w X by rw [hX]; exact F3.out.alloc _)
  rw [← hX, ← hgy] at hby
  rw [← hX] at hbx hb
  rw [← hX, ← hgy]
  have HB4 := hid hb
  have k0 := blk_cell hb (j := 0) (v := .int .i64 p.lc) rfl
  have a0 := blk_cell hbx (j := 0) (v := .int .i64 x0) rfl
  have b0 := blk_cell hby (j := 0) (v := .int .i64 x0) rfl
  have k1 := blk_cell hb (j := 1) (v := .int .i64 p.lp) rfl
  have a1 := blk_cell hbx (j := 1) (v := .int .i64 x1) rfl
  have b1 := blk_cell hby (j := 1) (v := .int .i64 x1) rfl
  have k2 := blk_cell hb (j := 2) (v := .int .i64 p.pb) rfl
  have a2 := blk_cell hbx (j := 2) (v := .int .i64 x2) rfl
  have b2 := blk_cell hby (j := 2) (v := .int .i64 x2) rfl
  have k3 := blk_cell hb (j := 3) (v := .int .i64 p.dict) rfl
  have a3 := blk_cell hbx (j := 3) (v := .int .i64 x3) rfl
  have b3 := blk_cell hby (j := 3) (v := .int .i64 x3) rfl
  have hq := eqLz x0 x1 x2 x3
  clear hX hgx hgy hb hbx hby
  go_cut [55] (fun v wx => v = .bool false ∧ Fr Non X wx)
  case first =>
    go_region_held3 (fun wx => wx.cell? ⟨w.heap.size, 0, none⟩ = some (.int .i64 p.lc) ∧ wx.cell? ⟨w.heap.size, 1, none⟩ = some (.int .i64 p.lp) ∧ wx.cell? ⟨w.heap.size, 2, none⟩ = some (.int .i64 p.pb) ∧ wx.cell? ⟨w.heap.size, 3, none⟩ = some (.int .i64 p.dict) ∧ wx.cell? ⟨gx, 0, none⟩ = some (.int .i64 x0) ∧ wx.cell? ⟨gx, 1, none⟩ = some (.int .i64 x1) ∧ wx.cell? ⟨gx, 2, none⟩ = some (.int .i64 x2) ∧ wx.cell? ⟨gx, 3, none⟩ = some (.int .i64 x3) ∧ wx.cell? ⟨gy, 0, none⟩ = some (.int .i64 x0) ∧ wx.cell? ⟨gy, 1, none⟩ = some (.int .i64 x1) ∧ wx.cell? ⟨gy, 2, none⟩ = some (.int .i64 x2) ∧ wx.cell? ⟨gy, 3, none⟩ = some (.int .i64 x3)) (exact ⟨Fr.cell (S := Non) (w := X) (by repeat (first | exact Fr.refl _ _ | refine Fr.drew ?_ | refine Fr.alloc ?_ _ | refine Fr.trans ?_ (by assumption))) k0 id, Fr.cell (S := Non) (w := X) (by repeat (first | exact Fr.refl _ _ | refine Fr.drew ?_ | refine Fr.alloc ?_ _ | refine Fr.trans ?_ (by assumption))) k1 id, Fr.cell (S := Non) (w := X) (by repeat (first | exact Fr.refl _ _ | refine Fr.drew ?_ | refine Fr.alloc ?_ _ | refine Fr.trans ?_ (by assumption))) k2 id, Fr.cell (S := Non) (w := X) (by repeat (first | exact Fr.refl _ _ | refine Fr.drew ?_ | refine Fr.alloc ?_ _ | refine Fr.trans ?_ (by assumption))) k3 id, Fr.cell (S := Non) (w := X) (by repeat (first | exact Fr.refl _ _ | refine Fr.drew ?_ | refine Fr.alloc ?_ _ | refine Fr.trans ?_ (by assumption))) a0 id, Fr.cell (S := Non) (w := X) (by repeat (first | exact Fr.refl _ _ | refine Fr.drew ?_ | refine Fr.alloc ?_ _ | refine Fr.trans ?_ (by assumption))) a1 id, Fr.cell (S := Non) (w := X) (by repeat (first | exact Fr.refl _ _ | refine Fr.drew ?_ | refine Fr.alloc ?_ _ | refine Fr.trans ?_ (by assumption))) a2 id, Fr.cell (S := Non) (w := X) (by repeat (first | exact Fr.refl _ _ | refine Fr.drew ?_ | refine Fr.alloc ?_ _ | refine Fr.trans ?_ (by assumption))) a3 id, Fr.cell (S := Non) (w := X) (by repeat (first | exact Fr.refl _ _ | refine Fr.drew ?_ | refine Fr.alloc ?_ _ | refine Fr.trans ?_ (by assumption))) b0 id, Fr.cell (S := Non) (w := X) (by repeat (first | exact Fr.refl _ _ | refine Fr.drew ?_ | refine Fr.alloc ?_ _ | refine Fr.trans ?_ (by assumption))) b1 id, Fr.cell (S := Non) (w := X) (by repeat (first | exact Fr.refl _ _ | refine Fr.drew ?_ | refine Fr.alloc ?_ _ | refine Fr.trans ?_ (by assumption))) b2 id, Fr.cell (S := Non) (w := X) (by repeat (first | exact Fr.refl _ _ | refine Fr.drew ?_ | refine Fr.alloc ?_ _ | refine Fr.trans ?_ (by assumption))) b3 id⟩) (first
      | (go_at_call 33; refine (show Calls Try.prog 33 #[.agg #[.int .i64 p.lc, .int .i64 p.lp, .int .i64 p.pb, .int .i64 p.dict]] _ _ from lmay_any p _).mono ?_; rintro e wa ⟨rfl, hfa⟩)
      | (go_at_call 14; refine (show Calls Try.prog 14 #[.agg #[.int .i64 p.lc, .int .i64 p.lp, .int .i64 p.pb, .int .i64 p.dict]] _ _ from rmay_any p _).mono ?_; rintro e wb ⟨rfl, hfb⟩)
      | (go_at_call 34; refine (show Calls Try.prog 34 #[.agg #[.int .i64 p.lc, .int .i64 p.lp, .int .i64 p.pb, .int .i64 p.dict]] _ _ from lprobs_any p _).mono ?_; rintro e wc ⟨rfl, hfc⟩)
      | (go_at_call 27; refine (show Calls Try.prog 27 #[.agg #[.int .i64 p.lc, .int .i64 p.lp, .int .i64 p.pb, .int .i64 p.dict]] _ _ from rprobs_any p _).mono ?_; rintro e wd ⟨rfl, hfd⟩)
      | (go_at_call 35; refine (props_any p _).mono ?_; rintro e we ⟨u1, rfl, hfe, hu1⟩; obtain ⟨r1, c1, rfl, hu12, hu13, hu14, hu15⟩ := hu1)
      | (go_at_call 36; refine (rprops_any p _).mono ?_; rintro e wg ⟨u2, rfl, hfg, hu2⟩; obtain ⟨r2, c2, rfl, hu22, hu23, hu24, hu25⟩ := hu2)
      | (go_at_call 19; refine (bytes_yes r1 r2 (lProps p).length c1 c2 (fun i => (lProps p).getD i 0) (fun i => (lProps p).getD i 0) _ (by have := lProps_len p; omega) (max we.heap.size wg.heap.size) ((hu14.fr (S := Non) (w := we) (by repeat (first | exact Fr.refl _ _ | refine Fr.drew ?_ | refine Fr.alloc ?_ _ | refine Fr.trans ?_ (by assumption))) (fun _ _ e => e)).mono (Nat.le_max_left _ _)) ((hu24.fr (S := Non) (w := wg) (by repeat (first | exact Fr.refl _ _ | refine Fr.drew ?_ | refine Fr.alloc ?_ _ | refine Fr.trans ?_ (by assumption))) (fun _ _ e => e)).mono (Nat.le_max_right _ _)) (fun _ _ => rfl)).mono ?_; rintro e wh ⟨rfl, hfh⟩))
    all_goals
      have HXW := hid (show Fr Non X wh from (by repeat (first | exact Fr.refl _ _ | refine Fr.drew ?_ | refine Fr.alloc ?_ _ | refine Fr.trans ?_ (by assumption))))
      clear hfa hfb hfc hfd hfe hfg hfh hu12 hu13 hu14 hu15 hu22 hu23 hu24 hu25 k0 k1 k2 k3 a0 a1 a2 a3 b0 b1 b2 b3
      go_wp2_with fail
      go_meet
      exact ⟨rfl, HXW.out⟩
  case rest =>
    obtain ⟨rfl, hfx⟩ := hcut
    obtain ⟨Y, hY⟩ : ∃ Y, Y = wc := ⟨_, rfl⟩
    rw [← hY] at hfx ⊢
    have FY := hid (FX.out.trans hfx)
    have hb := hfx.blk HB4.out id
    have HBY := hid hb
    clear hfx hY k0 k1 k2 k3 a0 a1 a2 a3 b0 b1 b2 b3
    have k0 := blk_cell hb (j := 0) (v := .int .i64 p.lc) rfl
    have k1 := blk_cell hb (j := 1) (v := .int .i64 p.lp) rfl
    have k2 := blk_cell hb (j := 2) (v := .int .i64 p.pb) rfl
    have k3 := blk_cell hb (j := 3) (v := .int .i64 p.dict) rfl
    clear hb
    go_wp2_with fail
    refine (show Calls Try.prog 14 #[.agg #[.int .i64 p.lc, .int .i64 p.lp, .int .i64 p.pb, .int .i64 p.dict]] _ _ from rmay_any p _).mono ?_
    rintro e w8 ⟨rfl, hf8⟩
    have F8 := hid (FY.out.trans hf8)
    have hb := hf8.blk HBY.out id
    have HB8 := hid hb
    clear hf8 k0 k1 k2 k3
    have k0 := blk_cell hb (j := 0) (v := .int .i64 p.lc) rfl
    have k1 := blk_cell hb (j := 1) (v := .int .i64 p.lp) rfl
    have k2 := blk_cell hb (j := 2) (v := .int .i64 p.pb) rfl
    have k3 := blk_cell hb (j := 3) (v := .int .i64 p.dict) rfl
    clear hb
    cases hm : p.may with
    | false =>
      clear hm
      go_wp2_with fail
      go_ret
      exact ⟨rfl, F8.out⟩
    | true =>
      have HM := hid hm
      clear hm
      go_wp2_with fail
      refine (props_any p w8).mono ?_
      rintro e w9 ⟨u, rfl, hf9, hu9⟩
      obtain ⟨r1, c1, rfl, h2, h3, h4, h5⟩ := hu9
      have F9 := hid (F8.out.trans hf9)
      have HB9 := hid (hf9.blk HB8.out id)
      have hl5 : (lProps p).length = 5 := by unfold lProps; rw [if_pos HM.out]; simp [leB]
      rw [hl5] at h2 h4 ⊢
      have H4 := hid h4
      have H3 := hid h3
      clear hf9 h4 h5 k0 k1 k2 k3 h3
      go_wp2_with fail
      refine (parse_any r1 5 c1 (fun i => (lProps p).getD i 0) w9 (by decide) h2 H3.out H4.out (fun i hi => lProps_by i (by rw [hl5]; exact hi))).mono ?_
      rintro e w10 ⟨rfl, hf10⟩
      rw [pParse_props HM.out]
      dsimp only
      rw [HV.out]
      have F10 := hid (F9.out.trans hf10)
      have hb := hf10.blk HB9.out id
      have k0 := blk_cell (blk_alloc (o' := .cells #[.int .i64 p.lc, .int .i64 p.lp, .int .i64 p.pb, .int .i64 p.dict] 23) hb) (j := 0) (v := .int .i64 p.lc) rfl
      have k1 := blk_cell (blk_alloc (o' := .cells #[.int .i64 p.lc, .int .i64 p.lp, .int .i64 p.pb, .int .i64 p.dict] 23) hb) (j := 1) (v := .int .i64 p.lp) rfl
      have k2 := blk_cell (blk_alloc (o' := .cells #[.int .i64 p.lc, .int .i64 p.lp, .int .i64 p.pb, .int .i64 p.dict] 23) hb) (j := 2) (v := .int .i64 p.pb) rfl
      have k3 := blk_cell (blk_alloc (o' := .cells #[.int .i64 p.lc, .int .i64 p.lp, .int .i64 p.pb, .int .i64 p.dict] 23) hb) (j := 3) (v := .int .i64 p.dict) rfl
      have b0 := blk_cell (blk_new w10 (.cells #[.int .i64 p.lc, .int .i64 p.lp, .int .i64 p.pb, .int .i64 p.dict] 23)) (j := 0) (v := .int .i64 p.lc) rfl
      have b1 := blk_cell (blk_new w10 (.cells #[.int .i64 p.lc, .int .i64 p.lp, .int .i64 p.pb, .int .i64 p.dict] 23)) (j := 1) (v := .int .i64 p.lp) rfl
      have b2 := blk_cell (blk_new w10 (.cells #[.int .i64 p.lc, .int .i64 p.lp, .int .i64 p.pb, .int .i64 p.dict] 23)) (j := 2) (v := .int .i64 p.pb) rfl
      have b3 := blk_cell (blk_new w10 (.cells #[.int .i64 p.lc, .int .i64 p.lp, .int .i64 p.pb, .int .i64 p.dict] 23)) (j := 3) (v := .int .i64 p.dict) rfl
      have hq2 := eqLz p.lc p.lp p.pb p.dict
      clear hf10 hb
      go_wp2_with fail
      go_ret
      exact ⟨rfl, F10.out.alloc _⟩
end Go.Proofs.Ytjnegcambbeblaa
