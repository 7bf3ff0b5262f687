/- Texts of this proof, one behind the other. -/
import Derived.Test.YtjnegcambbeblaaMg01
import Derived.Test.YtjnegcambbeblaaMg08
import Derived.Test.YtjnegcambbeblaaRows
import Derived.WalkSpells
import Derived.WalkLawsBesides
import Derived.BigQuiet
import Derived.Deep.QuietTactic
import Derived.BigRegion
import Derived.Outline
import Derived.Laws.CopyRow
import Derived.Laws.ResultCell
import Derived.Laws.Rows
import Derived.StillTailTactics

/- src: a cursor over four bytes: New, Num(4); Put of four bytes. -/
namespace Go.Proofs.Ytjnegcambbeblaa
open Go.RowKit

def CurAt (w : World) (g : Nat) (a : Option Addr) (n c : Nat) (at_ : Int) : Prop := w.heap[g]? = some (.cells #[.slice a n c, .int .i64 at_, .int .i64 0] 171)
def CurNewPost (w : World) (n : Nat) (f : Nat → Int) (e : Ending) (w' : World) : Prop :=
  ∃ g a' c', e = .returned (.pointer (some ⟨g, 0, none⟩)) ∧ Fr Non w w' ∧ CurAt w' g a' n c' 0 ∧ RowIn g .u8 w' a' n f ∧ n ≤ c' ∧ c' ≤ maxLen ∧ w.heap.size ≤ g ∧ g < w'.heap.size
set_option maxRecDepth 100000 in
theorem curNew_any (a : Option Addr) (n c : Nat) (f : Nat → Int) (w : World) (hn : n ≤ 1048576) (hnc : n ≤ c) (hnil : a = none → c = 0) (h : RowIn w.heap.size .u8 w a n f) :
    Calls Try.prog 69 #[.slice a n c] w (CurNewPost w n f) := by
  have H := hid h
  have Hnil := hid hnil
  clear h hnil
  go_enter Try.func69, Try.ntmps69
  go_wp2_with fail
  refine (clone_any a n c f _ hn hnc Hnil.out H.out).mono ?_
  rintro e w1 ⟨a', c', rfl, hf1, hr1, hn1, hc1, hb1⟩
  have HF := hid hf1
  have HR := hid hr1
  clear hf1 hr1 hb1
  go_wp2
  go_ret
  exact ⟨w1.heap.size, a', c', rfl, HF.out.alloc _, blk_new _ _, HR.out.fr ((Fr.refl Non _).alloc _) (fun _ _ => id), hn1, hc1, HF.out.size, by simp⟩
theorem sized4 (w : World) : Calls Try.prog 99 #[.int .i64 4] w fun e w' => e = .returned (.bool true) ∧ w = w' := by
  go_enter Try.func99, Try.ntmps99
  go_wp2
  go_ret
  exact ⟨rfl, rfl⟩
theorem curLeft_any (w : World) (g : Nat) (a : Option Addr) (n c : Nat) (hn : n ≤ 1048576) (h : CurAt w g a n c 0) : Calls Try.prog 120 #[.pointer (some ⟨g, 0, none⟩)] w fun e w' => e = .returned (.int .i64 n) ∧ Fr Non w w' := by
  have c0 := blk_cell h (j := 0) (v := .slice a n c) rfl
  have c1 := blk_cell h (j := 1) (v := .int .i64 0) rfl
  have hw : IntKind.i64.wrap (n : Int) = (n : Int) := by rw [IntKind.wrap_i64]; omega
  clear h
  go_enter Try.func120, Try.ntmps120
  go_upto_region 1 with fail
  go_quiet (fail)
  go_wp2
  go_ret
  refine ⟨?_, (Fr.refl Non _).drewN _⟩
  first
    | rfl
    | (congr 2; omega)
/-- the number of k bytes, the least first. -/
def leN (f : Nat → Int) : Nat → Int
  | 0 => 0
  | k + 1 => leN f k + f k * 256 ^ k
theorem leN_bd {f : Nat → Int} : ∀ k, (∀ i, i < k → 0 ≤ f i ∧ f i < 256) → 0 ≤ leN f k ∧ leN f k < 256 ^ k
  | 0, _ => ⟨Int.le_refl _, by show (0 : Int) < 1; decide⟩
  | k + 1, h => by
    obtain ⟨h1, h2⟩ := leN_bd k (fun i hi => h i (by omega))
    obtain ⟨h3, h4⟩ := h k (by omega)
    have hp : (0 : Int) < 256 ^ k := Int.pow_pos (by decide)
    show 0 ≤ leN f k + f k * 256 ^ k ∧ leN f k + f k * 256 ^ k < 256 ^ (k + 1)
    rw [Int.pow_succ]
    generalize (256 : Int) ^ k = X at *
    have h5 : 0 ≤ f k * X := Int.mul_nonneg h3 (by omega)
    have h6 : f k * X ≤ 255 * X := Int.mul_le_mul_of_nonneg_right (by omega) (by omega)
    omega
theorem u64_low (a x : Int) (k : Nat) (h0 : 0 ≤ x) (h1 : x < 2 ^ k) (ha : 0 ≤ a) (hk : k ≤ 56) (ha2 : a < 256) : bits .or .u64 x (a * 2 ^ k) = x + a * 2 ^ k := by
  obtain ⟨m, rfl⟩ := Int.eq_ofNat_of_zero_le ha
  obtain ⟨y, rfl⟩ := Int.eq_ofNat_of_zero_le h0
  have hp : 2 ^ k ≤ 2 ^ 56 := Nat.pow_le_pow_right (by decide) hk
  have e1 : (m : Int) * 2 ^ k = ((m * 2 ^ k : Nat) : Int) := by push_cast; rfl
  have h1' : y < 2 ^ k := by
    have e : ((2 : Int) ^ k) = ((2 ^ k : Nat) : Int) := by push_cast; rfl
    rw [e] at h1
    exact Int.ofNat_lt.1 h1
  have hm : m * 2 ^ k ≤ 255 * 2 ^ 56 := Nat.mul_le_mul (by omega) hp
  rw [e1, u64_or_nat y (m * 2 ^ k) (by omega) (by omega), Nat.or_comm, nat_or_low m y k h1']
  push_cast
  omega
theorem wrap_u64q (n : Int) : IntKind.u64.wrap n = n % 18446744073709551616 := by simp [IntKind.wrap, IntKind.bits, IntKind.signed]
def TakePost (w : World) (g : Nat) (f : Nat → Int) (e : Ending) (w' : World) : Prop :=
  ∃ a' c', e = .returned (.slice a' 4 c') ∧ Fr (fun k => k = g) w w' ∧ RowIn w'.heap.size .u8 w' a' 4 f
set_option maxRecDepth 100000 in
set_option maxHeartbeats 800000 in
theorem take4 (w : World) (g : Nat) (a : Option Addr) (c : Nat) (f : Nat → Int) (h : CurAt w g a 4 c 0) (hc : 4 ≤ c) (hcm : c ≤ maxLen) (hr : RowIn g .u8 w a 4 f) :
    Calls Try.prog 102 #[.pointer (some ⟨g, 0, none⟩), .int .u64 4] w (TakePost w g f) := by
  obtain ⟨b, off, rfl, hB, hx⟩ := hr.at (show 0 < 4 by decide)
  have HA := hid h
  have HR := hid hr
  unfold maxLen at hcm
  have c2 := blk_cell h (j := 2) (v := .int .i64 0) rfl
  clear h hr hx
  go_enter Try.func102, Try.ntmps102
  go_wp2_with fail
  refine (curLeft_any w g _ 4 c (by decide) HA.out).mono ?_
  rintro e w1 ⟨rfl, hf1⟩
  have h1 := hf1.blk HA.out id
  have c0 := blk_cell h1 (j := 0) (v := .slice (some ⟨b, off, none⟩) 4 c) rfl
  have c1 := blk_cell h1 (j := 1) (v := .int .i64 0) rfl
  have c2 := blk_cell h1 (j := 2) (v := .int .i64 0) rfl
  have z1 := blk_frozen h1 1
  have H1 := hid h1
  have HR1 := hid (HR.out.fr hf1 (fun _ _ e => e))
  have F1 := hid hf1
  clear h1 hf1
  have hc9 : (4 : Int) ≤ (c : Int) := by omega
  have hc8 : ¬ c = 0 := by omega
  have hw4 : IntKind.i64.wrap 4 = 4 := by decide
  have hc7 : ¬ (c : Int) = 0 := by omega
  go_upto_region 4 with fail
  go_cut [5] (fun v wx => ∃ a' c', v = .slice a' 4 c' ∧ Fr Non w1 wx ∧ RowIn wx.heap.size .u8 wx a' 4 f ∧ ∀ ad, a' = some ad → g < ad.block)
  case first =>
    have hcl := hid (fun W (hW : Fr Non w1 W) => clone_any (some ⟨b, off, none⟩) 4 c f W (by decide) hc (fun e => by cases e) ((HR1.out.fr hW (fun _ _ e => e)).mono (Nat.le_of_lt (Nat.lt_of_lt_of_le (blk_lt H1.out) hW.size))))
    go_region_with (first | (go_at_call 59; refine (hcl.out _ (by repeat (first | exact Fr.refl _ _ | refine Fr.drewN ?_ _ | refine Fr.drew ?_))).mono ?_; rintro e wm ⟨a', c', rfl, hfm, hrm, _, _, hbm⟩; have HFM := hid hfm; have HRM := hid hrm; have HBM := hid (show ∀ ad, a' = some ad → g < ad.block from fun ad e => Nat.lt_of_lt_of_le (Nat.lt_of_lt_of_le (blk_lt H1.out) (Fr.size (S := Non) (by repeat (first | exact Fr.refl _ _ | refine Fr.drewN ?_ _ | refine Fr.drew ?_)))) (hbm ad e).1); clear hfm hrm hbm) | fail)
    all_goals
      go_wp2_with fail
      go_meet
      exact ⟨a', c', rfl, Fr.trans (by repeat (first | exact Fr.refl _ _ | refine Fr.drewN ?_ _ | refine Fr.drew ?_)) HFM.out, HRM.out, HBM.out⟩
  case rest =>
    obtain ⟨a', c', rfl, hf2, hr2, hb2⟩ := hcut
    obtain ⟨w2, hw2⟩ : ∃ w2, w2 = wc := ⟨_, rfl⟩
    rw [← hw2] at hf2 hr2 ⊢
    have h2 := hf2.blk H1.out id
    clear hw2 c0 c1 c2 z1
    have c1 := blk_cell h2 (j := 1) (v := .int .i64 0) rfl
    have z1 := blk_frozen h2 1
    have F2 := hid (F1.out.trans hf2)
    have R2 := hid hr2
    have B2 := hid hb2
    clear hf2 hr2 h2 hb2
    go_wp2_with fail
    go_ret
    have hf3 : Fr (fun k => k = g) w2 (w2.setCell ⟨g, 1, none⟩ (.int .i64 4)) := (Fr.refl _ _).setOne _ _
    refine ⟨a', c', rfl, F2.out.any.trans hf3, ?_⟩
    rcases R2.out with h | ⟨b, off, e, hb, hc⟩
    · cases h
    · exact .inr ⟨b, off, e, by simpa using hb, fun i hi => hf3.cell (hc i hi) (fun e1 => by have e2 : b = g := e1; have h9 : g < b := B2.out _ e; omega)⟩
set_option maxRecDepth 100000 in
set_option maxHeartbeats 800000 in
theorem least4 (a : Option Addr) (c B : Nat) (f : Nat → Int) (w : World) (hr : RowIn B .u8 w a 4 f) (hf : ∀ i, i < 4 → 0 ≤ f i ∧ f i < 256) :
    Calls Try.prog 101 #[.slice a 4 c] w fun e w' => e = .returned (.int .u64 (leN f 4)) ∧ w = w' := by
  have HR := hid hr
  have HF := hid hf
  clear hr hf
  go_enter Try.func101, Try.ntmps101
  go_wp2_with fail
  go_loopw [3, 8] (fun v i wr => ∃ k : Nat, k ≤ 4 ∧ i = .int .i64 k ∧ v = .int .u64 (leN f k) ∧ wr = w) (fun v i _ => 4 - (intOf i).toNat)
  case atStart => exact ⟨0, by decide, rfl, rfl, rfl⟩
  case round =>
    obtain ⟨k, hk, rfl, rfl, rfl⟩ := hrel
    by_cases hlt : k < 4
    · obtain ⟨b, off, rfl, hB, hx⟩ := HR.out.at hlt
      obtain ⟨hv0, hv1⟩ := leN_bd k (fun i hi => HF.out i (by omega))
      obtain ⟨hx0, hx1⟩ := HF.out k hlt
      have h0 : (0 : Int) ≤ (k : Int) := by omega
      have h1 : (k : Int) < 4 := by omega
      have HU := hid (u64_low (f k) (leN f k) (8 * k) hv0 (by rw [Int.pow_mul]; exact hv1) hx0 (by omega) hx1)
      have HV := hid (And.intro hv0 hv1)
      clear hv0 hv1
      obtain ⟨y, hy⟩ : ∃ y, y = leN f k := ⟨_, rfl⟩
      rw [← hy] at HU ⊢
      have HY := hid hy
      clear hy
      go_wp2_with fail
      have hw : IntKind.u64.wrap (f k * 2 ^ (8 * k)) = f k * 2 ^ (8 * k) := by
        rw [wrap_u64q]
        have hp : (2 : Int) ^ (8 * k) ≤ 2 ^ 24 := by
          have : 2 ^ (8 * k) ≤ 2 ^ 24 := Nat.pow_le_pow_right (by decide) (by omega)
          exact_mod_cast this
        have hp0 : (0 : Int) ≤ 2 ^ (8 * k) := Int.le_of_lt (Int.pow_pos (by decide))
        have h5 : 0 ≤ f k * 2 ^ (8 * k) := Int.mul_nonneg hx0 hp0
        have h6 : f k * 2 ^ (8 * k) ≤ 255 * 2 ^ 24 := Int.le_trans (Int.mul_le_mul_of_nonneg_right (by omega : f k ≤ 255) hp0) (Int.mul_le_mul_of_nonneg_left hp (by decide))
        exact Int.emod_eq_of_lt h5 (Int.lt_of_le_of_lt h6 (by decide))
      rw [hw, HU.out, HY.out]
      refine ⟨⟨k + 1, by omega, by go_num, ?_, trivial⟩, ?_⟩
      · congr 1
        show leN f k + f k * 2 ^ (8 * k) = leN f k + f k * 256 ^ k
        rw [Int.pow_mul]
        rfl
      · simp [intOf]; omega
    · have e : k = 4 := by omega
      subst e
      go_wp2_with fail
      go_ret
      exact ⟨rfl, rfl⟩
theorem num4 (w : World) (g : Nat) (a : Option Addr) (c : Nat) (f : Nat → Int) (h : CurAt w g a 4 c 0) (hc : 4 ≤ c) (hcm : c ≤ maxLen) (hr : RowIn g .u8 w a 4 f) (hf : ∀ i, i < 4 → 0 ≤ f i ∧ f i < 256) :
    Calls Try.prog 70 #[.pointer (some ⟨g, 0, none⟩), .int .i64 4] w fun e w' => e = .returned (.int .u64 (leN f 4)) ∧ Fr (fun k => k = g) w w' := by
  have H := hid h
  have HR := hid hr
  have HF := hid hf
  clear h hr hf
  go_enter Try.func70, Try.ntmps70
  go_wp2_with fail
  refine (sized4 _).mono ?_
  rintro e w1 ⟨rfl, rfl⟩
  go_wp2_with fail
  refine (take4 w g a c f H.out hc hcm HR.out).mono ?_
  rintro e w2 ⟨a', c', rfl, hf2, hr2⟩
  have F2 := hid hf2
  have R2 := hid hr2
  clear hf2 hr2
  go_wp2_with fail
  refine (least4 a' c' _ f w2 R2.out HF.out).mono ?_
  rintro e w3 ⟨rfl, rfl⟩
  go_wp2_with fail
  go_ret
  exact ⟨rfl, F2.out⟩
/-- a clone is a row of the call's own. -/
theorem clone_own (a : Option Addr) (n c : Nat) (f : Nat → Int) (w : World) (hn : n ≤ 1048576) (hnc : n ≤ c) (hnil : a = none → c = 0) (h : RowIn w.heap.size .u8 w a n f) :
    Calls Try.prog 59 #[.slice a n c] w fun e w' => ∃ v, e = .returned v ∧ Fr Non w w' ∧ Own w' w.heap.size .u8 5 v ((List.range n).map f) := by
  have H := hid h
  clear h
  cases a with
  | none =>
    have hc : c = 0 := hnil rfl
    have hn0 : n = 0 := by omega
    subst hc hn0
    clear hnil
    have k0 := fun wx : World => Lib.run_eql_slice_nil (P := Try.prog) wx 30 5 none 0 0 0 0 Try.underlying30
    go_enter Try.func59, Try.ntmps59
    go_wp2
    go_ret
    exact ⟨_, rfl, Fr.refl _ _, Own.nil _ _ _ _⟩
  | some ad =>
    clear hnil
    have k0 := fun wx : World => Lib.run_eql_slice_nil (P := Try.prog) wx 30 5 (some ad) n c 0 0 Try.underlying30
    go_enter Try.func59, Try.ntmps59
    go_wp2_with (refine opAppendRow (some 7) rfl rfl (.tmp 5) (.tmp 6) 30 rfl w.heap.size .u8 5 1 Try.underlying30 Try.info_u8 (.slice (some ⟨w.heap.size, 0, none⟩) 0 0) [] rfl (Own.empty w _ .u8 5 (Nat.le_refl _)) w.heap.size (some ad) n c f rfl (fun e => by cases e) hnc (H.out.fr ((Fr.refl Non _).alloc _) (fun _ _ => id)) (by decide) (by simp; omega) (by simp) ?_; intro v2 w2 hown2 hg2)
    go_ret
    exact ⟨_, rfl, clone_fr hg2, hown2⟩
/-- the bytes of a number, the least first. -/
def leB (v : Int) (k : Nat) : List Int := (List.range k).map (fun i => v / 256 ^ i % 256)
set_option maxRecDepth 100000 in
set_option maxHeartbeats 800000 in
theorem put4 (a : Option Addr) (c : Nat) (x v : Int) (w : World) (hr : RowIn w.heap.size .u8 w a 1 (fun _ => x)) (hc : 1 ≤ c) (hnil : a = none → c = 0) (hv0 : 0 ≤ v) (hv1 : v < 4294967296) :
    Calls Try.prog 71 #[.slice a 1 c, .int .i64 4, .int .u64 v] w fun e w' => ∃ u, e = .returned u ∧ Fr Non w w' ∧ RowO w' w.heap.size u (x :: leB v 4) := by
  have HR := hid hr
  have HNIL := hid hnil
  clear hr hnil
  go_enter Try.func71, Try.ntmps71
  go_wp2_with fail
  refine (clone_own a 1 c (fun _ => x) w (by decide) hc HNIL.out HR.out).mono ?_
  rintro e w1 ⟨v1, rfl, hf1, ho1⟩
  have F1 := hid hf1
  have O1 := hid ho1
  clear hf1 ho1
  go_wp2_with fail
  refine (sized4 _).mono ?_
  rintro e w2 ⟨rfl, rfl⟩
  go_wp2_with fail
  go_loopw [7, 2, 15] (fun u y i wr => ∃ k : Nat, k ≤ 4 ∧ i = .int .i64 k ∧ y = .int .u64 (v / 256 ^ k) ∧ Fr Non w wr ∧ Own wr w.heap.size .u8 5 u (x :: leB v k)) (fun u y i _ => 4 - (intOf i).toNat)
  case atStart => exact ⟨0, by decide, rfl, by simp, F1.out, O1.out⟩
  case round =>
    obtain ⟨k, hk, rfl, rfl, hfr, hown⟩ := hrel
    have HFR := hid hfr
    have HOW := hid hown
    clear hfr hown
    by_cases hlt : k < 4
    · have h1 : (k : Int) < 4 := by omega
      have h0 : (0 : Int) ≤ (k : Int) := by omega
      have hyw : IntKind.u8.wrap (v / 256 ^ k) = v / 256 ^ k % 256 := by rw [IntKind.wrap_u8]
      have hsz := HFR.out.size
      have hl4 : (x :: leB v k).length ≤ 5 := by simp [leB]; omega
      go_wp2_with (refine opAppend1 (some 21) rfl rfl (.tmp 17) (.tmp 20) 30 rfl w.heap.size .u8 5 1 Try.underlying30 Try.info_u8q _ _ rfl (by exact HOW.out.alloc _) ⟨_, 0, none⟩ 1 _ rfl (cell_new1 _ _ _) (by decide) (by omega) (by simp; omega) ?_; intro v6 w6 hown6 hg6)
      have hf6 : Fr Non w w6 := Fr.grown (HFR.out.alloc _) hg6 (fun b hb hlt => by have := (HOW.out.block b hb).1; omega)
      have e1 : v / 256 ^ k / 256 = v / 256 ^ (k + 1) := by
        obtain ⟨m, rfl⟩ := Int.eq_ofNat_of_zero_le hv0
        have e : ((256 : Int) ^ k) = ((256 ^ k : Nat) : Int) := by push_cast; rfl
        have e2 : ((256 : Int) ^ (k + 1)) = ((256 ^ (k + 1) : Nat) : Int) := by push_cast; rfl
        rw [e, e2]
        have e3 : m / 256 ^ k / 256 = m / 256 ^ (k + 1) := by rw [Nat.div_div_eq_div_mul, Nat.pow_succ]
        exact_mod_cast e3
      have e2 : x :: leB v (k + 1) = x :: leB v k ++ [v / 256 ^ k % 256] := by
        unfold leB; rw [List.range_succ, List.map_append]; rfl
      refine ⟨⟨k + 1, by omega, by go_num, by rw [e1], hf6, ?_⟩, ?_⟩
      · rw [e2]
        first
          | exact hown6
          | (rw [hyw] at hown6; exact hown6)
      · simp [intOf]; omega
    · have e : k = 4 := by omega
      subst e
      go_wp2_with fail
      go_ret
      exact ⟨_, rfl, HFR.out, HOW.out.rowO⟩
end Go.Proofs.Ytjnegcambbeblaa

/- Bytes, of equal rows. -/
namespace Go.Proofs.Ytjnegcambbeblaa
open Go.RowKit

/-- Bytes only reads. -/
theorem bytes_q (a b : Option Addr) (n c1 c2 : Nat) (f g : Nat → Int) (w : World) (hn : n ≤ 4611686018427387904) (B : Nat)
    (ha : RowIn B .u8 w a n f) (hb : RowIn B .u8 w b n g) (hfg : ∀ i, i < n → f i = g i) :
    Calls Try.prog 19 #[.slice a n c1, .slice b n c2] w fun e w' => e = .returned (.bool true) ∧ ∃ m, w' = w.drewN m := by
  have Ha := hid ha
  have Hb := hid hb
  have Hfg := hid hfg
  clear ha hb hfg
  go_enter Try.func19, Try.ntmps19
  go_wp2
  go_loopw [5] (fun i wr => ∃ k m : Nat, k ≤ n ∧ i = .int .i64 k ∧ wr = w.drewN m) (fun i _ => n - (intOf i).toNat)
  case atStart => exact ⟨0, 0, Nat.zero_le _, rfl, rfl⟩
  case round =>
    obtain ⟨k, m, hk, rfl, rfl⟩ := hrel
    by_cases hlt : k < n
    · obtain ⟨b1, o1, rfl, hB1, hx⟩ := Ha.out.at hlt
      obtain ⟨b2, o2, rfl, hB2, hy⟩ := Hb.out.at hlt
      rw [Hfg.out k hlt] at hx
      have h0 : (0 : Int) ≤ (k : Int) := by omega
      have h1 : (k : Int) < (n : Int) := by omega
      go_wp2
      go_quiet (fail)
      go_wp2
      go_roundw
      case rel => exact ⟨k + 1, m + nq, by omega, by go_num, by simp⟩
      case measure => simp [intOf]; omega
    · have e : k = n := by omega
      subst e
      go_wp2
      go_ret
      exact ⟨rfl, _, rfl⟩
theorem bytes_yes (a b : Option Addr) (n c1 c2 : Nat) (f g : Nat → Int) (w : World) (hn : n ≤ 4611686018427387904) (B : Nat)
    (ha : RowIn B .u8 w a n f) (hb : RowIn B .u8 w b n g) (hfg : ∀ i, i < n → f i = g i) :
    Calls Try.prog 19 #[.slice a n c1, .slice b n c2] w fun e w' => e = .returned (.bool true) ∧ Fr Non w w' :=
  (bytes_q a b n c1 c2 f g w hn B ha hb hfg).mono fun _ _ ⟨h1, _, h2⟩ => ⟨h1, by rw [h2]; exact (Fr.refl _ _).drewN _⟩
end Go.Proofs.Ytjnegcambbeblaa

/- lzma: awake (08). -/
namespace Go.Proofs.Ytjnegcambbeblaa
open Go.RowKit

def pAwake : Lset := ⟨3, 0, 2, 4096⟩
theorem awake_six : lunpack (feedNx (fun _ => 0) 6) 0 pAwake 1 1 = some [0] := by kernel_rfl
theorem awake_five : lunpack (feedNx (fun _ => 0) 5) 0 pAwake 1 1 = none := by kernel_rfl
theorem pAwake_light : pAwake.Light := ⟨by constructor <;> decide, by decide⟩
def MUCH : MS := ⟨1099511627776, 0, 0, 0, 1099511627776, 1099511627776, 1099511627776, 1099511627776⟩
theorem MUCH_ok : MUCH.Ok := ⟨by decide, by decide, by decide⟩
theorem much_mem {a b : Nat} (ha : a ≤ 200000) (hb : b ≤ 1048576) : (MUCH.mem a).1 = true ∧ ((MUCH.mem a).2.mem b).1 = true := by
  have h1 : MUCH.mem a = (true, { MUCH with now := MUCH.now + a, peak := max MUCH.peak (MUCH.now + a) }) := by
    unfold MS.mem
    rw [if_neg (by decide), if_neg (by show ¬ 1099511627776 - 0 < a; omega)]
  rw [h1]
  refine ⟨rfl, ?_⟩
  unfold MS.mem
  rw [if_neg (by show ¬ (0 : Nat) ≠ 0; decide), if_neg (by show ¬ 1099511627776 - (0 + a) < b; omega)]
set_option maxRecDepth 100000 in
theorem much_any (w : World) : Calls Try.prog 18 #[] w (MNewPost w MUCH) := by
  go_enter Try.func18, Try.ntmps18
  go_wp2_with fail
  refine (mnew_m 1099511627776 (by decide) 1099511627776 1099511627776 1099511627776 1099511627776 w (by decide) (by decide) (by decide) (by decide)).mono ?_
  rintro e w1 ⟨g, rfl, h1, h2, h3⟩
  have H2 := hid h2
  have H3 := hid h3
  clear h2 h3
  go_wp2_with fail
  go_ret
  exact ⟨g, rfl, h1, H2.out, H3.out⟩
def AwPost (k : Nat) (W : World) (e : Ending) (w' : World) : Prop :=
  (k = 6 → ∃ v, e = .returned (.tuple #[v, .int .i64 0]) ∧ RowO w' W.heap.size v [0]) ∧ (k = 5 → e = .returned (.tuple #[.slice none 0 0, .int .i64 12]))
theorem unp_awake (k b gm : Nat) (hk : k = 5 ∨ k = 6) (W w : World) (hW : Fr Non W w) (hgW : W.heap.size ≤ gm) (hb : w.heap[b]? = some (.cells (arr .u8 k (fun _ => 0)) 5)) (hm : MAt w gm MUCH) :
    Calls Try.prog 17 #[.slice (some ⟨b, 0, none⟩) k k, .agg #[.int .i64 3, .int .i64 0, .int .i64 2, .int .i64 4096], .int .i64 1, .pointer (some ⟨gm, 0, none⟩)] w
      fun e w' => Fr Non W w' ∧ AwPost k W e w' := by
  have hp : pAwake.need ≤ 200000 := by decide
  have hM := much_mem (a := pAwake.need) (b := 1) hp (by decide)
  refine (lunpack_any gm MUCH pAwake 1 1 rfl _ k k (fun _ => 0) (fun _ _ => by decide) w 1 (by decide) hm MUCH_ok pAwake_light (by decide) (by decide) (by omega) (Nat.le_refl _) (fun e => by cases e)
    (.inr ⟨b, 0, rfl, blk_lt hb, fun i hi => blk_cell hb (by rw [Nat.zero_add]; exact arr_get _ _ _ hi)⟩) hM.1 hM.2).mono ?_
  rintro e w' ⟨h1, h2, h3, h4⟩
  refine ⟨hW.then h1 (fun i hi e => by have e' : i = gm := e; omega), fun e => ?_, fun e => ?_⟩
  · subst e
    rw [awake_six] at h4
    rcases h4 with ⟨h5, _⟩ | ⟨xs, v, h5, h6, h7⟩
    · cases h5
    · injection h5 with h5
      subst h5
      exact ⟨v, h6, h7.low hW.size⟩
  · subst e
    rw [awake_five] at h4
    rcases h4 with ⟨_, h6⟩ | ⟨xs, v, h5, h6, h7⟩
    · exact h6
    · cases h5
set_option maxRecDepth 100000 in
set_option maxHeartbeats 800000 in
theorem awake08_any (w : World) : Calls Try.prog 13 #[] w fun e w' => e = .returned (.bool true) ∧ Fr Non w w' := by
  have hmk : ∀ w : World, (Instr.makeSlice 30 (.int .i64 6) (.int .i64 6)).run Try.prog w = .ok (.slice (some ⟨w.heap.size, 0, none⟩) 6 6) (w.alloc (.cells (arr .u8 6 (fun _ => 0)) 5)) := fun w => emake_u8 6 (by decide) w
  have hmk5 : ∀ w : World, (Instr.makeSlice 30 (.int .i64 5) (.int .i64 5)).run Try.prog w = .ok (.slice (some ⟨w.heap.size, 0, none⟩) 5 5) (w.alloc (.cells (arr .u8 5 (fun _ => 0)) 5)) := fun w => emake_u8 5 (by decide) w
  go_enter Try.func13, Try.ntmps13
  go_upto_region 2 with fail
  obtain ⟨W, hW⟩ : ∃ W, W = w.alloc (.cells #[.int .i64 3, .int .i64 0, .int .i64 2, .int .i64 4096] 23) := ⟨_, rfl⟩
  obtain ⟨g, hg⟩ : ∃ g, g = w.heap.size := ⟨_, rfl⟩
  have hb0 : W.heap[g]? = some (.cells #[.int .i64 3, .int .i64 0, .int .i64 2, .int .i64 4096] 23) := by rw [hW, hg]; exact blk_new _ _
  have HF0 := hid (show Fr Non w W by rw [hW]; exact (Fr.refl Non w).alloc _)
  have HB0 := hid hb0
  have k0 := blk_cell hb0 (j := 0) (v := .int .i64 3) rfl
  have k1 := blk_cell hb0 (j := 1) (v := .int .i64 0) rfl
  have k2 := blk_cell hb0 (j := 2) (v := .int .i64 2) rfl
  have k3 := blk_cell hb0 (j := 3) (v := .int .i64 4096) rfl
  rw [← hW, ← hg]
  clear hW hg hb0
  go_cut [2, 3] (fun v q wx => q = .int .i64 0 ∧ Fr Non W wx ∧ RowO wx W.heap.size v [0])
  case first =>
    go_region_held3 (fun wx => wx.cell? ⟨g, 0, none⟩ = some (.int .i64 3) ∧ wx.cell? ⟨g, 1, none⟩ = some (.int .i64 0) ∧ wx.cell? ⟨g, 2, none⟩ = some (.int .i64 2) ∧ wx.cell? ⟨g, 3, none⟩ = some (.int .i64 4096)) (first | (show World.cell? wn _ = _ ∧ _; exact ⟨hWn.cell k0 id, hWn.cell k1 id, hWn.cell k2 id, hWn.cell k3 id⟩) | exact ⟨Fr.cell (S := Non) (w := W) (by repeat (first | exact Fr.refl _ _ | refine Fr.drew ?_ | refine Fr.alloc ?_ _ | refine Fr.trans ?_ (by assumption))) k0 id, Fr.cell (S := Non) (w := W) (by repeat (first | exact Fr.refl _ _ | refine Fr.drew ?_ | refine Fr.alloc ?_ _ | refine Fr.trans ?_ (by assumption))) k1 id, Fr.cell (S := Non) (w := W) (by repeat (first | exact Fr.refl _ _ | refine Fr.drew ?_ | refine Fr.alloc ?_ _ | refine Fr.trans ?_ (by assumption))) k2 id, Fr.cell (S := Non) (w := W) (by repeat (first | exact Fr.refl _ _ | refine Fr.drew ?_ | refine Fr.alloc ?_ _ | refine Fr.trans ?_ (by assumption))) k3 id⟩) (first
      | (go_at_call 18; refine (much_any _).mono ?_; rintro e wm ⟨gm, rfl, hgm, hfm, hmm⟩; have hgW : W.heap.size ≤ gm := Nat.le_trans (Fr.size (S := Non) (by repeat (first | exact Fr.refl _ _ | refine Fr.drew ?_ | refine Fr.alloc ?_ _ | refine Fr.trans ?_ (by assumption)))) hgm)
      | (go_at_call 17; refine (unp_awake 6 _ gm (by decide) W _ (by repeat (first | exact Fr.refl _ _ | refine Fr.drew ?_ | refine Fr.alloc ?_ _ | refine Fr.trans ?_ (by assumption))) hgW (by first | exact blk_new _ _ | exact hfm.blk (blk_new _ _) id) (by first | exact hmm | exact blk_alloc hmm)).mono ?_; rintro e wn ⟨hWn, hpn⟩; have hrn := hpn.1 rfl; clear hpn; obtain ⟨v, rfl, hro⟩ := hrn))
    all_goals
      have HWN := hid hWn
      have HRO := hid hro
      clear hWn hro hfm hmm hgm hgW k0 k1 k2 k3
      go_wp2_with fail
      go_meet
      exact ⟨rfl, HWN.out, HRO.out⟩
  case rest =>
    obtain ⟨rfl, hf1, hro⟩ := hcut
    obtain ⟨X, hX⟩ : ∃ X, X = wc := ⟨_, rfl⟩
    rw [← hX] at hf1 hro ⊢
    have hb1 := hf1.blk HB0.out id
    clear hX k0 k1 k2 k3
    have k0 := blk_cell hb1 (j := 0) (v := .int .i64 3) rfl
    have k1 := blk_cell hb1 (j := 1) (v := .int .i64 0) rfl
    have k2 := blk_cell hb1 (j := 2) (v := .int .i64 2) rfl
    have k3 := blk_cell hb1 (j := 3) (v := .int .i64 4096) rfl
    have HF1 := hid hf1
    have HRO := hid hro
    clear hf1 hro hb1
    go_upto_region 3 with fail
    go_cut [4, 5] (fun v q wx => q = .int .i64 12 ∧ Fr Non X wx)
    case first =>
      go_region_held3 (fun wx => wx.cell? ⟨g, 0, none⟩ = some (.int .i64 3) ∧ wx.cell? ⟨g, 1, none⟩ = some (.int .i64 0) ∧ wx.cell? ⟨g, 2, none⟩ = some (.int .i64 2) ∧ wx.cell? ⟨g, 3, none⟩ = some (.int .i64 4096)) (first | (show World.cell? wn _ = _ ∧ _; exact ⟨hWn.cell k0 id, hWn.cell k1 id, hWn.cell k2 id, hWn.cell k3 id⟩) | exact ⟨Fr.cell (S := Non) (w := X) (by repeat (first | exact Fr.refl _ _ | refine Fr.drew ?_ | refine Fr.alloc ?_ _ | refine Fr.trans ?_ (by assumption))) k0 id, Fr.cell (S := Non) (w := X) (by repeat (first | exact Fr.refl _ _ | refine Fr.drew ?_ | refine Fr.alloc ?_ _ | refine Fr.trans ?_ (by assumption))) k1 id, Fr.cell (S := Non) (w := X) (by repeat (first | exact Fr.refl _ _ | refine Fr.drew ?_ | refine Fr.alloc ?_ _ | refine Fr.trans ?_ (by assumption))) k2 id, Fr.cell (S := Non) (w := X) (by repeat (first | exact Fr.refl _ _ | refine Fr.drew ?_ | refine Fr.alloc ?_ _ | refine Fr.trans ?_ (by assumption))) k3 id⟩) (first
        | (go_at_call 18; refine (much_any _).mono ?_; rintro e wm ⟨gm, rfl, hgm, hfm, hmm⟩; have hgW : X.heap.size ≤ gm := Nat.le_trans (Fr.size (S := Non) (by repeat (first | exact Fr.refl _ _ | refine Fr.drew ?_ | refine Fr.alloc ?_ _ | refine Fr.trans ?_ (by assumption)))) hgm)
        | (go_at_call 17; refine (unp_awake 5 _ gm (by decide) X _ (by repeat (first | exact Fr.refl _ _ | refine Fr.drew ?_ | refine Fr.alloc ?_ _ | refine Fr.trans ?_ (by assumption))) hgW (by first | exact blk_new _ _ | exact hfm.blk (blk_new _ _) id) (by first | exact hmm | exact blk_alloc hmm)).mono ?_; rintro e wn ⟨hWn, hpn⟩; have hrn := hpn.2 rfl; clear hpn; subst hrn))
      all_goals
        have HWN := hid hWn
        clear hWn hfm hmm hgm hgW k0 k1 k2 k3
        go_wp2_with fail
        go_meet
        exact ⟨rfl, HWN.out⟩
    case rest =>
      obtain ⟨rfl, hf2⟩ := hcut
      obtain ⟨Y, hY⟩ : ∃ Y, Y = wc := ⟨_, rfl⟩
      rw [← hY] at hf2 ⊢
      clear hY k0 k1 k2 k3
      have hro := HRO.out.fr hf2 (fun _ _ _ e => e)
      obtain ⟨ra, rc, rfl, h2, h3, h4, h5⟩ := hro
      have HF2 := hid (HF0.out.trans (HF1.out.trans hf2))
      have H4 := hid h4
      clear hf2 h4
      go_wp2_with fail
      refine (bytes_yes ra (some ⟨Y.heap.size, 0, none⟩) 1 rc 1 _ (fun _ => 0) _ (by decide) (Y.heap.size + 1) (by exact (H4.out.fr ((Fr.refl Non Y).alloc _) (fun _ _ e => e)).mono (Nat.le_succ _)) (.inr ⟨_, 0, rfl, by omega, fun i hi => by
        obtain rfl : i = 0 := by omega
        exact cell_new1 _ _ _⟩) (fun i hi => by
        obtain rfl : i = 0 := by omega
        rfl)).mono ?_
      rintro e wz ⟨rfl, hfz⟩
      have HFZ := hid hfz
      clear hfz
      go_wp2_with fail
      go_ret
      exact ⟨rfl, HF2.out.trans (((Fr.refl Non Y).alloc _).trans HFZ.out)⟩
end Go.Proofs.Ytjnegcambbeblaa

/- lzma: the document's Probs; light; New of a setting that may not be; a decoder that has not begun. -/
namespace Go.Proofs.Ytjnegcambbeblaa
open Go.RowKit

set_option maxRecDepth 100000 in
set_option maxHeartbeats 800000 in
theorem rprobs_any (p : Lset) (w : World) : Calls Try.prog 27 #[p.val] w fun e w' => e = .returned (.int .i64 (p.probs : Nat)) ∧ Fr Non w w' := by
  have HV := hid (show p.val = .agg #[.int .i64 p.lc, .int .i64 p.lp, .int .i64 p.pb, .int .i64 p.dict] from rfl)
  obtain ⟨R, hR⟩ : ∃ R, R = p.probs := ⟨_, rfl⟩
  rw [← hR]
  have HR := hid hR
  clear hR
  rw [HV.out]
  go_enter Try.func27, Try.ntmps27
  go_upto_region 1 with fail
  go_wp2_with (refine wpList_load_row rfl 23 _ rfl w.heap.size rfl 23 #[.int .i64 p.lc, .int .i64 p.lp, .int .i64 p.pb, .int .i64 p.dict] (0, 0) _ (by exact blk_new w _) Try.underlying23 rfl (by kernel_rfl) ?_)
  rw [← HV.out]
  refine (rmay_any p _).mono ?_
  rintro e w1 ⟨rfl, hf1⟩
  have hb := hf1.blk (blk_new w (.cells #[.int .i64 p.lc, .int .i64 p.lp, .int .i64 p.pb, .int .i64 p.dict] 23)) id
  have F1 := hid (((Fr.refl Non w).alloc _).trans hf1)
  have HB := hid hb
  have k0 := blk_cell hb (j := 0) (v := .int .i64 p.lc) rfl
  have k1 := blk_cell hb (j := 1) (v := .int .i64 p.lp) rfl
  clear hf1 hb
  cases hm : p.may with
  | false =>
    have h : R = 0 := by rw [HR.out]; unfold Lset.probs; rw [if_neg (by rw [hm]; decide)]
    subst h
    clear hm
    go_wp2_with fail
    go_ret
    exact ⟨rfl, F1.out⟩
  | true =>
    have hM := Lset.may_iff.1 hm
    have h : R = 1847 + 768 * 2 ^ (p.lc + p.lp).toNat := by rw [HR.out]; unfold Lset.probs; rw [if_pos hm]
    obtain ⟨K, hK⟩ : ∃ K, K = (p.lc + p.lp).toNat := ⟨_, rfl⟩
    have hKi : p.lc + p.lp = (K : Int) := by have := hM.lc0; have := hM.lp0; omega
    have hK12 : K ≤ 12 := by have := hM.lc1; have := hM.lp1; omega
    have hw : IntKind.i64.wrap (p.lc + p.lp) = (K : Int) := by rw [hKi, IntKind.wrap_i64]; omega
    rw [← hK] at h
    have HRK := hid h
    have HKI := hid hKi
    obtain ⟨m1, m2, m3, m4, m5, m6, m7, m8⟩ := hM
    clear hm h hK m5 m6 m7 m8 hKi hw
    go_wp2_with fail
    go_loopw [3, 4] (fun n i wr => ∃ k : Nat, k ≤ K ∧ i = .int .i64 k ∧ n = .int .i64 ((768 * 2 ^ k : Nat) : Int) ∧ wr = w1) (fun n i _ => K - (intOf i).toNat)
    case atStart => exact ⟨0, Nat.zero_le _, rfl, rfl, rfl⟩
    case round =>
      obtain ⟨k, hk, rfl, rfl, rfl⟩ := hrel
      have hpow : 2 ^ k ≤ 4096 := Nat.pow_le_pow_right (by decide) (by omega : k ≤ 12)
      obtain ⟨X, hX⟩ : ∃ X, X = 768 * 2 ^ k := ⟨_, rfl⟩
      have hXi : (X : Int) ≤ 3145728 := by omega
      have hX0 : (0 : Int) ≤ (X : Int) := by omega
      rw [← hX]
      have HX := hid hX
      clear hX hpow
      by_cases hlt : k < K
      · have hl : (k : Int) < p.lc + p.lp := by have := HKI.out; omega
        go_wp2_with fail
        go_roundw
        case rel => exact ⟨k + 1, by omega, by go_num, by
          congr 1
          rw [Nat.pow_succ]
          have := HX.out
          omega, by first | rfl | trivial⟩
        case measure => simp [intOf]; omega
      · have e : k = K := by omega
        subst e
        have hl : ¬ (k : Int) < p.lc + p.lp := by have := HKI.out; omega
        go_wp2_with fail
        go_ret
        exact ⟨by rw [show ((R : Nat) : Int) = 1847 + (X : Int) by have := HX.out; have := HRK.out; omega]; rfl, F1.out⟩
set_option maxRecDepth 100000 in
theorem light_any (p : Lset) (w : World) : Calls Try.prog 15 #[p.val] w fun e w' => e = .returned (.bool (!p.may || decide (p.lc + p.lp ≤ 6))) ∧ Fr Non w w' := by
  have HV := hid (show p.val = .agg #[.int .i64 p.lc, .int .i64 p.lp, .int .i64 p.pb, .int .i64 p.dict] from rfl)
  obtain ⟨R, hR⟩ : ∃ R, R = (!p.may || decide (p.lc + p.lp ≤ 6)) := ⟨_, rfl⟩
  rw [← hR]
  have HR := hid hR
  clear hR
  rw [HV.out]
  go_enter Try.func15, Try.ntmps15
  go_upto_region 1 with fail
  go_wp2_with (refine wpList_load_row rfl 23 _ rfl w.heap.size rfl 23 #[.int .i64 p.lc, .int .i64 p.lp, .int .i64 p.pb, .int .i64 p.dict] (0, 0) _ (by exact blk_new w _) Try.underlying23 rfl (by kernel_rfl) ?_)
  rw [← HV.out]
  refine (rmay_any p _).mono ?_
  rintro e w1 ⟨rfl, hf1⟩
  have hb := hf1.blk (blk_new w (.cells #[.int .i64 p.lc, .int .i64 p.lp, .int .i64 p.pb, .int .i64 p.dict] 23)) id
  have F1 := hid (((Fr.refl Non w).alloc _).trans hf1)
  have k0 := blk_cell hb (j := 0) (v := .int .i64 p.lc) rfl
  have k1 := blk_cell hb (j := 1) (v := .int .i64 p.lp) rfl
  clear hf1 hb
  cases hm : p.may with
  | false =>
    have h : R = true := by rw [HR.out, hm]; rfl
    subst h
    clear hm
    go_wp2_with fail
    go_ret
    exact ⟨rfl, F1.out⟩
  | true =>
    have HR2 := hid (show R = decide (p.lc + p.lp ≤ 6) by rw [HR.out, hm]; rfl)
    have hM := Lset.may_iff.1 hm
    obtain ⟨m1, m2, m3, m4, m5, m6, m7, m8⟩ := hM
    clear hm m5 m6 m7 m8
    have hw : IntKind.i64.wrap (p.lc + p.lp) = p.lc + p.lp := by rw [IntKind.wrap_i64]; omega
    by_cases h6 : p.lc + p.lp ≤ 6
    · go_wp2_with fail
      go_ret
      exact ⟨by rw [HR2.out, decide_eq_true h6]; rfl, F1.out⟩
    · go_wp2_with fail
      go_ret
      exact ⟨by rw [HR2.out]; rfl, F1.out⟩
set_option maxRecDepth 100000 in
theorem lnew_not (p : Lset) (x : Int) (v : Value) (w : World) (h : p.may = false) : Calls Try.prog 20 #[p.val, .int .i64 x, v] w fun e w' => e = .returned (.tuple #[.pointer none, .int .i64 11]) ∧ Fr Non w w' := by
  have HV := hid (show p.val = .agg #[.int .i64 p.lc, .int .i64 p.lp, .int .i64 p.pb, .int .i64 p.dict] from rfl)
  rw [HV.out]
  have HM := hid h
  clear h
  go_enter Try.func20, Try.ntmps20
  go_upto_region 1 with fail
  go_wp2_with (refine wpList_load_row rfl 23 _ rfl w.heap.size rfl 23 #[.int .i64 p.lc, .int .i64 p.lp, .int .i64 p.pb, .int .i64 p.dict] (0, 0) _ (by exact blk_new w _) Try.underlying23 rfl (by kernel_rfl) ?_)
  rw [← HV.out]
  refine (lmay_any p _).mono ?_
  rintro e w1 ⟨rfl, hf1⟩
  rw [HM.out]
  have F1 := hid (((Fr.refl Non w).alloc _).trans hf1)
  clear hf1
  go_wp2_with fail
  go_ret2
  exact ⟨rfl, F1.out⟩
theorem lnext_nil (g : Nat) (w : World) (h : w.cell? ⟨g, 8, none⟩ = some (.pointer none)) : Calls Try.prog 23 #[.pointer (some ⟨g, 0, none⟩)] w fun e w' => e = .returned (.tuple #[.int .u8 0, .bool false]) ∧ w = w' := by
  go_enter Try.func23, Try.ntmps23
  go_wp2_with fail
  go_ret2
  exact ⟨rfl, rfl⟩
theorem lwhole_nil (g : Nat) (w : World) (h : w.cell? ⟨g, 8, none⟩ = some (.pointer none)) : Calls Try.prog 29 #[.pointer (some ⟨g, 0, none⟩)] w fun e w' => e = .returned (.bool false) ∧ w = w' := by
  go_enter Try.func29, Try.ntmps29
  go_wp2_with fail
  go_ret
  exact ⟨rfl, rfl⟩
theorem lfinish_nil (g : Nat) (w : World) (h : w.cell? ⟨g, 8, none⟩ = some (.pointer none)) : Calls Try.prog 30 #[.pointer (some ⟨g, 0, none⟩)] w fun e w' => e = .returned (.bool false) ∧ w = w' := by
  go_enter Try.func30, Try.ntmps30
  go_wp2_with fail
  go_ret
  exact ⟨rfl, rfl⟩
end Go.Proofs.Ytjnegcambbeblaa

/- lzma: Parse, Props; the document's. -/
namespace Go.Proofs.Ytjnegcambbeblaa
open Go.RowKit

theorem results_cell_tmp_row {P : Program} {fn : Func} {p u : Tmp} {ty : TypeId} (h : fn.results = #[.cell p ty, .tmp u]) (tmps : Array Value) (w : World) (g : Nat) (t : TypeId) (cs : Array Value) (fr : Nat × Nat) (d : TypeDesc)
    (hp : tmps.getD p undef = .pointer (some ⟨g, 0, none⟩)) (hg : w.heap[g]? = some (.cells cs t fr))
    (hu : P.underlying ty = some d) (hd : (match d with | .struct _ | .array _ _ => true | _ => false) = true) (hi : (P.info? ty).map (·.size) = some cs.size) :
    (results fn tmps).run P w = .ok (.tuple #[.agg cs, tmps.getD u undef]) w := by
  have hp' : tmps[p]?.getD undef = .pointer (some ⟨g, 0, none⟩) := by simpa using hp
  rw [results_cell_tmp h]
  simp [hp', asAddr, Result.andThen, run_loadVar_row w g t ty cs fr d hg hu hd hi]
theorem results_cell_tmp_row' {P : Program} {fn : Func} {p u : Tmp} {ty : TypeId} (h : fn.results = #[.cell p ty, .tmp u]) (tmps : Array Value) (w : World) (g : Nat) (t : TypeId) (cs : Array Value) (fr : Nat × Nat) (d : TypeDesc) (y : Value)
    (hp : tmps.getD p undef = .pointer (some ⟨g, 0, none⟩)) (hy : tmps.getD u undef = y) (hg : w.heap[g]? = some (.cells cs t fr))
    (hu : P.underlying ty = some d) (hd : (match d with | .struct _ | .array _ _ => true | _ => false) = true) (hi : (P.info? ty).map (·.size) = some cs.size) :
    (results fn tmps).run P w = .ok (.tuple #[.agg cs, y]) w := by
  rw [results_cell_tmp_row h tmps w g t cs fr d hp hg hu hd hi, hy]
/-- a setting's properties, read. -/
def pSet (f : Nat → Int) : Lset := ⟨f 0 % 9, f 0 / 9 % 5, f 0 / 45, max 4096 (f 1 + 256 * f 2 + 65536 * f 3 + 16777216 * f 4)⟩
def pParse (f : Nat → Int) (n : Nat) : Lset × Int := if n ≠ 5 ∨ 225 ≤ f 0 then (⟨0, 0, 0, 0⟩, 11) else (pSet f, 0)
def PsPost (f : Nat → Int) (n : Nat) (w : World) (e : Ending) (w' : World) : Prop := e = .returned (.tuple #[(pParse f n).1.val, .int .i64 (pParse f n).2]) ∧ Fr Non w w'
theorem setNew_fr {w w' : World} (h : Fr Non w w') {g : Nat} (hg : w.heap.size ≤ g) (c : Array Value) : Fr Non w (w'.setRow g c) := by
  refine ⟨h.os, h.tape, h.output, by simp [World.setRow]; exact h.size, fun k hk _ => ?_⟩
  rw [setRow_other _ _ _ _ (show k ≠ g by omega)]
  exact h.block k hk id
theorem leN4 (f : Nat → Int) : leN f 4 = f 0 + 256 * f 1 + 65536 * f 2 + 16777216 * f 3 := by
  show 0 + f 0 * 256 ^ 0 + f 1 * 256 ^ 1 + f 2 * 256 ^ 2 + f 3 * 256 ^ 3 = _
  rw [show (256 : Int) ^ 0 = 1 from rfl, show (256 : Int) ^ 1 = 256 from rfl, show (256 : Int) ^ 2 = 65536 from rfl, show (256 : Int) ^ 3 = 16777216 from rfl]
  omega
set_option maxRecDepth 100000 in
set_option maxHeartbeats 800000 in
theorem parse_any (a : Option Addr) (n c : Nat) (f : Nat → Int) (w : World) (hn : n ≤ 1048576) (hnc : n ≤ c) (hnil : a = none → c = 0) (hr : RowIn w.heap.size .u8 w a n f) (hf : ∀ i, i < n → 0 ≤ f i ∧ f i < 256) :
    Calls Try.prog 31 #[.slice a n c] w (PsPost f n w) := by
  obtain ⟨R, hR⟩ : ∃ R, R = pParse f n := ⟨_, rfl⟩
  unfold PsPost
  rw [← hR]
  unfold pParse at hR
  have HR := hid hr
  have Hf := hid hf
  have HRE := hid hR
  have HNIL := hid hnil
  have HF0 := hid ((Fr.refl Non w).alloc (.cells #[.int .i64 0, .int .i64 0, .int .i64 0, .int .i64 0] 23))
  have HB0 := hid (blk_new w (.cells #[.int .i64 0, .int .i64 0, .int .i64 0, .int .i64 0] 23))
  clear hr hf hR hnil
  go_enter Try.func31, Try.ntmps31
  by_cases h5 : n = 5
  · subst h5
    obtain ⟨b, off, rfl, hB, hx⟩ := HR.out.at (show 0 < 5 by decide)
    rw [Nat.add_zero] at hx
    obtain ⟨hx0, hx1⟩ := Hf.out 0 (by decide)
    obtain ⟨W, hW⟩ : ∃ W, W = w.alloc (.cells #[.int .i64 0, .int .i64 0, .int .i64 0, .int .i64 0] 23) := ⟨_, rfl⟩
    have hxW := HF0.out.cell hx id
    rw [← hW] at HF0 HB0 hxW
    obtain ⟨x, hxe⟩ : ∃ x, x = f 0 := ⟨_, rfl⟩
    rw [← hxe] at hx hx0 hx1 hxW
    have HXE := hid hxe
    clear hxe
    by_cases h225 : 225 ≤ x
    · have hc : decide (225 ≤ x) = true := decide_eq_true h225
      have HE := hid (show R = (⟨0, 0, 0, 0⟩, 11) by rw [HRE.out, if_pos (.inr (by rw [← HXE.out]; exact h225))])
      rw [HE.out]
      go_upto_region 2 with fail
      go_wp2_with fail
      refine bodyPost_ret (v := .tuple #[.agg #[.int .i64 0, .int .i64 0, .int .i64 0, .int .i64 0], .int .i64 11]) (results_cell_tmp_row' rfl _ _ w.heap.size 23 #[.int .i64 0, .int .i64 0, .int .i64 0, .int .i64 0] (0, 0) _ _ rfl rfl (by exact blk_new w _) Try.underlying23 rfl (by kernel_rfl)) rfl ?_
      exact ⟨rfl, (Fr.refl Non w).alloc _⟩
    · have hc : decide (225 ≤ x) = false := decide_eq_false h225
      have HE := hid (show R = (pSet f, 0) by rw [HRE.out, if_neg (by rw [← HXE.out]; intro e; exact e.elim (fun e => e rfl) h225)])
      have HX9 := hid (show x < 225 by omega)
      rw [HE.out]
      have hc8 : ¬ c = 1 := by have := HR.out; omega
      have hc7 : ¬ (c : Int) = 1 := by omega
      have hc5 : (5 : Int) ≤ (c : Int) := by omega
      clear h225
      go_upto_region 4 with fail
      rw [← hW]
      have HW := hid hW
      clear hW
      have HRW := hid (HR.out.fr HF0.out (fun _ _ => id))
      go_wp2_with fail
      refine (curNew_any (some ⟨b, off + 1, none⟩) 4 (c - 1) (fun i => f (i + 1)) W (by decide) (by omega) (fun e => by cases e) (.inr ⟨b, off + 1, rfl, Nat.lt_of_lt_of_le hB HF0.out.size, fun i hi => by
        rcases HRW.out with h | ⟨b', o', e, hb, hcc⟩
        · cases h
        · injection e with e; injection e with e1 e2
          subst e1 e2
          have := hcc (i + 1) (by omega)
          rw [show off + (i + 1) = off + 1 + i by omega] at this
          exact this⟩)).mono ?_
      rintro e w1 ⟨g, a', c', rfl, hf1, hcur, hrow, hc1, hc2, hg0, hg1⟩
      have F1 := hid hf1
      have CUR := hid hcur
      have ROW := hid hrow
      have HB1 := hid (hf1.blk HB0.out id)
      have HG := hid hg0
      clear hf1 hcur hrow
      go_wp2_with fail
      refine (num4 w1 g a' c' _ CUR.out hc1 hc2 ROW.out (fun i hi => Hf.out (i + 1) (by omega))).mono ?_
      rintro e w2 ⟨rfl, hf2⟩
      have F2 := hid (F1.out.then hf2 (fun k hk e => by have e' : k = g := e; have := HG.out; omega))
      have hgW : w.heap.size ≠ g := by have := HG.out; have := blk_lt HB0.out; omega
      have HB2 := hid (hf2.blk HB1.out hgW)
      clear hf2 hgW
      obtain ⟨v, hv⟩ : ∃ v, v = leN (fun i => f (i + 1)) 4 := ⟨_, rfl⟩
      rw [← hv]
      have hbd := leN_bd (f := fun i => f (i + 1)) 4 (fun i hi => Hf.out (i + 1) (by omega))
      rw [← hv] at hbd
      have hv0 : 0 ≤ v := hbd.1
      have hv1 : v < 4294967296 := hbd.2
      have HVE := hid (show v = f 1 + 256 * f 2 + 65536 * f 3 + 16777216 * f 4 by rw [hv, leN4])
      clear hv hbd
      have hcv : IntKind.i64.wrap v = v := by rw [IntKind.wrap_i64]; omega
      by_cases hv4 : 4096 < v
      · have hv4' : ¬ v ≤ 4096 := by omega
        have HM := hid (show max 4096 v = v by omega)
        go_wp2_with (refine wpList_store_row rfl 23 _ _ rfl w.heap.size #[.int .i64 (x % 9), .int .i64 (x / 9 % 5), .int .i64 (x / 45), .int .i64 v] rfl rfl 23 #[.int .i64 0, .int .i64 0, .int .i64 0, .int .i64 0] (by exact HB2.out) (by kernel_rfl) rfl (by kernel_rfl) ?_)
        refine bodyPost_ret (v := .tuple #[.agg #[.int .i64 (x % 9), .int .i64 (x / 9 % 5), .int .i64 (x / 45), .int .i64 v], .int .i64 0]) (results_cell_tmp_row' rfl _ _ w.heap.size 23 #[.int .i64 (x % 9), .int .i64 (x / 9 % 5), .int .i64 (x / 45), .int .i64 v] (0, 0) _ _ rfl rfl (by exact setRow_heap _ _ _ _ _ _ HB2.out) Try.underlying23 rfl (by kernel_rfl)) rfl ?_
        refine ⟨?_, setNew_fr (HF0.out.trans F2.out) (Nat.le_refl _) _⟩
        show _ = Ending.returned (.tuple #[.agg #[.int .i64 (f 0 % 9), .int .i64 (f 0 / 9 % 5), .int .i64 (f 0 / 45), .int .i64 (max 4096 (f 1 + 256 * f 2 + 65536 * f 3 + 16777216 * f 4))], .int .i64 0])
        rw [← HVE.out, ← HXE.out, HM.out]
      · have hv4' : v ≤ 4096 := by omega
        have HM := hid (show max 4096 v = 4096 by omega)
        go_wp2_with (refine wpList_store_row rfl 23 _ _ rfl w.heap.size #[.int .i64 (x % 9), .int .i64 (x / 9 % 5), .int .i64 (x / 45), .int .i64 4096] rfl rfl 23 #[.int .i64 0, .int .i64 0, .int .i64 0, .int .i64 0] (by exact HB2.out) (by kernel_rfl) rfl (by kernel_rfl) ?_)
        refine bodyPost_ret (v := .tuple #[.agg #[.int .i64 (x % 9), .int .i64 (x / 9 % 5), .int .i64 (x / 45), .int .i64 4096], .int .i64 0]) (results_cell_tmp_row' rfl _ _ w.heap.size 23 #[.int .i64 (x % 9), .int .i64 (x / 9 % 5), .int .i64 (x / 45), .int .i64 4096] (0, 0) _ _ rfl rfl (by exact setRow_heap _ _ _ _ _ _ HB2.out) Try.underlying23 rfl (by kernel_rfl)) rfl ?_
        refine ⟨?_, setNew_fr (HF0.out.trans F2.out) (Nat.le_refl _) _⟩
        show _ = Ending.returned (.tuple #[.agg #[.int .i64 (f 0 % 9), .int .i64 (f 0 / 9 % 5), .int .i64 (f 0 / 45), .int .i64 (max 4096 (f 1 + 256 * f 2 + 65536 * f 3 + 16777216 * f 4))], .int .i64 0])
        rw [← HVE.out, ← HXE.out, HM.out]
  · have HE := hid (show R = (⟨0, 0, 0, 0⟩, 11) by rw [HRE.out, if_pos (.inl h5)])
    rw [HE.out]
    have hne : ((n : Int) == 5) = false := by simp; omega
    go_wp2_with fail
    refine bodyPost_ret (v := .tuple #[.agg #[.int .i64 0, .int .i64 0, .int .i64 0, .int .i64 0], .int .i64 11]) (results_cell_tmp_row' rfl _ _ w.heap.size 23 #[.int .i64 0, .int .i64 0, .int .i64 0, .int .i64 0] (0, 0) _ _ rfl rfl (by exact blk_new w _) Try.underlying23 rfl (by kernel_rfl)) rfl ?_
    exact ⟨rfl, (Fr.refl Non w).alloc _⟩
end Go.Proofs.Ytjnegcambbeblaa

/- lzma2: a limited source; the decoder's plain model; where it lies. -/
namespace Go.Proofs.Ytjnegcambbeblaa
open Go.RowKit

/-- so many bytes of a source. -/
def lnx {S : Type} (nx : S → Int × Bool × S) (x : S × Nat) : Int × Bool × (S × Nat) :=
  if x.2 = 0 then (0, false, x) else ((nx x.1).1, (nx x.1).2.1, ((nx x.1).2.2, x.2 - 1))
def LimAt {S : Type} (t : Sour S) (w : World) (g n : Nat) : Prop := w.heap[g]? = some (.cells #[.iface t.ty t.val, .int .i64 n] 186)
structure LimIs {S : Type} (t : Sour S) (g : Nat) (w : World) (x : S × Nat) : Prop where
  at_ : LimAt t w g x.2
  src : t.I w x.1
  apart : ¬ t.foot g
  few : x.2 ≤ 65536
def limFoot {S : Type} (t : Sour S) (g : Nat) : Nat → Prop := fun k => k = g ∨ t.foot k
theorem LimIs.keep {S : Type} {t : Sour S} {g : Nat} {w w' : World} {x : S × Nat} (h : LimIs t g w x) {T : Nat → Prop} (hf : Fr T w w') (ht : ∀ k, limFoot t g k → ¬ T k) : LimIs t g w' x :=
  ⟨hf.blk h.at_ (ht g (.inl rfl)), t.keep _ _ _ _ h.src hf (fun k hk => ht k (.inr hk)), h.apart, h.few⟩
set_option maxRecDepth 100000 in
theorem limNext_any {S : Type} (t : Sour S) (g : Nat) (x : S × Nat) (w : World) (h : LimIs t g w x) :
    Calls Try.prog 158 #[.pointer (some ⟨g, 0, none⟩)] w fun e w' => e = .returned (.tuple #[.int .u8 (lnx t.nx x).1, .bool (lnx t.nx x).2.1]) ∧ Fr (limFoot t g) w w' ∧ LimIs t g w' (lnx t.nx x).2.2 := by
  obtain ⟨s, n⟩ := x
  have c0 := blk_cell h.at_ (j := 0) (v := .iface t.ty t.val) rfl
  have c1 := blk_cell h.at_ (j := 1) (v := .int .i64 n) rfl
  have f1 := blk_frozen h.at_ 1
  have hfew : n ≤ 65536 := h.few
  have hn1 : (n : Int) ≤ 65536 := by omega
  have H := hid h
  clear h hfew
  unfold lnx
  by_cases hn : n = 0
  · subst hn
    rw [if_pos rfl]
    go_enter Try.func158, Try.ntmps158
    go_wp2_with fail
    go_ret2
    exact ⟨rfl, Fr.refl _ _, H.out⟩
  · rw [if_neg hn]
    have hb : ((n : Int) == 0) = false := by simp; omega
    have h1 : (1 : Int) ≤ (n : Int) := by omega
    have HN := hid hn
    clear hn
    have hf0 : Fr (fun k => k = g) w (w.setCell ⟨g, 1, none⟩ (.int .i64 ((n : Int) - 1))) := (Fr.refl _ _).setOne _ _
    have hi0 := t.keep _ _ _ _ H.out.src hf0 (fun k hk e => H.out.apart (by have e : k = g := e; rw [← e]; exact hk))
    have HF0 := hid hf0
    have HI0 := hid hi0
    have HB0 := hid (blk_set (i := 1) (v := .int .i64 ((n : Int) - 1)) H.out.at_)
    clear hf0 hi0
    go_enter Try.func158, Try.ntmps158
    go_wp2_with (refine opInvoke rfl (.tmp 19) _ rfl t.ty t.val rfl t.fid t.val t.meth t.enter (fun K hK => ?_))
    refine (t.call _ _ HI0.out).mono ?_
    rintro e w1 ⟨rfl, hf1, hi1⟩
    have HF1 := hid hf1
    have HI1 := hid hi1
    clear hf1 hi1
    go_wp2_with fail
    go_ret2
    refine ⟨rfl, (HF0.out.mono (fun _ _ e => .inl e)).then HF1.out (fun _ _ e => .inr e), ?_, HI1.out, H.out.apart, by show n - 1 ≤ 65536; omega⟩
    have e := HF1.out.blk HB0.out H.out.apart
    rw [show ((n : Int) - 1) = ((n - 1 : Nat) : Int) by have := HN.out; omega] at e
    exact e
def lim {S : Type} (t : Sour S) (g : Nat) : Sour (S × Nat) where
  ty := 143
  val := .pointer (some ⟨g, 0, none⟩)
  fid := 158
  foot := limFoot t g
  I := LimIs t g
  nx := lnx t.nx
  byte := fun x => by
    unfold lnx
    split
    · show (0 : Int) ≤ 0 ∧ (0 : Int) < 256; omega
    · exact t.byte _
  meth := fun w => by kernel_rfl
  enter := fun w => by kernel_rfl
  call := fun w s h => limNext_any t g s w h
  keep := fun w w' s T h hf ht => h.keep hf ht

/-! ### the decoder, plain -/
structure L2 (S : Type) where
  c : LS
  mode : Option (RD (AhS (S × Nat)))
  s : S
  lc : Nat
  lp : Nat
  pb : Nat
  dict : Nat
  left : Nat
  emptied : Bool
  stated : Bool
  setted : Bool
  ended : Bool
  bad : Bool
def L2.src {S : Type} (z : L2 S) : S := match z.mode with
  | none => z.s
  | some rd => rd.src.s.1
/-- no packed chunk is on. -/
def L2.idle {S : Type} (z : L2 S) : L2 S := { z with mode := none, s := z.src }
def L2.byte {S : Type} (nx : S → Int × Bool × S) (z : L2 S) : Int × L2 S := ((nx z.s).1, { z with s := (nx z.s).2.2, bad := z.bad || !(nx z.s).2.1 })
def L2.pair {S : Type} (nx : S → Int × Bool × S) (z : L2 S) : Nat × L2 S := (((z.byte nx).1 * 256 + ((z.byte nx).2.byte nx).1 + 1).toNat, ((z.byte nx).2.byte nx).2)
def L2.empty {S : Type} (z : L2 S) : L2 S := { z with c := { z.c with H := [], place := 0 }, emptied := true, stated := false, setted := false }
def L2.plain {S : Type} (nx : S → Int × Bool × S) (k : Int) (z : L2 S) : L2 S :=
  let y := if k = 1 then z.empty else z
  { (y.pair nx).2 with left := (y.pair nx).1, bad := (y.pair nx).2.bad || !(y.pair nx).2.emptied }
def bySet (b : Int) : Lset × Int := pParse (fun i => if i = 0 then b else 0) 5
def L2.setting {S : Type} (nx : S → Int × Bool × S) (z : L2 S) : L2 S :=
  if (bySet (z.byte nx).1).2 ≠ 0 ∨ 4 < (bySet (z.byte nx).1).1.lc + (bySet (z.byte nx).1).1.lp then { (z.byte nx).2 with bad := true }
  else { (z.byte nx).2 with lc := (bySet (z.byte nx).1).1.lc.toNat, lp := (bySet (z.byte nx).1).1.lp.toNat, pb := (bySet (z.byte nx).1).1.pb.toNat, setted := true }
def L2.st0 {S : Type} (how : Int) (z : L2 S) : L2 S := if how = 3 then z.empty else z
def L2.st2 {S : Type} (nx : S → Int × Bool × S) (how : Int) (z : L2 S) : L2 S := if 2 ≤ how then z.setting nx else z
def L2.st3 {S : Type} (how : Int) (z : L2 S) : L2 S := if 1 ≤ how then { z with stated := true } else z
def L2.judge {S : Type} (z : L2 S) : L2 S := { z with bad := z.bad || (!z.emptied || (!z.setted || !z.stated)) }
/-- a packed chunk is on. -/
def L2.pack1 {S : Type} (nx : S → Int × Bool × S) (how : Int) (z : L2 S) (left packed : Nat) : L2 S :=
  { z with c := if 1 ≤ how then z.c.reset z.lc z.lp z.pb else z.c, left := left, mode := some (RD.new (anx (lnx nx)) ⟨(z.s, packed), 0, false⟩) }
def L2.packEnd {S : Type} (nx : S → Int × Bool × S) (how : Int) (z : L2 S) (left packed : Nat) : L2 S := if z.bad = true then z else z.pack1 nx how left packed
/-- a packed chunk's beginning. -/
def L2.pack {S : Type} (nx : S → Int × Bool × S) (k : Int) (z : L2 S) : L2 S :=
  L2.packEnd nx (k / 32 - 4) (L2.judge (L2.st3 (k / 32 - 4) (L2.st2 nx (k / 32 - 4) ((((z.st0 (k / 32 - 4)).pair nx).2.pair nx).2)))) ((k % 32) * 65536 + (((z.st0 (k / 32 - 4)).pair nx).1 : Int)).toNat ((((z.st0 (k / 32 - 4)).pair nx).2.pair nx).1)
/-- a chunk's beginning by its first byte, or the end. -/
def L2.chunk1 {S : Type} (nx : S → Int × Bool × S) (k : Int) (z : L2 S) : L2 S :=
  if z.bad = true then z
  else if k = 0 then { z with ended := true }
  else if k ≤ 2 then z.plain nx k
  else if 128 ≤ k then z.pack nx k
  else { z with bad := true }
def L2.chunk {S : Type} (nx : S → Int × Bool × S) (z : L2 S) : L2 S := ((z.idle.byte nx).2).chunk1 nx (z.idle.byte nx).1
def L2.closed {S : Type} (z : L2 S) : Bool := match z.mode with
  | none => true
  | some rd => lwhole z.c rd && decide (rd.src.s.2 = 0)
def L2.spoil {S : Type} (z : L2 S) : L2 S := { z with bad := true }
def L2.open_ {S : Type} (nx : S → Int × Bool × S) (z : L2 S) : Bool × L2 S :=
  if z.bad = true ∨ z.ended = true then (false, z)
  else if z.left = 0 then
    if z.closed = true then (!(z.chunk nx).bad && !(z.chunk nx).ended, z.chunk nx) else (false, z.spoil)
  else (true, z)
/-- a byte of the chunk that is on. -/
def L2.take {S : Type} (nx : S → Int × Bool × S) (L : LL) (z : L2 S) : (Int × Bool) × L2 S := match z.mode with
  | none => if (z.byte nx).2.bad = true then ((0, false), (z.byte nx).2) else (((z.byte nx).1, true), { (z.byte nx).2 with c := lputS z.c (z.byte nx).1 })
  | some rd => ((lnext (anx (lnx nx)) L z.c rd).1, { z with c := (lnext (anx (lnx nx)) L z.c rd).2.1, mode := some (lnext (anx (lnx nx)) L z.c rd).2.2, bad := !(lnext (anx (lnx nx)) L z.c rd).1.2 })
def L2.next {S : Type} (nx : S → Int × Bool × S) (L : LL) (z : L2 S) : (Int × Bool) × L2 S :=
  if (z.open_ nx).1 = true then ({ (z.open_ nx).2 with left := (z.open_ nx).2.left - 1 } : L2 S).take nx L else ((0, false), (z.open_ nx).2)
/-- whether the stream ends; the decoder behind it. -/
def L2.finish {S : Type} (nx : S → Int × Bool × S) (z : L2 S) : Bool :=
  if z.left = 0 then
    !(z.open_ nx).1 && ((z.open_ nx).2.ended && (!(z.open_ nx).2.bad && !(nx (z.open_ nx).2.src).2.1))
  else false
end Go.Proofs.Ytjnegcambbeblaa

/- lzma2: where a decoder lies; byte, pair, empty. -/
namespace Go.Proofs.Ytjnegcambbeblaa
open Go.RowKit

def L2.cells {S : Type} (z : L2 S) (L : LL) (sv pv : Value) : Array Value :=
  #[.pointer (some ⟨L.gd, 0, none⟩), .int .i64 z.lc, .int .i64 z.lp, .int .i64 z.pb, .int .i64 z.dict, sv, pv, .int .i64 z.left, .bool z.emptied, .bool z.stated, .bool z.setted, .bool z.ended, .bool z.bad]
structure L2.Ok {S : Type} (L : LL) (z : L2 S) : Prop where
  lclp : z.lc + z.lp ≤ 4
  pb : z.pb ≤ 4
  nl : L.nl = 12288
  left : z.left ≤ 2097152
theorem L2.Ok.set {S : Type} {L : LL} {z : L2 S} (h : z.Ok L) : SetOk L z.lc z.lp z.pb := by
  refine ⟨by have := h.lclp; omega, by have := h.lclp; omega, h.pb, ?_⟩
  rw [h.nl]
  have : 2 ^ (z.lc + z.lp) ≤ 2 ^ 4 := Nat.pow_le_pow_right (by decide) h.lclp
  omega
def L2.foot {S : Type} (L : LL) (t : Sour S) (g : Nat) : Nat → Prop := fun k => k = g ∨ L.foot k ∨ t.foot k
/-- a decoder that reads, or is idle. -/
structure L2At {S : Type} (L : LL) (t : Sour S) (g : Nat) (pv sp rp : Value) (w : World) (z : L2 S) : Prop where
  at_ : w.heap[g]? = some (.cells (z.cells L (.iface t.ty t.val) pv) 145)
  core : LIs L sp rp w z.c
  src : t.I w z.s
  ng : ¬ L.foot g
  nt : ¬ t.foot g
  ap : ∀ k, L.foot k → ¬ t.foot k
  ok : z.Ok L
theorem L2At.keep {S : Type} {L : LL} {t : Sour S} {g : Nat} {pv sp rp : Value} {w w' : World} {z : L2 S} (h : L2At L t g pv sp rp w z) {T : Nat → Prop} (hf : Fr T w w') (ht : ∀ k, L2.foot L t g k → ¬ T k) : L2At L t g pv sp rp w' z :=
  ⟨hf.blk h.at_ (ht g (.inl rfl)), h.core.keep hf (fun k hk => ht k (.inr (.inl hk))), t.keep _ _ _ _ h.src hf (fun k hk => ht k (.inr (.inr hk))), h.ng, h.nt, h.ap, h.ok⟩
theorem L2At.cell {S : Type} {L : LL} {t : Sour S} {g : Nat} {pv sp rp : Value} {w : World} {z : L2 S} (h : L2At L t g pv sp rp w z) (i : Nat) {v : Value} (hv : (z.cells L (.iface t.ty t.val) pv)[i]? = some v) : w.cell? ⟨g, i, none⟩ = some v := blk_cell h.at_ hv
theorem L2At.set {S : Type} {L : LL} {t : Sour S} {g : Nat} {pv pv' sp rp : Value} {w : World} {z z' : L2 S} (h : L2At L t g pv sp rp w z) {i : Nat} {v : Value} (hc : (z.cells L (.iface t.ty t.val) pv).setIfInBounds i v = z'.cells L (.iface t.ty t.val) pv') (h1 : z'.c = z.c) (h2 : z'.s = z.s) (hok : z'.Ok L) : L2At L t g pv' sp rp (w.setCell ⟨g, i, none⟩ v) z' := by
  have hf : Fr (fun k => k = g) w (w.setCell ⟨g, i, none⟩ v) := (Fr.refl _ _).setOne _ _
  refine ⟨?_, by rw [h1]; exact h.core.keep hf (fun k hk e => h.ng (by have e' : k = g := e; rw [← e']; exact hk)), by rw [h2]; exact t.keep _ _ _ _ h.src hf (fun k hk e => h.nt (by have e' : k = g := e; rw [← e']; exact hk)), h.ng, h.nt, h.ap, hok⟩
  have e := blk_set (i := i) (v := v) h.at_
  rw [hc] at e
  exact e
/-- the source has gone on. -/
theorem L2At.srcTo {S : Type} {L : LL} {t : Sour S} {g : Nat} {pv sp rp : Value} {w w' : World} {z : L2 S} (h : L2At L t g pv sp rp w z) (hf : Fr t.foot w w') {s' : S} (hs : t.I w' s') : L2At L t g pv sp rp w' { z with s := s' } :=
  ⟨hf.blk h.at_ h.nt, h.core.keep hf h.ap, hs, h.ng, h.nt, h.ap, ⟨h.ok.lclp, h.ok.pb, h.ok.nl, h.ok.left⟩⟩
/-- the core has gone on. -/
theorem L2At.coreTo {S : Type} {L : LL} {t : Sour S} {g : Nat} {pv sp rp : Value} {w w' : World} {z : L2 S} (h : L2At L t g pv sp rp w z) (hf : Fr L.foot w w') {c' : LS} (hs : LIs L sp rp w' c') : L2At L t g pv sp rp w' { z with c := c' } :=
  ⟨hf.blk h.at_ h.ng, hs, t.keep _ _ _ _ h.src hf (fun k hk e => h.ap k e hk), h.ng, h.nt, h.ap, ⟨h.ok.lclp, h.ok.pb, h.ok.nl, h.ok.left⟩⟩
def L2Post {S : Type} (L : LL) (t : Sour S) (g : Nat) (pv sp rp v : Value) (z : L2 S) (w : World) (e : Ending) (w' : World) : Prop := e = .returned v ∧ Fr (L2.foot L t g) w w' ∧ L2At L t g pv sp rp w' z
theorem L2.byte_by {S : Type} (t : Sour S) (z : L2 S) : 0 ≤ (z.byte t.nx).1 ∧ (z.byte t.nx).1 < 256 := t.byte z.s
set_option maxRecDepth 100000 in
theorem l2byte_any {S : Type} (L : LL) (t : Sour S) (g : Nat) (pv sp rp : Value) (z : L2 S) (w : World) (h : L2At L t g pv sp rp w z) :
    Calls Try.prog 73 #[.pointer (some ⟨g, 0, none⟩)] w (L2Post L t g pv sp rp (.int .i64 (z.byte t.nx).1) (z.byte t.nx).2 w) := by
  have c5 := h.cell 5 (v := .iface t.ty t.val) rfl
  obtain ⟨x, hx⟩ : ∃ x, x = (t.nx z.s).1 := ⟨_, rfl⟩
  obtain ⟨ok, hok⟩ : ∃ ok, ok = (t.nx z.s).2.1 := ⟨_, rfl⟩
  obtain ⟨b, hb⟩ : ∃ b, b = z.bad := ⟨_, rfl⟩
  have hxb := t.byte z.s
  rw [← hx] at hxb
  have hcall := t.call w z.s h.src
  rw [← hx, ← hok] at hcall
  have HC := hid hcall
  have HX := hid hx
  have HOK := hid hok
  have HB := hid hb
  have H := hid h
  obtain ⟨hx0, hx1⟩ := hxb
  have hw : IntKind.i64.wrap x = x := by rw [IntKind.wrap_i64]; omega
  clear h hcall hx hok hb
  go_enter Try.func73, Try.ntmps73
  go_wp2_with (refine opInvoke rfl (.tmp 9) _ rfl t.ty t.val rfl t.fid t.val t.meth t.enter (fun K hK => ?_))
  refine HC.out.mono ?_
  rintro e w1 ⟨rfl, hf1, hi1⟩
  have h1 := H.out.srcTo hf1 hi1
  have c12 := h1.cell 12 (v := .bool z.bad) rfl
  rw [← HB.out] at c12
  have z12 := blk_frozen h1.at_ 12
  have HF1 := hid (hf1.mono (fun _ _ e => .inr (.inr e)) : Fr (L2.foot L t g) w w1)
  have H1 := hid h1
  clear hf1 hi1 h1 c5
  have hfin : ∀ q, q = (b || !ok) → L2Post L t g pv sp rp (.int .i64 (z.byte t.nx).1) (z.byte t.nx).2 w (.returned (.int .i64 x)) (w1.setCell ⟨g, 12, none⟩ (.bool q)) := by
    intro q hq
    refine ⟨by rw [HX.out]; rfl, HF1.out.setCell (p := ⟨g, 12, none⟩) (fun _ => .inl rfl) _, ?_⟩
    refine H1.out.set (z' := (z.byte t.nx).2) ?_ rfl rfl ⟨H.out.ok.lclp, H.out.ok.pb, H.out.ok.nl, H.out.ok.left⟩
    rw [hq, HB.out, HOK.out]
    rfl
  have HFIN := hid hfin
  clear hfin
  cases b with
  | true =>
    go_wp2_with fail
    go_ret
    exact HFIN.out true rfl
  | false =>
    go_wp2_with fail
    go_ret
    exact HFIN.out (!ok) rfl
theorem L2.byte_ok {S : Type} (nx : S → Int × Bool × S) {L : LL} {z : L2 S} (h : z.Ok L) : (z.byte nx).2.Ok L := ⟨h.lclp, h.pb, h.nl, h.left⟩
theorem L2.pair_ok {S : Type} (nx : S → Int × Bool × S) {L : LL} {z : L2 S} (h : z.Ok L) : (z.pair nx).2.Ok L := ⟨h.lclp, h.pb, h.nl, h.left⟩
theorem L2.pair_by {S : Type} (t : Sour S) (z : L2 S) : 1 ≤ (z.pair t.nx).1 ∧ (z.pair t.nx).1 ≤ 65536 := by
  have h1 := L2.byte_by t z
  have h2 := L2.byte_by t (z.byte t.nx).2
  show 1 ≤ ((z.byte t.nx).1 * 256 + ((z.byte t.nx).2.byte t.nx).1 + 1).toNat ∧ _ ≤ 65536
  unfold L2.pair
  dsimp only
  omega
set_option maxRecDepth 100000 in
theorem l2pair_any {S : Type} (L : LL) (t : Sour S) (g : Nat) (pv sp rp : Value) (z : L2 S) (w : World) (h : L2At L t g pv sp rp w z) :
    Calls Try.prog 131 #[.pointer (some ⟨g, 0, none⟩)] w (L2Post L t g pv sp rp (.int .i64 ((z.pair t.nx).1 : Nat)) (z.pair t.nx).2 w) := by
  have H := hid h
  have hb1 := L2.byte_by t z
  have hb2 := L2.byte_by t (z.byte t.nx).2
  obtain ⟨R, hR⟩ : ∃ R, R = z.pair t.nx := ⟨_, rfl⟩
  rw [← hR]
  unfold L2.pair at hR
  have C1 := hid (l2byte_any L t g pv sp rp z w h)
  have C2 := hid (fun w1 (h1 : L2At L t g pv sp rp w1 (z.byte t.nx).2) => l2byte_any L t g pv sp rp (z.byte t.nx).2 w1 h1)
  generalize z.byte t.nx = a at C1 C2 hb1 hb2 hR
  obtain ⟨x, z1⟩ := a
  dsimp only at C1 C2 hb1 hb2 hR
  generalize z1.byte t.nx = a at C2 hb2 hR
  obtain ⟨y, z2⟩ := a
  dsimp only at C2 hb2 hR
  obtain ⟨x0, x1⟩ := hb1
  obtain ⟨y0, y1⟩ := hb2
  have HR := hid hR
  clear h hR
  have hw1 : IntKind.i64.wrap (x * 256) = x * 256 := by rw [IntKind.wrap_i64]; omega
  have hw2 : IntKind.i64.wrap (x * 256 + y) = x * 256 + y := by rw [IntKind.wrap_i64]; omega
  have hw3 : IntKind.i64.wrap (x * 256 + y + 1) = x * 256 + y + 1 := by rw [IntKind.wrap_i64]; omega
  go_enter Try.func131, Try.ntmps131
  go_wp2_with fail
  refine C1.out.mono ?_
  rintro e w1 ⟨rfl, hf1, h1⟩
  have HF1 := hid hf1
  have H1 := hid h1
  clear hf1 h1
  go_wp2_with fail
  refine (C2.out _ H1.out).mono ?_
  rintro e w2 ⟨rfl, hf2, h2⟩
  have HF2 := hid (HF1.out.trans hf2)
  have H2 := hid h2
  clear hf2 h2
  go_wp2_with fail
  go_ret
  rw [HR.out]
  refine ⟨?_, HF2.out, H2.out⟩
  rw [show (((x * 256 + y + 1).toNat : Nat) : Int) = x * 256 + y + 1 by omega]
  rfl
set_option maxRecDepth 100000 in
theorem l2empty_any {S : Type} (L : LL) (t : Sour S) (g : Nat) (pv sp rp : Value) (z : L2 S) (w : World) (h : L2At L t g pv sp rp w z) :
    Calls Try.prog 130 #[.pointer (some ⟨g, 0, none⟩)] w (L2Post L t g pv sp rp (.tuple #[]) z.empty w) := by
  have c0 := h.cell 0 (v := .pointer (some ⟨L.gd, 0, none⟩)) rfl
  have H := hid h
  clear h
  go_enter Try.func130, Try.ntmps130
  go_wp2_with fail
  refine (lempty_any L sp rp z.c w H.out.core).mono ?_
  rintro e w1 ⟨rfl, hf1, hc1⟩
  have h1 := H.out.coreTo hf1 hc1
  have c8 := h1.cell 8 (v := .bool z.emptied) rfl
  have c9 := h1.cell 9 (v := .bool z.stated) rfl
  have c10 := h1.cell 10 (v := .bool z.setted) rfl
  have z8 := blk_frozen h1.at_ 8
  have z9 := blk_frozen h1.at_ 9
  have z10 := blk_frozen h1.at_ 10
  have HF1 := hid (hf1.mono (fun _ _ e => .inr (.inl e)) : Fr (L2.foot L t g) w w1)
  have H1 := hid h1
  clear hf1 hc1 h1 c0
  go_wp2_with fail
  go_end0
  have g1 := H1.out.set (z' := { z with c := { z.c with H := [], place := 0 }, emptied := true }) (i := 8) (v := .bool true) rfl rfl rfl ⟨H.out.ok.lclp, H.out.ok.pb, H.out.ok.nl, H.out.ok.left⟩
  have g2 := g1.set (z' := { z with c := { z.c with H := [], place := 0 }, emptied := true, stated := false }) (i := 9) (v := .bool false) rfl rfl rfl ⟨H.out.ok.lclp, H.out.ok.pb, H.out.ok.nl, H.out.ok.left⟩
  have g3 := g2.set (z' := z.empty) (i := 10) (v := .bool false) rfl rfl rfl ⟨H.out.ok.lclp, H.out.ok.pb, H.out.ok.nl, H.out.ok.left⟩
  exact ⟨rfl, ((HF1.out.setCell (p := ⟨g, 8, none⟩) (fun _ => .inl rfl) _).setCell (p := ⟨g, 9, none⟩) (fun _ => .inl rfl) _).setCell (p := ⟨g, 10, none⟩) (fun _ => .inl rfl) _, g3⟩
end Go.Proofs.Ytjnegcambbeblaa
