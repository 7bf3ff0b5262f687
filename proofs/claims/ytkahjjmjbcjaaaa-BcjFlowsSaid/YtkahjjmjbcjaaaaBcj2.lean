/- bcj: turn. -/
import Derived.Laws.BitsAllLaws
import Derived.Test.YtkahjjmjbcjaaaaBcj
import Derived.Deep.CutBlock
import Derived.Deep.DeepCutAuto
namespace Go.Proofs.Ytkahjjmjbcjaaaa
open Go.RowKit

def flipT (t M : Int) : Int := t - t % M + (M - 1 - t % M)
def lowM (m : Nat) : Int := if m = 1 then 16777216 else if m = 2 then 65536 else 256
def topB (m : Nat) (t : Int) : Int := t / (lowM m / 256) % 256

theorem flip_add (s c : Int) : 
   ((flipT ((s + c) % 4294967296) 16777216 + c) % 4294967296) % 16777216 = 16777215 - s % 16777216 ∧
   ((flipT ((s + c) % 4294967296) 65536 + c) % 4294967296) % 65536 = 65535 - s % 65536 ∧
   ((flipT ((s + c) % 4294967296) 256 + c) % 4294967296) % 256 = 255 - s % 256 := by
  unfold flipT
  omega
theorem topB_mod (t : Int) : topB 1 t = t % 16777216 / 65536 ∧ topB 2 t = t % 65536 / 256 ∧ topB 4 t = t % 256 := by
  refine ⟨?_, ?_, ?_⟩
  · show t / (16777216 / 256) % 256 = _; omega
  · show t / (65536 / 256) % 256 = _; omega
  · show t / (256 / 256) % 256 = _; omega
theorem or_shift (a c : Int) (k : Nat) (ha : 0 ≤ a) (ha2 : a < 2 ^ k) (hc : 0 ≤ c) (h : a + c * 2 ^ k < 4294967296) : bits .or .u32 a (c * 2 ^ k) = a + c * 2 ^ k := by
  have h2 : (0:Int) < 2 ^ k := Int.pow_pos (by decide)
  have h3 : 0 ≤ c * 2 ^ k := Int.mul_nonneg hc (by omega)
  rw [u32_or _ _ ha (by omega) h3 (by omega)]
  obtain ⟨a', rfl⟩ := Int.eq_ofNat_of_zero_le ha
  obtain ⟨c', rfl⟩ := Int.eq_ofNat_of_zero_le hc
  have e : ((c' : Int) * 2 ^ k) = ((2 ^ k * c' : Nat) : Int) := by simp [Int.mul_comm]
  rw [e]
  have ha3 : a' < 2 ^ k := by
    have : ((2:Int) ^ k) = ((2 ^ k : Nat) : Int) := by simp
    rw [this] at ha2
    exact Int.ofNat_lt.1 ha2
  simp only [Int.toNat_natCast]
  rw [Nat.or_comm, ← Nat.two_pow_add_eq_or_of_lt ha3]
  omega
theorem nat_xor_low (x k : Nat) : x ^^^ (2 ^ k - 1) = 2 ^ k * (x / 2 ^ k) + (2 ^ k - (x % 2 ^ k + 1)) := by
  have hm : x % 2 ^ k < 2 ^ k := Nat.mod_lt _ (Nat.pow_pos (by decide))
  apply Nat.eq_of_testBit_eq
  intro i
  rw [Nat.testBit_two_pow_mul_add _ (by omega), Nat.testBit_xor, Nat.testBit_two_pow_sub_one]
  by_cases h : i < k
  · rw [if_pos h, Nat.testBit_two_pow_sub_succ hm]
    simp [h, Nat.testBit_mod_two_pow]
  · rw [if_neg h]
    simp [h, Nat.testBit_div_two_pow]
    congr 1; omega
theorem xor_low (t : Int) (k : Nat) (hk : k ≤ 32) (h0 : 0 ≤ t) (h1 : t < 4294967296) : bits .xor .u32 t (((2 ^ k : Nat) : Int) - 1) = flipT t ((2 ^ k : Nat) : Int) := by
  have hp : 0 < 2 ^ k := Nat.pow_pos (by decide)
  have hp2 : 2 ^ k ≤ 2 ^ 32 := Nat.pow_le_pow_right (by decide) hk
  rw [u32_xor _ _ h0 h1 (by omega) (by omega)]
  obtain ⟨t', rfl⟩ := Int.eq_ofNat_of_zero_le h0
  have e : (((2 ^ k : Nat) : Int) - 1).toNat = 2 ^ k - 1 := by omega
  rw [e]
  simp only [Int.toNat_natCast]
  rw [nat_xor_low]
  unfold flipT
  generalize 2 ^ k = M at *
  have hd := Nat.div_add_mod t' M
  have hm : t' % M < M := Nat.mod_lt _ hp
  have e2 : ((t' : Int) % (M : Int)) = ((t' % M : Nat) : Int) := by simp
  rw [e2]
  omega
theorem word4_or (a b c d : Int) (ha : 0 ≤ a ∧ a < 256) (hb : 0 ≤ b ∧ b < 256) (hc : 0 ≤ c ∧ c < 256) (hd : 0 ≤ d ∧ d < 256) :
    bits .or .u32 (bits .or .u32 (bits .or .u32 (a % 4294967296) (b % 4294967296 * 256 % 4294967296)) (c % 4294967296 * 65536 % 4294967296)) (d % 4294967296 * 16777216 % 4294967296) = a + 256 * b + 65536 * c + 16777216 * d := by
  have e1 : a % 4294967296 = a := by omega
  have e2 : b % 4294967296 * 256 % 4294967296 = b * 2 ^ 8 := by omega
  have e3 : c % 4294967296 * 65536 % 4294967296 = c * 2 ^ 16 := by omega
  have e4 : d % 4294967296 * 16777216 % 4294967296 = d * 2 ^ 24 := by omega
  rw [e1, e2, e3, e4, or_shift a b 8 (by omega) (by omega) (by omega) (by omega), or_shift _ c 16 (by omega) (by omega) (by omega) (by omega), or_shift _ d 24 (by omega) (by omega) (by omega) (by omega)]
  omega

def BW.turned (b : BW) (s : Int) : Int := if b.mask = 0 then b.target s else if edgeB (topB b.mask (b.target s)) = true then b.target (flipT (b.target s) (lowM b.mask)) else b.target s
theorem target_range (b : BW) (s : Int) : 0 ≤ b.target s ∧ b.target s < 4294967296 := by
  unfold BW.target
  cases b.code <;> simp only [if_true, if_false, Bool.false_eq_true] <;> omega
theorem turned_range (b : BW) (s : Int) : 0 ≤ b.turned s ∧ b.turned s < 4294967296 := by
  unfold BW.turned
  by_cases h : b.mask = 0
  · rw [if_pos h]; exact target_range _ _
  · rw [if_neg h]
    by_cases h2 : edgeB (topB b.mask (b.target s)) = true
    · rw [if_pos h2]; exact target_range _ _
    · rw [if_neg h2]; exact target_range _ _
def wordOf (f : Nat → Int) : Int := f 1 + 256 * f 2 + 65536 * f 3 + 16777216 * f 4
/-- the four bytes behind, of t. -/
def put4 (f : Nat → Int) (t : Int) : Nat → Int := upd (upd (upd (upd f 1 (t % 256)) 2 (t / 256 % 256)) 3 (t / 65536 % 256)) 4 (-(t / 16777216 % 2) % 256)
theorem top_flip (b : BW) (s : Int) (m : Nat) (hm : m = 1 ∨ m = 2 ∨ m = 4) : topB m (b.target (flipT (b.target s) (lowM m))) = 255 - topB m s := by
  have ht : ∃ c, ∀ x, b.target x = (x + c) % 4294967296 := by
    unfold BW.target
    cases b.code with
    | true => exact ⟨b.place + 5, fun x => by rw [if_pos rfl]; congr 1; omega⟩
    | false => exact ⟨-b.place - 5, fun x => by rw [if_neg (by decide)]; congr 1; omega⟩
  obtain ⟨c, hc⟩ := ht
  rw [hc, hc]
  obtain ⟨h1, h2, h3⟩ := flip_add s c
  obtain ⟨p1, p2, p3⟩ := topB_mod ((flipT ((s + c) % 4294967296) (lowM m) + c) % 4294967296)
  obtain ⟨q1, q2, q3⟩ := topB_mod s
  rcases hm with rfl | rfl | rfl
  · rw [p1, q1]; show (flipT ((s + c) % 4294967296) 16777216 + c) % 4294967296 % 16777216 / 65536 = _; rw [h1]; omega
  · rw [p2, q2]; show (flipT ((s + c) % 4294967296) 65536 + c) % 4294967296 % 65536 / 256 = _; rw [h2]; omega
  · rw [p3, q3]; show (flipT ((s + c) % 4294967296) 256 + c) % 4294967296 % 256 = _; rw [h3]
theorem edge_flip (x : Int) : edgeB (255 - x) = edgeB x := by
  unfold edgeB
  have e1 : (255 - x == 0) = (x == 255) := by
    rw [Bool.eq_iff_iff]; simp only [beq_iff_eq]; omega
  have e2 : (255 - x == 255) = (x == 0) := by
    rw [Bool.eq_iff_iff]; simp only [beq_iff_eq]; omega
  rw [e1, e2, Bool.or_comm]
theorem turned_top (b : BW) (s : Int) (hm : b.mask = 1 ∨ b.mask = 2 ∨ b.mask = 4) (hs : edgeB (topB b.mask s) = false) : edgeB (topB b.mask (b.turned s)) = false := by
  unfold BW.turned
  rw [if_neg (by omega)]
  by_cases h2 : edgeB (topB b.mask (b.target s)) = true
  · rw [if_pos h2, top_flip b s _ hm, edge_flip]; exact hs
  · rw [if_neg h2]; simpa using h2

theorem and_one_u32 (x : Int) (h0 : 0 ≤ x) (h1 : x < 4294967296) : bits .and .u32 x 1 = x % 2 := by
  rw [u32_and x 1 h0 h1 (by decide) (by decide)]
  obtain ⟨a, rfl⟩ := Int.eq_ofNat_of_zero_le h0
  show ((a &&& 1 : Nat) : Int) = _
  rw [Nat.and_one_is_mod]
  omega

set_option maxRecDepth 100000 in
theorem turn_0 (g h : Nat) (b : BW) (f : Nat → Int) (ty : TypeId) (w : World) (hgh : g ≠ h) (hm : b.mask = 0) (hb : BWAt w g b) (hf : w.heap[h]? = some (.cells (arr .u8 5 f) ty)) (hx : ∀ i, i < 5 → 0 ≤ f i ∧ f i < 256) :
    Calls Try.prog 35 #[.pointer (some ⟨g, 0, none⟩), .pointer (some ⟨h, 0, none⟩)] w fun e w' => e = .returned (.tuple #[]) ∧ Fr (fun k => k = h) w w' ∧ w'.heap[h]? = some (.cells (arr .u8 5 (put4 f (b.turned (wordOf f)))) ty) := by
  have c0 := blk_cell hb (j := 0) (v := .int .u32 b.place) rfl
  have c2 := blk_cell hb (j := 2) (v := .int .i64 b.mask) rfl
  have c3 := blk_cell hb (j := 3) (v := .bool b.code) rfl
  have d1 := blk_cell hf (arr_get .u8 5 f (i := 1) (by decide))
  have d2 := blk_cell hf (arr_get .u8 5 f (i := 2) (by decide))
  have d3 := blk_cell hf (arr_get .u8 5 f (i := 3) (by decide))
  have d4 := blk_cell hf (arr_get .u8 5 f (i := 4) (by decide))
  have f1 := blk_frozen hf 1
  have f2 := blk_frozen hf 2
  have f3 := blk_frozen hf 3
  have f4 := blk_frozen hf 4
  have hne : h ≠ g := fun e => hgh e.symm
  rw [hm] at c2
  have HB := hid hb
  have HF := hid hf
  have HX := hid hx
  clear hb hf hx
  have hwd : _ = wordOf f := word4_or (f 1) (f 2) (f 3) (f 4) (HX.out 1 (by decide)) (HX.out 2 (by decide)) (HX.out 3 (by decide)) (HX.out 4 (by decide))
  go_enter Try.func35, Try.ntmps35
  go_wp2
  go_quiet (fail)
  go_wp2_with fail
  refine (btarget_any g b _ _ (by exact HB.out)).mono ?_
  rintro e w' ⟨rfl, rfl⟩
  clear hwd
  go_upto_block 0 with fail
  go_cut [5] (fun tv wx => ∃ n, wx = w.drewN n ∧ tv = .int .u32 (b.turned (wordOf f)))
  case first =>
    go_wp2_with fail
    go_loopw [5] (fun tv wr => ∃ x : Int, (x = b.target (wordOf f) ∨ x = b.turned (wordOf f)) ∧ tv = .int .u32 x ∧ ∃ n, wr = w.drewN n) (fun tv _ => if edgeB (topB b.mask (intOf tv)) = true then 1 else 0)
    case atStart => exact ⟨_, .inl rfl, rfl, _, rfl⟩
    case round =>
      obtain ⟨x, hx, rfl, n, rfl⟩ := hrel
      go_wp2_with fail
      go_meet
      refine ⟨n, rfl, ?_⟩
      have e : b.turned (wordOf f) = b.target (wordOf f) := if_pos hm
      rcases hx with h | h
      · rw [h, e]
      · rw [h]
  case rest =>
    obtain ⟨n, hcw, rfl⟩ := hcut
    subst hcw
    have HT := hid (turned_range b (wordOf f))
    generalize hT : b.turned (wordOf f) = T at *
    go_wp2
    go_region
    all_goals go_wp2
    go_end0
    refine ⟨rfl, ?_, ?_⟩
    · repeat (first | exact Fr.refl _ _ | refine Fr.drewN ?_ _ | refine Fr.drew ?_ | refine Fr.setOne ?_ _ _)
    · have e := blk_set (i := 4) (v := .int .u8 (-(T / 16777216 % 2) % 256)) (blk_set (i := 3) (v := .int .u8 (T / 65536 % 256)) (blk_set (i := 2) (v := .int .u8 (T / 256 % 256)) (blk_set (i := 1) (v := .int .u8 (T % 256)) (blk_drewN (n := n + 1) HF.out))))
      rw [arr_set, arr_set, arr_set, arr_set] at e
      rw [and_one_u32 _ (by have := HT.out; omega) (by have := HT.out; omega)]
      rw [hT]
      unfold put4
      exact e

theorem bit_1 (w : World) : Calls Try.prog 34 #[.int .i64 1] w fun e w' => e = .returned (.int .u64 1) ∧ w = w' := bbit_any 1 (by decide) w

set_option maxRecDepth 100000 in
theorem turn_1 (g h : Nat) (b : BW) (f : Nat → Int) (ty : TypeId) (w : World) (hgh : g ≠ h) (hm : b.mask = 1) (hs : edgeB (topB 1 (wordOf f)) = false) (hb : BWAt w g b) (hf : w.heap[h]? = some (.cells (arr .u8 5 f) ty)) (hx : ∀ i, i < 5 → 0 ≤ f i ∧ f i < 256) :
    Calls Try.prog 35 #[.pointer (some ⟨g, 0, none⟩), .pointer (some ⟨h, 0, none⟩)] w fun e w' => e = .returned (.tuple #[]) ∧ Fr (fun k => k = h) w w' ∧ w'.heap[h]? = some (.cells (arr .u8 5 (put4 f (b.turned (wordOf f)))) ty) := by
  have c0 := blk_cell hb (j := 0) (v := .int .u32 b.place) rfl
  have c2 := blk_cell hb (j := 2) (v := .int .i64 b.mask) rfl
  have c3 := blk_cell hb (j := 3) (v := .bool b.code) rfl
  have d1 := blk_cell hf (arr_get .u8 5 f (i := 1) (by decide))
  have d2 := blk_cell hf (arr_get .u8 5 f (i := 2) (by decide))
  have d3 := blk_cell hf (arr_get .u8 5 f (i := 3) (by decide))
  have d4 := blk_cell hf (arr_get .u8 5 f (i := 4) (by decide))
  have f1 := blk_frozen hf 1
  have f2 := blk_frozen hf 2
  have f3 := blk_frozen hf 3
  have f4 := blk_frozen hf 4
  have hne : h ≠ g := fun e => hgh e.symm
  rw [hm] at c2
  have HB := hid hb
  have HF := hid hf
  have HX := hid hx
  clear hb hf hx
  have hwd : _ = wordOf f := word4_or (f 1) (f 2) (f 3) (f 4) (HX.out 1 (by decide)) (HX.out 2 (by decide)) (HX.out 3 (by decide)) (HX.out 4 (by decide))
  go_enter Try.func35, Try.ntmps35
  go_wp2
  go_quiet (fail)
  go_wp2_with fail
  refine (btarget_any g b _ _ (by exact HB.out)).mono ?_
  rintro e w' ⟨rfl, rfl⟩
  clear hwd
  go_upto_block 0 with fail
  go_cut [5] (fun tv wx => ∃ n, wx = w.drewN n ∧ tv = .int .u32 (b.turned (wordOf f)))
  case first =>
    go_wp2_with fail
    go_loopw [5] (fun tv wr => ∃ x : Int, (x = b.target (wordOf f) ∨ x = b.turned (wordOf f)) ∧ tv = .int .u32 x ∧ ∃ n, wr = w.drewN n) (fun tv _ => if edgeB (topB b.mask (intOf tv)) = true then 1 else 0)
    case atStart => exact ⟨_, .inl rfl, rfl, _, rfl⟩
    case round =>
      obtain ⟨x, hx, rfl, n, rfl⟩ := hrel
      have hx0 : 0 ≤ x ∧ x < 4294967296 := by
        rcases hx with h | h
        · rw [h]; exact target_range _ _
        · rw [h]; exact turned_range _ _
      have hxor : bits .xor .u32 x 16777215 = flipT x 16777216 := xor_low x 24 (by decide) hx0.1 hx0.2
      have htop : topB 1 x = x / 65536 % 256 := rfl
      have H0 := hid hx0
      have HXx := hid hx
      have HXor := hid hxor
      clear hx0 hx hxor
      go_wp2_with fail
      refine (bit_1 _).mono ?_
      rintro e w' ⟨rfl, rfl⟩
      go_wp2_with fail
      refine (bedge_any _ _).mono ?_
      rintro e w' ⟨rfl, rfl⟩
      rw [← htop]
      cases he : edgeB (topB 1 x) with
      | true =>
        have e1 : x = b.target (wordOf f) := by
          rcases HXx.out with h | h
          · exact h
          · exfalso
            have := turned_top b (wordOf f) (by omega) (by rw [hm]; exact hs)
            rw [hm, ← h, he] at this
            cases this
        have e2 : b.target (flipT x 16777216) = b.turned (wordOf f) := by
          unfold BW.turned
          rw [if_neg (by omega), hm, ← e1, if_pos he]
          rfl
        have E1 := hid e1
        have E2 := hid e2
        have HE := hid he
        have hxor := HXor.out
        clear e1 e2 he htop
        go_wp2_with fail
        refine (btarget_any g b _ _ (by exact HB.out)).mono ?_
        rintro e w' ⟨rfl, rfl⟩
        rw [E2.out]
        go_wp2_with fail
        go_roundw
        case rel => exact ⟨_, .inr rfl, rfl, _, rfl⟩
        case measure =>
          have h1 := turned_top b (wordOf f) (by omega) (by rw [hm]; exact hs)
          have h2 := HE.out
          rw [hm] at h1
          simp only [intOf, hm, h1, h2]
          decide
      | false =>
        have e1 : x = b.turned (wordOf f) := by
          rcases HXx.out with h | h
          · unfold BW.turned
            rw [if_neg (by omega), hm, ← h, if_neg (by rw [he]; decide)]
          · exact h
        clear he htop
        go_wp2_with fail
        go_meet
        exact ⟨_, rfl, by first | rfl | rw [e1]⟩
  case rest =>
    obtain ⟨n, hcw, rfl⟩ := hcut
    subst hcw
    have HT := hid (turned_range b (wordOf f))
    generalize hT : b.turned (wordOf f) = T at *
    go_wp2
    go_region
    all_goals go_wp2
    go_end0
    refine ⟨rfl, ?_, ?_⟩
    · repeat (first | exact Fr.refl _ _ | refine Fr.drewN ?_ _ | refine Fr.drew ?_ | refine Fr.setOne ?_ _ _)
    · have e := blk_set (i := 4) (v := .int .u8 (-(T / 16777216 % 2) % 256)) (blk_set (i := 3) (v := .int .u8 (T / 65536 % 256)) (blk_set (i := 2) (v := .int .u8 (T / 256 % 256)) (blk_set (i := 1) (v := .int .u8 (T % 256)) (blk_drewN (n := n + 1) HF.out))))
      rw [arr_set, arr_set, arr_set, arr_set] at e
      rw [and_one_u32 _ (by have := HT.out; omega) (by have := HT.out; omega)]
      rw [hT]
      unfold put4
      exact e

theorem bit_2 (w : World) : Calls Try.prog 34 #[.int .i64 2] w fun e w' => e = .returned (.int .u64 2) ∧ w = w' := bbit_any 2 (by decide) w

set_option maxRecDepth 100000 in
theorem turn_2 (g h : Nat) (b : BW) (f : Nat → Int) (ty : TypeId) (w : World) (hgh : g ≠ h) (hm : b.mask = 2) (hs : edgeB (topB 2 (wordOf f)) = false) (hb : BWAt w g b) (hf : w.heap[h]? = some (.cells (arr .u8 5 f) ty)) (hx : ∀ i, i < 5 → 0 ≤ f i ∧ f i < 256) :
    Calls Try.prog 35 #[.pointer (some ⟨g, 0, none⟩), .pointer (some ⟨h, 0, none⟩)] w fun e w' => e = .returned (.tuple #[]) ∧ Fr (fun k => k = h) w w' ∧ w'.heap[h]? = some (.cells (arr .u8 5 (put4 f (b.turned (wordOf f)))) ty) := by
  have c0 := blk_cell hb (j := 0) (v := .int .u32 b.place) rfl
  have c2 := blk_cell hb (j := 2) (v := .int .i64 b.mask) rfl
  have c3 := blk_cell hb (j := 3) (v := .bool b.code) rfl
  have d1 := blk_cell hf (arr_get .u8 5 f (i := 1) (by decide))
  have d2 := blk_cell hf (arr_get .u8 5 f (i := 2) (by decide))
  have d3 := blk_cell hf (arr_get .u8 5 f (i := 3) (by decide))
  have d4 := blk_cell hf (arr_get .u8 5 f (i := 4) (by decide))
  have f1 := blk_frozen hf 1
  have f2 := blk_frozen hf 2
  have f3 := blk_frozen hf 3
  have f4 := blk_frozen hf 4
  have hne : h ≠ g := fun e => hgh e.symm
  rw [hm] at c2
  have HB := hid hb
  have HF := hid hf
  have HX := hid hx
  clear hb hf hx
  have hwd : _ = wordOf f := word4_or (f 1) (f 2) (f 3) (f 4) (HX.out 1 (by decide)) (HX.out 2 (by decide)) (HX.out 3 (by decide)) (HX.out 4 (by decide))
  go_enter Try.func35, Try.ntmps35
  go_wp2
  go_quiet (fail)
  go_wp2_with fail
  refine (btarget_any g b _ _ (by exact HB.out)).mono ?_
  rintro e w' ⟨rfl, rfl⟩
  clear hwd
  go_upto_block 0 with fail
  go_cut [5] (fun tv wx => ∃ n, wx = w.drewN n ∧ tv = .int .u32 (b.turned (wordOf f)))
  case first =>
    go_wp2_with fail
    go_loopw [5] (fun tv wr => ∃ x : Int, (x = b.target (wordOf f) ∨ x = b.turned (wordOf f)) ∧ tv = .int .u32 x ∧ ∃ n, wr = w.drewN n) (fun tv _ => if edgeB (topB b.mask (intOf tv)) = true then 1 else 0)
    case atStart => exact ⟨_, .inl rfl, rfl, _, rfl⟩
    case round =>
      obtain ⟨x, hx, rfl, n, rfl⟩ := hrel
      have hx0 : 0 ≤ x ∧ x < 4294967296 := by
        rcases hx with h | h
        · rw [h]; exact target_range _ _
        · rw [h]; exact turned_range _ _
      have hxor : bits .xor .u32 x 65535 = flipT x 65536 := xor_low x 16 (by decide) hx0.1 hx0.2
      have htop : topB 2 x = x / 256 % 256 := rfl
      have H0 := hid hx0
      have HXx := hid hx
      have HXor := hid hxor
      clear hx0 hx hxor
      go_wp2_with fail
      refine (bit_2 _).mono ?_
      rintro e w' ⟨rfl, rfl⟩
      go_wp2_with fail
      refine (bedge_any _ _).mono ?_
      rintro e w' ⟨rfl, rfl⟩
      rw [← htop]
      cases he : edgeB (topB 2 x) with
      | true =>
        have e1 : x = b.target (wordOf f) := by
          rcases HXx.out with h | h
          · exact h
          · exfalso
            have := turned_top b (wordOf f) (by omega) (by rw [hm]; exact hs)
            rw [hm, ← h, he] at this
            cases this
        have e2 : b.target (flipT x 65536) = b.turned (wordOf f) := by
          unfold BW.turned
          rw [if_neg (by omega), hm, ← e1, if_pos he]
          rfl
        have E1 := hid e1
        have E2 := hid e2
        have HE := hid he
        have hxor := HXor.out
        clear e1 e2 he htop
        go_wp2_with fail
        refine (btarget_any g b _ _ (by exact HB.out)).mono ?_
        rintro e w' ⟨rfl, rfl⟩
        rw [E2.out]
        go_wp2_with fail
        go_roundw
        case rel => exact ⟨_, .inr rfl, rfl, _, rfl⟩
        case measure =>
          have h1 := turned_top b (wordOf f) (by omega) (by rw [hm]; exact hs)
          have h2 := HE.out
          rw [hm] at h1
          simp only [intOf, hm, h1, h2]
          decide
      | false =>
        have e1 : x = b.turned (wordOf f) := by
          rcases HXx.out with h | h
          · unfold BW.turned
            rw [if_neg (by omega), hm, ← h, if_neg (by rw [he]; decide)]
          · exact h
        clear he htop
        go_wp2_with fail
        go_meet
        exact ⟨_, rfl, by first | rfl | rw [e1]⟩
  case rest =>
    obtain ⟨n, hcw, rfl⟩ := hcut
    subst hcw
    have HT := hid (turned_range b (wordOf f))
    generalize hT : b.turned (wordOf f) = T at *
    go_wp2
    go_region
    all_goals go_wp2
    go_end0
    refine ⟨rfl, ?_, ?_⟩
    · repeat (first | exact Fr.refl _ _ | refine Fr.drewN ?_ _ | refine Fr.drew ?_ | refine Fr.setOne ?_ _ _)
    · have e := blk_set (i := 4) (v := .int .u8 (-(T / 16777216 % 2) % 256)) (blk_set (i := 3) (v := .int .u8 (T / 65536 % 256)) (blk_set (i := 2) (v := .int .u8 (T / 256 % 256)) (blk_set (i := 1) (v := .int .u8 (T % 256)) (blk_drewN (n := n + 1) HF.out))))
      rw [arr_set, arr_set, arr_set, arr_set] at e
      rw [and_one_u32 _ (by have := HT.out; omega) (by have := HT.out; omega)]
      rw [hT]
      unfold put4
      exact e

theorem bit_4 (w : World) : Calls Try.prog 34 #[.int .i64 4] w fun e w' => e = .returned (.int .u64 3) ∧ w = w' := bbit_any 4 (by decide) w

set_option maxRecDepth 100000 in
theorem turn_4 (g h : Nat) (b : BW) (f : Nat → Int) (ty : TypeId) (w : World) (hgh : g ≠ h) (hm : b.mask = 4) (hs : edgeB (topB 4 (wordOf f)) = false) (hb : BWAt w g b) (hf : w.heap[h]? = some (.cells (arr .u8 5 f) ty)) (hx : ∀ i, i < 5 → 0 ≤ f i ∧ f i < 256) :
    Calls Try.prog 35 #[.pointer (some ⟨g, 0, none⟩), .pointer (some ⟨h, 0, none⟩)] w fun e w' => e = .returned (.tuple #[]) ∧ Fr (fun k => k = h) w w' ∧ w'.heap[h]? = some (.cells (arr .u8 5 (put4 f (b.turned (wordOf f)))) ty) := by
  have c0 := blk_cell hb (j := 0) (v := .int .u32 b.place) rfl
  have c2 := blk_cell hb (j := 2) (v := .int .i64 b.mask) rfl
  have c3 := blk_cell hb (j := 3) (v := .bool b.code) rfl
  have d1 := blk_cell hf (arr_get .u8 5 f (i := 1) (by decide))
  have d2 := blk_cell hf (arr_get .u8 5 f (i := 2) (by decide))
  have d3 := blk_cell hf (arr_get .u8 5 f (i := 3) (by decide))
  have d4 := blk_cell hf (arr_get .u8 5 f (i := 4) (by decide))
  have f1 := blk_frozen hf 1
  have f2 := blk_frozen hf 2
  have f3 := blk_frozen hf 3
  have f4 := blk_frozen hf 4
  have hne : h ≠ g := fun e => hgh e.symm
  rw [hm] at c2
  have HB := hid hb
  have HF := hid hf
  have HX := hid hx
  clear hb hf hx
  have hwd : _ = wordOf f := word4_or (f 1) (f 2) (f 3) (f 4) (HX.out 1 (by decide)) (HX.out 2 (by decide)) (HX.out 3 (by decide)) (HX.out 4 (by decide))
  go_enter Try.func35, Try.ntmps35
  go_wp2
  go_quiet (fail)
  go_wp2_with fail
  refine (btarget_any g b _ _ (by exact HB.out)).mono ?_
  rintro e w' ⟨rfl, rfl⟩
  clear hwd
  go_upto_block 0 with fail
  go_cut [5] (fun tv wx => ∃ n, wx = w.drewN n ∧ tv = .int .u32 (b.turned (wordOf f)))
  case first =>
    go_wp2_with fail
    go_loopw [5] (fun tv wr => ∃ x : Int, (x = b.target (wordOf f) ∨ x = b.turned (wordOf f)) ∧ tv = .int .u32 x ∧ ∃ n, wr = w.drewN n) (fun tv _ => if edgeB (topB b.mask (intOf tv)) = true then 1 else 0)
    case atStart => exact ⟨_, .inl rfl, rfl, _, rfl⟩
    case round =>
      obtain ⟨x, hx, rfl, n, rfl⟩ := hrel
      have hx0 : 0 ≤ x ∧ x < 4294967296 := by
        rcases hx with h | h
        · rw [h]; exact target_range _ _
        · rw [h]; exact turned_range _ _
      have hxor : bits .xor .u32 x 255 = flipT x 256 := xor_low x 8 (by decide) hx0.1 hx0.2
      have htop : topB 4 x = x % 256 := by show x / (256 / 256) % 256 = _; omega
      have H0 := hid hx0
      have HXx := hid hx
      have HXor := hid hxor
      clear hx0 hx hxor
      go_wp2_with fail
      refine (bit_4 _).mono ?_
      rintro e w' ⟨rfl, rfl⟩
      go_wp2_with fail
      refine (bedge_any _ _).mono ?_
      rintro e w' ⟨rfl, rfl⟩
      rw [← htop]
      cases he : edgeB (topB 4 x) with
      | true =>
        have e1 : x = b.target (wordOf f) := by
          rcases HXx.out with h | h
          · exact h
          · exfalso
            have := turned_top b (wordOf f) (by omega) (by rw [hm]; exact hs)
            rw [hm, ← h, he] at this
            cases this
        have e2 : b.target (flipT x 256) = b.turned (wordOf f) := by
          unfold BW.turned
          rw [if_neg (by omega), hm, ← e1, if_pos he]
          rfl
        have E1 := hid e1
        have E2 := hid e2
        have HE := hid he
        have hxor := HXor.out
        clear e1 e2 he htop
        go_wp2_with fail
        refine (btarget_any g b _ _ (by exact HB.out)).mono ?_
        rintro e w' ⟨rfl, rfl⟩
        rw [E2.out]
        go_wp2_with fail
        go_roundw
        case rel => exact ⟨_, .inr rfl, rfl, _, rfl⟩
        case measure =>
          have h1 := turned_top b (wordOf f) (by omega) (by rw [hm]; exact hs)
          have h2 := HE.out
          rw [hm] at h1
          simp only [intOf, hm, h1, h2]
          decide
      | false =>
        have e1 : x = b.turned (wordOf f) := by
          rcases HXx.out with h | h
          · unfold BW.turned
            rw [if_neg (by omega), hm, ← h, if_neg (by rw [he]; decide)]
          · exact h
        clear he htop
        go_wp2_with fail
        go_meet
        exact ⟨_, rfl, by first | rfl | rw [e1]⟩
  case rest =>
    obtain ⟨n, hcw, rfl⟩ := hcut
    subst hcw
    have HT := hid (turned_range b (wordOf f))
    generalize hT : b.turned (wordOf f) = T at *
    go_wp2
    go_region
    all_goals go_wp2
    go_end0
    refine ⟨rfl, ?_, ?_⟩
    · repeat (first | exact Fr.refl _ _ | refine Fr.drewN ?_ _ | refine Fr.drew ?_ | refine Fr.setOne ?_ _ _)
    · have e := blk_set (i := 4) (v := .int .u8 (-(T / 16777216 % 2) % 256)) (blk_set (i := 3) (v := .int .u8 (T / 65536 % 256)) (blk_set (i := 2) (v := .int .u8 (T / 256 % 256)) (blk_set (i := 1) (v := .int .u8 (T % 256)) (blk_drewN (n := n + 1) HF.out))))
      rw [arr_set, arr_set, arr_set, arr_set] at e
      rw [and_one_u32 _ (by have := HT.out; omega) (by have := HT.out; omega)]
      rw [hT]
      unfold put4
      exact e
end Go.Proofs.Ytkahjjmjbcjaaaa
