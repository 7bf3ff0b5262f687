/- The range coder: Tree. -/
import Derived.Test.YtomjagibcdneiaaRenc3
namespace Go.Proofs.Ytomjagibcdneiaa
open Go.RowKit

/-- k bits more of a tree, m so far. -/
def RC.treeGo : Nat → RC → (Nat → Int) → Nat → Nat → (Nat → Int) × RC
  | 0, c, q, _, _ => (q, c)
  | k + 1, c, q, m, v => RC.treeGo k (c.bit (q m) (v / 2 ^ k % 2)).2 (upd q m (c.bit (q m) (v / 2 ^ k % 2)).1) (2 * m + v / 2 ^ k % 2) v
def RC.tree (B : Nat) (c : RC) (q : Nat → Int) (v : Nat) : (Nat → Int) × RC := RC.treeGo B c q 1 v
/-- k bits more of a reverse tree, the next one the i-th. -/
def RC.revGo : Nat → Nat → RC → (Nat → Int) → Nat → Nat → (Nat → Int) × RC
  | 0, _, c, q, _, _ => (q, c)
  | k + 1, i, c, q, m, v => RC.revGo k (i + 1) (c.bit (q m) (v / 2 ^ i % 2)).2 (upd q m (c.bit (q m) (v / 2 ^ i % 2)).1) (2 * m + v / 2 ^ i % 2) v
def RC.rev (B : Nat) (c : RC) (q : Nat → Int) (v : Nat) : (Nat → Int) × RC := RC.revGo B 0 c q 1 v
def RC.str1 (c : RC) (b : Nat) : RC := c.part (if b = 1 then c.rng / 2 else 0) (c.rng / 2)
def RC.strGo : Nat → RC → Nat → RC
  | 0, c, _ => c
  | k + 1, c, v => RC.strGo k (c.str1 (v / 2 ^ k % 2)) v
def RTPost (A : Nat → Prop) (g gp off L : Nat) (cs : Array Value) (T : TypeId) (w : World) (r : (Nat → Int) × RC) (e : Ending) (w' : World) : Prop :=
  e = .returned (.tuple #[]) ∧ Fr (fun k => ¬ A k ∨ k = gp) w w' ∧ CodIs A g w' r.2 ∧ ∃ cs', w'.heap[gp]? = some (.cells cs' T) ∧ Win cs cs' off L r.1

theorem nat_and_one (x : Nat) (h : x < 4294967296) : bits .and .u32 (x : Int) 1 = ((x % 2 : Nat) : Int) := by
  rw [u32_and _ _ (by omega) (by omega) (by decide) (by decide)]
  show ((x &&& 1 : Nat) : Int) = _
  rw [Nat.and_one_is_mod]
theorem bit_of (v k : Nat) (h : v < 4294967296) : bits .and .u32 ((v : Int) / 2 ^ k) 1 = ((v / 2 ^ k % 2 : Nat) : Int) := by
  have e : ((v : Int) / 2 ^ k) = ((v / 2 ^ k : Nat) : Int) := by simp
  have := Nat.div_le_self v (2 ^ k)
  rw [e, nat_and_one _ (by omega)]
theorem or_bit32 (m b : Nat) (hb : b ≤ 1) (hm : m < 1073741824) : bits .or .u32 ((m : Int) * 2) (b : Int) = ((2 * m + b : Nat) : Int) := by
  rw [u32_or _ _ (by omega) (by omega) (by omega) (by omega)]
  have e : ((m : Int) * 2).toNat = m * 2 ^ 1 := by omega
  rw [e]
  simp only [Int.toNat_natCast]
  rw [nat_or_low _ _ 1 (by omega)]
  omega

set_option maxRecDepth 100000 in
set_option maxHeartbeats 2000000 in
theorem ctree_any (A : Nat → Prop) (g gp off len cap B N : Nat) (cs : Array Value) (T : TypeId) (c : RC) (q : Nat → Int) (v : Nat) (w : World) (h : CodIs A g w c) (hA : A gp) (hok : c.Ok N) (hN : N ≤ 1073741700)
    (hb : w.heap[gp]? = some (.cells cs T)) (hc : ∀ j, j < 2 ^ B → cs[off + j]? = some (.int .u16 (q j))) (hp : Pr q (2 ^ B)) (hB : B ≤ 16) (hL : 2 ^ B ≤ len) (hlen : len ≤ 1048576) (hv : v < 4294967296) :
    Calls Try.prog 39 #[.pointer (some ⟨g, 0, none⟩), .slice (some ⟨gp, off, none⟩) len cap, .int .i64 B, .int .u32 v] w (RTPost A g gp off (2 ^ B) cs T w (RC.tree B c q v)) := by
  have H := hid h
  have Hb := hid hb
  have Hc := hid hc
  have Hp := hid hp
  have Hok := hid hok
  clear h hb hc hp hok
  obtain ⟨L, hL1⟩ : ∃ L, L = 2 ^ B := ⟨_, rfl⟩
  rw [← hL1] at hL
  have HL := hid hL1
  clear hL1
  go_enter Try.func39, Try.ntmps39
  go_wp2
  go_loopw [8, 12] (fun mv i wr => ∃ (k m : Nat) (c1 : RC) (q1 : Nat → Int) (cs1 : Array Value), k ≤ B ∧ i = .int .i64 k ∧ mv = .int .u32 m ∧ 2 ^ k ≤ m ∧ m < 2 ^ (k + 1) ∧
      RC.treeGo (B - k) c1 q1 m v = RC.tree B c q v ∧ Fr (fun k => ¬ A k ∨ k = gp) w wr ∧ CodIs A g wr c1 ∧ c1.Ok (N + 3 * k) ∧ wr.heap[gp]? = some (.cells cs1 T) ∧ Win cs cs1 off L q1 ∧ Pr q1 L)
    (fun _ i _ => B - (intOf i).toNat)
  case atStart =>
    exact ⟨0, 1, c, q, cs, Nat.zero_le _, rfl, rfl, by decide, by decide, rfl, Fr.refl _ _, H.out, Hok.out, Hb.out, Win.self (by rw [HL.out]; exact Hc.out), by rw [HL.out]; exact Hp.out⟩
  case round =>
    obtain ⟨k, m, c1, q1, cs1, hk, rfl, rfl, hm0, hm1, hgo, hfr, hcod, hok, hblk, hwin, hpr⟩ := hrel
    have Hgo := hid hgo
    have Hfr := hid hfr
    have Hcod := hid hcod
    have Hok1 := hid hok
    have Hblk := hid hblk
    have Hwin := hid hwin
    have Hpr := hid hpr
    clear hgo hfr hcod hok hblk hwin hpr
    by_cases hlt : k < B
    · have hmL : m < L := by
        have : 2 ^ (k + 1) ≤ 2 ^ B := Nat.pow_le_pow_right (by decide) hlt
        rw [HL.out]; omega
      have hm2 : m < 1048576 := by omega
      have hbit := Hpr.out m hmL
      have Hm0 := hid hm0
      have Hm1 := hid hm1
      clear hm0 hm1
      have hbv := bit_of v (B - 1 - k) hv
      obtain ⟨b, hb⟩ : ∃ b, b = v / 2 ^ (B - 1 - k) % 2 := ⟨_, rfl⟩
      rw [← hb] at hbv
      have hb1 : b ≤ 1 := by omega
      have hor := or_bit32 m b hb1 (by omega)
      have HBB := hid hb
      clear hb
      go_wp2_with fail
      refine (cbit_any A g gp (off + m) (N + 3 * k) cs1 T c1 (q1 m) b _ Hcod.out hA Hok1.out (by omega) Hblk.out (Hwin.out.cell m hmL) hbit.1 hbit.2 hb1).mono ?_
      rintro e w1 ⟨rfl, hf1, hd1, hbk⟩
      have hb3 := bit_prob' c1 hbit.1 hbit.2 b
      have Hf1 := hid hf1
      have Hd1 := hid hd1
      have Hbk := hid hbk
      have Hb3 := hid hb3
      clear hf1 hd1 hbk hb3
      go_wp2_with fail
      go_roundw
      case rel =>
        refine ⟨k + 1, 2 * m + b, (c1.bit (q1 m) b).2, upd q1 m (c1.bit (q1 m) b).1, _, by omega, by go_num, congrArg (Value.int IntKind.u32) (by omega), ?_, ?_, ?_, Fr.then Hfr.out Hf1.out (fun _ _ h => h), Hd1.out, (Hok1.out.bit hbit.1 hbit.2 b).mono (by omega), Hbk.out, Hwin.out.set hmL _, Hpr.out.upd m Hb3.out.1 Hb3.out.2⟩
        · have := Hm0.out; rw [Nat.pow_succ]; omega
        · have := Hm1.out; rw [Nat.pow_succ]; omega
        · have e : B - k = (B - 1 - k) + 1 := by omega
          have := Hgo.out
          rw [e] at this
          rw [show B - (k + 1) = B - 1 - k by omega, HBB.out]
          exact this
      case measure => simp [intOf]; omega
    · have e : k = B := by omega
      subst e
      have hgo := Hgo.out
      rw [Nat.sub_self] at hgo
      go_wp2_with fail
      go_end0
      rw [← hgo, ← HL.out]
      exact ⟨rfl, Hfr.out, Hcod.out, cs1, Hblk.out, Hwin.out⟩
set_option maxRecDepth 100000 in
set_option maxHeartbeats 2000000 in
theorem crev_any (A : Nat → Prop) (g gp off len cap B N : Nat) (cs : Array Value) (T : TypeId) (c : RC) (q : Nat → Int) (v : Nat) (w : World) (h : CodIs A g w c) (hA : A gp) (hok : c.Ok N) (hN : N ≤ 1073741700)
    (hb : w.heap[gp]? = some (.cells cs T)) (hc : ∀ j, j < 2 ^ B → cs[off + j]? = some (.int .u16 (q j))) (hp : Pr q (2 ^ B)) (hB : B ≤ 16) (hL : 2 ^ B ≤ len) (hlen : len ≤ 1048576) (hv : v < 4294967296) :
    Calls Try.prog 40 #[.pointer (some ⟨g, 0, none⟩), .slice (some ⟨gp, off, none⟩) len cap, .int .i64 B, .int .u32 v] w (RTPost A g gp off (2 ^ B) cs T w (RC.rev B c q v)) := by
  have H := hid h
  have Hb := hid hb
  have Hc := hid hc
  have Hp := hid hp
  have Hok := hid hok
  clear h hb hc hp hok
  obtain ⟨L, hL1⟩ : ∃ L, L = 2 ^ B := ⟨_, rfl⟩
  rw [← hL1] at hL
  have HL := hid hL1
  clear hL1
  go_enter Try.func40, Try.ntmps40
  go_wp2
  go_loopw [8, 12] (fun mv i wr => ∃ (k m : Nat) (c1 : RC) (q1 : Nat → Int) (cs1 : Array Value), k ≤ B ∧ i = .int .i64 k ∧ mv = .int .u32 m ∧ m < 2 ^ (k + 1) ∧
      RC.revGo (B - k) k c1 q1 m v = RC.rev B c q v ∧ Fr (fun k => ¬ A k ∨ k = gp) w wr ∧ CodIs A g wr c1 ∧ c1.Ok (N + 3 * k) ∧ wr.heap[gp]? = some (.cells cs1 T) ∧ Win cs cs1 off L q1 ∧ Pr q1 L)
    (fun _ i _ => B - (intOf i).toNat)
  case atStart =>
    exact ⟨0, 1, c, q, cs, Nat.zero_le _, rfl, rfl, by decide, rfl, Fr.refl _ _, H.out, Hok.out, Hb.out, Win.self (by rw [HL.out]; exact Hc.out), by rw [HL.out]; exact Hp.out⟩
  case round =>
    obtain ⟨k, m, c1, q1, cs1, hk, rfl, rfl, hm1, hgo, hfr, hcod, hok, hblk, hwin, hpr⟩ := hrel
    have Hgo := hid hgo
    have Hfr := hid hfr
    have Hcod := hid hcod
    have Hok1 := hid hok
    have Hblk := hid hblk
    have Hwin := hid hwin
    have Hpr := hid hpr
    clear hgo hfr hcod hok hblk hwin hpr
    by_cases hlt : k < B
    · have hmL : m < L := by
        have : 2 ^ (k + 1) ≤ 2 ^ B := Nat.pow_le_pow_right (by decide) hlt
        rw [HL.out]; omega
      have hm2 : m < 1048576 := by omega
      have hbit := Hpr.out m hmL
      have Hm1 := hid hm1
      clear hm1
      have hbv := bit_of v k hv
      obtain ⟨b, hb⟩ : ∃ b, b = v / 2 ^ k % 2 := ⟨_, rfl⟩
      rw [← hb] at hbv
      have hb1 : b ≤ 1 := by omega
      have hor := or_bit32 m b hb1 (by omega)
      have HBB := hid hb
      clear hb
      go_wp2_with fail
      refine (cbit_any A g gp (off + m) (N + 3 * k) cs1 T c1 (q1 m) b _ Hcod.out hA Hok1.out (by omega) Hblk.out (Hwin.out.cell m hmL) hbit.1 hbit.2 hb1).mono ?_
      rintro e w1 ⟨rfl, hf1, hd1, hbk⟩
      have hb3 := bit_prob' c1 hbit.1 hbit.2 b
      have Hf1 := hid hf1
      have Hd1 := hid hd1
      have Hbk := hid hbk
      have Hb3 := hid hb3
      clear hf1 hd1 hbk hb3
      go_wp2_with fail
      go_roundw
      case rel =>
        refine ⟨k + 1, 2 * m + b, (c1.bit (q1 m) b).2, upd q1 m (c1.bit (q1 m) b).1, _, by omega, by go_num, congrArg (Value.int IntKind.u32) (by omega), ?_, ?_, Fr.then Hfr.out Hf1.out (fun _ _ h => h), Hd1.out, (Hok1.out.bit hbit.1 hbit.2 b).mono (by omega), Hbk.out, Hwin.out.set hmL _, Hpr.out.upd m Hb3.out.1 Hb3.out.2⟩
        · have := Hm1.out; rw [Nat.pow_succ]; omega
        · have e : B - k = (B - (k + 1)) + 1 := by omega
          have := Hgo.out
          rw [e] at this
          rw [HBB.out]
          exact this
      case measure => simp [intOf]; omega
    · have e : k = B := by omega
      subst e
      have hgo := Hgo.out
      rw [Nat.sub_self] at hgo
      go_wp2_with fail
      go_end0
      rw [← hgo, ← HL.out]
      exact ⟨rfl, Hfr.out, Hcod.out, cs1, Hblk.out, Hwin.out⟩
end Go.Proofs.Ytomjagibcdneiaa
