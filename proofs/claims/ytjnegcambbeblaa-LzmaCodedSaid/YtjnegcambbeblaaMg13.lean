/- Texts of this proof, one behind the other. -/
import Derived.Test.YtjnegcambbeblaaKzKQ
import Derived.Test.YtjnegcambbeblaaMg07
import Derived.Test.YtjnegcambbeblaaMg10

/- The document's walk through LZMA: a packet, plain; where it lies. -/
namespace Go.Proofs.Ytjnegcambbeblaa
open Go.RowKit

structure PkV where
  kind : Int
  byte : Int
  len : Int
  dist : Nat
def kmid1 {C : Type} (K : Cdr C) (s : LS) (_sp : Nat) (kind : Int) (dist : Nat) (L : Nat × (Nat → Int) × C) : LS × C × Nat :=
  ({ s with P := (kdist K L.2.1 L.2.2 L.1 (if kind = 7 then 4294967295 else dist)).2.1, st := afterL s.st 7 10, rep := updN (shiftL s.rep 3) 0 (kdist K L.2.1 L.2.2 L.1 (if kind = 7 then 4294967295 else dist)).1, ended := decide ((kdist K L.2.1 L.2.2 L.1 (if kind = 7 then 4294967295 else dist)).1 = 4294967295) && !K.bad (kdist K L.2.1 L.2.2 L.1 (if kind = 7 then 4294967295 else dist)).2.2 },
    (kdist K L.2.1 L.2.2 L.1 (if kind = 7 then 4294967295 else dist)).2.2, L.1 + 2)
def kmid2 {C : Type} (s : LS) (j : Nat) (L : Nat × (Nat → Int) × C) : LS × C × Nat :=
  ({ s with P := L.2.1, st := afterL s.st 8 11, rep := updN (shiftL s.rep j) 0 (s.rep j) }, L.2.2, L.1 + 2)
/-- a packet that is no literal: how many bytes it is to tell. -/
def kmid {C : Type} (K : Cdr C) (s : LS) (c : C) (sp : Nat) (p : PkV) (k : Nat) : LS × C × Nat :=
  if k = 1 then kmid1 K s sp p.kind p.dist (klen K s.P c 819 sp (if p.kind = 7 then 0 else p.len - 2))
  else if k = 6 then ({ s with st := afterL s.st 9 11 }, c, 1)
  else kmid2 s (k - 2) (klen K s.P c 1333 sp (p.len - 2))
def kcopy : Nat → Nat → LS → LS × Nat
  | 0, i, s => (s, i)
  | n + 1, i, s => if (backD s (s.rep 0)).2 = true then kcopy n (i + 1) { s with H := s.H ++ [(backD s (s.rep 0)).1] } else ({ s with bad := true }, i)
def kend2 (s : LS) (many : Nat) : LS × Nat := if s.bad || s.ended then (s, 0) else kcopy many 0 s
def kend {C : Type} (K : Cdr C) (m : LS × C × Nat) : LS × C × Nat :=
  ((kend2 (if K.bad m.2.1 = true then { m.1 with bad := true } else m.1) m.2.2).1, m.2.1, (kend2 (if K.bad m.2.1 = true then { m.1 with bad := true } else m.1) m.2.2).2)
def klitP {C : Type} (K : Cdr C) (s : LS) (r : Nat × (Nat → Int) × C) : LS × C × Nat :=
  if K.bad r.2.2 = true then ({ s with P := r.2.1, st := stL s.st, bad := true }, r.2.2, 0)
  else ({ s with P := r.2.1, st := stL s.st, H := s.H ++ [((r.1 % 256 : Nat) : Int)] }, r.2.2, 1)
def kpacket2 {C : Type} (K : Cdr C) (s : LS) (c : C) (sp : Nat) (p : PkV) (k : Nat) : LS × C × Nat :=
  if k = 0 then klitP K s (klit K s c p.byte) else kend K (kmid K s c sp p k)
/-- a packet: the state behind it, and how many bytes it told. -/
def kpacket {C : Type} (K : Cdr C) (s : LS) (c : C) (p : PkV) : LS × C × Nat :=
  kpacket2 K { s with P := (kkind K s c (s.H.length % 2 ^ s.pb) p.kind).2.1, bad := s.bad || (kkind K s c (s.H.length % 2 ^ s.pb) p.kind).1.2 } (kkind K s c (s.H.length % 2 ^ s.pb) p.kind).2.2 (s.H.length % 2 ^ s.pb) p (kkind K s c (s.H.length % 2 ^ s.pb) p.kind).1.1
end Go.Proofs.Ytjnegcambbeblaa

/- What a range coder told, a range decoder is told. -/
namespace Go.Proofs.Ytjnegcambbeblaa
open Go.RowKit

/-- the first bytes, as one number. -/
def pre (f : Nat → Int) : Nat → Int
  | 0 => 0
  | i + 1 => pre f i * 256 + f i
theorem pre_split (f : Nat → Int) (L : Nat) (hf : ∀ i, i < L → 0 ≤ f i ∧ f i < 256) (i k : Nat) (h : i + k ≤ L) : pre f i * 256 ^ k ≤ pre f (i + k) ∧ pre f (i + k) < (pre f i + 1) * 256 ^ k := by
  induction k with
  | zero => simp; omega
  | succ k ih =>
    have h1 := ih (by omega)
    have h2 := hf (i + k) (by omega)
    have e : pre f (i + (k + 1)) = pre f (i + k) * 256 + f (i + k) := rfl
    rw [e, Int.pow_succ, ← Int.mul_assoc, ← Int.mul_assoc]
    omega
/-- the decoder stands where the coder stood, the coder having come to C at last. -/
structure Sync (f : Nat → Int) (c : RC) (d : RD Nat) : Prop where
  bad : d.bad = false
  rng : d.rng = c.rng
  src : d.src = c.len
  code : d.code = pre f c.len - c.val
structure Told (f : Nat → Int) (n : Nat) (C : RC) : Prop where
  bytes : ∀ i, i < n → 0 ≤ f i ∧ f i < 256
  len : C.len ≤ n
  val : pre f C.len = C.val
  rng : 1 ≤ C.rng
theorem Told.window {f : Nat → Int} {n : Nat} {C : RC} (h : Told f n C) {c : RC} {k : Nat} (hr : Reach c C k) : c.val ≤ pre f c.len ∧ pre f c.len < c.val + c.rng ∧ c.len ≤ n := by
  have hl := hr.len
  have h1 := h.len
  obtain ⟨s1, s2⟩ := pre_split f n h.bytes c.len k (by omega)
  rw [← hl, h.val] at s1 s2
  have r1 := hr.low
  have r2 := hr.high
  have r3 := h.rng
  have hp := pow_pos256 k
  refine ⟨?_, ?_, by omega⟩
  · apply Decidable.byContradiction
    intro hc
    have : (pre f c.len + 1) * 256 ^ k ≤ c.val * 256 ^ k := Int.mul_le_mul_of_nonneg_right (by omega) (by omega)
    rw [Int.mul_comm] at r1
    omega
  · apply Decidable.byContradiction
    intro hc
    have : (c.val + c.rng) * 256 ^ k ≤ pre f c.len * 256 ^ k := Int.mul_le_mul_of_nonneg_right (by omega) (by omega)
    rw [Int.mul_comm] at r2
    omega
theorem sync_part {f : Nat → Int} {n : Nat} {C : RC} (h : Told f n C) {c : RC} {d : RD Nat} {N : Nat} (hs : Sync f c d) (hok : c.Ok N) {a r : Int} (ha : 0 ≤ a) (hr : 65536 ≤ r) (har : a + r ≤ c.rng) {k : Nat} (hre : Reach (c.part a r) C k) :
    a ≤ d.code ∧ d.code < a + r ∧ Sync f (c.part a r) (RD.level (feedNx f n) ⟨d.src, r, d.code - a, false⟩) := by
  obtain ⟨b1, b2, b3, b4⟩ := hs
  by_cases hlt : r < 16777216
  · have e : c.part a r = (⟨c.low + a, r * 256, c.waits, c.more, c.out⟩ : RC).give := by
      show RC.lev 3 ⟨c.low + a, r, c.waits, c.more, c.out⟩ = _
      have e1 : RC.lev 3 ⟨c.low + a, r, c.waits, c.more, c.out⟩ = RC.lev 2 (⟨c.low + a, r * 256, c.waits, c.more, c.out⟩ : RC).give := if_pos hlt
      rw [e1]
      exact lev_stop 2 _ (by rw [give_rng]; show 16777216 ≤ r * 256; omega)
    rw [e] at hre ⊢
    have hv : (⟨c.low + a, r * 256, c.waits, c.more, c.out⟩ : RC).give.val = 256 * (c.val + a) := by
      obtain ⟨o1, o2, o3, o4, o5, o6, o7, o8⟩ := hok
      rw [give_val ⟨c.low + a, r * 256, c.waits, c.more, c.out⟩ (by show 0 ≤ c.low + a; omega) (by show c.low + a < _; omega) o5 o6 (fun w => by have := o7 w; show c.low + a < _; omega)]
      congr 1
      exact part_val c a (r * 256)
    have hl : (⟨c.low + a, r * 256, c.waits, c.more, c.out⟩ : RC).give.len = c.len + 1 := give_len _
    have hg : (⟨c.low + a, r * 256, c.waits, c.more, c.out⟩ : RC).give.rng = r * 256 := give_rng _
    obtain ⟨w1, w2, w3⟩ := h.window hre
    rw [hv, hl] at w1 w2
    rw [hg] at w2
    rw [hl] at w3
    have hb := h.bytes c.len (by omega)
    have ep : pre f (c.len + 1) = pre f c.len * 256 + f c.len := rfl
    rw [ep] at w1 w2
    have k1 : a ≤ d.code := by omega
    have k2 : d.code < a + r := by omega
    refine ⟨k1, k2, ?_⟩
    rw [RD.level_lt _ _ (by show r < 16777216; exact hlt)]
    have en : RD.next (feedNx f n) ⟨d.src, r, d.code - a, false⟩ = (f c.len % 256, ⟨c.len + 1, r, d.code - a, false⟩) := by
      unfold RD.next
      rw [if_neg (by show ¬ false = true; decide)]
      show ((feedNx f n d.src).1, (⟨(feedNx f n d.src).2.2, r, d.code - a, !(feedNx f n d.src).2.1⟩ : RD Nat)) = _
      rw [b3]
      unfold feedNx
      rw [if_pos (by omega)]
      rfl
    rw [en]
    refine ⟨rfl, ?_, ?_, ?_⟩
    · rw [hg]
    · rw [hl]
    · rw [hl, hv, ep]
      show (d.code - a) * 256 % 4294967296 + f c.len % 256 = _
      omega
  · have e : c.part a r = ⟨c.low + a, r, c.waits, c.more, c.out⟩ := lev_stop 3 _ (by show 16777216 ≤ r; omega)
    rw [e] at hre ⊢
    have hv : (⟨c.low + a, r, c.waits, c.more, c.out⟩ : RC).val = c.val + a := part_val c a r
    obtain ⟨w1, w2, _⟩ := h.window hre
    have hl : (⟨c.low + a, r, c.waits, c.more, c.out⟩ : RC).len = c.len := rfl
    have hg : (⟨c.low + a, r, c.waits, c.more, c.out⟩ : RC).rng = r := rfl
    rw [hv, hl] at w1 w2
    rw [hg] at w2
    refine ⟨by omega, by omega, ?_⟩
    rw [RD.level_ge _ _ (by show ¬ r < 16777216; exact hlt)]
    refine ⟨rfl, rfl, ?_, ?_⟩
    · exact b3
    · rw [hl, hv]; show d.code - a = _; omega
theorem sync_bit {f : Nat → Int} {n : Nat} {C : RC} (h : Told f n C) {c : RC} {d : RD Nat} {N : Nat} (hs : Sync f c d) (hok : c.Ok N) {p : Int} (h0 : 31 ≤ p) (h1 : p ≤ 2017) (b : Nat) (hb : b ≤ 1) {k : Nat} (hre : Reach (c.bit p b).2 C k) :
    (d.bit (feedNx f n) p).1 = b ∧ (d.bit (feedNx f n) p).2.1 = (c.bit p b).1 ∧ Sync f (c.bit p b).2 (d.bit (feedNx f n) p).2.2 := by
  have b1 := bound_pos c.rng p hok.rng0 h0
  have b2 := bound_gap c.rng p hok.rng0 h1
  have hbad := hs.bad
  have hrng := hs.rng
  rcases Nat.le_one_iff_eq_zero_or_eq_one.1 hb with rfl | rfl
  · have e : c.bit p 0 = (p + (2048 - p) / 32, c.part 0 (c.rng / 2048 * p)) := if_pos rfl
    rw [e] at hre ⊢
    obtain ⟨s1, s2, s3⟩ := sync_part h hs hok (by omega) (by omega) (by omega) hre
    unfold RD.bit
    rw [if_neg (by rw [hbad]; decide), if_pos (by rw [hrng]; omega)]
    refine ⟨rfl, rfl, ?_⟩
    rw [hrng, hbad]
    rw [Int.sub_zero] at s3
    exact s3
  · have e : c.bit p 1 = (p - p / 32, c.part (c.rng / 2048 * p) (c.rng - c.rng / 2048 * p)) := if_neg (by decide)
    rw [e] at hre ⊢
    obtain ⟨s1, s2, s3⟩ := sync_part h hs hok (by omega) (by omega) (by omega) hre
    unfold RD.bit
    rw [if_neg (by rw [hbad]; decide), if_neg (by rw [hrng]; omega)]
    rw [hrng, hbad]
    refine ⟨?_, rfl, s3⟩
    rw [if_neg (by rw [s3.bad]; decide)]
theorem sync_treeGo {f : Nat → Int} {n : Nat} {C : RC} (h : Told f n C) (K : Nat) : ∀ (c : RC) (d : RD Nat) (q : Nat → Int) (m v N j L : Nat), Sync f c d → c.Ok N → c.bytes → Pr q L → m < 2 ^ j → 2 ^ (j + K) ≤ 2 * L → (∃ k, Reach (RC.treeGo K c q m v).2 C k) →
    (RD.treeGo (feedNx f n) K d q m).1 = 2 ^ K * m + v % 2 ^ K ∧ (RD.treeGo (feedNx f n) K d q m).2.1 = (RC.treeGo K c q m v).1 ∧ Sync f (RC.treeGo K c q m v).2 (RD.treeGo (feedNx f n) K d q m).2.2 := by
  induction K with
  | zero => intro c d q m v N j L hs _ _ _ _ _ _; exact ⟨by simp [RD.treeGo, Nat.mod_one], rfl, hs⟩
  | succ K ih =>
    intro c d q m v N j L hs h1 h2 h3 h4 h5 hre
    have hm : m < L := by
      have : 2 ^ (j + 1) ≤ 2 ^ (j + (K + 1)) := Nat.pow_le_pow_right (by decide) (by omega)
      rw [Nat.pow_succ] at this
      omega
    have hp := h3 m hm
    have hb := bit_prob' c hp.1 hp.2 (v / 2 ^ K % 2)
    obtain ⟨n1, r1⟩ := h1.reach_bit h2 hp.1 hp.2 (v / 2 ^ K % 2)
    have hk := treeGo_keep K (c.bit (q m) (v / 2 ^ K % 2)).2 (upd q m (c.bit (q m) (v / 2 ^ K % 2)).1) (2 * m + v / 2 ^ K % 2) v (N + 3) (j + 1) L (h1.bit hp.1 hp.2 _) (r1.bytes h2) (h3.upd m hb.1 hb.2) (by rw [Nat.pow_succ]; omega) (by rw [show j + 1 + K = j + (K + 1) by omega]; exact h5)
    obtain ⟨_, _, n2, r2⟩ := hk
    obtain ⟨k, hrk⟩ := hre
    have hrk' : Reach (RC.treeGo K (c.bit (q m) (v / 2 ^ K % 2)).2 (upd q m (c.bit (q m) (v / 2 ^ K % 2)).1) (2 * m + v / 2 ^ K % 2) v).2 C k := hrk
    obtain ⟨e1, e2, e3⟩ := sync_bit h hs h1 hp.1 hp.2 (v / 2 ^ K % 2) (by omega) (r2.trans hrk')
    obtain ⟨g1, g2, g3⟩ := ih (c.bit (q m) (v / 2 ^ K % 2)).2 (d.bit (feedNx f n) (q m)).2.2 (upd q m (c.bit (q m) (v / 2 ^ K % 2)).1) (2 * m + v / 2 ^ K % 2) v (N + 3) (j + 1) L e3 (h1.bit hp.1 hp.2 _) (r1.bytes h2) (h3.upd m hb.1 hb.2) (by rw [Nat.pow_succ]; omega) (by rw [show j + 1 + K = j + (K + 1) by omega]; exact h5) ⟨k, hrk'⟩
    have eR : RD.treeGo (feedNx f n) (K + 1) d q m = RD.treeGo (feedNx f n) K (d.bit (feedNx f n) (q m)).2.2 (upd q m (c.bit (q m) (v / 2 ^ K % 2)).1) (2 * m + v / 2 ^ K % 2) := by
      show RD.treeGo (feedNx f n) K (d.bit (feedNx f n) (q m)).2.2 (upd q m (d.bit (feedNx f n) (q m)).2.1) (2 * m + (d.bit (feedNx f n) (q m)).1) = _
      rw [e1, e2]
    rw [eR]
    refine ⟨?_, g2, g3⟩
    rw [g1, Nat.pow_succ, Nat.mod_mul, Nat.mul_add]
    have : 2 ^ K * (2 * m) = 2 ^ K * 2 * m := by rw [Nat.mul_assoc]
    omega
theorem sync_revGo {f : Nat → Int} {n : Nat} {C : RC} (h : Told f n C) (K : Nat) : ∀ (i : Nat) (c : RC) (d : RD Nat) (q : Nat → Int) (m out v N j L : Nat), Sync f c d → c.Ok N → c.bytes → Pr q L → m < 2 ^ j → 2 ^ (j + K) ≤ 2 * L → (∃ k, Reach (RC.revGo K i c q m v).2 C k) →
    (RD.revGo (feedNx f n) K i d q m out).1 = out + v / 2 ^ i % 2 ^ K * 2 ^ i ∧ (RD.revGo (feedNx f n) K i d q m out).2.1 = (RC.revGo K i c q m v).1 ∧ Sync f (RC.revGo K i c q m v).2 (RD.revGo (feedNx f n) K i d q m out).2.2 := by
  induction K with
  | zero => intro i c d q m out v N j L hs _ _ _ _ _ _; exact ⟨by simp [RD.revGo, Nat.mod_one], rfl, hs⟩
  | succ K ih =>
    intro i c d q m out v N j L hs h1 h2 h3 h4 h5 hre
    have hm : m < L := by
      have : 2 ^ (j + 1) ≤ 2 ^ (j + (K + 1)) := Nat.pow_le_pow_right (by decide) (by omega)
      rw [Nat.pow_succ] at this
      omega
    have hp := h3 m hm
    have hb := bit_prob' c hp.1 hp.2 (v / 2 ^ i % 2)
    obtain ⟨n1, r1⟩ := h1.reach_bit h2 hp.1 hp.2 (v / 2 ^ i % 2)
    have hk := revGo_keep K (i + 1) (c.bit (q m) (v / 2 ^ i % 2)).2 (upd q m (c.bit (q m) (v / 2 ^ i % 2)).1) (2 * m + v / 2 ^ i % 2) v (N + 3) (j + 1) L (h1.bit hp.1 hp.2 _) (r1.bytes h2) (h3.upd m hb.1 hb.2) (by rw [Nat.pow_succ]; omega) (by rw [show j + 1 + K = j + (K + 1) by omega]; exact h5)
    obtain ⟨_, _, n2, r2⟩ := hk
    obtain ⟨k, hrk⟩ := hre
    have hrk' : Reach (RC.revGo K (i + 1) (c.bit (q m) (v / 2 ^ i % 2)).2 (upd q m (c.bit (q m) (v / 2 ^ i % 2)).1) (2 * m + v / 2 ^ i % 2) v).2 C k := hrk
    obtain ⟨e1, e2, e3⟩ := sync_bit h hs h1 hp.1 hp.2 (v / 2 ^ i % 2) (by omega) (r2.trans hrk')
    obtain ⟨g1, g2, g3⟩ := ih (i + 1) (c.bit (q m) (v / 2 ^ i % 2)).2 (d.bit (feedNx f n) (q m)).2.2 (upd q m (c.bit (q m) (v / 2 ^ i % 2)).1) (2 * m + v / 2 ^ i % 2) (out + v / 2 ^ i % 2 * 2 ^ i) v (N + 3) (j + 1) L e3 (h1.bit hp.1 hp.2 _) (r1.bytes h2) (h3.upd m hb.1 hb.2) (by rw [Nat.pow_succ]; omega) (by rw [show j + 1 + K = j + (K + 1) by omega]; exact h5) ⟨k, hrk'⟩
    have eR : RD.revGo (feedNx f n) (K + 1) i d q m out = RD.revGo (feedNx f n) K (i + 1) (d.bit (feedNx f n) (q m)).2.2 (upd q m (c.bit (q m) (v / 2 ^ i % 2)).1) (2 * m + v / 2 ^ i % 2) (out + v / 2 ^ i % 2 * 2 ^ i) := by
      show RD.revGo (feedNx f n) K (i + 1) (d.bit (feedNx f n) (q m)).2.2 (upd q m (d.bit (feedNx f n) (q m)).2.1) (2 * m + (d.bit (feedNx f n) (q m)).1) (out + (d.bit (feedNx f n) (q m)).1 * 2 ^ i) = _
      rw [e1, e2]
    rw [eR]
    refine ⟨?_, g2, g3⟩
    rw [g1]
    have e4 : v / 2 ^ i % 2 ^ (K + 1) = v / 2 ^ i % 2 + 2 * (v / 2 ^ (i + 1) % 2 ^ K) := by
      rw [Nat.pow_succ, Nat.mul_comm, Nat.mod_mul, Nat.pow_succ, Nat.div_div_eq_div_mul]
    rw [e4, Nat.add_mul, Nat.pow_succ]
    have : v / (2 ^ i * 2) % 2 ^ K * (2 ^ i * 2) = 2 * (v / (2 ^ i * 2) % 2 ^ K) * 2 ^ i := by
      rw [Nat.mul_comm (2 ^ i) 2, ← Nat.mul_assoc, Nat.mul_comm _ 2]
    omega
theorem sync_strGo {f : Nat → Int} {n : Nat} {C : RC} (h : Told f n C) (K : Nat) : ∀ (c : RC) (d : RD Nat) (out v N : Nat), Sync f c d → c.Ok N → c.bytes → (∃ k, Reach (RC.strGo K c v) C k) →
    (RD.strGo (feedNx f n) K d out).1 = 2 ^ K * out + v % 2 ^ K ∧ Sync f (RC.strGo K c v) (RD.strGo (feedNx f n) K d out).2 := by
  induction K with
  | zero => intro c d out v N hs _ _ _; exact ⟨by simp [RD.strGo, Nat.mod_one], hs⟩
  | succ K ih =>
    intro c d out v N hs h1 h2 hre
    obtain ⟨n1, r1⟩ := h1.reach_str1 h2 (v / 2 ^ K % 2)
    obtain ⟨_, n2, r2⟩ := strGo_keep K (c.str1 (v / 2 ^ K % 2)) v (N + 3) (h1.str1 _) (r1.bytes h2)
    obtain ⟨k, hrk⟩ := hre
    have hrk' : Reach (RC.strGo K (c.str1 (v / 2 ^ K % 2)) v) C k := hrk
    have h0 := h1.rng0
    have hsp : ∃ a, a = (if v / 2 ^ K % 2 = 1 then c.rng / 2 else 0) := ⟨_, rfl⟩
    obtain ⟨a, ha⟩ := hsp
    have ha2 : (v / 2 ^ K % 2 = 1 ∧ a = c.rng / 2) ∨ (v / 2 ^ K % 2 = 0 ∧ a = 0) := by
      by_cases hb : v / 2 ^ K % 2 = 1
      · rw [if_pos hb] at ha; exact .inl ⟨hb, ha⟩
      · rw [if_neg hb] at ha; exact .inr ⟨by omega, ha⟩
    have epart : c.str1 (v / 2 ^ K % 2) = c.part a (c.rng / 2) := by unfold RC.str1; rw [← ha]
    have hre2 := r2.trans hrk'
    have h65 : 65536 ≤ c.rng / 2 := by omega
    have hsum : a + c.rng / 2 ≤ c.rng := by rcases ha2 with ⟨_, e⟩ | ⟨_, e⟩ <;> omega
    have ha0 : 0 ≤ a := by rcases ha2 with ⟨_, e⟩ | ⟨_, e⟩ <;> omega
    rw [epart] at hre2
    obtain ⟨s1, s2, s3⟩ := sync_part h hs h1 ha0 h65 hsum hre2
    rw [← epart] at s3
    have e1 : d.str1 (feedNx f n) = (v / 2 ^ K % 2, RD.level (feedNx f n) ⟨d.src, c.rng / 2, d.code - a, false⟩) := by
      unfold RD.str1
      rw [hs.rng]
      rcases ha2 with ⟨e, e'⟩ | ⟨e, e'⟩
      · rw [if_pos (by omega), e, e']
        have : decide (c.rng / 2 ≤ d.code - c.rng / 2) = false := by simp; omega
        rw [this]
      · rw [if_neg (by omega), e, e', Int.sub_zero]
    obtain ⟨g1, g2⟩ := ih (c.str1 (v / 2 ^ K % 2)) (d.str1 (feedNx f n)).2 (2 * out + v / 2 ^ K % 2) v (N + 3) (by rw [e1]; exact s3) (h1.str1 _) (r1.bytes h2) ⟨k, hrk'⟩
    rw [strGo_good _ _ _ _ hs.bad, e1]
    rw [e1] at g1 g2
    refine ⟨?_, g2⟩
    rw [g1, Nat.pow_succ, Nat.mod_mul, Nat.mul_add]
    have : 2 ^ K * (2 * out) = 2 ^ K * 2 * out := by rw [Nat.mul_assoc]
    omega
end Go.Proofs.Ytjnegcambbeblaa

/- LzmaCoded, plain: the document's walk over its coder, and over its decoder, in step. -/
namespace Go.Proofs.Ytjnegcambbeblaa
open Go.RowKit

/-- all probabilities may be. -/
def AllP (P : Nat → Int) : Prop := ∀ k, 31 ≤ P k ∧ P k ≤ 2017
theorem AllP.upd {P : Nat → Int} (h : AllP P) (k : Nat) {x : Int} (h0 : 31 ≤ x) (h1 : x ≤ 2017) : AllP (upd P k x) := by
  intro j
  unfold Go.Proofs.Ytjnegcambbeblaa.upd
  split
  · exact ⟨h0, h1⟩
  · exact h j
/-- two functions, one over the coder and one over the decoder of what the coder came to at last, in step. -/
structure Step {V : Type} (fb : Nat → Int) (C : RC) (FE : (Nat → Int) → RC → V × (Nat → Int) × RC) (FD : (Nat → Int) → RD Nat → V × (Nat → Int) × RD Nat) : Prop where
  keep : ∀ P c N, AllP P → c.Ok N → c.bytes → AllP (FE P c).2.1 ∧ (∃ M, (FE P c).2.2.Ok M) ∧ (FE P c).2.2.bytes ∧ ∃ k, Reach c (FE P c).2.2 k
  sync : ∀ P c d N, AllP P → c.Ok N → c.bytes → Sync fb c d → (∃ k, Reach (FE P c).2.2 C k) → (FD P d).1 = (FE P c).1 ∧ (FD P d).2.1 = (FE P c).2.1 ∧ Sync fb (FE P c).2.2 (FD P d).2.2
section
variable {fb : Nat → Int} {n : Nat} {C : RC}
theorem Step.bindQ {V W : Type} {FE : (Nat → Int) → RC → V × (Nat → Int) × RC} {FD : (Nat → Int) → RD Nat → V × (Nat → Int) × RD Nat} {GE : V → (Nat → Int) → RC → W × (Nat → Int) × RC} {GD : V → (Nat → Int) → RD Nat → W × (Nat → Int) × RD Nat}
    (Q : V → Prop) (h : Step fb C FE FD) (hQ : ∀ P c, Q (FE P c).1) (g : ∀ x, Q x → Step fb C (GE x) (GD x)) : Step fb C (fun P c => GE (FE P c).1 (FE P c).2.1 (FE P c).2.2) (fun P d => GD (FD P d).1 (FD P d).2.1 (FD P d).2.2) where
  keep P c N hP hok hb := by
    obtain ⟨h1, ⟨M, h2⟩, h3, k, h4⟩ := h.keep P c N hP hok hb
    obtain ⟨g1, g2, g3, l, g4⟩ := (g (FE P c).1 (hQ P c)).keep _ _ M h1 h2 h3
    exact ⟨g1, g2, g3, _, h4.trans g4⟩
  sync P c d N hP hok hb hs hr := by
    obtain ⟨h1, ⟨M, h2⟩, h3, _⟩ := h.keep P c N hP hok hb
    obtain ⟨_, _, _, l, g4⟩ := (g (FE P c).1 (hQ P c)).keep _ _ M h1 h2 h3
    obtain ⟨k, hr'⟩ := hr
    obtain ⟨s1, s2, s3⟩ := h.sync P c d N hP hok hb hs ⟨_, g4.trans hr'⟩
    try dsimp only
    rw [s1, s2]
    exact (g (FE P c).1 (hQ P c)).sync _ _ _ M h1 h2 h3 s3 ⟨k, hr'⟩
theorem Step.bind {V W : Type} {FE : (Nat → Int) → RC → V × (Nat → Int) × RC} {FD : (Nat → Int) → RD Nat → V × (Nat → Int) × RD Nat} {GE : V → (Nat → Int) → RC → W × (Nat → Int) × RC} {GD : V → (Nat → Int) → RD Nat → W × (Nat → Int) × RD Nat}
    (h : Step fb C FE FD) (g : ∀ x, Step fb C (GE x) (GD x)) : Step fb C (fun P c => GE (FE P c).1 (FE P c).2.1 (FE P c).2.2) (fun P d => GD (FD P d).1 (FD P d).2.1 (FD P d).2.2) := Step.bindQ (fun _ => True) h (fun _ _ => trivial) (fun x _ => g x)
theorem Step.pure {V : Type} (x : V) : Step fb C (fun P c => (x, P, c)) (fun P d => (x, P, d)) := ⟨fun _ c N hP hok hb => ⟨hP, ⟨N, hok⟩, hb, 0, Reach.refl c⟩, fun _ _ _ _ _ _ _ hs _ => ⟨rfl, rfl, hs⟩⟩
theorem Step.map {V W : Type} {FE : (Nat → Int) → RC → V × (Nat → Int) × RC} {FD : (Nat → Int) → RD Nat → V × (Nat → Int) × RD Nat} (g : V → W) (h : Step fb C FE FD) : Step fb C (fun P c => (g (FE P c).1, (FE P c).2)) (fun P d => (g (FD P d).1, (FD P d).2)) :=
  ⟨h.keep, fun P c d N hP hok hb hs hr => by
    obtain ⟨s1, s2, s3⟩ := h.sync P c d N hP hok hb hs hr
    exact ⟨by dsimp only; rw [s1], s2, s3⟩⟩
variable (lo ge : Nat) (a : Option Addr) (cap lo2 gd : Nat)
theorem step_bit (hT : Told fb n C) (k : Nat) (b b' : Int) : Step fb C (fun P c => kbit (cdrE lo ge) P c k b) (fun P d => kbit (cdrD a n cap fb lo2 gd) P d k b') where
  keep P c N hP hok hb := by
    have hp := hP k
    have e : kbit (cdrE lo ge) P c k b = (b.toNat % 2, upd P k (c.bit (P k) (b.toNat % 2)).1, (c.bit (P k) (b.toNat % 2)).2) := by
      show ((if 31 ≤ P k ∧ P k ≤ 2017 then (b.toNat % 2, c.bit (P k) (b.toNat % 2)) else (b.toNat % 2, P k, c)).1, upd P k (if 31 ≤ P k ∧ P k ≤ 2017 then (b.toNat % 2, c.bit (P k) (b.toNat % 2)) else (b.toNat % 2, P k, c)).2.1, (if 31 ≤ P k ∧ P k ≤ 2017 then (b.toNat % 2, c.bit (P k) (b.toNat % 2)) else (b.toNat % 2, P k, c)).2.2) = _
      rw [if_pos hp]
    try dsimp only
    rw [e]
    obtain ⟨j, hj⟩ := hok.reach_bit hb hp.1 hp.2 (b.toNat % 2)
    have hq := bit_prob' c hp.1 hp.2 (b.toNat % 2)
    exact ⟨hP.upd k hq.1 hq.2, ⟨_, hok.bit hp.1 hp.2 _⟩, hj.bytes hb, j, hj⟩
  sync P c d N hP hok hb hs hr := by
    have hp := hP k
    have e : kbit (cdrE lo ge) P c k b = (b.toNat % 2, upd P k (c.bit (P k) (b.toNat % 2)).1, (c.bit (P k) (b.toNat % 2)).2) := by
      show ((if 31 ≤ P k ∧ P k ≤ 2017 then (b.toNat % 2, c.bit (P k) (b.toNat % 2)) else (b.toNat % 2, P k, c)).1, upd P k (if 31 ≤ P k ∧ P k ≤ 2017 then (b.toNat % 2, c.bit (P k) (b.toNat % 2)) else (b.toNat % 2, P k, c)).2.1, (if 31 ≤ P k ∧ P k ≤ 2017 then (b.toNat % 2, c.bit (P k) (b.toNat % 2)) else (b.toNat % 2, P k, c)).2.2) = _
      rw [if_pos hp]
    try dsimp only at hr ⊢
    rw [e] at hr ⊢
    obtain ⟨j, hr'⟩ := hr
    obtain ⟨s1, s2, s3⟩ := sync_bit hT hs hok hp.1 hp.2 (b.toNat % 2) (by omega) hr'
    refine ⟨s1, ?_, s3⟩
    show upd P k (d.bit (feedNx fb n) (P k)).2.1 = upd P k _
    rw [s2]
theorem step_treeGo (hT : Told fb n C) (o : Nat) (v v' : Int) : ∀ (i m : Nat), Step fb C (fun P c => ktreeGo (cdrE lo ge) o v i P c m) (fun P d => ktreeGo (cdrD a n cap fb lo2 gd) o v' i P d m)
  | 0, m => Step.pure m
  | i + 1, m => Step.bind (step_bit lo ge a cap lo2 gd hT (o + m) (bitAt v i) (bitAt v' i)) (GE := fun x P c => ktreeGo (cdrE lo ge) o v i P c (2 * m + x)) (GD := fun x P d => ktreeGo (cdrD a n cap fb lo2 gd) o v' i P d (2 * m + x)) (fun x => step_treeGo hT o v v' i (2 * m + x))
theorem step_tree (hT : Told fb n C) (o B : Nat) (v v' : Int) : Step fb C (fun P c => ktree (cdrE lo ge) P c o B v) (fun P d => ktree (cdrD a n cap fb lo2 gd) P d o B v') := Step.map (· - 2 ^ B) (step_treeGo lo ge a cap lo2 gd hT o v v' B 1)
theorem step_revGo (hT : Told fb n C) (o : Nat) (v v' : Int) : ∀ (k i m out : Nat), Step fb C (fun P c => krevGo (cdrE lo ge) o v k i P c m out) (fun P d => krevGo (cdrD a n cap fb lo2 gd) o v' k i P d m out)
  | 0, _, _, out => Step.pure out
  | k + 1, i, m, out => Step.bind (step_bit lo ge a cap lo2 gd hT (o + m) (bitAt v i) (bitAt v' i)) (GE := fun x P c => krevGo (cdrE lo ge) o v k (i + 1) P c (2 * m + x) (out + x * 2 ^ i)) (GD := fun x P d => krevGo (cdrD a n cap fb lo2 gd) o v' k (i + 1) P d (2 * m + x) (out + x * 2 ^ i)) (fun x => step_revGo hT o v v' k (i + 1) (2 * m + x) (out + x * 2 ^ i))
theorem step_rev (hT : Told fb n C) (o B : Nat) (v v' : Int) : Step fb C (fun P c => krev (cdrE lo ge) P c o B v) (fun P d => krev (cdrD a n cap fb lo2 gd) P d o B v') := step_revGo lo ge a cap lo2 gd hT o v v' B 0 1 0
theorem step_litGo (hT : Told fb n C) (k0 : Nat) (v v' : Int) (o : Nat) : ∀ (i : Nat) (b : Bool) (m : Nat), Step fb C (fun P c => klitGo (cdrE lo ge) k0 v i b o m P c) (fun P d => klitGo (cdrD a n cap fb lo2 gd) k0 v' i b o m P d)
  | 0, b, m => by unfold klitGo; exact Step.pure m
  | i + 1, true, m => by
    unfold klitGo
    exact Step.bind (step_bit lo ge a cap lo2 gd hT (k0 + 256 * (1 + o / 2 ^ i % 2) + m) (bitAt v i) (bitAt v' i)) (GE := fun x P c => klitGo (cdrE lo ge) k0 v i (x == o / 2 ^ i % 2) o (2 * m + x) P c) (GD := fun x P d => klitGo (cdrD a n cap fb lo2 gd) k0 v' i (x == o / 2 ^ i % 2) o (2 * m + x) P d) (fun x => step_litGo hT k0 v v' o i _ _)
  | i + 1, false, m => by
    unfold klitGo
    exact Step.bind (step_bit lo ge a cap lo2 gd hT (k0 + m) (bitAt v i) (bitAt v' i)) (GE := fun x P c => klitGo (cdrE lo ge) k0 v i false o (2 * m + x) P c) (GD := fun x P d => klitGo (cdrD a n cap fb lo2 gd) k0 v' i false o (2 * m + x) P d) (fun x => step_litGo hT k0 v v' o i _ _)
theorem step_len (hT : Told fb n C) (b sp : Nat) (v v' : Int) : Step fb C (fun P c => klen (cdrE lo ge) P c b sp v) (fun P d => klen (cdrD a n cap fb lo2 gd) P d b sp v') :=
  Step.bind (step_bit lo ge a cap lo2 gd hT b (min (v.tdiv 8) 1) (min (v'.tdiv 8) 1)) (GE := fun x P c => klen1 (cdrE lo ge) b sp v (x, P, c)) (GD := fun x P d => klen1 (cdrD a n cap fb lo2 gd) b sp v' (x, P, d)) (fun x => by
    unfold klen1
    by_cases hx : x = 0
    · simp only [if_pos hx]
      exact step_tree lo ge a cap lo2 gd hT _ _ _ _
    · simp only [if_neg hx]
      exact Step.bind (step_bit lo ge a cap lo2 gd hT (b + 1) (min (v.tdiv 16) 1) (min (v'.tdiv 16) 1)) (GE := fun y P c => klen2 (cdrE lo ge) b sp v (y, P, c)) (GD := fun y P d => klen2 (cdrD a n cap fb lo2 gd) b sp v' (y, P, d)) (fun y => by
        unfold klen2
        by_cases hy : y = 0
        · simp only [if_pos hy]
          exact Step.map (8 + ·) (step_tree lo ge a cap lo2 gd hT _ _ _ _)
        · simp only [if_neg hy]
          exact Step.map (16 + ·) (step_tree lo ge a cap lo2 gd hT _ _ _ _)))
/-- bits told straight, of a number that has no more. -/
theorem step_str (hT : Told fb n C) (k : Nat) (v : Int) (v' : Int) (hv : v.toNat < 2 ^ k) : Step fb C (fun P c => (((cdrE lo ge).ns c k v).1, P, ((cdrE lo ge).ns c k v).2)) (fun P d => (((cdrD a n cap fb lo2 gd).ns d k v').1, P, ((cdrD a n cap fb lo2 gd).ns d k v').2)) where
  keep P c N hP hok hb := by
    obtain ⟨k1, m, k2⟩ := strGo_keep k c v.toNat N hok hb
    exact ⟨hP, ⟨_, k1⟩, k2.bytes hb, m, k2⟩
  sync P c d N hP hok hb hs hr := by
    obtain ⟨g1, g2⟩ := sync_strGo hT k c d 0 v.toNat N hs hok hb hr
    refine ⟨?_, rfl, g2⟩
    show (d.str (feedNx fb n) k).1 = v.toNat
    show (if (RD.strGo (feedNx fb n) k d 0).2.bad = true then 0 else (RD.strGo (feedNx fb n) k d 0).1) = _
    rw [if_neg (by rw [g2.bad]; decide), g1, Nat.mod_eq_of_lt hv]
    omega
theorem rest_few {v : Nat} (hv : v < 4294967296) (h14 : 14 ≤ slotL v) : (restOf v (slotL v)).toNat < 2 ^ (slotN (slotL v) - 4) := by
  have h1 := slotL_range hv (by omega)
  have hN6 : 6 ≤ slotN (slotL v) := by unfold slotN; omega
  have h2 : 2 ^ slotN (slotL v) = 2 ^ (slotN (slotL v) - 4) * 16 := by rw [show (16 : Nat) = 2 ^ 4 from rfl, ← Nat.pow_add]; congr 1; omega
  unfold restOf
  omega
theorem step_dist (hT : Told fb n C) (l v v' : Nat) (hv : v < 4294967296) : Step fb C (fun P c => kdist (cdrE lo ge) P c l v) (fun P d => kdist (cdrD a n cap fb lo2 gd) P d l v') := by
  have he : ∀ c p b, 0 ≤ b → b ≤ 1 → (((cdrE lo ge).nb c p b).1 : Int) = b := by
    rcases (cdrE_ok lo ge).echo with h | h
    · exact h.elim
    · exact h
  have kE : ∀ T : Nat × (Nat → Int) × RC, kdist2 (cdrE lo ge) v T = kdist2 (cdrE lo ge) v (T.1, T.2.1, T.2.2) := fun T => rfl
  have kD : ∀ T : Nat × (Nat → Int) × RD Nat, kdist2 (cdrD a n cap fb lo2 gd) v' T = kdist2 (cdrD a n cap fb lo2 gd) v' (T.1, T.2.1, T.2.2) := fun T => rfl
  have e1 : (fun (P : Nat → Int) (c : RC) => kdist (cdrE lo ge) P c l v) = fun P c => kdist2 (cdrE lo ge) v ((ktree (cdrE lo ge) P c (432 + 64 * min l 3) 6 ((slotL v : Nat) : Int)).1, (ktree (cdrE lo ge) P c (432 + 64 * min l 3) 6 ((slotL v : Nat) : Int)).2.1, (ktree (cdrE lo ge) P c (432 + 64 * min l 3) 6 ((slotL v : Nat) : Int)).2.2) := by
    funext P c
    unfold kdist
    exact kE _
  have e2 : (fun (P : Nat → Int) (d : RD Nat) => kdist (cdrD a n cap fb lo2 gd) P d l v') = fun P d => kdist2 (cdrD a n cap fb lo2 gd) v' ((ktree (cdrD a n cap fb lo2 gd) P d (432 + 64 * min l 3) 6 ((slotL v' : Nat) : Int)).1, (ktree (cdrD a n cap fb lo2 gd) P d (432 + 64 * min l 3) 6 ((slotL v' : Nat) : Int)).2.1, (ktree (cdrD a n cap fb lo2 gd) P d (432 + 64 * min l 3) 6 ((slotL v' : Nat) : Int)).2.2) := by
    funext P d
    unfold kdist
    exact kD _
  rw [e1, e2]
  refine Step.bindQ (fun x => x = slotL v) (step_tree lo ge a cap lo2 gd hT (432 + 64 * min l 3) 6 ((slotL v : Nat) : Int) ((slotL v' : Nat) : Int)) (fun P c => ktree_echo he P c _ 6 _ (slotL_lt hv)) (GE := fun x P c => kdist2 (cdrE lo ge) v (x, P, c)) (GD := fun x P d => kdist2 (cdrD a n cap fb lo2 gd) v' (x, P, d)) (fun x hx => ?_)
  unfold kdist2
  by_cases h4 : x < 4
  · simp only [if_pos h4]
    exact Step.pure x
  · simp only [if_neg h4]
    by_cases h14 : x < 14
    · simp only [if_pos h14]
      exact Step.map (slotB x + ·) (step_rev lo ge a cap lo2 gd hT _ _ _ _)
    · simp only [if_neg h14]
      have hfew : (restOf v x).toNat < 2 ^ (slotN x - 4) := by rw [hx]; exact rest_few hv (by omega)
      generalize restOf v x = rv at hfew ⊢
      generalize restOf v' x = rv'
      have k3E : ∀ (P : Nat → Int) (h : Nat × RC), kdist3 (cdrE lo ge) v x P h = kdist3 (cdrE lo ge) v x P (h.1, h.2) := fun P h => rfl
      have k3D : ∀ (P : Nat → Int) (h : Nat × RD Nat), kdist3 (cdrD a n cap fb lo2 gd) v' x P h = kdist3 (cdrD a n cap fb lo2 gd) v' x P (h.1, h.2) := fun P h => rfl
      have e3 : (fun (P : Nat → Int) (c : RC) => kdist3 (cdrE lo ge) v x P ((cdrE lo ge).ns c (slotN x - 4) rv)) = fun P c => kdist3 (cdrE lo ge) v x P (((cdrE lo ge).ns c (slotN x - 4) rv).1, ((cdrE lo ge).ns c (slotN x - 4) rv).2) := by
        funext P c
        exact k3E _ _
      have e4 : (fun (P : Nat → Int) (d : RD Nat) => kdist3 (cdrD a n cap fb lo2 gd) v' x P ((cdrD a n cap fb lo2 gd).ns d (slotN x - 4) rv')) = fun P d => kdist3 (cdrD a n cap fb lo2 gd) v' x P (((cdrD a n cap fb lo2 gd).ns d (slotN x - 4) rv').1, ((cdrD a n cap fb lo2 gd).ns d (slotN x - 4) rv').2) := by
        funext P d
        exact k3D _ _
      rw [e3, e4]
      exact Step.bind (FE := fun P c => (((cdrE lo ge).ns c (slotN x - 4) rv).1, P, ((cdrE lo ge).ns c (slotN x - 4) rv).2)) (FD := fun P d => (((cdrD a n cap fb lo2 gd).ns d (slotN x - 4) rv').1, P, ((cdrD a n cap fb lo2 gd).ns d (slotN x - 4) rv').2)) (step_str lo ge a cap lo2 gd hT (slotN x - 4) rv rv' hfew) (GE := fun y P c => kdist3 (cdrE lo ge) v x P (y, c)) (GD := fun y P d => kdist3 (cdrD a n cap fb lo2 gd) v' x P (y, d)) (fun y => by
        unfold kdist3
        exact Step.map (fun z => slotB x + 16 * y + z) (step_rev lo ge a cap lo2 gd hT 803 4 ((v % 16 : Nat) : Int) ((v' % 16 : Nat) : Int)))
theorem step_kind (hT : Told fb n C) (s : LS) (sp : Nat) (k k' : Int) : Step fb C (fun P c => kkind (cdrE lo ge) { s with P := P } c sp k) (fun P d => kkind (cdrD a n cap fb lo2 gd) { s with P := P } d sp k') :=
  Step.bind (step_bit lo ge a cap lo2 gd hT (16 * s.st + sp) (min k 1) (min k' 1)) (GE := fun x P c => kkind0 (cdrE lo ge) s sp k (x, P, c)) (GD := fun x P d => kkind0 (cdrD a n cap fb lo2 gd) s sp k' (x, P, d)) (fun x => by
    unfold kkind0
    by_cases hx : x = 0
    · simp only [if_pos hx]
      exact Step.pure (0, false)
    · simp only [if_neg hx]
      exact Step.bind (step_bit lo ge a cap lo2 gd hT (192 + s.st) (chz (k == 1 || k == 7)) (chz (k' == 1 || k' == 7))) (GE := fun y P c => kkind1 (cdrE lo ge) s sp k (y, P, c)) (GD := fun y P d => kkind1 (cdrD a n cap fb lo2 gd) s sp k' (y, P, d)) (fun y => by
        unfold kkind1
        by_cases hy : y = 0
        · simp only [if_pos hy]
          exact Step.pure (1, false)
        · simp only [if_neg hy]
          by_cases hH : s.H.length = 0
          · simp only [if_pos hH]
            exact Step.pure (6, true)
          · simp only [if_neg hH]
            refine Step.map (fun z => (z, false)) (Step.bind (step_bit lo ge a cap lo2 gd hT (204 + s.st) (chz (k == 2 || k == 6)) (chz (k' == 2 || k' == 6))) (GE := fun z P c => kpick2 (cdrE lo ge) s.st sp k (z, P, c)) (GD := fun z P d => kpick2 (cdrD a n cap fb lo2 gd) s.st sp k' (z, P, d)) (fun z => ?_))
            unfold kpick2
            by_cases hz : z = 0
            · simp only [if_pos hz]
              exact Step.map (fun u => if u = 0 then 6 else 2) (step_bit lo ge a cap lo2 gd hT (240 + 16 * s.st + sp) (chz (k == 6)) (chz (k' == 6)))
            · simp only [if_neg hz]
              refine Step.bind (step_bit lo ge a cap lo2 gd hT (216 + s.st) (chz (k == 3)) (chz (k' == 3))) (GE := fun u P c => kpick4 (cdrE lo ge) s.st k (u, P, c)) (GD := fun u P d => kpick4 (cdrD a n cap fb lo2 gd) s.st k' (u, P, d)) (fun u => ?_)
              unfold kpick4
              by_cases hu : u = 0
              · simp only [if_pos hu]
                exact Step.pure 3
              · simp only [if_neg hu]
                exact Step.map (fun t => if t = 0 then 4 else 5) (step_bit lo ge a cap lo2 gd hT (228 + s.st) (chz (k == 4)) (chz (k' == 4)))))
end
end Go.Proofs.Ytjnegcambbeblaa

/- LzmaCoded, plain: a packet, over the coder and over its decoder, in step. -/
namespace Go.Proofs.Ytjnegcambbeblaa
open Go.RowKit

def LS.noP (s : LS) : LS := { s with P := fun _ => 0 }
theorem kcopy_P (P : Nat → Int) : ∀ (k i : Nat) (s : LS), kcopy k i { s with P := P } = ({ (kcopy k i s).1 with P := P }, (kcopy k i s).2)
  | 0, _, _ => rfl
  | k + 1, i, s => by
    have e : backD { s with P := P } (s.rep 0) = backD s (s.rep 0) := rfl
    unfold kcopy
    show (if (backD { s with P := P } (s.rep 0)).2 = true then kcopy k (i + 1) { s with P := P, H := s.H ++ [(backD { s with P := P } (s.rep 0)).1] } else ({ s with P := P, bad := true }, i)) = _
    rw [e]
    by_cases h : (backD s (s.rep 0)).2 = true
    · rw [if_pos h, if_pos h]
      exact kcopy_P P k (i + 1) { s with H := s.H ++ [(backD s (s.rep 0)).1] }
    · rw [if_neg h, if_neg h]
theorem kend2_P (P : Nat → Int) (k : Nat) (s : LS) : kend2 { s with P := P } k = ({ (kend2 s k).1 with P := P }, (kend2 s k).2) := by
  unfold kend2
  show (if (s.bad || s.ended) = true then (({ s with P := P } : LS), 0) else kcopy k 0 { s with P := P }) = _
  by_cases h : (s.bad || s.ended) = true
  · rw [if_pos h, if_pos h]
  · rw [if_neg h, if_neg h]
    exact kcopy_P P k 0 s
/-- what is behind the switch, the probabilities left out. -/
def gEnd (s : LS) (many : Nat) (b : Bool) : LS × Nat := ((kend2 (if b = true then { s with bad := true } else s) many).1.noP, (kend2 (if b = true then { s with bad := true } else s) many).2)
theorem kend_P {C : Type} (K : Cdr C) (s : LS) (P : Nat → Int) (c : C) (many : Nat) : kend K ({ s with P := P }, c, many) = ({ (gEnd s many (K.bad c)).1 with P := P }, c, (gEnd s many (K.bad c)).2) := by
  unfold kend gEnd
  dsimp only
  cases K.bad c with
  | true =>
    rw [if_pos rfl, if_pos rfl]
    have e := kend2_P P many { s with bad := true }
    have e' : kend2 { s with P := P, bad := true } many = _ := e
    rw [e']
    rfl
  | false =>
    rw [if_neg (by decide), if_neg (by decide)]
    rw [kend2_P P many s]
    rfl
def gLit (s : LS) (x : Nat) (b : Bool) : LS × Nat := if b = true then (({ s with st := stL s.st, bad := true } : LS).noP, 0) else (({ s with st := stL s.st, H := s.H ++ [((x % 256 : Nat) : Int)] } : LS).noP, 1)
theorem klitP_P {C : Type} (K : Cdr C) (s : LS) (P : Nat → Int) (r : Nat × (Nat → Int) × C) : klitP K { s with P := P } r = ({ (gLit s r.1 (K.bad r.2.2)).1 with P := r.2.1 }, r.2.2, (gLit s r.1 (K.bad r.2.2)).2) := by
  unfold klitP gLit
  cases K.bad r.2.2 with
  | true => rw [if_pos rfl, if_pos rfl]; rfl
  | false => rw [if_neg (by decide), if_neg (by decide)]; rfl
/-- a packet as a function of the probabilities and what codes beneath. -/
def pkF {C : Type} (K : Cdr C) (s : LS) (p : PkV) (P : Nat → Int) (c : C) : (LS × Nat) × (Nat → Int) × C := (((kpacket K { s with P := P } c p).1.noP, (kpacket K { s with P := P } c p).2.2), (kpacket K { s with P := P } c p).1.P, (kpacket K { s with P := P } c p).2.1)
def pk2F {C : Type} (K : Cdr C) (s : LS) (sp : Nat) (p : PkV) (k : Nat) (P : Nat → Int) (c : C) : (LS × Nat) × (Nat → Int) × C := (((kpacket2 K { s with P := P } c sp p k).1.noP, (kpacket2 K { s with P := P } c sp p k).2.2), (kpacket2 K { s with P := P } c sp p k).1.P, (kpacket2 K { s with P := P } c sp p k).2.1)
theorem pk2_lit {C : Type} (K : Cdr C) (s : LS) (sp : Nat) (p : PkV) (P : Nat → Int) (c : C) : pk2F K s sp p 0 P c = (gLit s (klit K { s with P := P } c p.byte).1 (K.bad (klit K { s with P := P } c p.byte).2.2), (klit K { s with P := P } c p.byte).2) := by
  unfold pk2F
  have e : kpacket2 K { s with P := P } c sp p 0 = klitP K { s with P := P } (klit K { s with P := P } c p.byte) := if_pos rfl
  rw [e, klitP_P]
  have hn : ∀ x b, (gLit s x b).1.noP = (gLit s x b).1 := by
    intro x b
    unfold gLit
    split <;> rfl
  show ((({ (gLit s _ _).1 with P := _ } : LS).noP, (gLit s _ _).2), _, _) = _
  show (((gLit s _ _).1.noP, (gLit s _ _).2), _, _) = _
  rw [hn]
theorem gEnd_noP (s : LS) (many : Nat) (b : Bool) : (gEnd s many b).1.noP = (gEnd s many b).1 := rfl
def gFar (s : LS) (x : Nat × Nat) (b : Bool) : LS × Nat := gEnd { s with st := afterL s.st 7 10, rep := updN (shiftL s.rep 3) 0 x.2, ended := decide (x.2 = 4294967295) && !b } (x.1 + 2) b
def farF {C : Type} (K : Cdr C) (sp : Nat) (l : Int) (v : Nat) (P : Nat → Int) (c : C) : (Nat × Nat) × (Nat → Int) × C := (((klen K P c 819 sp l).1, (kdist K (klen K P c 819 sp l).2.1 (klen K P c 819 sp l).2.2 (klen K P c 819 sp l).1 v).1), (kdist K (klen K P c 819 sp l).2.1 (klen K P c 819 sp l).2.2 (klen K P c 819 sp l).1 v).2)
theorem pk2_far {C : Type} (K : Cdr C) (s : LS) (sp : Nat) (p : PkV) (P : Nat → Int) (c : C) (L : Nat × (Nat → Int) × C) (hL : L = klen K P c 819 sp (if p.kind = 7 then 0 else p.len - 2)) (D : Nat × (Nat → Int) × C) (hD : D = kdist K L.2.1 L.2.2 L.1 (if p.kind = 7 then 4294967295 else p.dist)) :
    pk2F K s sp p 1 P c = (gFar s (L.1, D.1) (K.bad D.2.2), D.2) := by
  unfold pk2F
  have e : kpacket2 K { s with P := P } c sp p 1 = kend K ({ ({ s with st := afterL s.st 7 10, rep := updN (shiftL s.rep 3) 0 D.1, ended := decide (D.1 = 4294967295) && !K.bad D.2.2 } : LS) with P := D.2.1 }, D.2.2, L.1 + 2) := by
    unfold kpacket2
    rw [if_neg (by decide)]
    unfold kmid
    rw [if_pos rfl, hD, hL]
    rfl
  rw [e, kend_P]
  rfl
theorem pk2_one {C : Type} (K : Cdr C) (s : LS) (sp : Nat) (p : PkV) (P : Nat → Int) (c : C) : pk2F K s sp p 6 P c = (gEnd { s with st := afterL s.st 9 11 } 1 (K.bad c), P, c) := by
  unfold pk2F
  have e : kpacket2 K { s with P := P } c sp p 6 = kend K ({ ({ s with st := afterL s.st 9 11 } : LS) with P := P }, c, 1) := by
    unfold kpacket2
    rw [if_neg (by decide)]
    unfold kmid
    rw [if_neg (by decide), if_pos rfl]
  rw [e, kend_P]
  rfl
theorem pk2_again {C : Type} (K : Cdr C) (s : LS) (sp : Nat) (p : PkV) (k : Nat) (h0 : k ≠ 0) (h1 : k ≠ 1) (h6 : k ≠ 6) (P : Nat → Int) (c : C) (L : Nat × (Nat → Int) × C) (hL : L = klen K P c 1333 sp (p.len - 2)) :
    pk2F K s sp p k P c = (gEnd { s with st := afterL s.st 8 11, rep := updN (shiftL s.rep (k - 2)) 0 (s.rep (k - 2)) } (L.1 + 2) (K.bad L.2.2), L.2) := by
  unfold pk2F
  have e : kpacket2 K { s with P := P } c sp p k = kend K ({ ({ s with st := afterL s.st 8 11, rep := updN (shiftL s.rep (k - 2)) 0 (s.rep (k - 2)) } : LS) with P := L.2.1 }, L.2.2, L.1 + 2) := by
    unfold kpacket2
    rw [if_neg h0]
    unfold kmid
    rw [if_neg h1, if_neg h6, hL]
    rfl
  rw [e, kend_P]
  rfl
section
variable {fb : Nat → Int} {n : Nat} {C : RC}
/-- a result that asks whether what decodes is bad. -/
theorem Step.mapB {V W : Type} {FE : (Nat → Int) → RC → V × (Nat → Int) × RC} {FD : (Nat → Int) → RD Nat → V × (Nat → Int) × RD Nat} (g : V → Bool → W) (h : Step fb C FE FD) : Step fb C (fun P c => (g (FE P c).1 false, (FE P c).2)) (fun P d => (g (FD P d).1 (FD P d).2.2.bad, (FD P d).2)) :=
  ⟨h.keep, fun P c d N hP hok hb hs hr => by
    obtain ⟨s1, s2, s3⟩ := h.sync P c d N hP hok hb hs hr
    exact ⟨by dsimp only; rw [s1, s3.bad], s2, s3⟩⟩
variable (lo ge : Nat) (a : Option Addr) (cap lo2 gd : Nat)
theorem step_far (hT : Told fb n C) (sp : Nat) (l l' : Int) (v v' : Nat) (hv : v < 4294967296) : Step fb C (farF (cdrE lo ge) sp l v) (farF (cdrD a n cap fb lo2 gd) sp l' v') :=
  Step.bind (step_len lo ge a cap lo2 gd hT 819 sp l l') (GE := fun x P c => ((x, (kdist (cdrE lo ge) P c x v).1), (kdist (cdrE lo ge) P c x v).2)) (GD := fun x P d => ((x, (kdist (cdrD a n cap fb lo2 gd) P d x v').1), (kdist (cdrD a n cap fb lo2 gd) P d x v').2))
    (fun x => Step.map (fun y => (x, y)) (step_dist lo ge a cap lo2 gd hT x v v' hv))
set_option maxRecDepth 100000 in
theorem step_pk2 (hT : Told fb n C) (s : LS) (sp : Nat) (p p' : PkV) (hv : p.dist < 4294967296) (k : Nat) : Step fb C (pk2F (cdrE lo ge) s sp p k) (pk2F (cdrD a n cap fb lo2 gd) s sp p' k) := by
  by_cases h0 : k = 0
  · subst h0
    have e1 : pk2F (cdrE lo ge) s sp p 0 = fun P c => (gLit s (klit (cdrE lo ge) { s with P := P } c p.byte).1 false, (klit (cdrE lo ge) { s with P := P } c p.byte).2) := by
      funext P c
      exact pk2_lit (cdrE lo ge) s sp p P c
    have e2 : pk2F (cdrD a n cap fb lo2 gd) s sp p' 0 = fun P d => (gLit s (klit (cdrD a n cap fb lo2 gd) { s with P := P } d p'.byte).1 (klit (cdrD a n cap fb lo2 gd) { s with P := P } d p'.byte).2.2.bad, (klit (cdrD a n cap fb lo2 gd) { s with P := P } d p'.byte).2) := by
      funext P d
      exact pk2_lit (cdrD a n cap fb lo2 gd) s sp p' P d
    rw [e1, e2]
    exact Step.mapB (gLit s) (step_litGo lo ge a cap lo2 gd hT (1847 + krow s) p.byte p'.byte (backD s (s.rep 0)).1.toNat 8 (decide (7 ≤ s.st)) 1)
  · by_cases h1 : k = 1
    · subst h1
      have e1 : pk2F (cdrE lo ge) s sp p 1 = fun P c => (gFar s (farF (cdrE lo ge) sp (if p.kind = 7 then 0 else p.len - 2) (if p.kind = 7 then 4294967295 else p.dist) P c).1 false, (farF (cdrE lo ge) sp (if p.kind = 7 then 0 else p.len - 2) (if p.kind = 7 then 4294967295 else p.dist) P c).2) := by
        funext P c
        unfold farF
        obtain ⟨L, hL⟩ : ∃ L, L = klen (cdrE lo ge) P c 819 sp (if p.kind = 7 then 0 else p.len - 2) := ⟨_, rfl⟩
        rw [← hL]
        obtain ⟨D, hD⟩ : ∃ D, D = kdist (cdrE lo ge) L.2.1 L.2.2 L.1 (if p.kind = 7 then 4294967295 else p.dist) := ⟨_, rfl⟩
        rw [← hD, pk2_far (cdrE lo ge) s sp p P c L hL D hD]
        rfl
      have e2 : pk2F (cdrD a n cap fb lo2 gd) s sp p' 1 = fun P d => (gFar s (farF (cdrD a n cap fb lo2 gd) sp (if p'.kind = 7 then 0 else p'.len - 2) (if p'.kind = 7 then 4294967295 else p'.dist) P d).1 (farF (cdrD a n cap fb lo2 gd) sp (if p'.kind = 7 then 0 else p'.len - 2) (if p'.kind = 7 then 4294967295 else p'.dist) P d).2.2.bad, (farF (cdrD a n cap fb lo2 gd) sp (if p'.kind = 7 then 0 else p'.len - 2) (if p'.kind = 7 then 4294967295 else p'.dist) P d).2) := by
        funext P d
        unfold farF
        obtain ⟨L, hL⟩ : ∃ L, L = klen (cdrD a n cap fb lo2 gd) P d 819 sp (if p'.kind = 7 then 0 else p'.len - 2) := ⟨_, rfl⟩
        rw [← hL]
        obtain ⟨D, hD⟩ : ∃ D, D = kdist (cdrD a n cap fb lo2 gd) L.2.1 L.2.2 L.1 (if p'.kind = 7 then 4294967295 else p'.dist) := ⟨_, rfl⟩
        rw [← hD, pk2_far (cdrD a n cap fb lo2 gd) s sp p' P d L hL D hD]
        rfl
      rw [e1, e2]
      have hv7 : (if p.kind = 7 then 4294967295 else p.dist) < 4294967296 := by
        split
        · decide
        · exact hv
      exact Step.mapB (gFar s) (step_far lo ge a cap lo2 gd hT sp _ _ _ _ hv7)
    · by_cases h6 : k = 6
      · subst h6
        have e1 : pk2F (cdrE lo ge) s sp p 6 = fun P c => (gEnd { s with st := afterL s.st 9 11 } 1 false, P, c) := by
          funext P c
          exact pk2_one (cdrE lo ge) s sp p P c
        have e2 : pk2F (cdrD a n cap fb lo2 gd) s sp p' 6 = fun P d => (gEnd { s with st := afterL s.st 9 11 } 1 d.bad, P, d) := by
          funext P d
          exact pk2_one (cdrD a n cap fb lo2 gd) s sp p' P d
        rw [e1, e2]
        exact Step.mapB (fun (_ : Unit) b => gEnd { s with st := afterL s.st 9 11 } 1 b) (Step.pure ())
      · have e1 : pk2F (cdrE lo ge) s sp p k = fun P c => (gEnd { s with st := afterL s.st 8 11, rep := updN (shiftL s.rep (k - 2)) 0 (s.rep (k - 2)) } ((klen (cdrE lo ge) P c 1333 sp (p.len - 2)).1 + 2) false, (klen (cdrE lo ge) P c 1333 sp (p.len - 2)).2) := by
          funext P c
          exact pk2_again (cdrE lo ge) s sp p k h0 h1 h6 P c _ rfl
        have e2 : pk2F (cdrD a n cap fb lo2 gd) s sp p' k = fun P d => (gEnd { s with st := afterL s.st 8 11, rep := updN (shiftL s.rep (k - 2)) 0 (s.rep (k - 2)) } ((klen (cdrD a n cap fb lo2 gd) P d 1333 sp (p'.len - 2)).1 + 2) (klen (cdrD a n cap fb lo2 gd) P d 1333 sp (p'.len - 2)).2.2.bad, (klen (cdrD a n cap fb lo2 gd) P d 1333 sp (p'.len - 2)).2) := by
          funext P d
          exact pk2_again (cdrD a n cap fb lo2 gd) s sp p' k h0 h1 h6 P d _ rfl
        rw [e1, e2]
        exact Step.mapB (fun (x : Nat) b => gEnd { s with st := afterL s.st 8 11, rep := updN (shiftL s.rep (k - 2)) 0 (s.rep (k - 2)) } (x + 2) b) (step_len lo ge a cap lo2 gd hT 1333 sp (p.len - 2) (p'.len - 2))
/-- a packet, over the coder and over its decoder. -/
theorem step_pk (hT : Told fb n C) (s : LS) (p p' : PkV) (hv : p.dist < 4294967296) : Step fb C (pkF (cdrE lo ge) s p) (pkF (cdrD a n cap fb lo2 gd) s p') :=
  Step.bind (step_kind lo ge a cap lo2 gd hT s (s.H.length % 2 ^ s.pb) p.kind p'.kind) (GE := fun x P c => pk2F (cdrE lo ge) { s with bad := s.bad || x.2 } (s.H.length % 2 ^ s.pb) p x.1 P c) (GD := fun x P d => pk2F (cdrD a n cap fb lo2 gd) { s with bad := s.bad || x.2 } (s.H.length % 2 ^ s.pb) p' x.1 P d) (fun x => step_pk2 lo ge a cap lo2 gd hT { s with bad := s.bad || x.2 } (s.H.length % 2 ^ s.pb) p p' hv x.1)
end
end Go.Proofs.Ytjnegcambbeblaa

/- LzmaCoded, plain: what the document's coder is asked for is what its walk goes on with. -/
namespace Go.Proofs.Ytjnegcambbeblaa
open Go.RowKit

/-- what is coded is what is asked for. -/
structure Echo {C : Type} (K : Cdr C) : Prop where
  bit : ∀ c p b, 0 ≤ b → b ≤ 1 → ((K.nb c p b).1 : Int) = b
  str : ∀ c k (v : Int), 0 ≤ v → ((K.ns c k v).1 : Int) = v
  good : ∀ c, K.bad c = false
theorem cdrE_echo (lo ge : Nat) : Echo (cdrE lo ge) where
  bit := by
    rcases (cdrE_ok lo ge).echo with h | h
    · exact h.elim
    · exact h
  str := fun c k v h => by show ((v.toNat : Nat) : Int) = v; omega
  good := fun _ => rfl
section
variable {C : Type} {K : Cdr C} (h : Echo K)
include h
theorem kbit_echo (P : Nat → Int) (c : C) (k : Nat) {b : Int} (h0 : 0 ≤ b) (h1 : b ≤ 1) : ((kbit K P c k b).1 : Int) = b := h.bit c (P k) b h0 h1
theorem kbit_u (u i : Nat) (P : Nat → Int) (c : C) (k : Nat) : (kbit K P c k (bitAt (u : Int) i)).1 = u / 2 ^ i % 2 := by
  have hb := bitAt_01 (Int.natCast_nonneg u) i
  have hu : bitAt (u : Int) i = ((u / 2 ^ i % 2 : Nat) : Int) := by
    unfold bitAt
    rw [Int.tdiv_eq_ediv_of_nonneg (Int.natCast_nonneg _), Int.tmod_eq_emod_of_nonneg (Int.ediv_nonneg (Int.natCast_nonneg _) (Int.natCast_nonneg _))]
    rfl
  have h2 := kbit_echo h P c k hb.1 hb.2
  rw [hu] at h2 ⊢
  omega
theorem krevGo_echo (o u : Nat) : ∀ (k i : Nat) (P : Nat → Int) (c : C) (m out : Nat), (krevGo K o (u : Int) k i P c m out).1 = out + u / 2 ^ i % 2 ^ k * 2 ^ i
  | 0, i, P, c, m, out => by unfold krevGo; simp [Nat.mod_one]
  | k + 1, i, P, c, m, out => by
    show (krevGo K o (u : Int) k (i + 1) _ _ (2 * m + (kbit K P c (o + m) (bitAt (u : Int) i)).1) (out + (kbit K P c (o + m) (bitAt (u : Int) i)).1 * 2 ^ i)).1 = _
    rw [krevGo_echo o u k (i + 1), kbit_u h u i]
    have e4 : u / 2 ^ i % 2 ^ (k + 1) = u / 2 ^ i % 2 + 2 * (u / 2 ^ (i + 1) % 2 ^ k) := by
      rw [Nat.pow_succ, Nat.mul_comm, Nat.mod_mul, Nat.pow_succ, Nat.div_div_eq_div_mul]
    rw [e4, Nat.add_mul, Nat.pow_succ]
    have : u / (2 ^ i * 2) % 2 ^ k * (2 ^ i * 2) = 2 * (u / (2 ^ i * 2) % 2 ^ k) * 2 ^ i := by
      rw [Nat.mul_comm (2 ^ i) 2, ← Nat.mul_assoc, Nat.mul_comm _ 2]
    omega
theorem krev_echo (P : Nat → Int) (c : C) (o B u : Nat) (hu : u < 2 ^ B) : (krev K P c o B (u : Int)).1 = u := by
  show (krevGo K o (u : Int) B 0 P c 1 0).1 = u
  rw [krevGo_echo h]
  simp [Nat.mod_eq_of_lt hu]
theorem kdist_echo (P : Nat → Int) (c : C) (l v : Nat) (hv : v < 4294967296) : (kdist K P c l v).1 = v := by
  have ht := ktree_echo h.bit P c (432 + 64 * min l 3) 6 _ (slotL_lt hv)
  unfold kdist
  obtain ⟨r, hr⟩ : ∃ r, r = ktree K P c (432 + 64 * min l 3) 6 (slotL v : Nat) := ⟨_, rfl⟩
  rw [← hr] at ht ⊢
  unfold kdist2
  by_cases h4 : r.1 < 4
  · rw [if_pos h4, ht]
    have h4' : slotL v < 4 := by omega
    unfold slotL at h4' ⊢
    show slotGo 30 v = v
    have e : slotGo 30 v = if v < 4 then v else 2 + slotGo 29 (v / 2) := rfl
    rw [e] at h4' ⊢
    by_cases hv4 : v < 4
    · rw [if_pos hv4]
    · rw [if_neg hv4] at h4'
      have e2 : slotGo 29 (v / 2) = if v / 2 < 4 then v / 2 else 2 + slotGo 28 (v / 2 / 2) := rfl
      rw [e2] at h4'
      split at h4' <;> omega
  · rw [if_neg h4]
    have hrg := slotL_range hv (by omega)
    rw [← ht] at hrg
    by_cases h14 : r.1 < 14
    · rw [if_pos h14]
      show slotB r.1 + (krev K r.2.1 r.2.2 (688 + (slotB r.1 - r.1)) (slotN r.1) ((v : Int) - (slotB r.1 : Nat))).1 = v
      rw [show (v : Int) - (slotB r.1 : Nat) = ((v - slotB r.1 : Nat) : Int) by omega, krev_echo h _ _ _ _ _ (by omega)]
      omega
    · rw [if_neg h14]
      have hN6 : 6 ≤ slotN r.1 := by unfold slotN; omega
      have h2 : 2 ^ slotN r.1 = 2 ^ (slotN r.1 - 4) * 16 := by rw [show (16 : Nat) = 2 ^ 4 from rfl, ← Nat.pow_add]; congr 1; omega
      have h3 : 2 ^ (slotN r.1 - 1) = 2 ^ (slotN r.1 - 5) * 16 := by rw [show (16 : Nat) = 2 ^ 4 from rfl, ← Nat.pow_add]; congr 1; omega
      have h5 : 2 ^ slotN r.1 = 2 ^ (slotN r.1 - 1) * 2 := by rw [← Nat.pow_succ]; congr 1; omega
      have hB : slotB r.1 % 16 = 0 := by
        unfold slotB
        rw [h2, ← Nat.mul_assoc]
        exact Nat.mul_mod_left _ _
      have hs := h.str r.2.2 (slotN r.1 - 4) (restOf v r.1) (by unfold restOf; omega)
      unfold kdist3
      show slotB r.1 + 16 * (K.ns r.2.2 (slotN r.1 - 4) (restOf v r.1)).1 + (krev K r.2.1 (K.ns r.2.2 (slotN r.1 - 4) (restOf v r.1)).2 803 4 ((v % 16 : Nat) : Int)).1 = v
      rw [krev_echo h _ _ _ _ _ (by omega)]
      have hro : restOf v r.1 = ((v - slotB r.1 : Nat) : Int) / 16 := by unfold restOf; omega
      rw [hro] at hs
      rw [hro]
      omega
theorem klen_echo (P : Nat → Int) (c : C) (b sp l : Nat) (hl : l < 272) : (klen K P c b sp (l : Int)).1 = l := by
  have e8 : (l : Int).tdiv 8 = ((l / 8 : Nat) : Int) := by rw [Int.tdiv_eq_ediv_of_nonneg (by omega)]; omega
  have e16 : (l : Int).tdiv 16 = ((l / 16 : Nat) : Int) := by rw [Int.tdiv_eq_ediv_of_nonneg (by omega)]; omega
  obtain ⟨t8, ht8⟩ : ∃ t, t = min ((l : Int).tdiv 8) 1 := ⟨_, rfl⟩
  obtain ⟨t16, ht16⟩ : ∃ t, t = min ((l : Int).tdiv 16) 1 := ⟨_, rfl⟩
  have m8 : (l < 8 → t8 = 0) ∧ (¬ l < 8 → t8 = 1) := by
    refine ⟨fun q => ?_, fun q => ?_⟩
    · rw [ht8, e8, show l / 8 = 0 by omega]; rfl
    · rw [ht8, e8]
      have : 1 ≤ l / 8 := by omega
      exact Int.min_eq_right (by omega)
  have m16 : (l < 16 → t16 = 0) ∧ (¬ l < 16 → t16 = 1) := by
    refine ⟨fun q => ?_, fun q => ?_⟩
    · rw [ht16, e16, show l / 16 = 0 by omega]; rfl
    · rw [ht16, e16]
      have : 1 ≤ l / 16 := by omega
      exact Int.min_eq_right (by omega)
  have n8 : 0 ≤ t8 ∧ t8 ≤ 1 := by
    by_cases q : l < 8
    · rw [m8.1 q]; decide
    · rw [m8.2 q]; decide
  have n16 : 0 ≤ t16 ∧ t16 ≤ 1 := by
    by_cases q : l < 16
    · rw [m16.1 q]; decide
    · rw [m16.2 q]; decide
  have e0 : klen K P c b sp (l : Int) = klen1 K b sp (l : Int) (kbit K P c b t8) := by rw [ht8]; rfl
  rw [e0]
  have h1 := kbit_echo h P c b n8.1 n8.2
  obtain ⟨r1, hr1⟩ : ∃ r, r = kbit K P c b t8 := ⟨_, rfl⟩
  rw [← hr1] at h1 ⊢
  unfold klen1
  by_cases h8 : l < 8
  · rw [m8.1 h8] at h1
    rw [if_pos (by omega)]
    exact ktree_echo h.bit _ _ _ 3 l (by omega)
  · rw [m8.2 h8] at h1
    rw [if_neg (by omega), ← ht16]
    have h2 := kbit_echo h r1.2.1 r1.2.2 (b + 1) n16.1 n16.2
    obtain ⟨r2, hr2⟩ : ∃ r, r = kbit K r1.2.1 r1.2.2 (b + 1) t16 := ⟨_, rfl⟩
    rw [← hr2] at h2 ⊢
    unfold klen2
    by_cases h16 : l < 16
    · rw [m16.1 h16] at h2
      rw [if_pos (by omega)]
      show 8 + (ktree K _ _ (b + 130 + 8 * sp) 3 ((l : Int) - 8)).1 = l
      rw [show (l : Int) - 8 = ((l - 8 : Nat) : Int) by omega, ktree_echo h.bit _ _ _ 3 _ (by omega)]
      omega
    · rw [m16.2 h16] at h2
      rw [if_neg (by omega)]
      show 16 + (ktree K _ _ (b + 258) 8 ((l : Int) - 16)).1 = l
      rw [show (l : Int) - 16 = ((l - 16 : Nat) : Int) by omega, ktree_echo h.bit _ _ _ 8 _ (by omega)]
      omega
theorem kkind_echo (s : LS) (c : C) (sp : Nat) (k : Int) (h0 : 0 ≤ k) (h7 : k ≤ 7) (hH : 2 ≤ k → k ≤ 6 → s.H.length ≠ 0) : (kkind K s c sp k).1 = ((if k = 7 then 1 else k.toNat), false) := by
  have b1 := kbit_echo h s.P c (16 * s.st + sp) (b := min k 1) (by omega) (by omega)
  unfold kkind kkind0
  by_cases hk0 : k = 0
  · subst hk0
    rw [if_pos (by omega)]
    rfl
  · rw [if_neg (by omega)]
    obtain ⟨r, hr⟩ : ∃ r, r = kbit K (kbit K s.P c (16 * s.st + sp) (min k 1)).2.1 (kbit K s.P c (16 * s.st + sp) (min k 1)).2.2 (192 + s.st) (chz (k == 1 || k == 7)) := ⟨_, rfl⟩
    have key : ∀ (P : Nat → Int) (c : C) (q : Nat) (bb : Bool), (kbit K P c q (chz bb)).1 = if bb = true then 0 else 1 := by
      intro P c q bb
      have := kbit_echo h P c q (b := chz bb) (by unfold chz; split <;> decide) (by unfold chz; split <;> decide)
      cases bb
      · have e : chz false = 1 := rfl
        rw [e] at this ⊢
        rw [if_neg (by decide)]
        omega
      · have e : chz true = 0 := rfl
        rw [e] at this ⊢
        rw [if_pos rfl]
        omega
    have hr1 : r.1 = if (k == 1 || k == 7) = true then 0 else 1 := by rw [hr]; exact key _ _ _ _
    rw [← hr]
    unfold kkind1
    have hcs : k = 1 ∨ k = 2 ∨ k = 3 ∨ k = 4 ∨ k = 5 ∨ k = 6 ∨ k = 7 := by omega
    by_cases hf : k = 1 ∨ k = 7
    · have : (k == 1 || k == 7) = true := by rcases hf with rfl | rfl <;> rfl
      rw [this, if_pos rfl] at hr1
      rw [if_pos hr1]
      rcases hf with rfl | rfl <;> rfl
    · have hne : (k == 1 || k == 7) = false := by
        have h1 : (k == 1) = false := by simpa using fun e => hf (.inl e)
        have h7' : (k == 7) = false := by simpa using fun e => hf (.inr e)
        rw [h1, h7']
        rfl
      rw [hne, if_neg (by decide)] at hr1
      rw [if_neg (by omega), if_neg (hH (by omega) (by omega))]
      show ((kpick2 K s.st sp k _).1, false) = _
      congr 1
      unfold kpick2
      have h7n : ¬ k = 7 := fun e => hf (.inr e)
      rw [if_neg h7n, key]
      have hcs2 : k = 2 ∨ k = 3 ∨ k = 4 ∨ k = 5 ∨ k = 6 := by omega
      rcases hcs2 with rfl | rfl | rfl | rfl | rfl
      · rw [if_pos (by rfl)]
        unfold kpick3
        rw [key]
        rfl
      · rw [if_neg (by decide)]
        unfold kpick4
        rw [key]
        rfl
      · rw [if_neg (by decide)]
        unfold kpick4
        rw [key, if_neg (by decide)]
        unfold kpick5
        rw [key]
        rfl
      · rw [if_neg (by decide)]
        unfold kpick4
        rw [key, if_neg (by decide)]
        unfold kpick5
        rw [key]
        rfl
      · rw [if_pos (by rfl)]
        unfold kpick3
        rw [key]
        rfl
end
end Go.Proofs.Ytjnegcambbeblaa

/- lzma: awake (08). -/
namespace Go.Proofs.Ytjnegcambbeblaa
open Go.RowKit

def pAwake : Lset := ⟨3, 0, 2, 4096⟩
theorem awake_six : lunpack (feedNx (fun _ => 0) 6) 0 pAwake 1 1 = some [0] := by kernel_rfl
theorem awake_five : lunpack (feedNx (fun _ => 0) 5) 0 pAwake 1 1 = none := by kernel_rfl
theorem pAwake_light : pAwake.Light := ⟨by constructor <;> decide, by decide⟩
def MUCH : MS := ⟨1099511627776, 0, 0, 0, 1099511627776, 1099511627776, 1099511627776, 1099511627776⟩
theorem MUCH_ok : MUCH.Ok := ⟨by decide, by decide, by decide⟩
theorem much_mem {a b : Nat} (ha : a ≤ 200000) (hb : b ≤ 1048576) : (MUCH.mem a).1 = true ∧ ((MUCH.mem a).2.mem b).1 = true := by
  have h1 : MUCH.mem a = (true, { MUCH with now := MUCH.now + a, peak := max MUCH.peak (MUCH.now + a) }) := by
    unfold MS.mem
    rw [if_neg (by decide), if_neg (by show ¬ 1099511627776 - 0 < a; omega)]
  rw [h1]
  refine ⟨rfl, ?_⟩
  unfold MS.mem
  rw [if_neg (by show ¬ (0 : Nat) ≠ 0; decide), if_neg (by show ¬ 1099511627776 - (0 + a) < b; omega)]
set_option maxRecDepth 100000 in
theorem much_any (w : World) : Calls Try.prog 18 #[] w (MNewPost w MUCH) := by
  go_enter Try.func18, Try.ntmps18
  go_wp2_with fail
  refine (mnew_m 1099511627776 (by decide) 1099511627776 1099511627776 1099511627776 1099511627776 w (by decide) (by decide) (by decide) (by decide)).mono ?_
  rintro e w1 ⟨g, rfl, h1, h2, h3⟩
  have H2 := hid h2
  have H3 := hid h3
  clear h2 h3
  go_wp2_with fail
  go_ret
  exact ⟨g, rfl, h1, H2.out, H3.out⟩
def AwPost (k : Nat) (W : World) (e : Ending) (w' : World) : Prop :=
  (k = 6 → ∃ v, e = .returned (.tuple #[v, .int .i64 0]) ∧ RowO w' W.heap.size v [0]) ∧ (k = 5 → e = .returned (.tuple #[.slice none 0 0, .int .i64 12]))
theorem unp_awake (k b gm : Nat) (hk : k = 5 ∨ k = 6) (W w : World) (hW : Fr Non W w) (hgW : W.heap.size ≤ gm) (hb : w.heap[b]? = some (.cells (arr .u8 k (fun _ => 0)) 5)) (hm : MAt w gm MUCH) :
    Calls Try.prog 17 #[.slice (some ⟨b, 0, none⟩) k k, .agg #[.int .i64 3, .int .i64 0, .int .i64 2, .int .i64 4096], .int .i64 1, .pointer (some ⟨gm, 0, none⟩)] w
      fun e w' => Fr Non W w' ∧ AwPost k W e w' := by
  have hp : pAwake.need ≤ 200000 := by decide
  have hM := much_mem (a := pAwake.need) (b := 1) hp (by decide)
  refine (lunpack_any gm MUCH pAwake 1 1 rfl _ k k (fun _ => 0) (fun _ _ => by decide) w 1 (by decide) hm MUCH_ok pAwake_light (by decide) (by decide) (by omega) (Nat.le_refl _) (fun e => by cases e)
    (.inr ⟨b, 0, rfl, blk_lt hb, fun i hi => blk_cell hb (by rw [Nat.zero_add]; exact arr_get _ _ _ hi)⟩) hM.1 hM.2).mono ?_
  rintro e w' ⟨h1, h2, h3, h4⟩
  refine ⟨hW.then h1 (fun i hi e => by have e' : i = gm := e; omega), fun e => ?_, fun e => ?_⟩
  · subst e
    rw [awake_six] at h4
    rcases h4 with ⟨h5, _⟩ | ⟨xs, v, h5, h6, h7⟩
    · cases h5
    · injection h5 with h5
      subst h5
      exact ⟨v, h6, h7.low hW.size⟩
  · subst e
    rw [awake_five] at h4
    rcases h4 with ⟨_, h6⟩ | ⟨xs, v, h5, h6, h7⟩
    · exact h6
    · cases h5
set_option maxRecDepth 100000 in
set_option maxHeartbeats 800000 in
theorem awake08_any (w : World) : Calls Try.prog 13 #[] w fun e w' => e = .returned (.bool true) ∧ Fr Non w w' := by
  have hmk : ∀ w : World, (Instr.makeSlice 30 (.int .i64 6) (.int .i64 6)).run Try.prog w = .ok (.slice (some ⟨w.heap.size, 0, none⟩) 6 6) (w.alloc (.cells (arr .u8 6 (fun _ => 0)) 5)) := fun w => emake_u8 6 (by decide) w
  have hmk5 : ∀ w : World, (Instr.makeSlice 30 (.int .i64 5) (.int .i64 5)).run Try.prog w = .ok (.slice (some ⟨w.heap.size, 0, none⟩) 5 5) (w.alloc (.cells (arr .u8 5 (fun _ => 0)) 5)) := fun w => emake_u8 5 (by decide) w
  go_enter Try.func13, Try.ntmps13
  go_upto_region 2 with fail
  obtain ⟨W, hW⟩ : ∃ W, W = w.alloc (.cells #[.int .i64 3, .int .i64 0, .int .i64 2, .int .i64 4096] 23) := ⟨_, rfl⟩
  obtain ⟨g, hg⟩ : ∃ g, g = w.heap.size := ⟨_, rfl⟩
  have hb0 : W.heap[g]? = some (.cells #[.int .i64 3, .int .i64 0, .int .i64 2, .int .i64 4096] 23) := by rw [hW, hg]; exact blk_new _ _
  have HF0 := hid (show Fr Non w W by rw [hW]; exact (Fr.refl Non w).alloc _)
  have HB0 := hid hb0
  have k0 := blk_cell hb0 (j := 0) (v := .int .i64 3) rfl
  have k1 := blk_cell hb0 (j := 1) (v := .int .i64 0) rfl
  have k2 := blk_cell hb0 (j := 2) (v := .int .i64 2) rfl
  have k3 := blk_cell hb0 (j := 3) (v := .int .i64 4096) rfl
  rw [← hW, ← hg]
  clear hW hg hb0
  go_cut [2, 3] (fun v q wx => q = .int .i64 0 ∧ Fr Non W wx ∧ RowO wx W.heap.size v [0])
  case first =>
    go_region_held3 (fun wx => wx.cell? ⟨g, 0, none⟩ = some (.int .i64 3) ∧ wx.cell? ⟨g, 1, none⟩ = some (.int .i64 0) ∧ wx.cell? ⟨g, 2, none⟩ = some (.int .i64 2) ∧ wx.cell? ⟨g, 3, none⟩ = some (.int .i64 4096)) (first | (show World.cell? wn _ = _ ∧ _; exact ⟨hWn.cell k0 id, hWn.cell k1 id, hWn.cell k2 id, hWn.cell k3 id⟩) | exact ⟨Fr.cell (S := Non) (w := W) (by repeat (first | exact Fr.refl _ _ | refine Fr.drew ?_ | refine Fr.alloc ?_ _ | refine Fr.trans ?_ (by assumption))) k0 id, Fr.cell (S := Non) (w := W) (by repeat (first | exact Fr.refl _ _ | refine Fr.drew ?_ | refine Fr.alloc ?_ _ | refine Fr.trans ?_ (by assumption))) k1 id, Fr.cell (S := Non) (w := W) (by repeat (first | exact Fr.refl _ _ | refine Fr.drew ?_ | refine Fr.alloc ?_ _ | refine Fr.trans ?_ (by assumption))) k2 id, Fr.cell (S := Non) (w := W) (by repeat (first | exact Fr.refl _ _ | refine Fr.drew ?_ | refine Fr.alloc ?_ _ | refine Fr.trans ?_ (by assumption))) k3 id⟩) (first
      | (go_at_call 18; refine (much_any _).mono ?_; rintro e wm ⟨gm, rfl, hgm, hfm, hmm⟩; have hgW : W.heap.size ≤ gm := Nat.le_trans (Fr.size (S := Non) (by repeat (first | exact Fr.refl _ _ | refine Fr.drew ?_ | refine Fr.alloc ?_ _ | refine Fr.trans ?_ (by assumption)))) hgm)
      | (go_at_call 17; refine (unp_awake 6 _ gm (by decide) W _ (by repeat (first | exact Fr.refl _ _ | refine Fr.drew ?_ | refine Fr.alloc ?_ _ | refine Fr.trans ?_ (by assumption))) hgW (by first | exact blk_new _ _ | exact hfm.blk (blk_new _ _) id) (by first | exact hmm | exact blk_alloc hmm)).mono ?_; rintro e wn ⟨hWn, hpn⟩; have hrn := hpn.1 rfl; clear hpn; obtain ⟨v, rfl, hro⟩ := hrn))
    all_goals
      have HWN := hid hWn
      have HRO := hid hro
      clear hWn hro hfm hmm hgm hgW k0 k1 k2 k3
      go_wp2_with fail
      go_meet
      exact ⟨rfl, HWN.out, HRO.out⟩
  case rest =>
    obtain ⟨rfl, hf1, hro⟩ := hcut
    obtain ⟨X, hX⟩ : ∃ X, X = wc := ⟨_, rfl⟩
    rw [← hX] at hf1 hro ⊢
    have hb1 := hf1.blk HB0.out id
    clear hX k0 k1 k2 k3
    have k0 := blk_cell hb1 (j := 0) (v := .int .i64 3) rfl
    have k1 := blk_cell hb1 (j := 1) (v := .int .i64 0) rfl
    have k2 := blk_cell hb1 (j := 2) (v := .int .i64 2) rfl
    have k3 := blk_cell hb1 (j := 3) (v := .int .i64 4096) rfl
    have HF1 := hid hf1
    have HRO := hid hro
    clear hf1 hro hb1
    go_upto_region 3 with fail
    go_cut [4, 5] (fun v q wx => q = .int .i64 12 ∧ Fr Non X wx)
    case first =>
      go_region_held3 (fun wx => wx.cell? ⟨g, 0, none⟩ = some (.int .i64 3) ∧ wx.cell? ⟨g, 1, none⟩ = some (.int .i64 0) ∧ wx.cell? ⟨g, 2, none⟩ = some (.int .i64 2) ∧ wx.cell? ⟨g, 3, none⟩ = some (.int .i64 4096)) (first | (show World.cell? wn _ = _ ∧ _; exact ⟨hWn.cell k0 id, hWn.cell k1 id, hWn.cell k2 id, hWn.cell k3 id⟩) | exact ⟨Fr.cell (S := Non) (w := X) (by repeat (first | exact Fr.refl _ _ | refine Fr.drew ?_ | refine Fr.alloc ?_ _ | refine Fr.trans ?_ (by assumption))) k0 id, Fr.cell (S := Non) (w := X) (by repeat (first | exact Fr.refl _ _ | refine Fr.drew ?_ | refine Fr.alloc ?_ _ | refine Fr.trans ?_ (by assumption))) k1 id, Fr.cell (S := Non) (w := X) (by repeat (first | exact Fr.refl _ _ | refine Fr.drew ?_ | refine Fr.alloc ?_ _ | refine Fr.trans ?_ (by assumption))) k2 id, Fr.cell (S := Non) (w := X) (by repeat (first | exact Fr.refl _ _ | refine Fr.drew ?_ | refine Fr.alloc ?_ _ | refine Fr.trans ?_ (by assumption))) k3 id⟩) (first
        | (go_at_call 18; refine (much_any _).mono ?_; rintro e wm ⟨gm, rfl, hgm, hfm, hmm⟩; have hgW : X.heap.size ≤ gm := Nat.le_trans (Fr.size (S := Non) (by repeat (first | exact Fr.refl _ _ | refine Fr.drew ?_ | refine Fr.alloc ?_ _ | refine Fr.trans ?_ (by assumption)))) hgm)
        | (go_at_call 17; refine (unp_awake 5 _ gm (by decide) X _ (by repeat (first | exact Fr.refl _ _ | refine Fr.drew ?_ | refine Fr.alloc ?_ _ | refine Fr.trans ?_ (by assumption))) hgW (by first | exact blk_new _ _ | exact hfm.blk (blk_new _ _) id) (by first | exact hmm | exact blk_alloc hmm)).mono ?_; rintro e wn ⟨hWn, hpn⟩; have hrn := hpn.2 rfl; clear hpn; subst hrn))
      all_goals
        have HWN := hid hWn
        clear hWn hfm hmm hgm hgW k0 k1 k2 k3
        go_wp2_with fail
        go_meet
        exact ⟨rfl, HWN.out⟩
    case rest =>
      obtain ⟨rfl, hf2⟩ := hcut
      obtain ⟨Y, hY⟩ : ∃ Y, Y = wc := ⟨_, rfl⟩
      rw [← hY] at hf2 ⊢
      clear hY k0 k1 k2 k3
      have hro := HRO.out.fr hf2 (fun _ _ _ e => e)
      obtain ⟨ra, rc, rfl, h2, h3, h4, h5⟩ := hro
      have HF2 := hid (HF0.out.trans (HF1.out.trans hf2))
      have H4 := hid h4
      clear hf2 h4
      go_wp2_with fail
      refine (bytes_yes ra (some ⟨Y.heap.size, 0, none⟩) 1 rc 1 _ (fun _ => 0) _ (by decide) (Y.heap.size + 1) (by exact (H4.out.fr ((Fr.refl Non Y).alloc _) (fun _ _ e => e)).mono (Nat.le_succ _)) (.inr ⟨_, 0, rfl, by omega, fun i hi => by
        obtain rfl : i = 0 := by omega
        exact cell_new1 _ _ _⟩) (fun i hi => by
        obtain rfl : i = 0 := by omega
        rfl)).mono ?_
      rintro e wz ⟨rfl, hfz⟩
      have HFZ := hid hfz
      clear hfz
      go_wp2_with fail
      go_ret
      exact ⟨rfl, HF2.out.trans (((Fr.refl Non Y).alloc _).trans HFZ.out)⟩
end Go.Proofs.Ytjnegcambbeblaa
