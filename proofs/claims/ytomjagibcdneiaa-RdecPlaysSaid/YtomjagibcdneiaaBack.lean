/- What a range coder told, a range decoder is told. -/
import Derived.Test.YtomjagibcdneiaaLaw05c
namespace Go.Proofs.Ytomjagibcdneiaa
open Go.RowKit

/-- the first bytes, as one number. -/
def pre (f : Nat → Int) : Nat → Int
  | 0 => 0
  | i + 1 => pre f i * 256 + f i
theorem pre_split (f : Nat → Int) (L : Nat) (hf : ∀ i, i < L → 0 ≤ f i ∧ f i < 256) (i k : Nat) (h : i + k ≤ L) : pre f i * 256 ^ k ≤ pre f (i + k) ∧ pre f (i + k) < (pre f i + 1) * 256 ^ k := by
  induction k with
  | zero => simp; omega
  | succ k ih =>
    have h1 := ih (by omega)
    have h2 := hf (i + k) (by omega)
    have e : pre f (i + (k + 1)) = pre f (i + k) * 256 + f (i + k) := rfl
    rw [e, Int.pow_succ, ← Int.mul_assoc, ← Int.mul_assoc]
    omega
/-- the decoder stands where the coder stood, the coder having come to C at last. -/
structure Sync (f : Nat → Int) (c : RC) (d : RD Nat) : Prop where
  bad : d.bad = false
  rng : d.rng = c.rng
  src : d.src = c.len
  code : d.code = pre f c.len - c.val
structure Told (f : Nat → Int) (n : Nat) (C : RC) : Prop where
  bytes : ∀ i, i < n → 0 ≤ f i ∧ f i < 256
  len : C.len ≤ n
  val : pre f C.len = C.val
  rng : 1 ≤ C.rng
theorem Told.window {f : Nat → Int} {n : Nat} {C : RC} (h : Told f n C) {c : RC} {k : Nat} (hr : Reach c C k) : c.val ≤ pre f c.len ∧ pre f c.len < c.val + c.rng ∧ c.len ≤ n := by
  have hl := hr.len
  have h1 := h.len
  obtain ⟨s1, s2⟩ := pre_split f n h.bytes c.len k (by omega)
  rw [← hl, h.val] at s1 s2
  have r1 := hr.low
  have r2 := hr.high
  have r3 := h.rng
  have hp := pow_pos256 k
  refine ⟨?_, ?_, by omega⟩
  · apply Decidable.byContradiction
    intro hc
    have : (pre f c.len + 1) * 256 ^ k ≤ c.val * 256 ^ k := Int.mul_le_mul_of_nonneg_right (by omega) (by omega)
    rw [Int.mul_comm] at r1
    omega
  · apply Decidable.byContradiction
    intro hc
    have : (c.val + c.rng) * 256 ^ k ≤ pre f c.len * 256 ^ k := Int.mul_le_mul_of_nonneg_right (by omega) (by omega)
    rw [Int.mul_comm] at r2
    omega
theorem sync_part {f : Nat → Int} {n : Nat} {C : RC} (h : Told f n C) {c : RC} {d : RD Nat} {N : Nat} (hs : Sync f c d) (hok : c.Ok N) {a r : Int} (ha : 0 ≤ a) (hr : 65536 ≤ r) (har : a + r ≤ c.rng) {k : Nat} (hre : Reach (c.part a r) C k) :
    a ≤ d.code ∧ d.code < a + r ∧ Sync f (c.part a r) (RD.level (feedNx f n) ⟨d.src, r, d.code - a, false⟩) := by
  obtain ⟨b1, b2, b3, b4⟩ := hs
  by_cases hlt : r < 16777216
  · have e : c.part a r = (⟨c.low + a, r * 256, c.waits, c.more, c.out⟩ : RC).give := by
      show RC.lev 3 ⟨c.low + a, r, c.waits, c.more, c.out⟩ = _
      have e1 : RC.lev 3 ⟨c.low + a, r, c.waits, c.more, c.out⟩ = RC.lev 2 (⟨c.low + a, r * 256, c.waits, c.more, c.out⟩ : RC).give := if_pos hlt
      rw [e1]
      exact lev_stop 2 _ (by rw [give_rng]; show 16777216 ≤ r * 256; omega)
    rw [e] at hre ⊢
    have hv : (⟨c.low + a, r * 256, c.waits, c.more, c.out⟩ : RC).give.val = 256 * (c.val + a) := by
      obtain ⟨o1, o2, o3, o4, o5, o6, o7, o8⟩ := hok
      rw [give_val ⟨c.low + a, r * 256, c.waits, c.more, c.out⟩ (by show 0 ≤ c.low + a; omega) (by show c.low + a < _; omega) o5 o6 (fun w => by have := o7 w; show c.low + a < _; omega)]
      congr 1
      exact part_val c a (r * 256)
    have hl : (⟨c.low + a, r * 256, c.waits, c.more, c.out⟩ : RC).give.len = c.len + 1 := give_len _
    have hg : (⟨c.low + a, r * 256, c.waits, c.more, c.out⟩ : RC).give.rng = r * 256 := give_rng _
    obtain ⟨w1, w2, w3⟩ := h.window hre
    rw [hv, hl] at w1 w2
    rw [hg] at w2
    rw [hl] at w3
    have hb := h.bytes c.len (by omega)
    have ep : pre f (c.len + 1) = pre f c.len * 256 + f c.len := rfl
    rw [ep] at w1 w2
    have k1 : a ≤ d.code := by omega
    have k2 : d.code < a + r := by omega
    refine ⟨k1, k2, ?_⟩
    rw [RD.level_lt _ _ (by show r < 16777216; exact hlt)]
    have en : RD.next (feedNx f n) ⟨d.src, r, d.code - a, false⟩ = (f c.len % 256, ⟨c.len + 1, r, d.code - a, false⟩) := by
      unfold RD.next
      rw [if_neg (by show ¬ false = true; decide)]
      show ((feedNx f n d.src).1, (⟨(feedNx f n d.src).2.2, r, d.code - a, !(feedNx f n d.src).2.1⟩ : RD Nat)) = _
      rw [b3]
      unfold feedNx
      rw [if_pos (by omega)]
      rfl
    rw [en]
    refine ⟨rfl, ?_, ?_, ?_⟩
    · rw [hg]
    · rw [hl]
    · rw [hl, hv, ep]
      show (d.code - a) * 256 % 4294967296 + f c.len % 256 = _
      omega
  · have e : c.part a r = ⟨c.low + a, r, c.waits, c.more, c.out⟩ := lev_stop 3 _ (by show 16777216 ≤ r; omega)
    rw [e] at hre ⊢
    have hv : (⟨c.low + a, r, c.waits, c.more, c.out⟩ : RC).val = c.val + a := part_val c a r
    obtain ⟨w1, w2, _⟩ := h.window hre
    have hl : (⟨c.low + a, r, c.waits, c.more, c.out⟩ : RC).len = c.len := rfl
    have hg : (⟨c.low + a, r, c.waits, c.more, c.out⟩ : RC).rng = r := rfl
    rw [hv, hl] at w1 w2
    rw [hg] at w2
    refine ⟨by omega, by omega, ?_⟩
    rw [RD.level_ge _ _ (by show ¬ r < 16777216; exact hlt)]
    refine ⟨rfl, rfl, ?_, ?_⟩
    · exact b3
    · rw [hl, hv]; show d.code - a = _; omega
theorem sync_bit {f : Nat → Int} {n : Nat} {C : RC} (h : Told f n C) {c : RC} {d : RD Nat} {N : Nat} (hs : Sync f c d) (hok : c.Ok N) {p : Int} (h0 : 31 ≤ p) (h1 : p ≤ 2017) (b : Nat) (hb : b ≤ 1) {k : Nat} (hre : Reach (c.bit p b).2 C k) :
    (d.bit (feedNx f n) p).1 = b ∧ (d.bit (feedNx f n) p).2.1 = (c.bit p b).1 ∧ Sync f (c.bit p b).2 (d.bit (feedNx f n) p).2.2 := by
  have b1 := bound_pos c.rng p hok.rng0 h0
  have b2 := bound_gap c.rng p hok.rng0 h1
  have hbad := hs.bad
  have hrng := hs.rng
  rcases Nat.le_one_iff_eq_zero_or_eq_one.1 hb with rfl | rfl
  · have e : c.bit p 0 = (p + (2048 - p) / 32, c.part 0 (c.rng / 2048 * p)) := if_pos rfl
    rw [e] at hre ⊢
    obtain ⟨s1, s2, s3⟩ := sync_part h hs hok (by omega) (by omega) (by omega) hre
    unfold RD.bit
    rw [if_neg (by rw [hbad]; decide), if_pos (by rw [hrng]; omega)]
    refine ⟨rfl, rfl, ?_⟩
    rw [hrng, hbad]
    rw [Int.sub_zero] at s3
    exact s3
  · have e : c.bit p 1 = (p - p / 32, c.part (c.rng / 2048 * p) (c.rng - c.rng / 2048 * p)) := if_neg (by decide)
    rw [e] at hre ⊢
    obtain ⟨s1, s2, s3⟩ := sync_part h hs hok (by omega) (by omega) (by omega) hre
    unfold RD.bit
    rw [if_neg (by rw [hbad]; decide), if_neg (by rw [hrng]; omega)]
    rw [hrng, hbad]
    refine ⟨?_, rfl, s3⟩
    rw [if_neg (by rw [s3.bad]; decide)]
theorem sync_treeGo {f : Nat → Int} {n : Nat} {C : RC} (h : Told f n C) (K : Nat) : ∀ (c : RC) (d : RD Nat) (q : Nat → Int) (m v N j L : Nat), Sync f c d → c.Ok N → c.bytes → Pr q L → m < 2 ^ j → 2 ^ (j + K) ≤ 2 * L → (∃ k, Reach (RC.treeGo K c q m v).2 C k) →
    (RD.treeGo (feedNx f n) K d q m).1 = 2 ^ K * m + v % 2 ^ K ∧ (RD.treeGo (feedNx f n) K d q m).2.1 = (RC.treeGo K c q m v).1 ∧ Sync f (RC.treeGo K c q m v).2 (RD.treeGo (feedNx f n) K d q m).2.2 := by
  induction K with
  | zero => intro c d q m v N j L hs _ _ _ _ _ _; exact ⟨by simp [RD.treeGo, Nat.mod_one], rfl, hs⟩
  | succ K ih =>
    intro c d q m v N j L hs h1 h2 h3 h4 h5 hre
    have hm : m < L := by
      have : 2 ^ (j + 1) ≤ 2 ^ (j + (K + 1)) := Nat.pow_le_pow_right (by decide) (by omega)
      rw [Nat.pow_succ] at this
      omega
    have hp := h3 m hm
    have hb := bit_prob' c hp.1 hp.2 (v / 2 ^ K % 2)
    obtain ⟨n1, r1⟩ := h1.reach_bit h2 hp.1 hp.2 (v / 2 ^ K % 2)
    have hk := treeGo_keep K (c.bit (q m) (v / 2 ^ K % 2)).2 (upd q m (c.bit (q m) (v / 2 ^ K % 2)).1) (2 * m + v / 2 ^ K % 2) v (N + 3) (j + 1) L (h1.bit hp.1 hp.2 _) (r1.bytes h2) (h3.upd m hb.1 hb.2) (by rw [Nat.pow_succ]; omega) (by rw [show j + 1 + K = j + (K + 1) by omega]; exact h5)
    obtain ⟨_, _, n2, r2⟩ := hk
    obtain ⟨k, hrk⟩ := hre
    have hrk' : Reach (RC.treeGo K (c.bit (q m) (v / 2 ^ K % 2)).2 (upd q m (c.bit (q m) (v / 2 ^ K % 2)).1) (2 * m + v / 2 ^ K % 2) v).2 C k := hrk
    obtain ⟨e1, e2, e3⟩ := sync_bit h hs h1 hp.1 hp.2 (v / 2 ^ K % 2) (by omega) (r2.trans hrk')
    obtain ⟨g1, g2, g3⟩ := ih (c.bit (q m) (v / 2 ^ K % 2)).2 (d.bit (feedNx f n) (q m)).2.2 (upd q m (c.bit (q m) (v / 2 ^ K % 2)).1) (2 * m + v / 2 ^ K % 2) v (N + 3) (j + 1) L e3 (h1.bit hp.1 hp.2 _) (r1.bytes h2) (h3.upd m hb.1 hb.2) (by rw [Nat.pow_succ]; omega) (by rw [show j + 1 + K = j + (K + 1) by omega]; exact h5) ⟨k, hrk'⟩
    have eR : RD.treeGo (feedNx f n) (K + 1) d q m = RD.treeGo (feedNx f n) K (d.bit (feedNx f n) (q m)).2.2 (upd q m (c.bit (q m) (v / 2 ^ K % 2)).1) (2 * m + v / 2 ^ K % 2) := by
      show RD.treeGo (feedNx f n) K (d.bit (feedNx f n) (q m)).2.2 (upd q m (d.bit (feedNx f n) (q m)).2.1) (2 * m + (d.bit (feedNx f n) (q m)).1) = _
      rw [e1, e2]
    rw [eR]
    refine ⟨?_, g2, g3⟩
    rw [g1, Nat.pow_succ, Nat.mod_mul, Nat.mul_add]
    have : 2 ^ K * (2 * m) = 2 ^ K * 2 * m := by rw [Nat.mul_assoc]
    omega
theorem sync_revGo {f : Nat → Int} {n : Nat} {C : RC} (h : Told f n C) (K : Nat) : ∀ (i : Nat) (c : RC) (d : RD Nat) (q : Nat → Int) (m out v N j L : Nat), Sync f c d → c.Ok N → c.bytes → Pr q L → m < 2 ^ j → 2 ^ (j + K) ≤ 2 * L → (∃ k, Reach (RC.revGo K i c q m v).2 C k) →
    (RD.revGo (feedNx f n) K i d q m out).1 = out + v / 2 ^ i % 2 ^ K * 2 ^ i ∧ (RD.revGo (feedNx f n) K i d q m out).2.1 = (RC.revGo K i c q m v).1 ∧ Sync f (RC.revGo K i c q m v).2 (RD.revGo (feedNx f n) K i d q m out).2.2 := by
  induction K with
  | zero => intro i c d q m out v N j L hs _ _ _ _ _ _; exact ⟨by simp [RD.revGo, Nat.mod_one], rfl, hs⟩
  | succ K ih =>
    intro i c d q m out v N j L hs h1 h2 h3 h4 h5 hre
    have hm : m < L := by
      have : 2 ^ (j + 1) ≤ 2 ^ (j + (K + 1)) := Nat.pow_le_pow_right (by decide) (by omega)
      rw [Nat.pow_succ] at this
      omega
    have hp := h3 m hm
    have hb := bit_prob' c hp.1 hp.2 (v / 2 ^ i % 2)
    obtain ⟨n1, r1⟩ := h1.reach_bit h2 hp.1 hp.2 (v / 2 ^ i % 2)
    have hk := revGo_keep K (i + 1) (c.bit (q m) (v / 2 ^ i % 2)).2 (upd q m (c.bit (q m) (v / 2 ^ i % 2)).1) (2 * m + v / 2 ^ i % 2) v (N + 3) (j + 1) L (h1.bit hp.1 hp.2 _) (r1.bytes h2) (h3.upd m hb.1 hb.2) (by rw [Nat.pow_succ]; omega) (by rw [show j + 1 + K = j + (K + 1) by omega]; exact h5)
    obtain ⟨_, _, n2, r2⟩ := hk
    obtain ⟨k, hrk⟩ := hre
    have hrk' : Reach (RC.revGo K (i + 1) (c.bit (q m) (v / 2 ^ i % 2)).2 (upd q m (c.bit (q m) (v / 2 ^ i % 2)).1) (2 * m + v / 2 ^ i % 2) v).2 C k := hrk
    obtain ⟨e1, e2, e3⟩ := sync_bit h hs h1 hp.1 hp.2 (v / 2 ^ i % 2) (by omega) (r2.trans hrk')
    obtain ⟨g1, g2, g3⟩ := ih (i + 1) (c.bit (q m) (v / 2 ^ i % 2)).2 (d.bit (feedNx f n) (q m)).2.2 (upd q m (c.bit (q m) (v / 2 ^ i % 2)).1) (2 * m + v / 2 ^ i % 2) (out + v / 2 ^ i % 2 * 2 ^ i) v (N + 3) (j + 1) L e3 (h1.bit hp.1 hp.2 _) (r1.bytes h2) (h3.upd m hb.1 hb.2) (by rw [Nat.pow_succ]; omega) (by rw [show j + 1 + K = j + (K + 1) by omega]; exact h5) ⟨k, hrk'⟩
    have eR : RD.revGo (feedNx f n) (K + 1) i d q m out = RD.revGo (feedNx f n) K (i + 1) (d.bit (feedNx f n) (q m)).2.2 (upd q m (c.bit (q m) (v / 2 ^ i % 2)).1) (2 * m + v / 2 ^ i % 2) (out + v / 2 ^ i % 2 * 2 ^ i) := by
      show RD.revGo (feedNx f n) K (i + 1) (d.bit (feedNx f n) (q m)).2.2 (upd q m (d.bit (feedNx f n) (q m)).2.1) (2 * m + (d.bit (feedNx f n) (q m)).1) (out + (d.bit (feedNx f n) (q m)).1 * 2 ^ i) = _
      rw [e1, e2]
    rw [eR]
    refine ⟨?_, g2, g3⟩
    rw [g1]
    have e4 : v / 2 ^ i % 2 ^ (K + 1) = v / 2 ^ i % 2 + 2 * (v / 2 ^ (i + 1) % 2 ^ K) := by
      rw [Nat.pow_succ, Nat.mul_comm, Nat.mod_mul, Nat.pow_succ, Nat.div_div_eq_div_mul]
    rw [e4, Nat.add_mul, Nat.pow_succ]
    have : v / (2 ^ i * 2) % 2 ^ K * (2 ^ i * 2) = 2 * (v / (2 ^ i * 2) % 2 ^ K) * 2 ^ i := by
      rw [Nat.mul_comm (2 ^ i) 2, ← Nat.mul_assoc, Nat.mul_comm _ 2]
    omega
theorem sync_strGo {f : Nat → Int} {n : Nat} {C : RC} (h : Told f n C) (K : Nat) : ∀ (c : RC) (d : RD Nat) (out v N : Nat), Sync f c d → c.Ok N → c.bytes → (∃ k, Reach (RC.strGo K c v) C k) →
    (RD.strGo (feedNx f n) K d out).1 = 2 ^ K * out + v % 2 ^ K ∧ Sync f (RC.strGo K c v) (RD.strGo (feedNx f n) K d out).2 := by
  induction K with
  | zero => intro c d out v N hs _ _ _; exact ⟨by simp [RD.strGo, Nat.mod_one], hs⟩
  | succ K ih =>
    intro c d out v N hs h1 h2 hre
    obtain ⟨n1, r1⟩ := h1.reach_str1 h2 (v / 2 ^ K % 2)
    obtain ⟨_, n2, r2⟩ := strGo_keep K (c.str1 (v / 2 ^ K % 2)) v (N + 3) (h1.str1 _) (r1.bytes h2)
    obtain ⟨k, hrk⟩ := hre
    have hrk' : Reach (RC.strGo K (c.str1 (v / 2 ^ K % 2)) v) C k := hrk
    have h0 := h1.rng0
    have hsp : ∃ a, a = (if v / 2 ^ K % 2 = 1 then c.rng / 2 else 0) := ⟨_, rfl⟩
    obtain ⟨a, ha⟩ := hsp
    have ha2 : (v / 2 ^ K % 2 = 1 ∧ a = c.rng / 2) ∨ (v / 2 ^ K % 2 = 0 ∧ a = 0) := by
      by_cases hb : v / 2 ^ K % 2 = 1
      · rw [if_pos hb] at ha; exact .inl ⟨hb, ha⟩
      · rw [if_neg hb] at ha; exact .inr ⟨by omega, ha⟩
    have epart : c.str1 (v / 2 ^ K % 2) = c.part a (c.rng / 2) := by unfold RC.str1; rw [← ha]
    have hre2 := r2.trans hrk'
    have h65 : 65536 ≤ c.rng / 2 := by omega
    have hsum : a + c.rng / 2 ≤ c.rng := by rcases ha2 with ⟨_, e⟩ | ⟨_, e⟩ <;> omega
    have ha0 : 0 ≤ a := by rcases ha2 with ⟨_, e⟩ | ⟨_, e⟩ <;> omega
    rw [epart] at hre2
    obtain ⟨s1, s2, s3⟩ := sync_part h hs h1 ha0 h65 hsum hre2
    rw [← epart] at s3
    have e1 : d.str1 (feedNx f n) = (v / 2 ^ K % 2, RD.level (feedNx f n) ⟨d.src, c.rng / 2, d.code - a, false⟩) := by
      unfold RD.str1
      rw [hs.rng]
      rcases ha2 with ⟨e, e'⟩ | ⟨e, e'⟩
      · rw [if_pos (by omega), e, e']
        have : decide (c.rng / 2 ≤ d.code - c.rng / 2) = false := by simp; omega
        rw [this]
      · rw [if_neg (by omega), e, e', Int.sub_zero]
    obtain ⟨g1, g2⟩ := ih (c.str1 (v / 2 ^ K % 2)) (d.str1 (feedNx f n)).2 (2 * out + v / 2 ^ K % 2) v (N + 3) (by rw [e1]; exact s3) (h1.str1 _) (r1.bytes h2) ⟨k, hrk'⟩
    rw [strGo_good _ _ _ _ hs.bad, e1]
    rw [e1] at g1 g2
    refine ⟨?_, g2⟩
    rw [g1, Nat.pow_succ, Nat.mod_mul, Nat.mul_add]
    have : 2 ^ K * (2 * out) = 2 ^ K * 2 * out := by rw [Nat.mul_assoc]
    omega
end Go.Proofs.Ytomjagibcdneiaa
