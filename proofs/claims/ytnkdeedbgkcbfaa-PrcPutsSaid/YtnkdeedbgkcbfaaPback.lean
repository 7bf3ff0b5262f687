/- What PPMd's coder told, its decoder is told. -/
import Derived.Test.YtnkdeedbgkcbfaaPrcGood
import Derived.Test.YtnkdeedbgkcbfaaPrcFirst
namespace Go.Proofs.Ytnkdeedbgkcbfaa
open Go.RowKit

/-- the first bytes, as one number. -/
def pre (f : Nat → Int) : Nat → Int
  | 0 => 0
  | i + 1 => pre f i * 256 + f i
theorem pre_split (f : Nat → Int) (L : Nat) (hf : ∀ i, i < L → 0 ≤ f i ∧ f i < 256) (i k : Nat) (h : i + k ≤ L) : pre f i * 256 ^ k ≤ pre f (i + k) ∧ pre f (i + k) < (pre f i + 1) * 256 ^ k := by
  induction k with
  | zero => simp; omega
  | succ k ih =>
    have h1 := ih (by omega)
    have h2 := hf (i + k) (by omega)
    have e : pre f (i + (k + 1)) = pre f (i + k) * 256 + f (i + k) := rfl
    rw [e, Int.pow_succ, ← Int.mul_assoc, ← Int.mul_assoc]
    omega
/-- the decoder stands where the coder stood, the coder having come to C at last. -/
structure Sync (f : Nat → Int) (c : RC) (d : RD Nat) : Prop where
  bad : d.bad = false
  rng : d.rng = c.rng
  src : d.src = c.len
  code : d.code = pre f c.len - c.val
structure Told (f : Nat → Int) (n : Nat) (C : RC) : Prop where
  bytes : ∀ i, i < n → 0 ≤ f i ∧ f i < 256
  len : C.len ≤ n
  val : pre f C.len = C.val
  rng : 1 ≤ C.rng
theorem Told.window {f : Nat → Int} {n : Nat} {C : RC} (h : Told f n C) {c : RC} {k : Nat} (hr : Reach c C k) : c.val ≤ pre f c.len ∧ pre f c.len < c.val + c.rng ∧ c.len ≤ n := by
  have hl := hr.len
  have h1 := h.len
  obtain ⟨s1, s2⟩ := pre_split f n h.bytes c.len k (by omega)
  rw [← hl, h.val] at s1 s2
  have r1 := hr.low
  have r2 := hr.high
  have r3 := h.rng
  have hp := pow_pos256 k
  refine ⟨?_, ?_, by omega⟩
  · apply Decidable.byContradiction
    intro hc
    have : (pre f c.len + 1) * 256 ^ k ≤ c.val * 256 ^ k := Int.mul_le_mul_of_nonneg_right (by omega) (by omega)
    rw [Int.mul_comm] at r1
    omega
  · apply Decidable.byContradiction
    intro hc
    have : (c.val + c.rng) * 256 ^ k ≤ pre f c.len * 256 ^ k := Int.mul_le_mul_of_nonneg_right (by omega) (by omega)
    rw [Int.mul_comm] at r2
    omega
theorem pre_take (f : Nat → Int) (out : List Int) (h : ∀ i, i < out.length → f i = out.getD i 0) : ∀ i, i ≤ out.length → pre f i = valL (out.take i) := by
  intro i
  induction i with
  | zero => intro _; rfl
  | succ i ih =>
    intro hi
    have e : out.take (i + 1) = out.take i ++ [out.getD i 0] := by
      rw [List.take_add_one]
      congr 1
      simp [List.getD, show i < out.length by omega]
    rw [e, valL_snoc, ← ih (by omega), ← h i (by omega)]
    rfl
/-- a coder between its steps. -/
structure RC.Mid (c : RC) : Prop where
  low0 : 0 ≤ c.low
  rng1 : c.rng < 4294967296
  top : c.low + c.rng ≤ 8589934592
  waits0 : 0 ≤ c.waits
  waits1 : c.waits < 256
  full : c.waits = 255 → c.low + c.rng ≤ 4294967296
  rng0 : 1 ≤ c.rng
  bytes : c.bytes
theorem RC.Mid.reach {c : RC} (h : c.Mid) (n : Nat) (hn : 16777216 ≤ c.rng * 256 ^ n) : ∃ k, Reach c (c.lev n) k := by
  obtain ⟨h1, h3, h4, h5, h6, h7, h8, h9⟩ := h
  obtain ⟨k, k1, k2, k3, k4⟩ := lev_val n c h1 hn h3 h4 h5 h6 h7 h8 h9
  have hp := pow_pos256 k
  refine ⟨k, by rw [k1]; exact Int.le_refl _, ?_, k3, fun _ => k4⟩
  rw [k1, k2, ← Int.mul_add]
  exact Int.le_refl _
theorem RC.Mid.give {c : RC} (h : c.Mid) (hr : c.rng < 16777216) : (⟨c.low, c.rng * 256, c.waits, c.more, c.out⟩ : RC).give.Mid := by
  obtain ⟨h1, h3, h4, h5, h6, h7, h8, h9⟩ := h
  have hf : (⟨c.low, c.rng * 256, c.waits, c.more, c.out⟩ : RC).Fit (c.out.length + c.more) := ⟨h1, by show c.low < _; omega, h5, h6, Nat.le_refl _⟩
  obtain ⟨⟨g1, g2, g3, g4, g5⟩, g6⟩ := hf.give
  have hlow : (⟨c.low, c.rng * 256, c.waits, c.more, c.out⟩ : RC).give.low = c.low % 16777216 * 256 := by unfold RC.give; split <;> rfl
  refine ⟨g1, by rw [give_rng]; show c.rng * 256 < _; omega, by rw [give_rng, hlow]; show _ + c.rng * 256 ≤ _; omega, g3, g4, ?_, by rw [give_rng]; show 1 ≤ c.rng * 256; omega, give_bytes (c := ⟨c.low, c.rng * 256, c.waits, c.more, c.out⟩) h9⟩
  rw [give_rng, hlow]
  show _ → _ + c.rng * 256 ≤ _
  unfold RC.give
  by_cases hm : (⟨c.low, c.rng * 256, c.waits, c.more, c.out⟩ : RC).moves
  · rw [if_pos hm]
    have hm' : c.low < 4278190080 ∨ 4294967296 ≤ c.low := hm
    dsimp only
    omega
  · rw [if_neg hm]
    have hm' : ¬ (c.low < 4278190080 ∨ 4294967296 ≤ c.low) := hm
    dsimp only
    intro hw
    have := h7 hw
    omega
theorem sync_lev {f : Nat → Int} {n : Nat} {C : RC} (h : Told f n C) (N : Nat) : ∀ (c : RC) (d : RD Nat), Sync f c d → c.Mid → 16777216 ≤ c.rng * 256 ^ N → (∃ k, Reach (c.lev N) C k) → Sync f (c.lev N) (RD.plev (feedNx f n) N d) := by
  induction N with
  | zero => intro c d hs _ _ _; exact hs
  | succ N ih =>
    intro c d hs hm hr hre
    obtain ⟨k, hre⟩ := hre
    by_cases hlt : c.rng < 16777216
    · have e1 : c.lev (N + 1) = (⟨c.low, c.rng * 256, c.waits, c.more, c.out⟩ : RC).give.lev N := if_pos hlt
      have e2 : RD.plev (feedNx f n) (N + 1) d = RD.plev (feedNx f n) N (d.pstep (feedNx f n)) := if_pos ⟨by rw [hs.rng]; exact hlt, hs.bad⟩
      rw [e1] at hre ⊢
      rw [e2]
      have hmid := hm.give hlt
      have hr2 : 16777216 ≤ (⟨c.low, c.rng * 256, c.waits, c.more, c.out⟩ : RC).give.rng * 256 ^ N := by
        rw [give_rng]
        have e : c.rng * 256 * 256 ^ N = c.rng * 256 ^ (N + 1) := by rw [Int.pow_succ, Int.mul_assoc, Int.mul_comm 256]
        show 16777216 ≤ c.rng * 256 * 256 ^ N
        rw [e]; exact hr
      obtain ⟨j, hj⟩ := hmid.reach N hr2
      obtain ⟨w1, w2, w3⟩ := h.window (hj.trans hre)
      have hl : (⟨c.low, c.rng * 256, c.waits, c.more, c.out⟩ : RC).give.len = c.len + 1 := give_len _
      have hg : (⟨c.low, c.rng * 256, c.waits, c.more, c.out⟩ : RC).give.rng = c.rng * 256 := give_rng _
      have hv : (⟨c.low, c.rng * 256, c.waits, c.more, c.out⟩ : RC).give.val = 256 * c.val := by
        obtain ⟨o1, o2, o3, o4, o5, o6, o7, o8⟩ := hm
        rw [give_val ⟨c.low, c.rng * 256, c.waits, c.more, c.out⟩ o1 (by show c.low < _; omega) o4 o5 (fun w => by have := o6 w; show c.low < _; omega)]
        rfl
      rw [hv, hl] at w1 w2
      rw [hg] at w2
      rw [hl] at w3
      have hb := h.bytes c.len (by omega)
      have ep : pre f (c.len + 1) = pre f c.len * 256 + f c.len := rfl
      rw [ep] at w1 w2
      obtain ⟨b1, b2, b3, b4⟩ := hs
      have en : RD.next (feedNx f n) d = (f c.len % 256, ⟨c.len + 1, d.rng, d.code, false⟩) := by
        unfold RD.next
        rw [if_neg (by rw [b1]; decide), b3]
        unfold feedNx
        rw [if_pos (by omega)]
        rfl
      refine ih _ _ ?_ hmid hr2 ⟨k, hre⟩
      unfold RD.pstep
      rw [en]
      refine ⟨rfl, ?_, ?_, ?_⟩
      · rw [hg, ← b2]
      · rw [hl]
      · rw [hl, hv, ep]
        show d.code * 256 % 4294967296 + f c.len % 256 = _
        omega
    · have e1 : c.lev (N + 1) = c := lev_stop _ _ (by omega)
      have e2 : RD.plev (feedNx f n) (N + 1) d = d := plev_stop _ _ _ (fun e => by rw [hs.rng] at e; exact hlt e.1)
      rw [e1, e2]; exact hs
theorem put_mid {c : RC} {N : Nat} (h : c.Ok N) (hb : c.bytes) {s : Share} (hs : s.Right) : (⟨c.low + s.lo c.rng, s.wide c.rng, c.waits, c.more, c.out⟩ : RC).Mid := by
  obtain ⟨f1, f2, f3⟩ := share_fits hs h.rng0
  obtain ⟨h1, h2, h3, h4, h5, h6, h7, h8⟩ := h
  exact ⟨by show 0 ≤ c.low + _; omega, by show s.wide c.rng < _; omega, by show c.low + _ + s.wide c.rng ≤ _; omega, h5, h6, fun w => by have := h7 w; show c.low + _ + s.wide c.rng ≤ _; omega, f2, hb⟩
/-- a share that was put: its part of the range holds the code; the decoder goes on with it. -/
theorem sync_put {f : Nat → Int} {n : Nat} {C : RC} (h : Told f n C) {c : RC} {d : RD Nat} {N : Nat} (hs : Sync f c d) (hok : c.Ok N) (hb : c.bytes) {s : Share} (hr : s.Right) {k : Nat} (hre : Reach (c.put s) C k) :
    s.lo c.rng ≤ d.code ∧ d.code < s.lo c.rng + s.wide c.rng ∧ Sync f (c.put s) (RD.plevel (feedNx f n) ⟨d.src, s.wide c.rng, d.code - s.lo c.rng, false⟩) := by
  have hm := put_mid hok hb hr
  obtain ⟨f1, f2, f3⟩ := share_fits hr hok.rng0
  have hr2 : 16777216 ≤ (⟨c.low + s.lo c.rng, s.wide c.rng, c.waits, c.more, c.out⟩ : RC).rng * 256 ^ 3 := by show 16777216 ≤ s.wide c.rng * 16777216; omega
  obtain ⟨j, hj⟩ := hm.reach 3 hr2
  have hre' : Reach ((⟨c.low + s.lo c.rng, s.wide c.rng, c.waits, c.more, c.out⟩ : RC).lev 3) C k := hre
  obtain ⟨w1, w2, _⟩ := h.window (hj.trans hre')
  have hv : (⟨c.low + s.lo c.rng, s.wide c.rng, c.waits, c.more, c.out⟩ : RC).val = c.val + s.lo c.rng := part_val c _ _
  have hl : (⟨c.low + s.lo c.rng, s.wide c.rng, c.waits, c.more, c.out⟩ : RC).len = c.len := rfl
  have hg : (⟨c.low + s.lo c.rng, s.wide c.rng, c.waits, c.more, c.out⟩ : RC).rng = s.wide c.rng := rfl
  rw [hv, hl] at w1 w2
  rw [hg] at w2
  have hc := hs.code
  refine ⟨by omega, by omega, ?_⟩
  refine sync_lev h 3 _ _ ⟨rfl, rfl, hs.src, ?_⟩ hm hr2 ⟨k, hre'⟩
  rw [hv, hl]
  show d.code - s.lo c.rng = _
  omega
/-- the coder behind the first k shares. -/
def encP (l : Nat → Share) : Nat → RC
  | 0 => RC.new
  | k + 1 => if (l k).rightB = true then (encP l k).put (l k) else encP l k
theorem encP_ok (l : Nat → Share) (k : Nat) : (encP l k).Ok (3 * k) ∧ (encP l k).bytes := by
  induction k with
  | zero => exact ⟨new_ok _, new_bytes⟩
  | succ k ih =>
    obtain ⟨h1, h2⟩ := ih
    unfold encP
    by_cases hr : (l k).rightB = true
    · rw [if_pos hr]
      obtain ⟨n, k3⟩ := h1.reach_put h2 (of_decide_eq_true hr)
      exact ⟨(h1.put (of_decide_eq_true hr)).mono (by omega), k3.bytes h2⟩
    · rw [if_neg hr]; exact ⟨h1.mono (by omega), h2⟩
theorem encP_reach (l : Nat → Share) (k j : Nat) : ∃ n, Reach (encP l k) (encP l (k + j)) n := by
  induction j with
  | zero => exact ⟨0, Reach.refl _⟩
  | succ j ih =>
    obtain ⟨a, ha⟩ := ih
    obtain ⟨h1, h2⟩ := encP_ok l (k + j)
    have : ∃ b, Reach (encP l (k + j)) (encP l (k + j + 1)) b := by
      show ∃ b, Reach (encP l (k + j)) (if (l (k + j)).rightB = true then (encP l (k + j)).put (l (k + j)) else encP l (k + j)) b
      by_cases hr : (l (k + j)).rightB = true
      · rw [if_pos hr]; exact h1.reach_put h2 (of_decide_eq_true hr)
      · rw [if_neg hr]; exact ⟨0, Reach.refl _⟩
    obtain ⟨b, hb⟩ := this
    exact ⟨_, ha.trans hb⟩
theorem told_of (l : Nat → Share) (m n : Nat) (f : Nat → Int) (hn : (encP l m).len ≤ n) (hf : ∀ i, i < n → 0 ≤ f i ∧ f i < 256) (ho : ∀ i, i < (encP l m).len → f i = ((encP l m).gives 5).out.getD i 0) : Told f n (encP l m) := by
  obtain ⟨h1, h2⟩ := encP_ok l m
  obtain ⟨g1, g2, g3⟩ := gives_out (h1.fin h2)
  refine ⟨hf, hn, ?_, by have := h1.rng0; omega⟩
  rw [pre_take f _ (fun i hi => ho i (by rw [← g2]; exact hi)) _ (by rw [g2]; exact Nat.le_refl _), ← g2, List.take_length, g1]
theorem sync_new {f : Nat → Int} {n : Nat} {C : RC} (h : Told f n C) {k : Nat} (hr : Reach RC.new C k) : Sync f RC.new (RD.pnew (feedNx f n) 0) := by
  obtain ⟨w1, w2, w3⟩ := h.window hr
  have hl : RC.new.len = 5 := rfl
  have hg : RC.new.rng = 4294967295 := rfl
  rw [new_val, hl] at w1 w2
  rw [hg] at w2
  rw [hl] at w3
  have b0 := h.bytes 0 (by omega)
  have b1 := h.bytes 1 (by omega)
  have b2 := h.bytes 2 (by omega)
  have b3 := h.bytes 3 (by omega)
  have b4 := h.bytes 4 (by omega)
  have e5 : pre f 5 = ((((0 * 256 + f 0) * 256 + f 1) * 256 + f 2) * 256 + f 3) * 256 + f 4 := rfl
  have f0 : f 0 = 0 := by omega
  have nx : ∀ (i : Nat) (r c : Int), i < n → RD.next (feedNx f n) ⟨i, r, c, false⟩ = (f i % 256, ⟨i + 1, r, c, false⟩) := by
    intro i r c hi
    unfold RD.next
    rw [if_neg (by show ¬ false = true; decide)]
    show ((feedNx f n i).1, (⟨(feedNx f n i).2.2, r, c, !(feedNx f n i).2.1⟩ : RD Nat)) = _
    unfold feedNx
    rw [if_pos hi]
    rfl
  have first : RD.fst (feedNx f n) 0 = (0, ⟨1, 4294967295, 0, false⟩) := by
    unfold RD.fst
    rw [nx 0 _ _ (by omega)]
    congr 1
    omega
  have four : RD.four (feedNx f n) 4 ⟨1, 4294967295, 0, false⟩ = ⟨5, 4294967295, pre f 5, false⟩ := by
    have s : ∀ (j i : Nat) (c : Int), i < n → RD.four (feedNx f n) (j + 1) ⟨i, 4294967295, c, false⟩ = RD.four (feedNx f n) j ⟨i + 1, 4294967295, c * 256 % 4294967296 + f i % 256, false⟩ := by
      intro j i c hi
      show RD.four (feedNx f n) j ⟨(RD.next (feedNx f n) ⟨i, 4294967295, c, false⟩).2.src, 4294967295, c * 256 % 4294967296 + (RD.next (feedNx f n) ⟨i, 4294967295, c, false⟩).1, (RD.next (feedNx f n) ⟨i, 4294967295, c, false⟩).2.bad⟩ = _
      rw [nx i _ _ hi]
    rw [s 3 1 0 (by omega), s 2 2 _ (by omega), s 1 3 _ (by omega), s 0 4 _ (by omega)]
    show (⟨5, 4294967295, _, false⟩ : RD Nat) = _
    congr 1
    omega
  have enew : RD.pnew (feedNx f n) 0 = ⟨5, 4294967295, pre f 5, false⟩ := by
    unfold RD.pnew
    rw [first]
    dsimp only
    rw [four]
    show (⟨5, 4294967295, pre f 5, false || ((0 : Int) != 0 || decide ((4294967295 : Int) ≤ pre f 5))⟩ : RD Nat) = _
    have : decide ((4294967295 : Int) ≤ pre f 5) = false := by simp; omega
    rw [this]
    rfl
  rw [enew]
  refine ⟨rfl, rfl, rfl, ?_⟩
  rw [hl, new_val]
  show pre f 5 = pre f 5 - 0
  omega
end Go.Proofs.Ytnkdeedbgkcbfaa
