/- Texts of this proof, one behind the other. -/
import Derived.Test.YtphdnfilenkanaaMg03
import Derived.Test.YtphdnfilenkanaaMg06
import Derived.Test.YtphdnfilenkanaaMg04
import Derived.Test.YtphdnfilenkanaaBqR2Q
import Derived.Test.YtphdnfilenkanaaMg05
import Derived.Laws.BitsAllLaws
import Derived.Test.YtphdnfilenkanaaMg01

/- append of a row of integers to a row of the call's own: where the row lies then. -/
namespace Go.Proofs.Ytphdnfilenkanaa
open Go.RowKit

theorem run_growN {P : Program} {w : World} (t ty : TypeId) (k : IntKind) (e : TypeId) (bytes : Nat) (ht : P.underlying t = some (.slice e)) (hinfo : (P.info? e).map (fun i => (i.zero, i.size, i.bytes)) = some (some (.int k 0), 1, bytes))
    (v : Value) (xs ys : List Int) (hown : Own w 0 k e v xs) (ad : Addr) (c : Nat) (hy : 0 < ys.length) (hcell : ∀ j y, ys[j]? = some y → w.cell? (ad.add j) = some (.int k y))
    (hb1 : 1 ≤ bytes) (hbytes : (xs.length + ys.length) * bytes ≤ 140737488355328) :
    ∃ v' w', (Builtin.append_ #[t, t] ty #[v, .slice (some ad) ys.length c]).run P w = .ok v' w' ∧ Own w' 0 k e v' (xs ++ ys) ∧ w.grownBy w' v.ownBlock ∧ (v'.ownBlock = v.ownBlock ∨ v'.ownBlock = some w.heap.size) := by
  obtain ⟨i, hi, hz0, hz1, hz2⟩ := info_parts hinfo
  have hm : xs.length + ys.length ≤ (xs.length + ys.length) * bytes := Nat.le_mul_of_pos_right _ hb1
  have hnews : ∀ j u, (ys.map (Value.int k))[j]? = some u → w.cell? (ad.add j) = some u := by
    intro j u hj
    rw [List.getElem?_map] at hj
    cases hyj : ys[j]? with
    | none => rw [hyj] at hj; cases hj
    | some y => rw [hyj] at hj; injection hj with hj; subst hj; exact hcell j y hyj
  have h1 : ∀ u ∈ ys.map (Value.int k), u.oneCell' = true := by
    intro u hu
    simp at hu
    obtain ⟨y, _, rfl⟩ := hu
    rfl
  obtain ⟨v', w', hr, h2, h3, _⟩ := run_append_own (P := P) w 0 t ty e i (.int k 0) 1 bytes ht hi hz0 hz1 hz2 rfl (by decide) v xs.length _ hown ad ys.length c (ys.map (Value.int k)) (by simp) hnews h1 (by unfold maxLen; omega) hbytes (Nat.zero_le _)
  refine ⟨v', w', hr, ?_, h3, ?_⟩
  · unfold Own
    simpa using h2
  · rcases hown.2 with ⟨rfl, hn⟩ | ⟨g, cap, cur, rfl, hbg, hg, hnc, hcm, hcs, htake⟩
    · have hr' := run_append_nil (P := P) w t ty e i (.int k 0) ht hi hz0 ad ys.length c (ys.map (Value.int k)) (by rw [hz1]; simp) hnews (by omega) (by omega) (by rw [hz2]; have : ys.length * bytes ≤ (xs.length + ys.length) * bytes := Nat.mul_le_mul_right _ (by omega); omega)
      rw [hr] at hr'
      injection hr' with e1 e2
      right; rw [e1]; rfl
    · by_cases hroom : xs.length + ys.length ≤ cap
      · have hr' := run_append_room (P := P) w t ty e i ht hi g xs.length cap cur hg ad ys.length c (ys.map (Value.int k)) (by rw [hz1]; simp) hnews h1 hroom (by rw [hz1, hcs]; simp; omega)
        rw [hr] at hr'
        injection hr' with e1 e2
        left; rw [e1]; rfl
      · have hr' := run_append_grow (P := P) w t ty e i (.int k 0) ht hi hz0 ⟨g, 0, none⟩ xs.length cap (xs.map (Value.int k)) (by rw [hz1]; simp) (hown.cells (g := g) rfl) ad ys.length c (ys.map (Value.int k)) (by rw [hz1]; simp) hnews (by omega) (by omega) (growslice_fits (by omega) (by rw [hz2]; exact hbytes))
        rw [hr] at hr'
        injection hr' with e1 e2
        right; rw [e1]; rfl
theorem opGrowN {P : Program} {w : World} {ops : Array Oper} {rest : List Oper} {o : Oper} {a : Act} {Q : Exit → Act → World → Prop} (d : Option Tmp) (hgd : o.guard = none) (hd : o.dst = d) (s x : Operand) (t : TypeId)
    (ho : o.op = .call { callee := .builtin .append, args := #[s, x], argTypes := #[t, t] })
    (k : IntKind) (e : TypeId) (bytes : Nat) (ht : P.underlying t = some (.slice e)) (hinfo : (P.info? e).map (fun i => (i.zero, i.size, i.bytes)) = some (some (.int k 0), 1, bytes))
    (v : Value) (xs ys : List Int) (hs : a.eval s = v) (hown : Own w 0 k e v xs)
    (ad : Addr) (m c : Nat) (hm : m = ys.length) (hx : a.eval x = .slice (some ad) m c) (hy : 0 < ys.length) (hcell : ∀ j y, ys[j]? = some y → w.cell? (ad.add j) = some (.int k y))
    (hb1 : 1 ≤ bytes) (hbytes : (xs.length + ys.length) * bytes ≤ 140737488355328)
    (h : ∀ v' w', Own w' 0 k e v' (xs ++ ys) → w.grownBy w' v.ownBlock → (v'.ownBlock = v.ownBlock ∨ v'.ownBlock = some w.heap.size) → wpList P ops Q rest (a.put d v') w') : wpList P ops Q (o :: rest) a w := by
  subst hm
  obtain ⟨v', w', hr, h2, h3, h4⟩ := run_growN (P := P) (w := w) t o.type k e bytes ht hinfo v xs ys hown ad c hy hcell hb1 hbytes
  refine wpList_plain hgd fun K hK => ?_
  unfold Oper.wp execOp
  simp only [ho, resolve, invoke, builtin, Sem.run_bind, Sem.run_pure, Result.andThen_ok, List.map_toArray, List.map_cons, List.map_nil, hs, hx, hr]
  refine hK _ _ ?_
  rw [hd]
  exact h v' w' h2 h3 h4
end Go.Proofs.Ytphdnfilenkanaa

/- The document's coder (05): Ask, one bit. -/
namespace Go.Proofs.Ytphdnfilenkanaa
open Go.RowKit

end Go.Proofs.Ytphdnfilenkanaa

/- The document's coder (05): Ask, a tree. -/
namespace Go.Proofs.Ytphdnfilenkanaa
open Go.RowKit

end Go.Proofs.Ytphdnfilenkanaa

/- The document's coder (05): Ask, a tree from its least bit on. -/
namespace Go.Proofs.Ytphdnfilenkanaa
open Go.RowKit

end Go.Proofs.Ytphdnfilenkanaa

/- law05: the coder and its probabilities through a row of questions; RencFirst. -/
namespace Go.Proofs.Ytphdnfilenkanaa
open Go.RowKit

theorem RC.Ok.reach_str1 {c : RC} {N : Nat} (h : c.Ok N) (hb : c.bytes) (b : Nat) : ∃ k, Reach c (c.str1 b) k := by
  have h2 := h.rng0
  refine h.reach_part hb ?_ (by omega) ?_
  · by_cases hb : b = 1
    · rw [if_pos hb]; omega
    · rw [if_neg hb]; omega
  · by_cases hb : b = 1
    · rw [if_pos hb]; omega
    · rw [if_neg hb]; omega
theorem treeGo_keep (k : Nat) : ∀ (c : RC) (q : Nat → Int) (m v N j L : Nat), c.Ok N → c.bytes → Pr q L → m < 2 ^ j → 2 ^ (j + k) ≤ 2 * L →
    (RC.treeGo k c q m v).2.Ok (N + 3 * k) ∧ Pr (RC.treeGo k c q m v).1 L ∧ ∃ n, Reach c (RC.treeGo k c q m v).2 n := by
  induction k with
  | zero => intro c q m v N j L h1 h2 h3 _ _; exact ⟨h1, h3, 0, Reach.refl c⟩
  | succ k ih =>
    intro c q m v N j L h1 h2 h3 h4 h5
    have hm : m < L := by
      have : 2 ^ (j + 1) ≤ 2 ^ (j + (k + 1)) := Nat.pow_le_pow_right (by decide) (by omega)
      rw [Nat.pow_succ] at this
      omega
    have hp := h3 m hm
    have hb := bit_prob' c hp.1 hp.2 (v / 2 ^ k % 2)
    obtain ⟨n1, r1⟩ := h1.reach_bit h2 hp.1 hp.2 (v / 2 ^ k % 2)
    obtain ⟨g1, g2, n2, g3⟩ := ih (c.bit (q m) (v / 2 ^ k % 2)).2 (upd q m (c.bit (q m) (v / 2 ^ k % 2)).1) (2 * m + v / 2 ^ k % 2) v (N + 3) (j + 1) L (h1.bit hp.1 hp.2 _) (r1.bytes h2) (h3.upd m hb.1 hb.2) (by rw [Nat.pow_succ]; omega) (by rw [show j + 1 + k = j + (k + 1) by omega]; exact h5)
    exact ⟨g1.mono (by omega), g2, _, r1.trans g3⟩
theorem revGo_keep (k : Nat) : ∀ (i : Nat) (c : RC) (q : Nat → Int) (m v N j L : Nat), c.Ok N → c.bytes → Pr q L → m < 2 ^ j → 2 ^ (j + k) ≤ 2 * L →
    (RC.revGo k i c q m v).2.Ok (N + 3 * k) ∧ Pr (RC.revGo k i c q m v).1 L ∧ ∃ n, Reach c (RC.revGo k i c q m v).2 n := by
  induction k with
  | zero => intro i c q m v N j L h1 h2 h3 _ _; exact ⟨h1, h3, 0, Reach.refl c⟩
  | succ k ih =>
    intro i c q m v N j L h1 h2 h3 h4 h5
    have hm : m < L := by
      have : 2 ^ (j + 1) ≤ 2 ^ (j + (k + 1)) := Nat.pow_le_pow_right (by decide) (by omega)
      rw [Nat.pow_succ] at this
      omega
    have hp := h3 m hm
    have hb := bit_prob' c hp.1 hp.2 (v / 2 ^ i % 2)
    obtain ⟨n1, r1⟩ := h1.reach_bit h2 hp.1 hp.2 (v / 2 ^ i % 2)
    obtain ⟨g1, g2, n2, g3⟩ := ih (i + 1) (c.bit (q m) (v / 2 ^ i % 2)).2 (upd q m (c.bit (q m) (v / 2 ^ i % 2)).1) (2 * m + v / 2 ^ i % 2) v (N + 3) (j + 1) L (h1.bit hp.1 hp.2 _) (r1.bytes h2) (h3.upd m hb.1 hb.2) (by rw [Nat.pow_succ]; omega) (by rw [show j + 1 + k = j + (k + 1) by omega]; exact h5)
    exact ⟨g1.mono (by omega), g2, _, r1.trans g3⟩
theorem strGo_keep (k : Nat) : ∀ (c : RC) (v N : Nat), c.Ok N → c.bytes → (RC.strGo k c v).Ok (N + 3 * k) ∧ ∃ n, Reach c (RC.strGo k c v) n := by
  induction k with
  | zero => intro c v N h1 h2; exact ⟨h1, 0, Reach.refl c⟩
  | succ k ih =>
    intro c v N h1 h2
    obtain ⟨n1, r1⟩ := h1.reach_str1 h2 (v / 2 ^ k % 2)
    obtain ⟨g1, n2, g3⟩ := ih (c.str1 (v / 2 ^ k % 2)) v (N + 3) (h1.str1 _) (r1.bytes h2)
    exact ⟨g1.mono (by omega), _, r1.trans g3⟩
/-- what is coded: the coder stays one, the probabilities stay such. -/
theorem cask_keep {c : RC} {q : Nat → Int} {a : Ask} {N : Nat} (ha : a.Right) (h : c.Ok N) (hb : c.bytes) (hp : Pr q 600) :
    (c.ask q a).2.Ok (N + 96) ∧ Pr (c.ask q a).1 600 ∧ ∃ n, Reach c (c.ask q a).2 n := by
  obtain ⟨k, p, b, v⟩ := a
  rcases ha with ⟨hk, h1, h2⟩ | ⟨hk, h1, h2, h3, h4⟩ | ⟨hk, h1, h2⟩
  · simp only at hk h1 h2
    subst hk
    have hpa := hp p.toNat (by omega)
    have hb3 := bit_prob' c hpa.1 hpa.2 (v.toNat % 2)
    unfold RC.ask
    rw [if_pos rfl]
    exact ⟨(h.bit hpa.1 hpa.2 _).mono (by omega), hp.upd _ hb3.1 hb3.2, h.reach_bit hb hpa.1 hpa.2 _⟩
  · simp only at hk h1 h2 h3 h4
    obtain ⟨P, rfl⟩ := Int.eq_ofNat_of_zero_le h1
    obtain ⟨B, rfl⟩ := Int.eq_ofNat_of_zero_le (a := b) (by omega)
    have hP8 : 2 ^ B ≤ 256 := by
      have : 2 ^ B ≤ 2 ^ 8 := Nat.pow_le_pow_right (by decide) (by omega)
      omega
    have hpr : Pr (fun j => q (P + j)) (2 ^ B) := fun j hj => hp (P + j) (by omega)
    have hL : 2 ^ (1 + B) ≤ 2 * 2 ^ B := by rw [Nat.pow_add]; omega
    rcases hk with hk | hk
    · subst hk
      obtain ⟨g1, g2, g3⟩ := treeGo_keep B c (fun j => q (P + j)) 1 v.toNat N 1 (2 ^ B) h hb hpr (by decide) hL
      unfold RC.ask
      rw [if_neg (by show ¬ (1 : Int) = 0; decide), if_pos rfl]
      exact ⟨g1.mono (by omega), splice_pr hp g2, g3⟩
    · subst hk
      obtain ⟨g1, g2, g3⟩ := revGo_keep B 0 c (fun j => q (P + j)) 1 v.toNat N 1 (2 ^ B) h hb hpr (by decide) hL
      unfold RC.ask
      rw [if_neg (by show ¬ (2 : Int) = 0; decide), if_neg (by show ¬ (2 : Int) = 1; decide), if_pos rfl]
      exact ⟨g1.mono (by omega), splice_pr hp g2, g3⟩
  · simp only at hk h1 h2
    subst hk
    obtain ⟨g1, g2⟩ := strGo_keep b.toNat c v.toNat N h hb
    unfold RC.ask
    rw [if_neg (by show ¬ (3 : Int) = 0; decide), if_neg (by show ¬ (3 : Int) = 1; decide), if_neg (by show ¬ (3 : Int) = 2; decide)]
    exact ⟨g1.mono (by omega), hp, g2⟩

/-- the coder and its 600 probabilities, in a world that grew out of w. -/
structure StC (A : Nat → Prop) (g gp : Nat) (w wr : World) (r : RC × (Nat → Int)) (N : Nat) : Prop where
  fr : Fr Non w wr
  cod : CodIs A g wr r.1
  blk : wr.heap[gp]? = some (.cells (arr .u16 600 r.2) 46)
  pr : Pr r.2 600
  ok : r.1.Ok N
  bytes : r.1.bytes
theorem StC.any {A : Nat → Prop} {g gp : Nat} {w wr w' : World} {r : RC × (Nat → Int)} {N : Nat} (h : StC A g gp w wr r N) (hf : Fr Non wr w') : StC A g gp w w' r N :=
  ⟨h.fr.trans hf, h.cod.any hf, hf.blk h.blk id, h.pr, h.ok, h.bytes⟩
end Go.Proofs.Ytphdnfilenkanaa

/- The document's coder (05): Ask, told straight. -/
namespace Go.Proofs.Ytphdnfilenkanaa
open Go.RowKit

theorem str1_zero (c : RC) : c.str1 0 = c.part 0 (c.rng / 2) := rfl
theorem str1_one (c : RC) : c.str1 1 = c.part (c.rng / 2) (c.rng / 2) := rfl
def ESPost (A : Nat → Prop) (g : Nat) (w : World) (c : RC) (e : Ending) (w' : World) : Prop :=
  e = .returned (.tuple #[]) ∧ Fr (Out A) w w' ∧ EncC A g w' c
structure ESAt (A' : Nat → Prop) (g N : Nat) (W wr : World) (c1 : RC) : Prop where
  fr : Fr (Out A') W wr
  enc : EncC A' g wr c1
  ok : c1.Ok N
  by_ : c1.bytes
theorem ESAt.step {A' : Nat → Prop} {g N b : Nat} {W wr w1 : World} {c1 : RC} (h : ESAt A' g N W wr c1) (hf : Fr (Out A') wr w1) (he : EncC A' g w1 (c1.str1 b)) : ESAt A' g (N + 3) W w1 (c1.str1 b) := by
  obtain ⟨n, hn⟩ := h.ok.reach_str1 h.by_ b
  exact ⟨h.fr.trans hf, he, h.ok.str1 b, hn.4 h.by_⟩
end Go.Proofs.Ytphdnfilenkanaa

/- The document's coder (05): Ask, all kinds. -/
namespace Go.Proofs.Ytphdnfilenkanaa
open Go.RowKit

theorem win_row {cs cs' : Array Value} {P L : Nat} {q r : Nat → Int} (h : Win cs cs' P L r) (hc : ∀ j, j < 600 → cs[j]? = some (.int .u16 (q j))) : ∀ j, j < 600 → cs'[j]? = some (.int .u16 (spliceQ q P L r j)) := by
  intro j hj
  unfold spliceQ
  by_cases h1 : P ≤ j ∧ j < P + L
  · rw [if_pos h1]
    have := h.cell (j - P) (by omega)
    rw [show P + (j - P) = j by omega] at this
    exact this
  · rw [if_neg h1, h.rest j (by omega)]; exact hc j hj
end Go.Proofs.Ytphdnfilenkanaa

/- What a range coder told, a range decoder is told. -/
namespace Go.Proofs.Ytphdnfilenkanaa
open Go.RowKit

/-- the first bytes, as one number. -/
def pre (f : Nat → Int) : Nat → Int
  | 0 => 0
  | i + 1 => pre f i * 256 + f i
theorem pre_split (f : Nat → Int) (L : Nat) (hf : ∀ i, i < L → 0 ≤ f i ∧ f i < 256) (i k : Nat) (h : i + k ≤ L) : pre f i * 256 ^ k ≤ pre f (i + k) ∧ pre f (i + k) < (pre f i + 1) * 256 ^ k := by
  induction k with
  | zero => simp; omega
  | succ k ih =>
    have h1 := ih (by omega)
    have h2 := hf (i + k) (by omega)
    have e : pre f (i + (k + 1)) = pre f (i + k) * 256 + f (i + k) := rfl
    rw [e, Int.pow_succ, ← Int.mul_assoc, ← Int.mul_assoc]
    omega
/-- the decoder stands where the coder stood, the coder having come to C at last. -/
structure Sync (f : Nat → Int) (c : RC) (d : RD Nat) : Prop where
  bad : d.bad = false
  rng : d.rng = c.rng
  src : d.src = c.len
  code : d.code = pre f c.len - c.val
structure Told (f : Nat → Int) (n : Nat) (C : RC) : Prop where
  bytes : ∀ i, i < n → 0 ≤ f i ∧ f i < 256
  len : C.len ≤ n
  val : pre f C.len = C.val
  rng : 1 ≤ C.rng
theorem Told.window {f : Nat → Int} {n : Nat} {C : RC} (h : Told f n C) {c : RC} {k : Nat} (hr : Reach c C k) : c.val ≤ pre f c.len ∧ pre f c.len < c.val + c.rng ∧ c.len ≤ n := by
  have hl := hr.len
  have h1 := h.len
  obtain ⟨s1, s2⟩ := pre_split f n h.bytes c.len k (by omega)
  rw [← hl, h.val] at s1 s2
  have r1 := hr.low
  have r2 := hr.high
  have r3 := h.rng
  have hp := pow_pos256 k
  refine ⟨?_, ?_, by omega⟩
  · apply Decidable.byContradiction
    intro hc
    have : (pre f c.len + 1) * 256 ^ k ≤ c.val * 256 ^ k := Int.mul_le_mul_of_nonneg_right (by omega) (by omega)
    rw [Int.mul_comm] at r1
    omega
  · apply Decidable.byContradiction
    intro hc
    have : (c.val + c.rng) * 256 ^ k ≤ pre f c.len * 256 ^ k := Int.mul_le_mul_of_nonneg_right (by omega) (by omega)
    rw [Int.mul_comm] at r2
    omega
theorem sync_part {f : Nat → Int} {n : Nat} {C : RC} (h : Told f n C) {c : RC} {d : RD Nat} {N : Nat} (hs : Sync f c d) (hok : c.Ok N) {a r : Int} (ha : 0 ≤ a) (hr : 65536 ≤ r) (har : a + r ≤ c.rng) {k : Nat} (hre : Reach (c.part a r) C k) :
    a ≤ d.code ∧ d.code < a + r ∧ Sync f (c.part a r) (RD.level (feedNx f n) ⟨d.src, r, d.code - a, false⟩) := by
  obtain ⟨b1, b2, b3, b4⟩ := hs
  by_cases hlt : r < 16777216
  · have e : c.part a r = (⟨c.low + a, r * 256, c.waits, c.more, c.out⟩ : RC).give := by
      show RC.lev 3 ⟨c.low + a, r, c.waits, c.more, c.out⟩ = _
      have e1 : RC.lev 3 ⟨c.low + a, r, c.waits, c.more, c.out⟩ = RC.lev 2 (⟨c.low + a, r * 256, c.waits, c.more, c.out⟩ : RC).give := if_pos hlt
      rw [e1]
      exact lev_stop 2 _ (by rw [give_rng]; show 16777216 ≤ r * 256; omega)
    rw [e] at hre ⊢
    have hv : (⟨c.low + a, r * 256, c.waits, c.more, c.out⟩ : RC).give.val = 256 * (c.val + a) := by
      obtain ⟨o1, o2, o3, o4, o5, o6, o7, o8⟩ := hok
      rw [give_val ⟨c.low + a, r * 256, c.waits, c.more, c.out⟩ (by show 0 ≤ c.low + a; omega) (by show c.low + a < _; omega) o5 o6 (fun w => by have := o7 w; show c.low + a < _; omega)]
      congr 1
      exact part_val c a (r * 256)
    have hl : (⟨c.low + a, r * 256, c.waits, c.more, c.out⟩ : RC).give.len = c.len + 1 := give_len _
    have hg : (⟨c.low + a, r * 256, c.waits, c.more, c.out⟩ : RC).give.rng = r * 256 := give_rng _
    obtain ⟨w1, w2, w3⟩ := h.window hre
    rw [hv, hl] at w1 w2
    rw [hg] at w2
    rw [hl] at w3
    have hb := h.bytes c.len (by omega)
    have ep : pre f (c.len + 1) = pre f c.len * 256 + f c.len := rfl
    rw [ep] at w1 w2
    have k1 : a ≤ d.code := by omega
    have k2 : d.code < a + r := by omega
    refine ⟨k1, k2, ?_⟩
    rw [RD.level_lt _ _ (by show r < 16777216; exact hlt)]
    have en : RD.next (feedNx f n) ⟨d.src, r, d.code - a, false⟩ = (f c.len % 256, ⟨c.len + 1, r, d.code - a, false⟩) := by
      unfold RD.next
      rw [if_neg (by show ¬ false = true; decide)]
      show ((feedNx f n d.src).1, (⟨(feedNx f n d.src).2.2, r, d.code - a, !(feedNx f n d.src).2.1⟩ : RD Nat)) = _
      rw [b3]
      unfold feedNx
      rw [if_pos (by omega)]
      rfl
    rw [en]
    refine ⟨rfl, ?_, ?_, ?_⟩
    · rw [hg]
    · rw [hl]
    · rw [hl, hv, ep]
      show (d.code - a) * 256 % 4294967296 + f c.len % 256 = _
      omega
  · have e : c.part a r = ⟨c.low + a, r, c.waits, c.more, c.out⟩ := lev_stop 3 _ (by show 16777216 ≤ r; omega)
    rw [e] at hre ⊢
    have hv : (⟨c.low + a, r, c.waits, c.more, c.out⟩ : RC).val = c.val + a := part_val c a r
    obtain ⟨w1, w2, _⟩ := h.window hre
    have hl : (⟨c.low + a, r, c.waits, c.more, c.out⟩ : RC).len = c.len := rfl
    have hg : (⟨c.low + a, r, c.waits, c.more, c.out⟩ : RC).rng = r := rfl
    rw [hv, hl] at w1 w2
    rw [hg] at w2
    refine ⟨by omega, by omega, ?_⟩
    rw [RD.level_ge _ _ (by show ¬ r < 16777216; exact hlt)]
    refine ⟨rfl, rfl, ?_, ?_⟩
    · exact b3
    · rw [hl, hv]; show d.code - a = _; omega
theorem sync_bit {f : Nat → Int} {n : Nat} {C : RC} (h : Told f n C) {c : RC} {d : RD Nat} {N : Nat} (hs : Sync f c d) (hok : c.Ok N) {p : Int} (h0 : 31 ≤ p) (h1 : p ≤ 2017) (b : Nat) (hb : b ≤ 1) {k : Nat} (hre : Reach (c.bit p b).2 C k) :
    (d.bit (feedNx f n) p).1 = b ∧ (d.bit (feedNx f n) p).2.1 = (c.bit p b).1 ∧ Sync f (c.bit p b).2 (d.bit (feedNx f n) p).2.2 := by
  have b1 := bound_pos c.rng p hok.rng0 h0
  have b2 := bound_gap c.rng p hok.rng0 h1
  have hbad := hs.bad
  have hrng := hs.rng
  rcases Nat.le_one_iff_eq_zero_or_eq_one.1 hb with rfl | rfl
  · have e : c.bit p 0 = (p + (2048 - p) / 32, c.part 0 (c.rng / 2048 * p)) := if_pos rfl
    rw [e] at hre ⊢
    obtain ⟨s1, s2, s3⟩ := sync_part h hs hok (by omega) (by omega) (by omega) hre
    unfold RD.bit
    rw [if_neg (by rw [hbad]; decide), if_pos (by rw [hrng]; omega)]
    refine ⟨rfl, rfl, ?_⟩
    rw [hrng, hbad]
    rw [Int.sub_zero] at s3
    exact s3
  · have e : c.bit p 1 = (p - p / 32, c.part (c.rng / 2048 * p) (c.rng - c.rng / 2048 * p)) := if_neg (by decide)
    rw [e] at hre ⊢
    obtain ⟨s1, s2, s3⟩ := sync_part h hs hok (by omega) (by omega) (by omega) hre
    unfold RD.bit
    rw [if_neg (by rw [hbad]; decide), if_neg (by rw [hrng]; omega)]
    rw [hrng, hbad]
    refine ⟨?_, rfl, s3⟩
    rw [if_neg (by rw [s3.bad]; decide)]
theorem sync_treeGo {f : Nat → Int} {n : Nat} {C : RC} (h : Told f n C) (K : Nat) : ∀ (c : RC) (d : RD Nat) (q : Nat → Int) (m v N j L : Nat), Sync f c d → c.Ok N → c.bytes → Pr q L → m < 2 ^ j → 2 ^ (j + K) ≤ 2 * L → (∃ k, Reach (RC.treeGo K c q m v).2 C k) →
    (RD.treeGo (feedNx f n) K d q m).1 = 2 ^ K * m + v % 2 ^ K ∧ (RD.treeGo (feedNx f n) K d q m).2.1 = (RC.treeGo K c q m v).1 ∧ Sync f (RC.treeGo K c q m v).2 (RD.treeGo (feedNx f n) K d q m).2.2 := by
  induction K with
  | zero => intro c d q m v N j L hs _ _ _ _ _ _; exact ⟨by simp [RD.treeGo, Nat.mod_one], rfl, hs⟩
  | succ K ih =>
    intro c d q m v N j L hs h1 h2 h3 h4 h5 hre
    have hm : m < L := by
      have : 2 ^ (j + 1) ≤ 2 ^ (j + (K + 1)) := Nat.pow_le_pow_right (by decide) (by omega)
      rw [Nat.pow_succ] at this
      omega
    have hp := h3 m hm
    have hb := bit_prob' c hp.1 hp.2 (v / 2 ^ K % 2)
    obtain ⟨n1, r1⟩ := h1.reach_bit h2 hp.1 hp.2 (v / 2 ^ K % 2)
    have hk := treeGo_keep K (c.bit (q m) (v / 2 ^ K % 2)).2 (upd q m (c.bit (q m) (v / 2 ^ K % 2)).1) (2 * m + v / 2 ^ K % 2) v (N + 3) (j + 1) L (h1.bit hp.1 hp.2 _) (r1.bytes h2) (h3.upd m hb.1 hb.2) (by rw [Nat.pow_succ]; omega) (by rw [show j + 1 + K = j + (K + 1) by omega]; exact h5)
    obtain ⟨_, _, n2, r2⟩ := hk
    obtain ⟨k, hrk⟩ := hre
    have hrk' : Reach (RC.treeGo K (c.bit (q m) (v / 2 ^ K % 2)).2 (upd q m (c.bit (q m) (v / 2 ^ K % 2)).1) (2 * m + v / 2 ^ K % 2) v).2 C k := hrk
    obtain ⟨e1, e2, e3⟩ := sync_bit h hs h1 hp.1 hp.2 (v / 2 ^ K % 2) (by omega) (r2.trans hrk')
    obtain ⟨g1, g2, g3⟩ := ih (c.bit (q m) (v / 2 ^ K % 2)).2 (d.bit (feedNx f n) (q m)).2.2 (upd q m (c.bit (q m) (v / 2 ^ K % 2)).1) (2 * m + v / 2 ^ K % 2) v (N + 3) (j + 1) L e3 (h1.bit hp.1 hp.2 _) (r1.bytes h2) (h3.upd m hb.1 hb.2) (by rw [Nat.pow_succ]; omega) (by rw [show j + 1 + K = j + (K + 1) by omega]; exact h5) ⟨k, hrk'⟩
    have eR : RD.treeGo (feedNx f n) (K + 1) d q m = RD.treeGo (feedNx f n) K (d.bit (feedNx f n) (q m)).2.2 (upd q m (c.bit (q m) (v / 2 ^ K % 2)).1) (2 * m + v / 2 ^ K % 2) := by
      show RD.treeGo (feedNx f n) K (d.bit (feedNx f n) (q m)).2.2 (upd q m (d.bit (feedNx f n) (q m)).2.1) (2 * m + (d.bit (feedNx f n) (q m)).1) = _
      rw [e1, e2]
    rw [eR]
    refine ⟨?_, g2, g3⟩
    rw [g1, Nat.pow_succ, Nat.mod_mul, Nat.mul_add]
    have : 2 ^ K * (2 * m) = 2 ^ K * 2 * m := by rw [Nat.mul_assoc]
    omega
theorem sync_revGo {f : Nat → Int} {n : Nat} {C : RC} (h : Told f n C) (K : Nat) : ∀ (i : Nat) (c : RC) (d : RD Nat) (q : Nat → Int) (m out v N j L : Nat), Sync f c d → c.Ok N → c.bytes → Pr q L → m < 2 ^ j → 2 ^ (j + K) ≤ 2 * L → (∃ k, Reach (RC.revGo K i c q m v).2 C k) →
    (RD.revGo (feedNx f n) K i d q m out).1 = out + v / 2 ^ i % 2 ^ K * 2 ^ i ∧ (RD.revGo (feedNx f n) K i d q m out).2.1 = (RC.revGo K i c q m v).1 ∧ Sync f (RC.revGo K i c q m v).2 (RD.revGo (feedNx f n) K i d q m out).2.2 := by
  induction K with
  | zero => intro i c d q m out v N j L hs _ _ _ _ _ _; exact ⟨by simp [RD.revGo, Nat.mod_one], rfl, hs⟩
  | succ K ih =>
    intro i c d q m out v N j L hs h1 h2 h3 h4 h5 hre
    have hm : m < L := by
      have : 2 ^ (j + 1) ≤ 2 ^ (j + (K + 1)) := Nat.pow_le_pow_right (by decide) (by omega)
      rw [Nat.pow_succ] at this
      omega
    have hp := h3 m hm
    have hb := bit_prob' c hp.1 hp.2 (v / 2 ^ i % 2)
    obtain ⟨n1, r1⟩ := h1.reach_bit h2 hp.1 hp.2 (v / 2 ^ i % 2)
    have hk := revGo_keep K (i + 1) (c.bit (q m) (v / 2 ^ i % 2)).2 (upd q m (c.bit (q m) (v / 2 ^ i % 2)).1) (2 * m + v / 2 ^ i % 2) v (N + 3) (j + 1) L (h1.bit hp.1 hp.2 _) (r1.bytes h2) (h3.upd m hb.1 hb.2) (by rw [Nat.pow_succ]; omega) (by rw [show j + 1 + K = j + (K + 1) by omega]; exact h5)
    obtain ⟨_, _, n2, r2⟩ := hk
    obtain ⟨k, hrk⟩ := hre
    have hrk' : Reach (RC.revGo K (i + 1) (c.bit (q m) (v / 2 ^ i % 2)).2 (upd q m (c.bit (q m) (v / 2 ^ i % 2)).1) (2 * m + v / 2 ^ i % 2) v).2 C k := hrk
    obtain ⟨e1, e2, e3⟩ := sync_bit h hs h1 hp.1 hp.2 (v / 2 ^ i % 2) (by omega) (r2.trans hrk')
    obtain ⟨g1, g2, g3⟩ := ih (i + 1) (c.bit (q m) (v / 2 ^ i % 2)).2 (d.bit (feedNx f n) (q m)).2.2 (upd q m (c.bit (q m) (v / 2 ^ i % 2)).1) (2 * m + v / 2 ^ i % 2) (out + v / 2 ^ i % 2 * 2 ^ i) v (N + 3) (j + 1) L e3 (h1.bit hp.1 hp.2 _) (r1.bytes h2) (h3.upd m hb.1 hb.2) (by rw [Nat.pow_succ]; omega) (by rw [show j + 1 + K = j + (K + 1) by omega]; exact h5) ⟨k, hrk'⟩
    have eR : RD.revGo (feedNx f n) (K + 1) i d q m out = RD.revGo (feedNx f n) K (i + 1) (d.bit (feedNx f n) (q m)).2.2 (upd q m (c.bit (q m) (v / 2 ^ i % 2)).1) (2 * m + v / 2 ^ i % 2) (out + v / 2 ^ i % 2 * 2 ^ i) := by
      show RD.revGo (feedNx f n) K (i + 1) (d.bit (feedNx f n) (q m)).2.2 (upd q m (d.bit (feedNx f n) (q m)).2.1) (2 * m + (d.bit (feedNx f n) (q m)).1) (out + (d.bit (feedNx f n) (q m)).1 * 2 ^ i) = _
      rw [e1, e2]
    rw [eR]
    refine ⟨?_, g2, g3⟩
    rw [g1]
    have e4 : v / 2 ^ i % 2 ^ (K + 1) = v / 2 ^ i % 2 + 2 * (v / 2 ^ (i + 1) % 2 ^ K) := by
      rw [Nat.pow_succ, Nat.mul_comm, Nat.mod_mul, Nat.pow_succ, Nat.div_div_eq_div_mul]
    rw [e4, Nat.add_mul, Nat.pow_succ]
    have : v / (2 ^ i * 2) % 2 ^ K * (2 ^ i * 2) = 2 * (v / (2 ^ i * 2) % 2 ^ K) * 2 ^ i := by
      rw [Nat.mul_comm (2 ^ i) 2, ← Nat.mul_assoc, Nat.mul_comm _ 2]
    omega
theorem sync_strGo {f : Nat → Int} {n : Nat} {C : RC} (h : Told f n C) (K : Nat) : ∀ (c : RC) (d : RD Nat) (out v N : Nat), Sync f c d → c.Ok N → c.bytes → (∃ k, Reach (RC.strGo K c v) C k) →
    (RD.strGo (feedNx f n) K d out).1 = 2 ^ K * out + v % 2 ^ K ∧ Sync f (RC.strGo K c v) (RD.strGo (feedNx f n) K d out).2 := by
  induction K with
  | zero => intro c d out v N hs _ _ _; exact ⟨by simp [RD.strGo, Nat.mod_one], hs⟩
  | succ K ih =>
    intro c d out v N hs h1 h2 hre
    obtain ⟨n1, r1⟩ := h1.reach_str1 h2 (v / 2 ^ K % 2)
    obtain ⟨_, n2, r2⟩ := strGo_keep K (c.str1 (v / 2 ^ K % 2)) v (N + 3) (h1.str1 _) (r1.bytes h2)
    obtain ⟨k, hrk⟩ := hre
    have hrk' : Reach (RC.strGo K (c.str1 (v / 2 ^ K % 2)) v) C k := hrk
    have h0 := h1.rng0
    have hsp : ∃ a, a = (if v / 2 ^ K % 2 = 1 then c.rng / 2 else 0) := ⟨_, rfl⟩
    obtain ⟨a, ha⟩ := hsp
    have ha2 : (v / 2 ^ K % 2 = 1 ∧ a = c.rng / 2) ∨ (v / 2 ^ K % 2 = 0 ∧ a = 0) := by
      by_cases hb : v / 2 ^ K % 2 = 1
      · rw [if_pos hb] at ha; exact .inl ⟨hb, ha⟩
      · rw [if_neg hb] at ha; exact .inr ⟨by omega, ha⟩
    have epart : c.str1 (v / 2 ^ K % 2) = c.part a (c.rng / 2) := by unfold RC.str1; rw [← ha]
    have hre2 := r2.trans hrk'
    have h65 : 65536 ≤ c.rng / 2 := by omega
    have hsum : a + c.rng / 2 ≤ c.rng := by rcases ha2 with ⟨_, e⟩ | ⟨_, e⟩ <;> omega
    have ha0 : 0 ≤ a := by rcases ha2 with ⟨_, e⟩ | ⟨_, e⟩ <;> omega
    rw [epart] at hre2
    obtain ⟨s1, s2, s3⟩ := sync_part h hs h1 ha0 h65 hsum hre2
    rw [← epart] at s3
    have e1 : d.str1 (feedNx f n) = (v / 2 ^ K % 2, RD.level (feedNx f n) ⟨d.src, c.rng / 2, d.code - a, false⟩) := by
      unfold RD.str1
      rw [hs.rng]
      rcases ha2 with ⟨e, e'⟩ | ⟨e, e'⟩
      · rw [if_pos (by omega), e, e']
        have : decide (c.rng / 2 ≤ d.code - c.rng / 2) = false := by simp; omega
        rw [this]
      · rw [if_neg (by omega), e, e', Int.sub_zero]
    obtain ⟨g1, g2⟩ := ih (c.str1 (v / 2 ^ K % 2)) (d.str1 (feedNx f n)).2 (2 * out + v / 2 ^ K % 2) v (N + 3) (by rw [e1]; exact s3) (h1.str1 _) (r1.bytes h2) ⟨k, hrk'⟩
    rw [strGo_good _ _ _ _ hs.bad, e1]
    rw [e1] at g1 g2
    refine ⟨?_, g2⟩
    rw [g1, Nat.pow_succ, Nat.mod_mul, Nat.mul_add]
    have : 2 ^ K * (2 * out) = 2 ^ K * 2 * out := by rw [Nat.mul_assoc]
    omega
end Go.Proofs.Ytphdnfilenkanaa

/- The walk through RencFirst. -/
namespace Go.Proofs.Ytphdnfilenkanaa
open Go.RowKit

theorem fin_first {c : RC} {N k : Nat} (h : c.Ok N) (hb : c.bytes) (hr : Reach RC.new c k) : (c.gives 5).out.length = c.len ∧ 5 ≤ c.len ∧ (c.gives 5).out.getD 0 0 = 0 := by
  obtain ⟨h1, h2, h3⟩ := gives_out (h.fin hb)
  obtain ⟨t1, t2⟩ := reach_top hr
  have hl : 5 ≤ c.len := by unfold RC.len; omega
  refine ⟨h2, hl, ?_⟩
  obtain ⟨L, hL⟩ : ∃ L, L = (c.gives 5).out := ⟨_, rfl⟩
  have h3' : ∀ x, x ∈ L → 0 ≤ x ∧ x < 256 := by rw [hL]; exact h3
  rw [← hL] at h1 h2 ⊢
  cases L with
  | nil => simp at h2; omega
  | cons x l =>
    have hl2 : l.length = c.len - 1 := by simp at h2; omega
    have hx := valL_first h3' (by rw [h1, hl2]; have := h.rng0; omega)
    rw [hx]; rfl
theorem first_new (w1 : World) (w : World) {w2 w3 : World} {g gp : Nat} (h1 : Fr Non w w1) (h2 : Fr Non w1 w2) (hc : CodIs (fun k => k < w1.heap.size) g w2 RC.new) (h3 : Fr Non w2 w3) (hgp : w2.heap.size ≤ gp) (hb : w3.heap[gp]? = some (.cells (arr .u16 600 (fun _ => 1024)) 46)) :
    ∃ A : Nat → Prop, A gp ∧ (∀ k, k < w.heap.size → A k) ∧ StC A g gp w w3 (RC.new, fun _ => 1024) 0 := by
  refine ⟨fun k => k < w1.heap.size ∨ (w2.heap.size ≤ k ∧ k < w3.heap.size), .inr ⟨hgp, blk_lt hb⟩, fun k hk => .inl (Nat.lt_of_lt_of_le hk h1.size), (h1.trans h2).trans h3, hc.fresh h3, hb, fresh_pr, new_ok 0, new_bytes⟩

end Go.Proofs.Ytphdnfilenkanaa

/- RencBack, in plain numbers. -/
namespace Go.Proofs.Ytphdnfilenkanaa
open Go.RowKit

def Ask.want (a : Ask) : Nat := if a.kind = 0 then a.val.toNat % 2 else a.val.toNat % 2 ^ a.bits.toNat
theorem sync_ask {f : Nat → Int} {n : Nat} {C : RC} (h : Told f n C) {c : RC} {d : RD Nat} {q : Nat → Int} {a : Ask} {N : Nat} (ha : a.Right) (hs : Sync f c d) (hok : c.Ok N) (hb : c.bytes) (hp : Pr q 600) (hre : ∃ k, Reach (c.ask q a).2 C k) :
    (d.ask (feedNx f n) q a).1 = a.want ∧ (d.ask (feedNx f n) q a).2.1 = (c.ask q a).1 ∧ Sync f (c.ask q a).2 (d.ask (feedNx f n) q a).2.2 := by
  obtain ⟨k, p, b, v⟩ := a
  rcases ha with ⟨hk, h1, h2⟩ | ⟨hk, h1, h2, h3, h4⟩ | ⟨hk, h1, h2⟩
  · simp only at hk h1 h2
    subst hk
    have hpa := hp p.toNat (by omega)
    have eC : c.ask q ⟨0, p, b, v⟩ = (upd q p.toNat (c.bit (q p.toNat) (v.toNat % 2)).1, (c.bit (q p.toNat) (v.toNat % 2)).2) := if_pos rfl
    have eD : d.ask (feedNx f n) q ⟨0, p, b, v⟩ = ((d.bit (feedNx f n) (q p.toNat)).1, upd q p.toNat (d.bit (feedNx f n) (q p.toNat)).2.1, (d.bit (feedNx f n) (q p.toNat)).2.2) := if_pos rfl
    rw [eC] at hre ⊢
    rw [eD]
    obtain ⟨kk, hre⟩ := hre
    obtain ⟨e1, e2, e3⟩ := sync_bit h hs hok hpa.1 hpa.2 (v.toNat % 2) (by omega) hre
    exact ⟨by rw [e1]; rfl, by show upd q p.toNat _ = upd q p.toNat _; rw [e2], e3⟩
  · simp only at hk h1 h2 h3 h4
    obtain ⟨P, rfl⟩ := Int.eq_ofNat_of_zero_le h1
    obtain ⟨B, rfl⟩ := Int.eq_ofNat_of_zero_le (a := b) (by omega)
    have hP8 : 2 ^ B ≤ 256 := by
      have : 2 ^ B ≤ 2 ^ 8 := Nat.pow_le_pow_right (by decide) (by omega)
      omega
    have hpr : Pr (fun j => q (P + j)) (2 ^ B) := fun j hj => hp (P + j) (by omega)
    have hL : 2 ^ (1 + B) ≤ 2 * 2 ^ B := by rw [Nat.pow_add]; omega
    rcases hk with hk | hk
    · subst hk
      have eC : c.ask q ⟨1, P, B, v⟩ = (spliceQ q P (2 ^ B) (c.tree B (fun j => q (P + j)) v.toNat).1, (c.tree B (fun j => q (P + j)) v.toNat).2) := by
        unfold RC.ask; rw [if_neg (by show ¬ (1 : Int) = 0; decide), if_pos rfl]; rfl
      have eD : d.ask (feedNx f n) q ⟨1, P, B, v⟩ = ((d.tree (feedNx f n) B (fun j => q (P + j))).1, spliceQ q P (2 ^ B) (d.tree (feedNx f n) B (fun j => q (P + j))).2.1, (d.tree (feedNx f n) B (fun j => q (P + j))).2.2) := by
        unfold RD.ask; rw [if_neg (by show ¬ (1 : Int) = 0; decide), if_pos rfl]; rfl
      rw [eC] at hre ⊢
      rw [eD]
      obtain ⟨g1, g2, g3⟩ := sync_treeGo h B c d (fun j => q (P + j)) 1 v.toNat N 1 (2 ^ B) hs hok hb hpr (by decide) hL hre
      refine ⟨?_, ?_, g3⟩
      · show (if (RD.treeGo (feedNx f n) B d (fun j => q (P + j)) 1).2.2.bad = true then 0 else (RD.treeGo (feedNx f n) B d (fun j => q (P + j)) 1).1 - 2 ^ B) = _
        rw [if_neg (by rw [g3.bad]; decide), g1]
        show 2 ^ B * 1 + v.toNat % 2 ^ B - 2 ^ B = v.toNat % 2 ^ B
        omega
      · show spliceQ q P (2 ^ B) (RD.treeGo (feedNx f n) B d (fun j => q (P + j)) 1).2.1 = _
        rw [g2]; rfl
    · subst hk
      have eC : c.ask q ⟨2, P, B, v⟩ = (spliceQ q P (2 ^ B) (c.rev B (fun j => q (P + j)) v.toNat).1, (c.rev B (fun j => q (P + j)) v.toNat).2) := by
        unfold RC.ask; rw [if_neg (by show ¬ (2 : Int) = 0; decide), if_neg (by show ¬ (2 : Int) = 1; decide), if_pos rfl]; rfl
      have eD : d.ask (feedNx f n) q ⟨2, P, B, v⟩ = ((d.rev (feedNx f n) B (fun j => q (P + j))).1, spliceQ q P (2 ^ B) (d.rev (feedNx f n) B (fun j => q (P + j))).2.1, (d.rev (feedNx f n) B (fun j => q (P + j))).2.2) := by
        unfold RD.ask; rw [if_neg (by show ¬ (2 : Int) = 0; decide), if_neg (by show ¬ (2 : Int) = 1; decide), if_pos rfl]; rfl
      rw [eC] at hre ⊢
      rw [eD]
      obtain ⟨g1, g2, g3⟩ := sync_revGo h B 0 c d (fun j => q (P + j)) 1 0 v.toNat N 1 (2 ^ B) hs hok hb hpr (by decide) hL hre
      refine ⟨?_, ?_, g3⟩
      · show (if (RD.revGo (feedNx f n) B 0 d (fun j => q (P + j)) 1 0).2.2.bad = true then 0 else (RD.revGo (feedNx f n) B 0 d (fun j => q (P + j)) 1 0).1) = _
        rw [if_neg (by rw [g3.bad]; decide), g1]
        show 0 + v.toNat / 2 ^ 0 % 2 ^ B * 2 ^ 0 = v.toNat % 2 ^ B
        simp
      · show spliceQ q P (2 ^ B) (RD.revGo (feedNx f n) B 0 d (fun j => q (P + j)) 1 0).2.1 = _
        rw [g2]; rfl
  · simp only at hk h1 h2
    subst hk
    have eC : c.ask q ⟨3, p, b, v⟩ = (q, c.strGo b.toNat v.toNat) := by
      unfold RC.ask; rw [if_neg (by show ¬ (3 : Int) = 0; decide), if_neg (by show ¬ (3 : Int) = 1; decide), if_neg (by show ¬ (3 : Int) = 2; decide)]
    have eD : d.ask (feedNx f n) q ⟨3, p, b, v⟩ = ((d.str (feedNx f n) b.toNat).1, q, (d.str (feedNx f n) b.toNat).2) := by
      unfold RD.ask; rw [if_neg (by show ¬ (3 : Int) = 0; decide), if_neg (by show ¬ (3 : Int) = 1; decide), if_neg (by show ¬ (3 : Int) = 2; decide)]
    rw [eC] at hre ⊢
    rw [eD]
    obtain ⟨g1, g2⟩ := sync_strGo h b.toNat c d 0 v.toNat N hs hok hb hre
    refine ⟨?_, rfl, g2⟩
    show (if (RD.strGo (feedNx f n) b.toNat d 0).2.bad = true then 0 else (RD.strGo (feedNx f n) b.toNat d 0).1) = _
    rw [if_neg (by rw [g2.bad]; decide), g1]
    show 2 ^ b.toNat * 0 + v.toNat % 2 ^ b.toNat = v.toNat % 2 ^ b.toNat
    omega
/-- the coder and its probabilities behind the first k questions. -/
def encR (l : Nat → Ask) : Nat → RC × (Nat → Int)
  | 0 => (RC.new, fun _ => 1024)
  | k + 1 => if (l k).rightB = true then (((encR l k).1.ask (encR l k).2 (l k)).2, ((encR l k).1.ask (encR l k).2 (l k)).1) else encR l k
theorem encR_ok (l : Nat → Ask) (k : Nat) : (encR l k).1.Ok (96 * k) ∧ (encR l k).1.bytes ∧ Pr (encR l k).2 600 := by
  induction k with
  | zero => exact ⟨new_ok _, new_bytes, fresh_pr⟩
  | succ k ih =>
    obtain ⟨h1, h2, h3⟩ := ih
    unfold encR
    by_cases hr : (l k).rightB = true
    · rw [if_pos hr]
      obtain ⟨k1, k2, n, k3⟩ := cask_keep (of_decide_eq_true hr) h1 h2 h3
      exact ⟨k1, k3.bytes h2, k2⟩
    · rw [if_neg hr]; exact ⟨h1.mono (by omega), h2, h3⟩
theorem encR_step (l : Nat → Ask) (k : Nat) : ∃ n, Reach (encR l k).1 (encR l (k + 1)).1 n := by
  obtain ⟨h1, h2, h3⟩ := encR_ok l k
  show ∃ n, Reach (encR l k).1 (if (l k).rightB = true then (((encR l k).1.ask (encR l k).2 (l k)).2, ((encR l k).1.ask (encR l k).2 (l k)).1) else encR l k).1 n
  by_cases hr : (l k).rightB = true
  · rw [if_pos hr]
    obtain ⟨_, _, n, k3⟩ := cask_keep (of_decide_eq_true hr) h1 h2 h3
    exact ⟨n, k3⟩
  · rw [if_neg hr]; exact ⟨0, Reach.refl _⟩
theorem encR_reach (l : Nat → Ask) (k j : Nat) : ∃ n, Reach (encR l k).1 (encR l (k + j)).1 n := by
  induction j with
  | zero => exact ⟨0, Reach.refl _⟩
  | succ j ih =>
    obtain ⟨a, ha⟩ := ih
    obtain ⟨b, hb⟩ := encR_step l (k + j)
    exact ⟨_, ha.trans hb⟩
theorem pre_take (f : Nat → Int) (out : List Int) (h : ∀ i, i < out.length → f i = out.getD i 0) : ∀ i, i ≤ out.length → pre f i = valL (out.take i) := by
  intro i
  induction i with
  | zero => intro _; rfl
  | succ i ih =>
    intro hi
    have e : out.take (i + 1) = out.take i ++ [out.getD i 0] := by
      rw [List.take_add_one]
      congr 1
      simp [List.getD, show i < out.length by omega]
    rw [e, valL_snoc, ← ih (by omega), ← h i (by omega)]
    rfl
/-- the bytes that a coder finished with, and others behind them. -/
theorem told_of (l : Nat → Ask) (m n : Nat) (f : Nat → Int) (hn : (encR l m).1.len ≤ n) (hf : ∀ i, i < n → 0 ≤ f i ∧ f i < 256) (ho : ∀ i, i < (encR l m).1.len → f i = ((encR l m).1.gives 5).out.getD i 0) : Told f n (encR l m).1 := by
  obtain ⟨h1, h2, h3⟩ := encR_ok l m
  obtain ⟨g1, g2, g3⟩ := gives_out (h1.fin h2)
  refine ⟨hf, hn, ?_, by have := h1.rng0; omega⟩
  rw [pre_take f _ (fun i hi => ho i (by rw [← g2]; exact hi)) _ (by rw [g2]; exact Nat.le_refl _), ← g2, List.take_length, g1]
theorem sync_new {f : Nat → Int} {n : Nat} {C : RC} (h : Told f n C) {k : Nat} (hr : Reach RC.new C k) : Sync f RC.new (RD.new (feedNx f n) 0) := by
  obtain ⟨w1, w2, w3⟩ := h.window hr
  have hl : RC.new.len = 5 := rfl
  have hg : RC.new.rng = 4294967295 := rfl
  rw [new_val, hl] at w1 w2
  rw [hg] at w2
  rw [hl] at w3
  have b0 := h.bytes 0 (by omega)
  have b1 := h.bytes 1 (by omega)
  have b2 := h.bytes 2 (by omega)
  have b3 := h.bytes 3 (by omega)
  have b4 := h.bytes 4 (by omega)
  have e5 : pre f 5 = ((((0 * 256 + f 0) * 256 + f 1) * 256 + f 2) * 256 + f 3) * 256 + f 4 := rfl
  have f0 : f 0 = 0 := by omega
  have nx : ∀ (i : Nat) (r c : Int), i < n → RD.next (feedNx f n) ⟨i, r, c, false⟩ = (f i % 256, ⟨i + 1, r, c, false⟩) := by
    intro i r c hi
    unfold RD.next
    rw [if_neg (by show ¬ false = true; decide)]
    show ((feedNx f n i).1, (⟨(feedNx f n i).2.2, r, c, !(feedNx f n i).2.1⟩ : RD Nat)) = _
    unfold feedNx
    rw [if_pos hi]
    rfl
  have first : RD.first (feedNx f n) 0 = ⟨1, 4294967295, 0, false⟩ := by
    unfold RD.first
    rw [nx 0 _ _ (by omega), if_pos (by show f 0 % 256 = 0; omega)]
  have four : RD.four (feedNx f n) 4 ⟨1, 4294967295, 0, false⟩ = ⟨5, 4294967295, pre f 5, false⟩ := by
    have s : ∀ (j i : Nat) (c : Int), i < n → RD.four (feedNx f n) (j + 1) ⟨i, 4294967295, c, false⟩ = RD.four (feedNx f n) j ⟨i + 1, 4294967295, c * 256 % 4294967296 + f i % 256, false⟩ := by
      intro j i c hi
      show RD.four (feedNx f n) j ⟨(RD.next (feedNx f n) ⟨i, 4294967295, c, false⟩).2.src, 4294967295, c * 256 % 4294967296 + (RD.next (feedNx f n) ⟨i, 4294967295, c, false⟩).1, (RD.next (feedNx f n) ⟨i, 4294967295, c, false⟩).2.bad⟩ = _
      rw [nx i _ _ hi]
    rw [s 3 1 0 (by omega), s 2 2 _ (by omega), s 1 3 _ (by omega), s 0 4 _ (by omega)]
    show (⟨5, 4294967295, _, false⟩ : RD Nat) = _
    congr 1
    omega
  have enew : RD.new (feedNx f n) 0 = ⟨5, 4294967295, pre f 5, false⟩ := by
    unfold RD.new
    rw [first, four]
    show (⟨5, 4294967295, pre f 5, false || decide ((4294967295 : Int) ≤ pre f 5)⟩ : RD Nat) = _
    have : decide ((4294967295 : Int) ≤ pre f 5) = false := by simp; omega
    rw [this]
    rfl
  rw [enew]
  refine ⟨rfl, rfl, rfl, ?_⟩
  rw [hl, new_val]
  show pre f 5 = pre f 5 - 0
  omega
end Go.Proofs.Ytphdnfilenkanaa

/- The coder beside the document's coder. -/
namespace Go.Proofs.Ytphdnfilenkanaa
open Go.RowKit

theorem rep_getD (n j : Nat) (hj : j < n) : (List.replicate n (1024 : Int)).getD j 0 = 1024 := by simp [List.getD, hj]
theorem rowQ_of {w : World} {base : Nat} {v : Value} (h : Own w base .u16 46 v (List.replicate 600 1024)) : ∃ gq cap, v = .slice (some ⟨gq, 0, none⟩) 600 cap ∧ base ≤ gq ∧ gq < w.heap.size ∧ RowQ w gq (fun _ => 1024) := by
  have hlt := h.block
  obtain ⟨h1, h2⟩ := h
  rcases h2 with ⟨_, h0⟩ | ⟨gq, cap, cur, rfl, hb, hh, hn, hc, hs, ht⟩
  · rw [List.length_replicate] at h0; omega
  · refine ⟨gq, cap, by rw [List.length_replicate], hb, (hlt gq rfl).2, cur, hh, fun j hj => ?_⟩
    have e1 := map_getD .u16 (List.replicate 600 1024) (i := j) (by rw [List.length_replicate]; exact hj)
    rw [← ht, List.getElem?_take_of_lt (by rw [List.length_replicate]; omega)] at e1
    have e2 : (List.replicate 600 (1024 : Int)).getD j 0 = 1024 := rep_getD 600 j hj
    rw [e2] at e1
    simpa using e1
theorem RowQ.fr {w w' : World} {gq : Nat} {q : Nat → Int} (h : RowQ w gq q) {T : Nat → Prop} (hf : Fr T w w') (ht : ¬ T gq) : RowQ w' gq q := by
  obtain ⟨cs, h1, h2⟩ := h
  exact ⟨cs, hf.blk h1 ht, h2⟩
theorem RowQ.lt {w : World} {gq : Nat} {q : Nat → Int} (h : RowQ w gq q) : gq < w.heap.size := by
  obtain ⟨cs, h1, h2⟩ := h
  exact blk_lt h1
theorem Fr.old {T : Nat → Prop} {w w' : World} (h : Fr T w w') : Fr (fun k => T k ∧ k < w.heap.size) w w' := h.mono fun k hk e => ⟨e, hk⟩
theorem CodIs.gone {A : Nat → Prop} {g : Nat} {w w' : World} {c : RC} (h : CodIs A g w c) {T : Nat → Prop} (hf : Fr T w w') (ht : ∀ k, k < w.heap.size → T k → A k) : CodIs (Go.Proofs.Ytphdnfilenkanaa.Since A w w') g w' c :=
  h.more hf.old (fun k e => ht k e.2 e.1)
theorem EncC.gone {A : Nat → Prop} {g : Nat} {w w' : World} {c : RC} (h : EncC A g w c) {T : Nat → Prop} (hf : Fr T w w') (ht : ∀ k, k < w.heap.size → T k → A k) : EncC (Go.Proofs.Ytphdnfilenkanaa.Since A w w') g w' c :=
  EncIs.more h hf ht
/-- the coder at g, the document's at ge, their probabilities at gp and gq: they lie apart; blocks of B are none of theirs, and as in W. -/
structure PairA (B : Nat → Prop) (g ge gp gq : Nat) (W : World) (Ac Ae : Nat → Prop) (wr : World) (r s : RC × (Nat → Int)) : Prop where
  cod : CodIs Ac g wr r.1
  enc : EncC Ae ge wr s.1
  cov : ∀ k, k < wr.heap.size → Ac k ∨ Ae k
  low : ∀ k, B k → Ac k ∧ Ae k
  fr : Fr (Out B) W wr
  rp : wr.heap[gp]? = some (.cells (arr .u16 600 r.2) 46)
  rq : RowQ wr gq s.2
  ap : Ac gp ∧ Ae gp
  aq : Ac gq ∧ Ae gq
  ne : gp ≠ gq
  np : ¬ B gp ∧ ¬ B gq
/-- and what the coder is: its numbers in their bounds. -/
structure Good5 (r : RC × (Nat → Int)) (N : Nat) : Prop where
  ok : r.1.Ok N
  by_ : r.1.bytes
  pr : Pr r.2 600
theorem Good5.ask {r : RC × (Nat → Int)} {N : Nat} (h : Good5 r N) {a : Ask} (ha : a.Right) : Good5 ((r.1.ask r.2 a).2, (r.1.ask r.2 a).1) (N + 96) := by
  obtain ⟨k1, k2, n, k3⟩ := cask_keep ha h.ok h.by_ h.pr
  exact ⟨k1, k3.bytes h.by_, k2⟩
theorem PairA.any {B : Nat → Prop} {g ge gp gq : Nat} {W wr w' : World} {Ac Ae : Nat → Prop} {r s : RC × (Nat → Int)} (h : PairA B g ge gp gq W Ac Ae wr r s) (hf : Fr Non wr w') :
    PairA B g ge gp gq W (Since Ac wr w') (Since Ae wr w') w' r s := by
  obtain ⟨h1, h2, h3, h4, h5, h6, h7, h8, h9, h10, h11⟩ := h
  refine ⟨h1.gone hf (fun _ _ e => e.elim), h2.gone hf (fun _ _ e => e.elim), fun k hk => ?_, fun k hk => ⟨.inl (h4 k hk).1, .inl (h4 k hk).2⟩, h5.trans hf.any, hf.blk h6 id, h7.fr hf id, ⟨.inl h8.1, .inl h8.2⟩, ⟨.inl h9.1, .inl h9.2⟩, h10, h11⟩
  by_cases hlt : k < wr.heap.size
  · exact (h3 k hlt).imp .inl .inl
  · exact .inl (.inr ⟨by omega, hk⟩)
theorem PairA.put {B : Nat → Prop} {g ge gp gq : Nat} {W wr w' : World} {Ac Ae : Nat → Prop} {r s r' : RC × (Nat → Int)} (h : PairA B g ge gp gq W Ac Ae wr r s)
    (hf : Fr (fun k => ¬ Ac k ∨ k = gp) wr w') (hc : CodIs Ac g w' r'.1) (hp : w'.heap[gp]? = some (.cells (arr .u16 600 r'.2) 46)) :
    PairA B g ge gp gq W Ac (Since Ae wr w') w' r' s := by
  obtain ⟨h1, h2, h3, h4, h5, h6, h7, h8, h9, h10, h11⟩ := h
  refine ⟨hc, h2.gone hf (fun k hk e => ?_), fun k hk => ?_, fun k hk => ⟨(h4 k hk).1, .inl (h4 k hk).2⟩, h5.then hf (fun i _ e hb => ?_), hp, h7.fr hf (fun e => ?_), ⟨h8.1, .inl h8.2⟩, ⟨h9.1, .inl h9.2⟩, h10, h11⟩
  · rcases e with e | e
    · exact (h3 k hk).resolve_left e
    · rw [e]; exact h8.2
  · by_cases hlt : k < wr.heap.size
    · exact (h3 k hlt).imp id .inl
    · exact .inr (.inr ⟨by omega, hk⟩)
  · rcases e with e | e
    · exact e (h4 i hb).1
    · rw [e] at hb; exact h11.1 hb
  · rcases e with e | e
    · exact e h9.1
    · exact h10 e.symm
theorem PairA.ask {B : Nat → Prop} {g ge gp gq : Nat} {W wr w' : World} {Ac Ae : Nat → Prop} {r s s' : RC × (Nat → Int)} (h : PairA B g ge gp gq W Ac Ae wr r s)
    (hf : Fr (fun k => ¬ Ae k ∨ k = gq) wr w') (hc : EncC Ae ge w' s'.1) (hp : RowQ w' gq s'.2) :
    PairA B g ge gp gq W (Since Ac wr w') Ae w' r s' := by
  obtain ⟨h1, h2, h3, h4, h5, h6, h7, h8, h9, h10, h11⟩ := h
  refine ⟨h1.gone hf (fun k hk e => ?_), hc, fun k hk => ?_, fun k hk => ⟨.inl (h4 k hk).1, (h4 k hk).2⟩, h5.then hf (fun i _ e hb => ?_), hf.blk h6 (fun e => ?_), hp, ⟨.inl h8.1, h8.2⟩, ⟨.inl h9.1, h9.2⟩, h10, h11⟩
  · rcases e with e | e
    · exact (h3 k hk).resolve_right e
    · rw [e]; exact h9.1
  · by_cases hlt : k < wr.heap.size
    · exact (h3 k hlt).imp .inl id
    · exact .inl (.inr ⟨by omega, hk⟩)
  · rcases e with e | e
    · exact e (h4 i hb).2
    · rw [e] at hb; exact h11.2 hb
  · rcases e with e | e
    · exact e h8.2
    · exact h10 e
theorem pair_start {A1 : Nat → Prop} {g ge gp gq : Nat} {W wr w4 w5 w6 : World} {q0 : Nat → Int} (hc : CodIs A1 g wr RC.new) (hW : Fr (Out A1) W wr) (hge : wr.heap.size ≤ ge) (hf4 : Fr Non wr w4) (he : EncC (fun k => k < wr.heap.size) ge w4 RC.new)
    (hgp : w4.heap.size ≤ gp) (hf5 : Fr Non w4 w5) (hb : w5.heap[gp]? = some (.cells (arr .u16 600 q0) 46)) (hgq : w5.heap.size ≤ gq) (hf6 : Fr Non w5 w6) (hq : RowQ w6 gq q0) :
    PairA A1 g ge gp gq W (Since A1 wr w6) (Since (fun k => k < wr.heap.size) w4 w6) w6 (RC.new, q0) (RC.new, q0) := by
  have s4 := hf4.size
  have s5 := hf5.size
  have s6 := hf6.size
  have l5 := blk_lt hb
  have l6 := hq.lt
  have hold : ∀ k, A1 k → k < wr.heap.size := by
    obtain ⟨v, hv⟩ := hc
    exact hv.old
  have hf46 := hf5.trans hf6
  refine ⟨hc.gone (hf4.trans hf46) (fun _ _ e => e.elim), he.gone hf46 (fun _ _ e => e.elim), fun k hk => ?_, fun k hk => ⟨.inl hk, .inl (hold k hk)⟩, hW.trans (hf4.trans hf46).any, hf6.blk hb id, hq, ⟨.inr ⟨by omega, by omega⟩, .inr ⟨by omega, by omega⟩⟩, ⟨.inr ⟨by omega, by omega⟩, .inr ⟨by omega, by omega⟩⟩, by omega, ⟨fun e => ?_, fun e => ?_⟩⟩
  · by_cases hlt : k < wr.heap.size
    · exact .inr (.inl hlt)
    · exact .inl (.inr ⟨by omega, hk⟩)
  · have := hold _ e; omega
  · have := hold _ e; omega
/-- what the document's coder has told are the coder's bytes. -/
theorem same_bytes {c : RC} (hc : c.Fin) {B : List Int} (hb : bytesL B) (hl : B.length = c.len) (hv : valL B = c.val) : (c.gives 5).out = B := by
  obtain ⟨h1, h2, h3⟩ := gives_out hc
  exact valL_inj _ _ (by rw [h2, hl]) h3 hb (by rw [h1, hv])
end Go.Proofs.Ytphdnfilenkanaa

/- bcj2.Code in plain words; three rows that grow in a struct. -/
namespace Go.Proofs.Ytphdnfilenkanaa
open Go.RowKit

/-- a coder's run: the place, the byte ahead, the probabilities, the range coder, Main, Call, Jump. -/
structure CQ where
  i : Nat
  ahead : Nat
  q : Nat → Int
  c : RC
  m : List Int
  k : List Int
  j : List Int
def placeQ (n : Nat) (F : Nat → Int) (i : Nat) : Option Int :=
  if i + 4 < n then (if (F (i + 1) + 256 * F (i + 2) + 65536 * F (i + 3) + 16777216 * F (i + 4) + i + 5) % 4294967296 < n then some ((F (i + 1) + 256 * F (i + 2) + 65536 * F (i + 3) + 16777216 * F (i + 4) + i + 5) % 4294967296) else none) else none
def wordB (p : Int) : List Int := [p / 16777216 % 256, p / 65536 % 256, p / 256 % 256, p % 256]
def CQ.plain (F : Nat → Int) (s : CQ) : CQ := ⟨s.i + 1, (F s.i).toNat, s.q, s.c, s.m ++ [F s.i], s.k, s.j⟩
def CQ.near (F : Nat → Int) (s : CQ) (x : Nat) : CQ := ⟨s.i + 1, (F s.i).toNat, upd s.q x (s.c.bit (s.q x) 0).1, (s.c.bit (s.q x) 0).2, s.m ++ [F s.i], s.k, s.j⟩
def CQ.apart (F : Nat → Int) (s : CQ) (x : Nat) (p : Int) : CQ :=
  ⟨s.i + 5, (F (s.i + 4)).toNat, upd s.q x (s.c.bit (s.q x) 1).1, (s.c.bit (s.q x) 1).2, s.m ++ [F s.i], if F s.i = 232 then s.k ++ wordB p else s.k, if F s.i = 232 then s.j else s.j ++ wordB p⟩
def CQ.step (n : Nat) (F : Nat → Int) (s : CQ) : CQ :=
  match whichQ s.ahead (F s.i) with
  | none => s.plain F
  | some x => if s.i + 1 = n then s.plain F else
    match placeQ n F s.i with
    | none => s.near F x
    | some p => s.apart F x p
def CQ.run (n : Nat) (F : Nat → Int) : Nat → CQ → CQ
  | 0, s => s
  | t + 1, s => if s.i < n then CQ.run n F t (s.step n F) else s
def CQ.new : CQ := ⟨0, 0, fun _ => 1024, RC.new, [], [], []⟩
def codeQ (n : Nat) (F : Nat → Int) : CQ := CQ.run n F n CQ.new
theorem step_i (n : Nat) (F : Nat → Int) (s : CQ) : s.i + 1 ≤ (s.step n F).i := by
  unfold CQ.step
  split
  · exact Nat.le_refl _
  · split
    · exact Nat.le_refl _
    · split
      · exact Nat.le_refl _
      · show s.i + 1 ≤ s.i + 5; omega
theorem run_done (n : Nat) (F : Nat → Int) (t : Nat) (s : CQ) (h : ¬ s.i < n) : CQ.run n F t s = s := by
  cases t with
  | zero => rfl
  | succ t => exact if_neg h
theorem run_step (n : Nat) (F : Nat → Int) (t : Nat) (s : CQ) (h : s.i < n) (ht : n ≤ s.i + t) : CQ.run n F t s = CQ.run n F (n - (s.step n F).i) (s.step n F) := by
  have more : ∀ (t u : Nat) (s : CQ), n ≤ s.i + t → n ≤ s.i + u → CQ.run n F t s = CQ.run n F u s := by
    intro t
    induction t with
    | zero =>
      intro u s h1 _
      rw [run_done n F u s (by omega), run_done n F 0 s (by omega)]
    | succ t ih =>
      intro u s h1 h2
      by_cases hs : s.i < n
      · cases u with
        | zero => omega
        | succ u =>
          have := step_i n F s
          show (if s.i < n then _ else _) = (if s.i < n then _ else _)
          rw [if_pos hs, if_pos hs]
          exact ih u _ (by omega) (by omega)
      · rw [run_done n F _ s hs, run_done n F _ s hs]
  have := step_i n F s
  cases t with
  | zero => omega
  | succ t =>
    show (if s.i < n then _ else _) = _
    rw [if_pos h]
    exact more _ _ _ (by omega) (by omega)
/-- what is always so. -/
structure CQ.Good (F : Nat → Int) (n : Nat) (s : CQ) : Prop where
  ok : s.c.Ok (3 * s.i)
  by_ : s.c.bytes
  pr : Pr s.q 258
  ahead : s.ahead < 256
  m0 : s.m.length ≤ s.i
  k0 : s.k.length ≤ s.i
  j0 : s.j.length ≤ s.i
theorem CQ.Good.bit {F : Nat → Int} {n : Nat} {s : CQ} (h : s.Good F n) {x : Nat} (hx : x < 258) (b : Nat) : (s.c.bit (s.q x) b).2.Ok (3 * s.i + 3) ∧ (s.c.bit (s.q x) b).2.bytes ∧ Pr (upd s.q x (s.c.bit (s.q x) b).1) 258 := by
  have hp := h.pr x hx
  have h1 := bit_prob' s.c hp.1 hp.2 b
  obtain ⟨k, hr⟩ := h.ok.reach_bit h.by_ hp.1 hp.2 b
  exact ⟨h.ok.bit hp.1 hp.2 b, hr.bytes h.by_, h.pr.upd x h1.1 h1.2⟩
theorem placeQ_lt {n : Nat} {F : Nat → Int} {i : Nat} {p : Int} (h : placeQ n F i = some p) : i + 4 < n ∧ 0 ≤ p ∧ p < n := by
  unfold placeQ at h
  split at h
  · rename_i h1
    split at h
    · rename_i h2
      injection h with h
      subst h
      exact ⟨h1, by omega, h2⟩
    · cases h
  · cases h
theorem CQ.Good.step {F : Nat → Int} {n : Nat} (hF : ∀ i, i < n → 0 ≤ F i ∧ F i < 256) {s : CQ} (h : s.Good F n) (hi : s.i < n) : (s.step n F).Good F n := by
  have hb := hF s.i hi
  have pl : (s.plain F).Good F n := ⟨h.ok.mono (by show 3 * s.i ≤ 3 * (s.i + 1); omega), h.by_, h.pr, by show (F s.i).toNat < 256; omega, by show (s.m ++ _).length ≤ s.i + 1; have := h.m0; simp; omega, by show s.k.length ≤ s.i + 1; have := h.k0; omega, by show s.j.length ≤ s.i + 1; have := h.j0; omega⟩
  unfold CQ.step
  split
  · exact pl
  · rename_i x hx
    have hx2 := whichQ_lt h.ahead hx
    split
    · exact pl
    · split
      · obtain ⟨g1, g2, g3⟩ := h.bit hx2 0
        exact ⟨g1, g2, g3, by show (F s.i).toNat < 256; omega, by show (s.m ++ _).length ≤ s.i + 1; have := h.m0; simp; omega, by show s.k.length ≤ s.i + 1; have := h.k0; omega, by show s.j.length ≤ s.i + 1; have := h.j0; omega⟩
      · rename_i p hp
        obtain ⟨g1, g2, g3⟩ := h.bit hx2 1
        have hp2 := placeQ_lt hp
        have hb4 := hF (s.i + 4) hp2.1
        refine ⟨g1.mono (by show 3 * s.i + 3 ≤ 3 * (s.i + 5); omega), g2, g3, by show (F (s.i + 4)).toNat < 256; omega, by show (s.m ++ _).length ≤ s.i + 5; have := h.m0; simp; omega, ?_, ?_⟩
        · show (if F s.i = 232 then s.k ++ wordB p else s.k).length ≤ s.i + 5
          have := h.k0
          split
          · simp [wordB]; omega
          · omega
        · show (if F s.i = 232 then s.j else s.j ++ wordB p).length ≤ s.i + 5
          have := h.j0
          split
          · omega
          · simp [wordB]; omega
theorem CQ.new_good (F : Nat → Int) (n : Nat) : CQ.new.Good F n := ⟨new_ok _, new_bytes, fun j _ => by show (31 : Int) ≤ 1024 ∧ (1024 : Int) ≤ 2017; omega, by decide, Nat.le_refl _, Nat.le_refl _, Nat.le_refl _⟩

/-! ### three rows in a struct -/
structure RowsQ (A : Nat → Prop) (gs base : Nat) (w : World) (v0 v1 v2 v3 : Value) (x0 x1 x2 : List Int) : Prop where
  str : w.heap[gs]? = some (.cells #[v0, v1, v2, v3] 24)
  o0 : Own w 0 .u8 5 v0 x0
  o1 : Own w 0 .u8 5 v1 x1
  o2 : Own w 0 .u8 5 v2 x2
  a0 : ∀ b, v0.ownBlock = some b → A b ∧ base ≤ b ∧ b ≠ gs
  a1 : ∀ b, v1.ownBlock = some b → A b ∧ base ≤ b ∧ b ≠ gs
  a2 : ∀ b, v2.ownBlock = some b → A b ∧ base ≤ b ∧ b ≠ gs
  d01 : ∀ b, v0.ownBlock = some b → ¬ v1.ownBlock = some b
  d02 : ∀ b, v0.ownBlock = some b → ¬ v2.ownBlock = some b
  d12 : ∀ b, v1.ownBlock = some b → ¬ v2.ownBlock = some b
  asA : A gs
/-- others have gone on. -/
theorem RowsQ.keep {A A' : Nat → Prop} {gs base : Nat} {w w' : World} {v0 v1 v2 v3 : Value} {x0 x1 x2 : List Int} (h : RowsQ A gs base w v0 v1 v2 v3 x0 x1 x2) {T : Nat → Prop} (hf : Fr T w w') (ht : ∀ b, T b → b < w.heap.size → ¬ A b ∨ (base ≤ b ∧ b ≠ gs ∧ ¬ v0.ownBlock = some b ∧ ¬ v1.ownBlock = some b ∧ ¬ v2.ownBlock = some b)) (ha : ∀ b, A b → A' b) : RowsQ A' gs base w' v0 v1 v2 v3 x0 x1 x2 := by
  have hf' := hf.old
  have n0 : ∀ b, v0.ownBlock = some b → ¬ (T b ∧ b < w.heap.size) := fun b hb e => by
    rcases ht b e.1 e.2 with h1 | h1
    · exact h1 (h.a0 b hb).1
    · exact h1.2.2.1 hb
  have n1 : ∀ b, v1.ownBlock = some b → ¬ (T b ∧ b < w.heap.size) := fun b hb e => by
    rcases ht b e.1 e.2 with h1 | h1
    · exact h1 (h.a1 b hb).1
    · exact h1.2.2.2.1 hb
  have n2 : ∀ b, v2.ownBlock = some b → ¬ (T b ∧ b < w.heap.size) := fun b hb e => by
    rcases ht b e.1 e.2 with h1 | h1
    · exact h1 (h.a2 b hb).1
    · exact h1.2.2.2.2 hb
  exact ⟨hf'.blk h.str (fun e => by
      rcases ht gs e.1 e.2 with h1 | h1
      · exact h1 h.asA
      · exact h1.2.1 rfl), h.o0.fr hf' n0, h.o1.fr hf' n1, h.o2.fr hf' n2, fun b hb => ⟨ha b (h.a0 b hb).1, (h.a0 b hb).2⟩, fun b hb => ⟨ha b (h.a1 b hb).1, (h.a1 b hb).2⟩, fun b hb => ⟨ha b (h.a2 b hb).1, (h.a2 b hb).2⟩, h.d01, h.d02, h.d12, ha gs h.asA⟩
theorem RowsQ.push0 {A : Nat → Prop} {gs base : Nat} {w W w2 : World} {v0 v1 v2 v3 v' : Value} {x0 x1 x2 ys : List Int} (h : RowsQ A gs base w v0 v1 v2 v3 x0 x1 x2) (hb : base ≤ w.heap.size) (hW : Fr Non w W)
    (ho : Own w2 0 .u8 5 v' (x0 ++ ys)) (hg : W.grownBy w2 v0.ownBlock) (hv : v'.ownBlock = v0.ownBlock ∨ v'.ownBlock = some W.heap.size) :
    RowsQ (Since A w (w2.setCell ⟨gs, 0, none⟩ v')) gs base (w2.setCell ⟨gs, 0, none⟩ v') v' v1 v2 v3 (x0 ++ ys) x1 x2 ∧ Fr (fun b => v0.ownBlock = some b ∨ b = gs) w (w2.setCell ⟨gs, 0, none⟩ v') ∧ W.heap.size ≤ w2.heap.size := by
  have f2 : Fr (fun b => v0.ownBlock = some b) w w2 := hW.any.trans (Fr.grew hg)
  have f3 : Fr (fun b => b = gs) w2 (w2.setCell ⟨gs, 0, none⟩ v') := (Fr.refl _ _).setOne _ _
  have hs1 := hW.size
  have hs2 := hg.size
  have hlt : gs < w.heap.size := blk_lt h.str
  have hnew : ∀ b, v'.ownBlock = some b → v0.ownBlock = some b ∨ (w.heap.size ≤ b ∧ b < w2.heap.size) := fun b hb => by
    have := (ho.block b hb).2
    rcases hv with e | e
    · left; rw [← e]; exact hb
    · right; rw [e] at hb; injection hb with hb; omega
  have hsz : (w2.setCell ⟨gs, 0, none⟩ v').heap.size = w2.heap.size := by simp
  have n0 : ∀ b, v'.ownBlock = some b → b ≠ gs := fun b hb => by
    rcases hnew b hb with e | e
    · exact (h.a0 b e).2.2
    · omega
  have hA' : ∀ b, v'.ownBlock = some b → Since A w (w2.setCell ⟨gs, 0, none⟩ v') b ∧ base ≤ b ∧ b ≠ gs := fun b hb => by
    refine ⟨?_, ?_, n0 b hb⟩
    · rcases hnew b hb with e | e
      · exact .inl (h.a0 b e).1
      · exact .inr (by rw [hsz]; exact e)
    · rcases hnew b hb with e | e
      · exact (h.a0 b e).2.1
      · omega
  have e1 : ∀ b, v1.ownBlock = some b → ¬ v0.ownBlock = some b := fun b h1 h2 => h.d01 b h2 h1
  have l1 : ∀ b, v1.ownBlock = some b → b < w.heap.size := fun b hb => (h.o1.block b hb).2
  have k1 : Own (w2.setCell ⟨gs, 0, none⟩ v') 0 .u8 5 v1 x1 := (h.o1.fr f2 (e1)).fr f3 (fun b hb => (h.a1 b hb).2.2)
  have d1 : ∀ b, v'.ownBlock = some b → ¬ v1.ownBlock = some b := fun b h1 h2 => by
    rcases hnew b h1 with e | e
    · exact e1 b h2 e
    · have := l1 b h2; omega
  have e2 : ∀ b, v2.ownBlock = some b → ¬ v0.ownBlock = some b := fun b h1 h2 => h.d02 b h2 h1
  have l2 : ∀ b, v2.ownBlock = some b → b < w.heap.size := fun b hb => (h.o2.block b hb).2
  have k2 : Own (w2.setCell ⟨gs, 0, none⟩ v') 0 .u8 5 v2 x2 := (h.o2.fr f2 (e2)).fr f3 (fun b hb => (h.a2 b hb).2.2)
  have d2 : ∀ b, v'.ownBlock = some b → ¬ v2.ownBlock = some b := fun b h1 h2 => by
    rcases hnew b h1 with e | e
    · exact e2 b h2 e
    · have := l2 b h2; omega
  have hgsn : ¬ v0.ownBlock = some gs := fun e => (h.a0 gs e).2.2 rfl
  refine ⟨⟨blk_set (f2.blk h.str hgsn), ho.fr f3 n0, k1, k2, hA', fun b hb => ⟨.inl (h.a1 b hb).1, (h.a1 b hb).2⟩, fun b hb => ⟨.inl (h.a2 b hb).1, (h.a2 b hb).2⟩, d1, d2, h.d12, .inl h.asA⟩, ?_, hg.size⟩
  exact (f2.mono (fun b _ e => .inl e)).then f3 (fun b _ e => .inr e)
theorem RowsQ.push1 {A : Nat → Prop} {gs base : Nat} {w W w2 : World} {v0 v1 v2 v3 v' : Value} {x0 x1 x2 ys : List Int} (h : RowsQ A gs base w v0 v1 v2 v3 x0 x1 x2) (hb : base ≤ w.heap.size) (hW : Fr Non w W)
    (ho : Own w2 0 .u8 5 v' (x1 ++ ys)) (hg : W.grownBy w2 v1.ownBlock) (hv : v'.ownBlock = v1.ownBlock ∨ v'.ownBlock = some W.heap.size) :
    RowsQ (Since A w (w2.setCell ⟨gs, 1, none⟩ v')) gs base (w2.setCell ⟨gs, 1, none⟩ v') v0 v' v2 v3 x0 (x1 ++ ys) x2 ∧ Fr (fun b => v1.ownBlock = some b ∨ b = gs) w (w2.setCell ⟨gs, 1, none⟩ v') ∧ W.heap.size ≤ w2.heap.size := by
  have f2 : Fr (fun b => v1.ownBlock = some b) w w2 := hW.any.trans (Fr.grew hg)
  have f3 : Fr (fun b => b = gs) w2 (w2.setCell ⟨gs, 1, none⟩ v') := (Fr.refl _ _).setOne _ _
  have hs1 := hW.size
  have hs2 := hg.size
  have hlt : gs < w.heap.size := blk_lt h.str
  have hnew : ∀ b, v'.ownBlock = some b → v1.ownBlock = some b ∨ (w.heap.size ≤ b ∧ b < w2.heap.size) := fun b hb => by
    have := (ho.block b hb).2
    rcases hv with e | e
    · left; rw [← e]; exact hb
    · right; rw [e] at hb; injection hb with hb; omega
  have hsz : (w2.setCell ⟨gs, 1, none⟩ v').heap.size = w2.heap.size := by simp
  have n0 : ∀ b, v'.ownBlock = some b → b ≠ gs := fun b hb => by
    rcases hnew b hb with e | e
    · exact (h.a1 b e).2.2
    · omega
  have hA' : ∀ b, v'.ownBlock = some b → Since A w (w2.setCell ⟨gs, 1, none⟩ v') b ∧ base ≤ b ∧ b ≠ gs := fun b hb => by
    refine ⟨?_, ?_, n0 b hb⟩
    · rcases hnew b hb with e | e
      · exact .inl (h.a1 b e).1
      · exact .inr (by rw [hsz]; exact e)
    · rcases hnew b hb with e | e
      · exact (h.a1 b e).2.1
      · omega
  have e0 : ∀ b, v0.ownBlock = some b → ¬ v1.ownBlock = some b := fun b h1 h2 => h.d01 b h1 h2
  have l0 : ∀ b, v0.ownBlock = some b → b < w.heap.size := fun b hb => (h.o0.block b hb).2
  have k0 : Own (w2.setCell ⟨gs, 1, none⟩ v') 0 .u8 5 v0 x0 := (h.o0.fr f2 (e0)).fr f3 (fun b hb => (h.a0 b hb).2.2)
  have d0 : ∀ b, v'.ownBlock = some b → ¬ v0.ownBlock = some b := fun b h1 h2 => by
    rcases hnew b h1 with e | e
    · exact e0 b h2 e
    · have := l0 b h2; omega
  have e2 : ∀ b, v2.ownBlock = some b → ¬ v1.ownBlock = some b := fun b h1 h2 => h.d12 b h2 h1
  have l2 : ∀ b, v2.ownBlock = some b → b < w.heap.size := fun b hb => (h.o2.block b hb).2
  have k2 : Own (w2.setCell ⟨gs, 1, none⟩ v') 0 .u8 5 v2 x2 := (h.o2.fr f2 (e2)).fr f3 (fun b hb => (h.a2 b hb).2.2)
  have d2 : ∀ b, v'.ownBlock = some b → ¬ v2.ownBlock = some b := fun b h1 h2 => by
    rcases hnew b h1 with e | e
    · exact e2 b h2 e
    · have := l2 b h2; omega
  have hgsn : ¬ v1.ownBlock = some gs := fun e => (h.a1 gs e).2.2 rfl
  refine ⟨⟨blk_set (f2.blk h.str hgsn), k0, ho.fr f3 n0, k2, fun b hb => ⟨.inl (h.a0 b hb).1, (h.a0 b hb).2⟩, hA', fun b hb => ⟨.inl (h.a2 b hb).1, (h.a2 b hb).2⟩, fun b h1 h2 => d0 b h2 h1, h.d02, d2, .inl h.asA⟩, ?_, hg.size⟩
  exact (f2.mono (fun b _ e => .inl e)).then f3 (fun b _ e => .inr e)
theorem RowsQ.push2 {A : Nat → Prop} {gs base : Nat} {w W w2 : World} {v0 v1 v2 v3 v' : Value} {x0 x1 x2 ys : List Int} (h : RowsQ A gs base w v0 v1 v2 v3 x0 x1 x2) (hb : base ≤ w.heap.size) (hW : Fr Non w W)
    (ho : Own w2 0 .u8 5 v' (x2 ++ ys)) (hg : W.grownBy w2 v2.ownBlock) (hv : v'.ownBlock = v2.ownBlock ∨ v'.ownBlock = some W.heap.size) :
    RowsQ (Since A w (w2.setCell ⟨gs, 2, none⟩ v')) gs base (w2.setCell ⟨gs, 2, none⟩ v') v0 v1 v' v3 x0 x1 (x2 ++ ys) ∧ Fr (fun b => v2.ownBlock = some b ∨ b = gs) w (w2.setCell ⟨gs, 2, none⟩ v') ∧ W.heap.size ≤ w2.heap.size := by
  have f2 : Fr (fun b => v2.ownBlock = some b) w w2 := hW.any.trans (Fr.grew hg)
  have f3 : Fr (fun b => b = gs) w2 (w2.setCell ⟨gs, 2, none⟩ v') := (Fr.refl _ _).setOne _ _
  have hs1 := hW.size
  have hs2 := hg.size
  have hlt : gs < w.heap.size := blk_lt h.str
  have hnew : ∀ b, v'.ownBlock = some b → v2.ownBlock = some b ∨ (w.heap.size ≤ b ∧ b < w2.heap.size) := fun b hb => by
    have := (ho.block b hb).2
    rcases hv with e | e
    · left; rw [← e]; exact hb
    · right; rw [e] at hb; injection hb with hb; omega
  have hsz : (w2.setCell ⟨gs, 2, none⟩ v').heap.size = w2.heap.size := by simp
  have n0 : ∀ b, v'.ownBlock = some b → b ≠ gs := fun b hb => by
    rcases hnew b hb with e | e
    · exact (h.a2 b e).2.2
    · omega
  have hA' : ∀ b, v'.ownBlock = some b → Since A w (w2.setCell ⟨gs, 2, none⟩ v') b ∧ base ≤ b ∧ b ≠ gs := fun b hb => by
    refine ⟨?_, ?_, n0 b hb⟩
    · rcases hnew b hb with e | e
      · exact .inl (h.a2 b e).1
      · exact .inr (by rw [hsz]; exact e)
    · rcases hnew b hb with e | e
      · exact (h.a2 b e).2.1
      · omega
  have e0 : ∀ b, v0.ownBlock = some b → ¬ v2.ownBlock = some b := fun b h1 h2 => h.d02 b h1 h2
  have l0 : ∀ b, v0.ownBlock = some b → b < w.heap.size := fun b hb => (h.o0.block b hb).2
  have k0 : Own (w2.setCell ⟨gs, 2, none⟩ v') 0 .u8 5 v0 x0 := (h.o0.fr f2 (e0)).fr f3 (fun b hb => (h.a0 b hb).2.2)
  have d0 : ∀ b, v'.ownBlock = some b → ¬ v0.ownBlock = some b := fun b h1 h2 => by
    rcases hnew b h1 with e | e
    · exact e0 b h2 e
    · have := l0 b h2; omega
  have e1 : ∀ b, v1.ownBlock = some b → ¬ v2.ownBlock = some b := fun b h1 h2 => h.d12 b h1 h2
  have l1 : ∀ b, v1.ownBlock = some b → b < w.heap.size := fun b hb => (h.o1.block b hb).2
  have k1 : Own (w2.setCell ⟨gs, 2, none⟩ v') 0 .u8 5 v1 x1 := (h.o1.fr f2 (e1)).fr f3 (fun b hb => (h.a1 b hb).2.2)
  have d1 : ∀ b, v'.ownBlock = some b → ¬ v1.ownBlock = some b := fun b h1 h2 => by
    rcases hnew b h1 with e | e
    · exact e1 b h2 e
    · have := l1 b h2; omega
  have hgsn : ¬ v2.ownBlock = some gs := fun e => (h.a2 gs e).2.2 rfl
  refine ⟨⟨blk_set (f2.blk h.str hgsn), k0, k1, ho.fr f3 n0, fun b hb => ⟨.inl (h.a0 b hb).1, (h.a0 b hb).2⟩, fun b hb => ⟨.inl (h.a1 b hb).1, (h.a1 b hb).2⟩, hA', h.d01, fun b h1 h2 => d0 b h2 h1, fun b h1 h2 => d1 b h2 h1, .inl h.asA⟩, ?_, hg.size⟩
  exact (f2.mono (fun b _ e => .inl e)).then f3 (fun b _ e => .inr e)
end Go.Proofs.Ytphdnfilenkanaa

/- four bytes as a word. (Out of XBcj2.) -/
namespace Go.Proofs.Ytphdnfilenkanaa
open Go.RowKit

theorem or_shift (a c : Int) (k : Nat) (ha : 0 ≤ a) (ha2 : a < 2 ^ k) (hc : 0 ≤ c) (h : a + c * 2 ^ k < 4294967296) : bits .or .u32 a (c * 2 ^ k) = a + c * 2 ^ k := by
  have h2 : (0:Int) < 2 ^ k := Int.pow_pos (by decide)
  have h3 : 0 ≤ c * 2 ^ k := Int.mul_nonneg hc (by omega)
  rw [u32_or _ _ ha (by omega) h3 (by omega)]
  obtain ⟨a', rfl⟩ := Int.eq_ofNat_of_zero_le ha
  obtain ⟨c', rfl⟩ := Int.eq_ofNat_of_zero_le hc
  have e : ((c' : Int) * 2 ^ k) = ((2 ^ k * c' : Nat) : Int) := by simp [Int.mul_comm]
  rw [e]
  have ha3 : a' < 2 ^ k := by
    have : ((2:Int) ^ k) = ((2 ^ k : Nat) : Int) := by simp
    rw [this] at ha2
    exact Int.ofNat_lt.1 ha2
  simp only [Int.toNat_natCast]
  rw [Nat.or_comm, ← Nat.two_pow_add_eq_or_of_lt ha3]
  omega
theorem word4_or (a b c d : Int) (ha : 0 ≤ a ∧ a < 256) (hb : 0 ≤ b ∧ b < 256) (hc : 0 ≤ c ∧ c < 256) (hd : 0 ≤ d ∧ d < 256) :
    bits .or .u32 (bits .or .u32 (bits .or .u32 (a % 4294967296) (b % 4294967296 * 256 % 4294967296)) (c % 4294967296 * 65536 % 4294967296)) (d % 4294967296 * 16777216 % 4294967296) = a + 256 * b + 65536 * c + 16777216 * d := by
  have e1 : a % 4294967296 = a := by omega
  have e2 : b % 4294967296 * 256 % 4294967296 = b * 2 ^ 8 := by omega
  have e3 : c % 4294967296 * 65536 % 4294967296 = c * 2 ^ 16 := by omega
  have e4 : d % 4294967296 * 16777216 % 4294967296 = d * 2 ^ 24 := by omega
  rw [e1, e2, e3, e4, or_shift a b 8 (by omega) (by omega) (by omega) (by omega), or_shift _ c 16 (by omega) (by omega) (by omega) (by omega), or_shift _ d 24 (by omega) (by omega) (by omega) (by omega)]
  omega

end Go.Proofs.Ytphdnfilenkanaa
