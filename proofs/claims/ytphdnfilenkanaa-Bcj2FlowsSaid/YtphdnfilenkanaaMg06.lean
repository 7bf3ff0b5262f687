/- Texts of this proof, one behind the other. -/
import Derived.Test.YtphdnfilenkanaaMg05
import Derived.Test.YtphdnfilenkanaaMg04
import Derived.Test.YtphdnfilenkanaaMg01
import Derived.Test.YtphdnfilenkanaaRows
import Derived.WalkSpells
import Derived.WalkLawsBesides
import Derived.BigQuiet
import Derived.Deep.QuietTactic
import Derived.BigRegion
import Derived.Outline

/- a number's bytes, one of which is turned; what a coder's number is below. -/
namespace Go.Proofs.Ytphdnfilenkanaa
open Go.RowKit

def bytesL (l : List Int) : Prop := ∀ x, x ∈ l → 0 ≤ x ∧ x < 256
theorem valL_cons (x : Int) (l : List Int) : valL (x :: l) = x * 256 ^ l.length + valL l := by
  have := valL_append [x] l
  rw [show valL [x] = x by show 0 * 256 + x = x; omega] at this
  exact this
theorem valL_set (l : List Int) (j : Nat) (x : Int) (hj : j < l.length) : valL (l.set j x) = valL l + (x - l.getD j 0) * 256 ^ (l.length - 1 - j) := by
  have e1 : l.set j x = l.take j ++ x :: l.drop (j + 1) := List.set_eq_take_append_cons_drop.trans (if_pos hj)
  have e2 : l = l.take j ++ l.getD j 0 :: l.drop (j + 1) := by
    have := List.take_append_drop j l
    rw [List.drop_eq_getElem_cons hj] at this
    rw [show l.getD j 0 = l[j] by simp [List.getD, hj]]
    exact this.symm
  have e3 : valL l = valL (l.take j ++ l.getD j 0 :: l.drop (j + 1)) := congrArg valL e2
  rw [e1, e3, valL_append, valL_append, valL_cons, valL_cons]
  have el : (l.drop (j + 1)).length = l.length - 1 - j := by rw [List.length_drop]; omega
  rw [List.length_cons, List.length_cons, el, Int.sub_mul]
  generalize valL (l.take j) * 256 ^ (l.length - 1 - j + 1) = a
  generalize valL (l.drop (j + 1)) = b
  generalize l.getD j 0 * 256 ^ (l.length - 1 - j) = c
  generalize x * 256 ^ (l.length - 1 - j) = d
  omega
theorem bytesL_set {l : List Int} (h : bytesL l) (j : Nat) {x : Int} (hx : 0 ≤ x ∧ x < 256) : bytesL (l.set j x) := by
  intro y hy
  rcases List.mem_or_eq_of_mem_set hy with hy | rfl
  · exact h y hy
  · exact hx
theorem bytesL_getD {l : List Int} (h : bytesL l) (j : Nat) : 0 ≤ l.getD j 0 ∧ l.getD j 0 < 256 := by
  by_cases hj : j < l.length
  · rw [show l.getD j 0 = l[j] by simp [List.getD, hj]]; exact h _ (List.getElem_mem hj)
  · rw [show l.getD j 0 = 0 by simp [List.getD, hj]]; omega
theorem bytesL_snoc {l : List Int} (h : bytesL l) : bytesL (l ++ [0]) := by
  intro y hy
  simp at hy
  rcases hy with hy | rfl
  · exact h y hy
  · omega
/-- one byte of a sum. -/
theorem add_step {l : List Int} {n : Nat} {x T : Int} (hn : n + 1 ≤ l.length) (hT : valL l + x * 256 ^ (l.length - (n + 1)) = T) :
    valL (l.set n ((x + l.getD n 0) % 256)) + (x + l.getD n 0) / 256 * 256 ^ (l.length - n) = T := by
  rw [valL_set l n _ (by omega), ← hT]
  have e : l.length - n = (l.length - 1 - n) + 1 := by omega
  have e2 : l.length - (n + 1) = l.length - 1 - n := by omega
  rw [e, e2, Int.pow_succ]
  generalize (256 : Int) ^ (l.length - 1 - n) = P
  generalize l.getD n 0 = b
  have h1 : ((x + b) % 256 - b) * P = (x + b) % 256 * P - b * P := Int.sub_mul _ _ _
  have h2 : (x + b) / 256 * (P * 256) = (x + b) / 256 * 256 * P := by rw [Int.mul_comm P, Int.mul_assoc]
  have h3 : x * P = (x + b - b) * P := by rw [show x + b - b = x by omega]
  have h4 : (x + b - b) * P = ((x + b) % 256 + (x + b) / 256 * 256) * P - b * P := by
    rw [show (x + b) % 256 + (x + b) / 256 * 256 = x + b by omega, Int.sub_mul]
  rw [h1, h2, h3, h4, Int.add_mul]
  omega
theorem add_done {l : List Int} (h : bytesL l) {x T : Int} (hx : 0 ≤ x) (hT : valL l + x * 256 ^ l.length = T) (hlt : T < 256 ^ l.length) : x = 0 := by
  have h1 := (valL_nonneg h).1
  have h2 := pow_pos256 l.length
  by_cases h0 : x = 0
  · exact h0
  · have : 1 * (256 : Int) ^ l.length ≤ x * 256 ^ l.length := Int.mul_le_mul_of_nonneg_right (by omega) (by omega)
    omega
theorem RC.Ok.below {c : RC} {N : Nat} (h : c.Ok N) (hb : c.bytes) : c.val + c.rng ≤ 256 ^ c.len ∧ 0 ≤ c.val := by
  obtain ⟨h1, h2, h3, h4, h5, h6, h7, h8⟩ := h
  obtain ⟨v0, v1⟩ := valL_nonneg hb
  have ep : (256 : Int) ^ c.len = (256 : Int) ^ c.out.length * 256 * 256 ^ c.more * 4294967296 := by
    unfold RC.len
    rw [Int.pow_add, Int.pow_add, show (256 : Int) ^ 5 = 256 * 4294967296 by decide]
    generalize (256 : Int) ^ c.out.length = a
    generalize (256 : Int) ^ c.more = b
    rw [← Int.mul_assoc, Int.mul_assoc a b 256, Int.mul_comm b 256, ← Int.mul_assoc a 256 b]
  have hp := pow_pos256 c.more
  unfold RC.val
  rw [ep]
  generalize (256 : Int) ^ c.out.length = a at *
  generalize valL c.out = v at *
  generalize (256 : Int) ^ c.more = P at *
  obtain ⟨X, hX⟩ : ∃ X, X = v * 256 + c.waits := ⟨_, rfl⟩
  rw [← hX]
  have hX0 : 0 ≤ X := by omega
  have hXP : 0 ≤ X * P := Int.mul_nonneg hX0 (by omega)
  refine ⟨?_, by omega⟩
  by_cases hw : c.waits = 255
  · have h7' := h7 hw
    have hX1 : X + 1 ≤ a * 256 := by omega
    have := Int.mul_le_mul_of_nonneg_right hX1 (show 0 ≤ P by omega)
    rw [Int.add_mul, Int.one_mul] at this
    generalize X * P = Y at *
    generalize a * 256 * P = Z at *
    omega
  · have hX1 : X + 2 ≤ a * 256 := by omega
    have := Int.mul_le_mul_of_nonneg_right hX1 (show 0 ≤ P by omega)
    rw [Int.add_mul] at this
    generalize X * P = Y at *
    generalize a * 256 * P = Z at *
    omega
/-- how many bytes more, the range tells. -/
theorem lev_once {r : Int} {j k : Nat} (h0 : 16777216 ≤ 256 ^ j * r) (h1 : 256 ^ j * r < 4294967296) (g0 : 16777216 ≤ 256 ^ k * r) (g1 : 256 ^ k * r < 4294967296) : j = k := by
  have aux : ∀ (a d : Nat), 16777216 ≤ 256 ^ a * r → 256 ^ (a + (d + 1)) * r < 4294967296 → False := by
    intro a d ha hd
    have e : (256 : Int) ^ (a + (d + 1)) * r = 256 ^ d * (256 * (256 ^ a * r)) := by
      rw [Int.pow_add, Int.pow_succ]
      generalize (256 : Int) ^ a = A
      generalize (256 : Int) ^ d = D
      rw [Int.mul_comm A, Int.mul_assoc, Int.mul_assoc]
    rw [e] at hd
    have hp := pow_pos256 d
    have : 1 * (256 * (256 ^ a * r)) ≤ 256 ^ d * (256 * (256 ^ a * r)) := Int.mul_le_mul_of_nonneg_right hp (by omega)
    omega
  rcases Nat.lt_trichotomy j k with hlt | h | hlt
  · obtain ⟨d, rfl⟩ := Nat.exists_eq_add_of_lt hlt
    exact (aux j d h0 (by rw [← Nat.add_assoc]; exact g1)).elim
  · exact h
  · obtain ⟨d, rfl⟩ := Nat.exists_eq_add_of_lt hlt
    exact (aux k d g0 (by rw [← Nat.add_assoc]; exact h1)).elim
end Go.Proofs.Ytphdnfilenkanaa

/- The document's coder (05): add, level. -/
namespace Go.Proofs.Ytphdnfilenkanaa
open Go.RowKit

theorem Own.setAt {w : World} {base : Nat} {k : IntKind} {e : TypeId} {v : Value} {xs : List Int} (h : Own w base k e v xs) {g : Nat} (hg : v.ownBlock = some g) (j : Nat) (x : Int) : Own (w.setCell ⟨g, j, none⟩ (.int k x)) base k e v (xs.set j x) := by
  obtain ⟨h1, h2⟩ := h
  refine ⟨by simp, ?_⟩
  rcases h2 with ⟨rfl, _⟩ | ⟨g', cap, cur, rfl, hb, hh, hn, hc, hs, ht⟩
  · simp [Value.ownBlock] at hg
  · have e : g' = g := by simpa [Value.ownBlock] using hg
    subst e
    refine .inr ⟨g', cap, cur.setIfInBounds j (.int k x), by rw [List.length_set], hb, blk_set hh, by rw [List.length_set]; exact hn, hc, by rw [Array.size_setIfInBounds]; exact hs, ?_⟩
    rw [List.length_set, Array.toList_setIfInBounds, List.take_set, ht, List.map_set]
theorem Own.cellAt {w : World} {base : Nat} {k : IntKind} {e : TypeId} {g n cap : Nat} {xs : List Int} (h : Own w base k e (.slice (some ⟨g, 0, none⟩) n cap) xs) {i : Nat} (hi : i < xs.length) :
    w.cell? ⟨g, i, none⟩ = some (.int k (xs.getD i 0)) ∧ w.frozen? ⟨g, i, none⟩ = false := by
  obtain ⟨h1, h2⟩ := h
  rcases h2 with ⟨h0, _⟩ | ⟨g', cap', cur, h0, hb, hh, hn, hc, hs, ht⟩
  · cases h0
  · have e : g' = g := by
      have := congrArg Value.ownBlock h0
      simpa [Value.ownBlock] using this.symm
    subst e
    refine ⟨blk_cell hh ?_, blk_frozen hh i⟩
    have e1 := map_getD k xs hi
    rw [← ht, List.getElem?_take_of_lt (by omega)] at e1
    simpa using e1
/-- the document's coder lies at block g; blocks of A are none of its. -/
structure EncV (A : Nat → Prop) (g : Nat) (w : World) (v : Value) (B : List Int) (r : Int) : Prop where
  at_ : w.heap[g]? = some (.cells #[v, .int .u64 r] 70)
  own : Own w 0 .u8 5 v B
  sep : ∀ k, v.ownBlock = some k → k ≠ g ∧ ¬ A k
  old : ∀ k, A k → k < w.heap.size
  not : ¬ A g
def EncIs (A : Nat → Prop) (g : Nat) (w : World) (V : Int) (L : Nat) (r : Int) : Prop := ∃ v B, EncV A g w v B r ∧ bytesL B ∧ B.length = L ∧ valL B = V
def EPost (A : Nat → Prop) (g : Nat) (w : World) (V : Int) (L : Nat) (r : Int) (e : Ending) (w' : World) : Prop := e = .returned (.tuple #[]) ∧ Fr (Out A) w w' ∧ EncIs A g w' V L r
theorem EncV.keep {A : Nat → Prop} {g : Nat} {w w' : World} {v : Value} {B : List Int} {r : Int} (h : EncV A g w v B r) {T : Nat → Prop} (hf : Fr T w w') (hg : ¬ T g) (ht : ∀ k, v.ownBlock = some k → ¬ T k) : EncV A g w' v B r :=
  ⟨hf.blk h.at_ hg, h.own.fr hf ht, h.sep, fun k hk => Nat.lt_of_lt_of_le (h.old k hk) hf.size, h.not⟩
theorem EncIs.keep {A : Nat → Prop} {g : Nat} {w w' : World} {V : Int} {L : Nat} {r : Int} (h : EncIs A g w V L r) {T : Nat → Prop} (hf : Fr T w w') (ht : ∀ k, k < w.heap.size → T k → A k) : EncIs A g w' V L r := by
  obtain ⟨v, B, hv, q⟩ := h
  have hf' : Fr (fun k => T k ∧ k < w.heap.size) w w' := hf.mono fun k hk e => ⟨e, hk⟩
  exact ⟨v, B, hv.keep hf' (fun e => hv.not (ht _ e.2 e.1)) (fun k hk e => (hv.sep k hk).2 (ht _ e.2 e.1)), q⟩
theorem EncIs.any {A : Nat → Prop} {g : Nat} {w w' : World} {V : Int} {L : Nat} {r : Int} (h : EncIs A g w V L r) (hf : Fr Non w w') : EncIs A g w' V L r := h.keep hf fun _ _ e => e.elim
/-- what is new is none of the coder's. -/
theorem EncIs.more {A : Nat → Prop} {g : Nat} {w w' : World} {V : Int} {L : Nat} {r : Int} (h : EncIs A g w V L r) {T : Nat → Prop} (hf : Fr T w w') (ht : ∀ k, k < w.heap.size → T k → A k) : EncIs (fun k => A k ∨ (w.heap.size ≤ k ∧ k < w'.heap.size)) g w' V L r := by
  obtain ⟨v, B, hv, q⟩ := h
  have hf' : Fr (fun k => T k ∧ k < w.heap.size) w w' := hf.mono fun k hk e => ⟨e, hk⟩
  have hk := hv.keep hf' (fun e => hv.not (ht _ e.2 e.1)) (fun k hk e => (hv.sep k hk).2 (ht _ e.2 e.1))
  refine ⟨v, B, ⟨hk.at_, hk.own, fun k e => ⟨(hv.sep k e).1, fun q => ?_⟩, fun k q => ?_, fun q => ?_⟩, q⟩
  · rcases q with q | q
    · exact (hv.sep k e).2 q
    · have := (hv.own.block k e).2; omega
  · rcases q with q | q
    · exact hk.old k q
    · exact q.2
  · rcases q with q | q
    · exact hv.not q
    · have := blk_lt hv.at_; omega
theorem EncIs.not {A : Nat → Prop} {g : Nat} {w : World} {V : Int} {L : Nat} {r : Int} (h : EncIs A g w V L r) : ¬ A g := by
  obtain ⟨v, B, hv, q⟩ := h
  exact hv.not
theorem enc_rng {A : Nat → Prop} {g : Nat} {w : World} {V : Int} {L : Nat} {r : Int} (h : EncIs A g w V L r) (x : Int) : EncIs A g (w.setCell ⟨g, 1, none⟩ (.int .u64 x)) V L x := by
  obtain ⟨v, B, hv, q⟩ := h
  exact ⟨v, B, ⟨blk_set (i := 1) hv.at_, hv.own.fr (S := fun k => k = g) ((Fr.refl _ _).setOne _ _) (fun k hk e => (hv.sep k hk).1 e), hv.sep, fun k hk => by have := hv.old k hk; simpa using this, hv.not⟩, q⟩
theorem EncV.setRng {A : Nat → Prop} {g : Nat} {w : World} {v : Value} {B : List Int} {r : Int} (hv : EncV A g w v B r) (x : Int) : EncV A g (w.setCell ⟨g, 1, none⟩ (.int .u64 x)) v B x :=
  ⟨blk_set (i := 1) hv.at_, hv.own.fr (S := fun k => k = g) ((Fr.refl _ _).setOne _ _) (fun k hk e => (hv.sep k hk).1 e), hv.sep, fun k hk => by have := hv.old k hk; simpa using this, hv.not⟩
theorem EncV.setAt {A : Nat → Prop} {g gb n cap : Nat} {w : World} {B : List Int} {r : Int} (h : EncV A g w (.slice (some ⟨gb, 0, none⟩) n cap) B r) (j : Nat) (x : Int) :
    EncV A g (w.setCell ⟨gb, j, none⟩ (.int .u8 x)) (.slice (some ⟨gb, 0, none⟩) n cap) (B.set j x) r := by
  have hs := h.sep gb rfl
  exact ⟨blk_set_ne h.at_ (fun e => hs.1 e.symm), h.own.setAt rfl j x, h.sep, fun k hk => by have := h.old k hk; simpa using this, h.not⟩

set_option maxRecDepth 100000 in
set_option maxHeartbeats 2000000 in
theorem eadd_any (A : Nat → Prop) (g : Nat) (V : Int) (L : Nat) (r x : Int) (w : World) (h : EncIs A g w V L r) (hL : 0 < L) (hL2 : L ≤ 1073741824) (hx0 : 0 ≤ x) (hx1 : x < 72057594037927936) (hlt : V + x < 256 ^ L) :
    Calls Try.prog 43 #[.pointer (some ⟨g, 0, none⟩), .int .u64 x] w (EPost A g w (V + x) L r) := by
  obtain ⟨v, B, hv, hby, hlen, hval⟩ := h
  obtain ⟨gb, cap, rfl⟩ : ∃ gb cap, v = .slice (some ⟨gb, 0, none⟩) L cap := by
    rcases hv.own.2 with ⟨_, h0⟩ | ⟨gb, cap, cur, rfl, _⟩
    · omega
    · exact ⟨gb, cap, by rw [hlen]⟩
  have HV := hid hv
  have Hby := hid hby
  have Hlt := hid hlt
  have HT0 := hid hval
  clear hv hby hlt hval
  go_enter Try.func43, Try.ntmps43
  have c0 := blk_cell HV.out.at_ (j := 0) (v := .slice (some ⟨gb, 0, none⟩) L cap) rfl
  go_wp2_with fail
  go_loopw [1, 4] (fun xv iv wr => ∃ (n : Nat) (y : Int) (B1 : List Int), n ≤ L ∧ iv = .int .i64 ((n : Int) - 1) ∧ xv = .int .u64 y ∧ 0 ≤ y ∧ y < 72057594037927936 ∧ EncV A g wr (.slice (some ⟨gb, 0, none⟩) L cap) B1 r ∧ bytesL B1 ∧ B1.length = L ∧ valL B1 + y * 256 ^ (L - n) = V + x ∧ Fr (Out A) w wr)
    (fun _ iv _ => (intOf iv + 1).toNat)
  case atStart =>
    exact ⟨L, x, B, Nat.le_refl _, rfl, rfl, hx0, hx1, HV.out, Hby.out, hlen, by rw [HT0.out, Nat.sub_self]; simp, Fr.refl _ _⟩
  case round =>
    obtain ⟨n, y, B1, hn, rfl, rfl, hy0, hy1, hv1, hb1, hl1, ht1, hf1⟩ := hrel
    by_cases hn0 : n = 0
    · subst hn0
      have hy : y = 0 := add_done (T := V + x) hb1 hy0 (by rw [hl1]; simpa using ht1) (by rw [hl1]; exact Hlt.out)
      subst hy
      have HE := hid (show EncIs A g wr (V + x) L r from ⟨_, B1, hv1, hb1, hl1, by rw [← ht1]; simp⟩)
      have HF1 := hid hf1
      clear hv1 hb1 ht1 hf1
      go_wp2_with fail
      go_end0
      exact ⟨rfl, HF1.out, HE.out⟩
    · obtain ⟨m, rfl⟩ := Nat.exists_eq_succ_of_ne_zero hn0
      by_cases hy : y = 0
      · subst hy
        have HE := hid (show EncIs A g wr (V + x) L r from ⟨_, B1, hv1, hb1, hl1, by rw [← ht1]; simp⟩)
        have HF1 := hid hf1
        clear hv1 hb1 ht1 hf1
        go_wp2_with fail
        go_end0
        exact ⟨rfl, HF1.out, HE.out⟩
      · have hyp : (0 : Int) < y := by omega
        have hbm := bytesL_getD hb1 m
        have c0 := blk_cell hv1.at_ (j := 0) (v := .slice (some ⟨gb, 0, none⟩) L cap) rfl
        obtain ⟨cm, fm⟩ := hv1.own.cellAt (i := m) (by omega)
        have HV1 := hid hv1
        have HB1 := hid hb1
        have HT1 := hid ht1
        have HF1 := hid hf1
        have hmi : ((m + 1 : Nat) : Int) - 1 = (m : Int) := by omega
        rw [show ((m.succ : Nat) : Int) - 1 = (m : Int) by omega]
        obtain ⟨b, hb⟩ : ∃ b, b = B1.getD m 0 := ⟨_, rfl⟩
        rw [← hb] at cm hbm
        have HBE := hid hb
        clear hv1 hb1 ht1 hf1 hb
        go_wp2_with fail
        refine ⟨⟨m, (y + b) / 256, B1.set m ((y + b) % 256), by omega, rfl, rfl, by omega, by omega, HV1.out.setAt m _, bytesL_set HB1.out m (by omega), by rw [List.length_set]; exact hl1, ?_, HF1.out.trans (Fr.setCell (p := ⟨gb, m, none⟩) (Fr.refl _ _) (fun _ => (HV1.out.sep gb rfl).2) _)⟩, by simp [intOf] <;> omega⟩
        have := add_step (l := B1) (n := m) (x := y) (T := V + x) (by omega) (by rw [hl1]; exact HT1.out)
        rw [← HBE.out, hl1] at this
        exact this

theorem enc_app {A : Nat → Prop} {g : Nat} {w W w2 : World} {v v2 : Value} {B xs : List Int} {r : Int} (h : EncV A g w v B r) (hf : Fr Non w W) (hg : W.grownBy w2 v.ownBlock) (ho : Own w2 0 .u8 5 v2 xs)
    (hb : v2.ownBlock = v.ownBlock ∨ v2.ownBlock = some W.heap.size) :
    EncV A g (w2.setCell ⟨g, 0, none⟩ v2) v2 xs r ∧ Fr (Out A) w (w2.setCell ⟨g, 0, none⟩ v2) := by
  have hgw := blk_lt h.at_
  have hne : v.ownBlock ≠ some g := fun e => (h.sep g e).1 rfl
  have hsz := hf.size
  have h1 : W.heap[g]? = some (.cells #[v, .int .u64 r] 70) := hf.blk h.at_ id
  have h2 := (Fr.grew hg).blk h1 hne
  have hs2 : ∀ k, v2.ownBlock = some k → k ≠ g ∧ ¬ A k := by
    intro k hk
    rcases hb with e | e
    · exact h.sep k (by rw [← e]; exact hk)
    · rw [e] at hk
      injection hk with hk
      subst hk
      exact ⟨by omega, fun q => by have := h.old _ q; omega⟩
  have hfr : Fr (Out A) w (w2.setCell ⟨g, 0, none⟩ v2) := by
    refine Fr.setCell (p := ⟨g, 0, none⟩) (Fr.then (hf.any (S := Out A)) (Fr.grew hg) fun i _ e => (h.sep i e).2) (fun _ => h.not) _
  refine ⟨⟨?_, ?_, hs2, ?_, h.not⟩, hfr⟩
  · exact blk_set (i := 0) h2
  · exact ho.fr (S := fun k => k = g) ((Fr.refl _ _).setOne _ _) (fun k hk e => (hs2 k hk).1 e)
  · intro k hk; exact Nat.lt_of_lt_of_le (h.old k hk) hfr.size
def rng64 (g : Nat) (w : World) : Nat := match w.cell? ⟨g, 1, none⟩ with | some (.int _ r) => 16777216 - r.toNat | _ => 0
theorem rng64_eq {A : Nat → Prop} {g : Nat} {w : World} {v : Value} {B : List Int} {r : Int} (h : EncV A g w v B r) : rng64 g w = 16777216 - r.toNat := by
  unfold rng64
  rw [blk_cell h.at_ (j := 1) (v := .int .u64 r) rfl]
def LevPost (A : Nat → Prop) (g : Nat) (w : World) (V : Int) (L : Nat) (r : Int) (e : Ending) (w' : World) : Prop :=
  e = .returned (.tuple #[]) ∧ Fr (Out A) w w' ∧ ∃ k : Nat, EncIs A g w' (256 ^ k * V) (L + k) (256 ^ k * r) ∧ 16777216 ≤ 256 ^ k * r ∧ 256 ^ k * r < 4294967296
theorem pow_few {k : Nat} {r : Int} (hr : 1 ≤ r) (h : 256 ^ k * r < 16777216) : k < 3 := by
  refine Nat.lt_of_not_le fun hk => ?_
  obtain ⟨d, rfl⟩ := Nat.exists_eq_add_of_le hk
  have hp := pow_pos256 d
  rw [Int.pow_add, show (256 : Int) ^ 3 = 16777216 by decide, Int.mul_assoc] at h
  have : 1 * 1 ≤ 256 ^ d * r := Int.mul_le_mul hp hr (by omega) (by omega)
  omega

set_option maxRecDepth 100000 in
set_option maxHeartbeats 2000000 in
theorem elevel_any (A : Nat → Prop) (g : Nat) (V : Int) (L : Nat) (r : Int) (w : World) (h : EncIs A g w V L r) (hL2 : L ≤ 1073741820) (h1 : 1 ≤ r) (h2 : r < 4294967296) :
    Calls Try.prog 42 #[.pointer (some ⟨g, 0, none⟩)] w (LevPost A g w V L r) := by
  have H := hid h
  clear h
  go_enter Try.func42, Try.ntmps42
  go_wp2_with fail
  go_loopw [] (fun wr => ∃ k : Nat, k ≤ 3 ∧ Fr (Out A) w wr ∧ EncIs A g wr (256 ^ k * V) (L + k) (256 ^ k * r) ∧ 256 ^ k * r < 4294967296) (fun wr => rng64 g wr)
  case atStart => exact ⟨0, by omega, Fr.refl _ _, by simpa using H.out, by simpa using h2⟩
  case round =>
    obtain ⟨k, hk, hfr, ⟨v, B, hv, hby, hlen, hval⟩, hlt⟩ := hrel
    obtain ⟨x, hx⟩ : ∃ x, x = 256 ^ k * r := ⟨_, rfl⟩
    rw [← hx] at hlt hv
    have k0 := blk_cell hv.at_ (j := 0) (v := v) rfl
    have k1 := blk_cell hv.at_ (j := 1) (v := .int .u64 x) rfl
    have g1 := blk_frozen hv.at_ 1
    have HV := hid hv
    have HFR := hid hfr
    have HBY := hid hby
    have HVAL := hid hval
    have HX := hid hx
    have hx0 : 1 * 1 ≤ x := by rw [hx]; exact Int.mul_le_mul (pow_pos256 k) h1 (by omega) (by have := pow_pos256 k; omega)
    clear hv hfr hby hval hx
    by_cases hlt2 : x < 16777216
    · have hk2 : k < 3 := pow_few h1 (by rw [← HX.out]; exact hlt2)
      have HV2 := hid (HV.out.setRng (x * 256))
      have cn := cell_new1 (wr.setCell ⟨g, 1, none⟩ (.int .u64 (x * 256))) (.int .u8 0) 5
      rw [show (wr.setCell ⟨g, 1, none⟩ (.int .u64 (x * 256))).heap.size = wr.heap.size by simp] at cn
      have HCN := hid cn
      clear cn
      go_upto_region 2 with fail
      go_wp2_with (refine opGrow1 (some 21) rfl rfl (.tmp 19) (.tmp 20) 22 rfl .u8 5 1 Try.underlying22 Try.info_u8 v B rfl (by exact Own.alloc HV2.out.own _) _ _ _ rfl (by exact HCN.out) (by decide) (by omega) ?_; intro v3 w3 hown3 hg3 hb3; obtain ⟨a3, cap3, hv3, _, _, _⟩ := hown3.rowN (n := L + k + 1) (by simp [hlen]); subst hv3; obtain ⟨hc3, hf3⟩ := enc_app HV2.out ((Fr.refl Non _).alloc _) hg3 hown3 hb3; have g4 : w3.frozen? ⟨g, 0, none⟩ = false := blk_frozen ((Fr.grew hg3).blk (by exact blk_alloc HV2.out.at_) (fun e => (HV2.out.sep g e).1 rfl)) 0; have k5 : w3.cell? ⟨g, 0, none⟩ = some v := blk_cell ((Fr.grew hg3).blk (by exact blk_alloc HV2.out.at_) (fun e => (HV2.out.sep g e).1 rfl)) rfl; have HC3 := hid hc3; have HF3 := hid hf3; clear hown3 hg3 hb3 hc3 hf3)
      obtain ⟨v4, hv4⟩ : ∃ v4, v4 = Value.slice a3 (L + k + 1) cap3 := ⟨_, rfl⟩
      rw [← hv4] at HC3 HF3 ⊢
      go_roundw
      case rel =>
        have e4 : (256 : Int) ^ (k + 1) * r = x * 256 := by rw [HX.out, Int.pow_succ, Int.mul_assoc, Int.mul_comm 256 r, Int.mul_assoc]
        refine ⟨k + 1, by omega, HFR.out.trans ((Fr.setCell (p := ⟨g, 1, none⟩) (Fr.refl _ _) (fun _ => HV.out.not) _).trans HF3.out), ⟨v4, B ++ [0], ?_, bytesL_snoc HBY.out, by rw [List.length_append, hlen]; rfl, ?_⟩, by rw [e4]; omega⟩
        · rw [e4]; exact HC3.out
        · rw [valL_snoc, HVAL.out, Int.pow_succ]
          generalize (256 : Int) ^ k = P
          have e : P * 256 * V = P * V * 256 := by rw [Int.mul_assoc, Int.mul_comm 256 V, ← Int.mul_assoc]
          omega
      case measure =>
        rw [rng64_eq HC3.out, rng64_eq HV.out]
        omega
    · have HE := hid (show EncIs A g wr (256 ^ k * V) (L + k) x from ⟨v, B, HV.out, HBY.out, hlen, HVAL.out⟩)
      go_wp2_with fail
      go_end0
      exact ⟨rfl, HFR.out, k, by rw [← HX.out]; exact HE.out, by rw [← HX.out]; omega, by rw [← HX.out]; exact hlt⟩
end Go.Proofs.Ytphdnfilenkanaa

/- The document's coder (05): New, Bit. -/
namespace Go.Proofs.Ytphdnfilenkanaa
open Go.RowKit

/-- the document's coder has told what c has. -/
def EncC (A : Nat → Prop) (g : Nat) (w : World) (c : RC) : Prop := EncIs A g w c.val c.len c.rng
theorem enc_part {A : Nat → Prop} {g : Nat} {w : World} {c : RC} {N : Nat} (hok : c.Ok N) (hb : c.bytes) {a r : Int} (ha : 0 ≤ a) (hr : 1 ≤ r) (har : a + r ≤ c.rng) {k : Nat}
    (h : EncIs A g w (256 ^ k * (c.val + a)) (c.len + k) (256 ^ k * r)) (h0 : 16777216 ≤ 256 ^ k * r) (h1 : 256 ^ k * r < 4294967296) : EncC A g w (c.part a r) := by
  obtain ⟨j, e1, e2, e3, _⟩ := hok.part_val hb ha hr har
  have ho := hok.part ha hr har
  have r0 := ho.rng0
  have r1 := ho.rng1
  rw [e2] at r0 r1
  have e : j = k := lev_once r0 r1 h0 h1
  subst e
  unfold EncC
  rw [e1, e2, e3]
  exact h
theorem RC.Ok.keep_part {c : RC} {N : Nat} (hok : c.Ok N) (hb : c.bytes) {a r : Int} (ha : 0 ≤ a) (hr : 1 ≤ r) (har : a + r ≤ c.rng) : (c.part a r).bytes := by
  obtain ⟨j, _, _, _, h⟩ := hok.part_val hb ha hr har
  exact h
def ENewPost (w : World) (e : Ending) (w' : World) : Prop :=
  ∃ g, e = .returned (.pointer (some ⟨g, 0, none⟩)) ∧ w.heap.size ≤ g ∧ Fr Non w w' ∧ EncC (fun k => k < w.heap.size) g w' RC.new
theorem emake_u8 (n : Nat) (hn : n ≤ 1048576) (w : World) : (Instr.makeSlice 22 (.int .i64 n) (.int .i64 n)).run Try.prog w = .ok (.slice (some ⟨w.heap.size, 0, none⟩) n n) (w.alloc (.cells (arr .u8 n (fun _ => 0)) 5)) := by
  obtain ⟨i, hi, hz0, hz1, hz2⟩ := info_parts Try.info_u8
  have h := run_make (P := Try.prog) w 22 5 i (.int .u8 0) Try.underlying22 hi hz0 .i64 .i64 n n (by omega) (by omega) (by rw [hz2]; omega) (by omega)
  simp only [Int.toNat_natCast, hz1, arr_made] at h
  exact h
set_option maxRecDepth 100000 in
theorem enew_raw (w : World) : Calls Try.prog 29 #[] w fun e w' => e = .returned (.pointer (some ⟨w.heap.size + 1, 0, none⟩)) ∧ w' = (w.alloc (.cells (arr .u8 5 (fun _ => 0)) 5)).alloc (.cells #[.slice (some ⟨w.heap.size, 0, none⟩) 5 5, .int .u64 4294967295] 70) := by
  have hmk : ∀ w : World, (Instr.makeSlice 22 (.int .i64 5) (.int .i64 5)).run Try.prog w = .ok (.slice (some ⟨w.heap.size, 0, none⟩) 5 5) (w.alloc (.cells (arr .u8 5 (fun _ => 0)) 5)) := fun w => emake_u8 5 (by decide) w
  go_enter Try.func29, Try.ntmps29
  go_wp2
  go_ret
  exact ⟨rfl, rfl⟩
theorem arr_zeros5 : arr .u8 5 (fun _ => 0) = ([0, 0, 0, 0, 0].map (Value.int .u8)).toArray := by kernel_rfl
theorem enew_any (w : World) : Calls Try.prog 29 #[] w (ENewPost w) := by
  refine (enew_raw w).mono ?_
  rintro e w' ⟨rfl, rfl⟩
  have hb := blk_alloc (o' := .cells #[.slice (some ⟨w.heap.size, 0, none⟩) 5 5, .int .u64 4294967295] 70) (blk_new w (.cells (arr .u8 5 (fun _ => 0)) 5))
  have hg := blk_new (w.alloc (.cells (arr .u8 5 (fun _ => 0)) 5)) (.cells #[.slice (some ⟨w.heap.size, 0, none⟩) 5 5, .int .u64 4294967295] 70)
  have hs : (w.alloc (.cells (arr .u8 5 (fun _ => 0)) 5)).heap.size = w.heap.size + 1 := by simp
  rw [hs] at hg
  refine ⟨w.heap.size + 1, rfl, by omega, ((Fr.refl _ _).alloc _).alloc _, .slice (some ⟨w.heap.size, 0, none⟩) 5 5, [0, 0, 0, 0, 0], ⟨hg, ⟨rfl, .inr ⟨w.heap.size, 5, _, rfl, Nat.zero_le _, hb, by decide, by simp [maxLen], by rw [arr_size], ?_⟩⟩, ?_, ?_, ?_⟩, ?_, rfl, ?_⟩
  · rw [arr_zeros5]; rfl
  · intro k hk
    have hk' : w.heap.size = k := by simpa [Value.ownBlock] using hk
    subst hk'
    exact ⟨by omega, fun h => by have : w.heap.size < w.heap.size := h; omega⟩
  · intro k hk
    have hk' : k < w.heap.size := hk
    simp; omega
  · intro hk
    have hk' : w.heap.size + 1 < w.heap.size := hk
    omega
  · intro x hx
    simp at hx
    omega
  · decide
end Go.Proofs.Ytphdnfilenkanaa

/- The document's coder (05): Bit. -/
namespace Go.Proofs.Ytphdnfilenkanaa
open Go.RowKit

def EBPost (A : Nat → Prop) (g : Nat) (w : World) (r : Int × RC) (e : Ending) (w' : World) : Prop :=
  e = .returned (.int .u16 r.1) ∧ Fr (Out A) w w' ∧ EncC A g w' r.2
theorem bit_zero' (c : RC) (p : Int) : c.bit p 0 = (p + (2048 - p) / 32, c.part 0 (c.rng / 2048 * p)) := if_pos rfl
theorem bit_one' (c : RC) (p : Int) : c.bit p 1 = (p - p / 32, c.part (c.rng / 2048 * p) (c.rng - c.rng / 2048 * p)) := rfl
set_option maxRecDepth 100000 in
set_option maxHeartbeats 2000000 in
theorem ebit_any (A : Nat → Prop) (g N : Nat) (c : RC) (p : Int) (b : Nat) (w : World) (h : EncC A g w c) (hok : c.Ok N) (hby : c.bytes) (hN : N ≤ 1073741700) (hp0 : 31 ≤ p) (hp1 : p ≤ 2017) (hbit : b ≤ 1) :
    Calls Try.prog 30 #[.pointer (some ⟨g, 0, none⟩), .int .u16 p, .int .i64 b] w (EBPost A g w (c.bit p b)) := by
  have hnot := h.not
  have HH := hid h
  obtain ⟨v, B, hv, hb, hlen, hval⟩ := h
  have c1 := blk_cell hv.at_ (j := 1) (v := .int .u64 c.rng) rfl
  have f1 := blk_frozen hv.at_ 1
  have o2 := hok.rng0
  have o3 := hok.rng1
  have hL : c.len ≤ 1073741800 := by have := hok.size; unfold RC.len; omega
  have hL0 : 0 < c.len := by unfold RC.len; omega
  have b1 := bound_pos c.rng p o2 hp0
  have b2 := bound_gap c.rng p o2 hp1
  have HO := hid hok
  have HB := hid hby
  have HBE := hid (hok.below hby)
  clear hv hb hlen hval hok hby
  obtain ⟨x, hx⟩ : ∃ x, x = c.rng / 2048 * p := ⟨_, rfl⟩
  rw [← hx] at b1 b2
  have HX := hid hx
  rcases Nat.le_one_iff_eq_zero_or_eq_one.1 hbit with rfl | rfl
  · rw [bit_zero', ← hx]
    clear hx
    have hxr : c.rng / 2048 * p = x := HX.out.symm
    have hxm : c.rng / 2048 * p % 18446744073709551616 = x := by rw [hxr]; omega
    go_enter Try.func30, Try.ntmps30
    go_wp2_with fail
    refine (elevel_any A g c.val c.len x _ (enc_rng HH.out x) (by omega) (by omega) (by omega)).mono ?_
    rintro e w1 ⟨rfl, hf1, k, he1, hk0, hk1⟩
    have HE := hid (enc_part HO.out HB.out (a := 0) (r := x) (Int.le_refl 0) (by omega) (by omega) (k := k) (by rw [Int.add_zero]; exact he1) hk0 hk1)
    have HF := hid ((Fr.setCell (p := ⟨g, 1, none⟩) (Fr.refl (Out A) w) (fun _ => hnot) (.int .u64 x)).trans hf1)
    clear hf1 he1
    have ev : IntKind.u16.wrap (p + IntKind.u16.wrap ((2048 - p).tdiv 32)) = p + (2048 - p) / 32 := by
      rw [Int.tdiv_eq_ediv_of_nonneg (by omega), IntKind.wrap_u16, IntKind.wrap_u16]; omega
    go_wp2_with fail
    go_ret
    exact ⟨by rw [← ev]; rfl, HF.out, HE.out⟩
  · rw [bit_one', ← hx]
    clear hx
    have hxr : c.rng / 2048 * p = x := HX.out.symm
    have hxm : c.rng / 2048 * p % 18446744073709551616 = x := by rw [hxr]; omega
    go_enter Try.func30, Try.ntmps30
    go_wp2_with fail
    refine (eadd_any A g c.val c.len c.rng x _ HH.out hL0 (by omega) (by omega) (by omega) (by have := HBE.out.1; omega)).mono ?_
    rintro e w1 ⟨rfl, hf1, he1⟩
    obtain ⟨v1, B1, hv1, q1⟩ := he1
    have c1' := blk_cell hv1.at_ (j := 1) (v := .int .u64 c.rng) rfl
    have f1' := blk_frozen hv1.at_ 1
    have HE1 := hid (show EncIs A g w1 (c.val + x) c.len c.rng from ⟨v1, B1, hv1, q1⟩)
    have HF1 := hid hf1
    clear c1 f1 hf1 hv1 q1
    go_wp2_with fail
    refine (elevel_any A g (c.val + x) c.len (c.rng - x) _ (enc_rng HE1.out (c.rng - x)) (by omega) (by omega) (by omega)).mono ?_
    rintro e w2 ⟨rfl, hf2, k, he2, hk0, hk1⟩
    have HE := hid (enc_part HO.out HB.out (a := x) (r := c.rng - x) (by omega) (by omega) (by omega) (k := k) he2 hk0 hk1)
    have HF := hid (HF1.out.trans ((Fr.setCell (p := ⟨g, 1, none⟩) (Fr.refl (Out A) w1) (fun _ => hnot) (.int .u64 (c.rng - x))).trans hf2))
    clear hf2 he2
    have ev : IntKind.u16.wrap (p - IntKind.u16.wrap (p.tdiv 32)) = p - p / 32 := by
      rw [Int.tdiv_eq_ediv_of_nonneg (by omega), IntKind.wrap_u16, IntKind.wrap_u16]; omega
    go_wp2_with fail
    go_ret
    exact ⟨by rw [← ev]; rfl, HF.out, HE.out⟩
end Go.Proofs.Ytphdnfilenkanaa

/- Bytes, of equal rows. -/
namespace Go.Proofs.Ytphdnfilenkanaa
open Go.RowKit

/-- Bytes only reads. -/
theorem bytes_q (a b : Option Addr) (n c1 c2 : Nat) (f g : Nat → Int) (w : World) (hn : n ≤ 4611686018427387904) (B : Nat)
    (ha : RowIn B .u8 w a n f) (hb : RowIn B .u8 w b n g) (hfg : ∀ i, i < n → f i = g i) :
    Calls Try.prog 11 #[.slice a n c1, .slice b n c2] w fun e w' => e = .returned (.bool true) ∧ ∃ m, w' = w.drewN m := by
  have Ha := hid ha
  have Hb := hid hb
  have Hfg := hid hfg
  clear ha hb hfg
  go_enter Try.func11, Try.ntmps11
  go_wp2
  go_loopw [5] (fun i wr => ∃ k m : Nat, k ≤ n ∧ i = .int .i64 k ∧ wr = w.drewN m) (fun i _ => n - (intOf i).toNat)
  case atStart => exact ⟨0, 0, Nat.zero_le _, rfl, rfl⟩
  case round =>
    obtain ⟨k, m, hk, rfl, rfl⟩ := hrel
    by_cases hlt : k < n
    · obtain ⟨b1, o1, rfl, hB1, hx⟩ := Ha.out.at hlt
      obtain ⟨b2, o2, rfl, hB2, hy⟩ := Hb.out.at hlt
      rw [Hfg.out k hlt] at hx
      have h0 : (0 : Int) ≤ (k : Int) := by omega
      have h1 : (k : Int) < (n : Int) := by omega
      go_wp2
      go_quiet (fail)
      go_wp2
      go_roundw
      case rel => exact ⟨k + 1, m + nq, by omega, by go_num, by simp⟩
      case measure => simp [intOf]; omega
    · have e : k = n := by omega
      subst e
      go_wp2
      go_ret
      exact ⟨rfl, _, rfl⟩
theorem bytes_yes (a b : Option Addr) (n c1 c2 : Nat) (f g : Nat → Int) (w : World) (hn : n ≤ 4611686018427387904) (B : Nat)
    (ha : RowIn B .u8 w a n f) (hb : RowIn B .u8 w b n g) (hfg : ∀ i, i < n → f i = g i) :
    Calls Try.prog 11 #[.slice a n c1, .slice b n c2] w fun e w' => e = .returned (.bool true) ∧ Fr Non w w' :=
  (bytes_q a b n c1 c2 f g w hn B ha hb hfg).mono fun _ _ ⟨h1, _, h2⟩ => ⟨h1, by rw [h2]; exact (Fr.refl _ _).drewN _⟩
end Go.Proofs.Ytphdnfilenkanaa

/- law05: put. -/
namespace Go.Proofs.Ytphdnfilenkanaa
open Go.RowKit

/-- what is asked for is coded: the probabilities, the coder. -/
def RC.ask (c : RC) (q : Nat → Int) (a : Ask) : (Nat → Int) × RC :=
  if a.kind = 0 then (upd q a.at_.toNat (c.bit (q a.at_.toNat) (a.val.toNat % 2)).1, (c.bit (q a.at_.toNat) (a.val.toNat % 2)).2)
  else if a.kind = 1 then (spliceQ q a.at_.toNat (2 ^ a.bits.toNat) (c.tree a.bits.toNat (fun j => q (a.at_.toNat + j)) a.val.toNat).1, (c.tree a.bits.toNat (fun j => q (a.at_.toNat + j)) a.val.toNat).2)
  else if a.kind = 2 then (spliceQ q a.at_.toNat (2 ^ a.bits.toNat) (c.rev a.bits.toNat (fun j => q (a.at_.toNat + j)) a.val.toNat).1, (c.rev a.bits.toNat (fun j => q (a.at_.toNat + j)) a.val.toNat).2)
  else (q, c.strGo a.bits.toNat a.val.toNat)
def PutPost (A : Nat → Prop) (g gp : Nat) (w : World) (r : (Nat → Int) × RC) (e : Ending) (w' : World) : Prop :=
  e = .returned (.tuple #[]) ∧ Fr (fun k => ¬ A k ∨ k = gp) w w' ∧ CodIs A g w' r.2 ∧ w'.heap[gp]? = some (.cells (arr .u16 600 r.1) 46)

end Go.Proofs.Ytphdnfilenkanaa

/- law05: awake. -/
namespace Go.Proofs.Ytphdnfilenkanaa
open Go.RowKit

def c992 : RC := (RC.new.bit 1024 1).2
theorem fin992 : (c992.gives 5).out = [0, 127, 255, 252, 0] := by decide +kernel
theorem fin0 : (RC.new.gives 5).out = [0, 0, 0, 0, 0] := by decide +kernel
theorem bit992 : RC.new.bit 1024 1 = (992, c992) := rfl
theorem fit992 : c992.Fit 1073741810 := ⟨by decide +kernel, by decide +kernel, by decide +kernel, by decide +kernel, by decide +kernel⟩
theorem fitnew : RC.new.Fit 1073741810 := ⟨by decide, by decide, by decide, by decide, by decide⟩

theorem CodIs.any {A : Nat → Prop} {g : Nat} {w w' : World} {c : RC} (h : CodIs A g w c) (hf : Fr Non w w') : CodIs A g w' c := h.keep hf (fun _ e => False.elim e)
theorem get992 : ((arr .u16 1 fun _ => 1024).setIfInBounds 0 (.int .u16 992))[0]? = some (Value.int .u16 992) := by
  rw [arr_set]
  exact arr_get .u16 1 _ (by decide)
theorem Out.no {A : Nat → Prop} {i : Nat} (h : Out A i) (ha : A i) : False := h ha
theorem lit_992 : ∀ i, i < 5 → ([0, 127, 255, 252, 0] : List Int).getD i 0 = lit [0, 127, 255, 252, 0] i := fun _ _ => rfl
theorem five_small : 5 ≤ 4611686018427387904 := by decide
theorem zeros_lit : ∀ i, i < 5 → ([0, 0, 0, 0, 0] : List Int).getD i 0 = (fun _ => 0) i := by decide
theorem CodIs.fresh {A : Nat → Prop} {g : Nat} {w W : World} {c : RC} (h : CodIs A g w c) (hf : Fr Non w W) : CodIs (fun k => A k ∨ (w.heap.size ≤ k ∧ k < W.heap.size)) g W c := h.more hf (fun _ e => e.elim)
/-- Finish in a world that grew: what is new stays. -/
theorem cfinish_in {A : Nat → Prop} {g : Nat} {c : RC} {w W : World} (h : CodIs A g w c) (hf : Fr Non w W) (hfit : c.Fit 1073741810) :
    Calls Try.prog 28 #[.pointer (some ⟨g, 0, none⟩)] W fun e w' => FPost A g w c e w' ∧ Fr (Out fun k => A k ∨ (w.heap.size ≤ k ∧ k < W.heap.size)) W w' := by
  refine (cfinish_any _ g c W (h.fresh hf) hfit).mono ?_
  rintro e w' ⟨v, rfl, h1, h2, h3, h4⟩
  exact ⟨⟨v, rfl, h1, fun k hk => ⟨(h2 k hk).1, fun q => (h2 k hk).2 (.inl q)⟩, (hf.any (S := Out A)).trans (h3.mono (fun k _ q e => q (.inl e))), h4.less (fun k q => .inl q)⟩, h3⟩

end Go.Proofs.Ytphdnfilenkanaa

/- The document's coder (05): Ask, what it leaves. -/
namespace Go.Proofs.Ytphdnfilenkanaa
open Go.RowKit

/-- 600 probabilities lie at block gq; more may lie behind. -/
def RowQ (w : World) (gq : Nat) (q : Nat → Int) : Prop := ∃ cs, w.heap[gq]? = some (.cells cs 46) ∧ ∀ j, j < 600 → cs[j]? = some (.int .u16 (q j))
def EAPost (A : Nat → Prop) (g gq : Nat) (w : World) (r : (Nat → Int) × RC) (e : Ending) (w' : World) : Prop :=
  e = .returned (.tuple #[]) ∧ Fr (fun k => ¬ A k ∨ k = gq) w w' ∧ EncC A g w' r.2 ∧ RowQ w' gq r.1
def E0Post (A : Nat → Prop) (g gq P : Nat) (cs : Array Value) (w : World) (r : Int × RC) (e : Ending) (w' : World) : Prop :=
  e = .returned (.tuple #[]) ∧ Fr (fun k => ¬ A k ∨ k = gq) w w' ∧ EncC A g w' r.2 ∧ w'.heap[gq]? = some (.cells (cs.setIfInBounds P (.int .u16 r.1)) 46)
theorem EncC.keep {A : Nat → Prop} {g : Nat} {w w' : World} {c : RC} (h : EncC A g w c) {T : Nat → Prop} (hf : Fr T w w') (ht : ∀ k, k < w.heap.size → T k → A k) : EncC A g w' c := EncIs.keep h hf ht
theorem EncC.any {A : Nat → Prop} {g : Nat} {w w' : World} {c : RC} (h : EncC A g w c) (hf : Fr Non w w') : EncC A g w' c := EncIs.any h hf
theorem EncC.less {A A' : Nat → Prop} {g : Nat} {w : World} {c : RC} (h : EncC A g w c) (hs : ∀ k, A' k → A k) : EncC A' g w c := by
  obtain ⟨v, B, ⟨h1, h2, h3, h4, h5⟩, q⟩ := h
  exact ⟨v, B, ⟨h1, h2, fun k e => ⟨(h3 k e).1, fun q => (h3 k e).2 (hs k q)⟩, fun k q => h4 k (hs k q), fun q => h5 (hs g q)⟩, q⟩
/-- A, and what has been new since w. -/
def Since (A : Nat → Prop) (w W : World) : Nat → Prop := fun k => A k ∨ (w.heap.size ≤ k ∧ k < W.heap.size)
theorem EncC.fresh {A : Nat → Prop} {g : Nat} {w W : World} {c : RC} (h : EncC A g w c) (hf : Fr Non w W) : EncC (Since A w W) g W c := EncIs.more h hf (fun _ _ e => e.elim)
theorem EncC.drew {A : Nat → Prop} {g : Nat} {w : World} {c : RC} (h : EncC A g w c) : EncC A g w.drew c := h.any (Fr.refl Non _).drew
/-- what a bit leaves, its probability put back. -/
theorem fin0E {A : Nat → Prop} {g gq P : Nat} {cs : Array Value} {w W w1 : World} {r : Int × RC} (hA : A gq) (hf : Fr (Out (Since A w W)) W w1) (hW : Fr Non w W) (hd : EncC (Since A w W) g w1 r.2) (hb : w1.heap[gq]? = some (.cells cs 46)) :
    Fr (fun k => ¬ A k ∨ k = gq) w (w1.setCell ⟨gq, P, none⟩ (.int .u16 r.1)) ∧ EncC A g (w1.setCell ⟨gq, P, none⟩ (.int .u16 r.1)) r.2 ∧ (w1.setCell ⟨gq, P, none⟩ (.int .u16 r.1)).heap[gq]? = some (.cells (cs.setIfInBounds P (.int .u16 r.1)) 46) := by
  refine ⟨Fr.setCell (p := ⟨gq, P, none⟩) (Fr.then hW.any hf fun i hi e => .inl fun h => e (.inl h)) (fun _ => .inr rfl) _, ?_, blk_set hb⟩
  exact (hd.keep ((Fr.refl (fun k => k = gq) w1).setOne P _) (fun k _ e => .inl (by rw [e]; exact hA))).less fun k h => .inl h
def ETPost (A : Nat → Prop) (g gq off L : Nat) (cs : Array Value) (w : World) (r : (Nat → Int) × RC) (e : Ending) (w' : World) : Prop :=
  e = .returned (.tuple #[]) ∧ Fr (fun k => ¬ A k ∨ k = gq) w w' ∧ EncC A g w' r.2 ∧ ∃ cs', w'.heap[gq]? = some (.cells cs' 46) ∧ Win cs cs' off L r.1
/-- the loop's state behind some bits. -/
structure ETAt (A A' : Nat → Prop) (g gq P L N : Nat) (cs : Array Value) (w W wr : World) (c1 : RC) (q1 : Nat → Int) : Prop where
  fr : Fr (fun k => ¬ A' k ∨ k = gq) W wr
  enc : EncC A' g wr c1
  ok : c1.Ok N
  by_ : c1.bytes
  blk : ∃ cs1, wr.heap[gq]? = some (.cells cs1 46) ∧ Win cs cs1 P L q1
  pr : Pr q1 L
theorem ETAt.step {A A' : Nat → Prop} {g gq P L N m b : Nat} {cs : Array Value} {w W wr w1 : World} {c1 : RC} {q1 : Nat → Int} (h : ETAt A A' g gq P L N cs w W wr c1 q1) (hA : A' gq) (hm : m < L)
    (hf : Fr (Out A') wr w1) (he : EncC A' g w1 (c1.bit (q1 m) b).2) :
    ETAt A A' g gq P L (N + 3) cs w W (w1.setCell ⟨gq, P + m, none⟩ (.int .u16 (c1.bit (q1 m) b).1)) (c1.bit (q1 m) b).2 (upd q1 m (c1.bit (q1 m) b).1) := by
  obtain ⟨h1, h2, h3, h4, ⟨cs1, h5, h6⟩, h7⟩ := h
  have hp := h7 m hm
  have hp2 := bit_prob' c1 hp.1 hp.2 b
  obtain ⟨n, hn⟩ := h3.reach_bit h4 hp.1 hp.2 b
  have hb1 := hf.blk h5 (fun e => e hA)
  refine ⟨?_, he.keep ((Fr.refl (fun k => k = gq) w1).setOne (P + m) _) (fun k _ e => by rw [e]; exact hA), h3.bit hp.1 hp.2 b, hn.4 h4, ⟨_, blk_set (i := P + m) hb1, h6.set hm _⟩, h7.upd m hp2.1 hp2.2⟩
  exact Fr.setCell (p := ⟨gq, P + m, none⟩) (h1.then hf fun i _ e => .inl e) (fun _ => .inr rfl) _

end Go.Proofs.Ytphdnfilenkanaa

/- ref04.Fresh: a row of probabilities that begin. -/
namespace Go.Proofs.Ytphdnfilenkanaa
open Go.RowKit

def RFreshPost (w : World) (n : Nat) (e : Ending) (w' : World) : Prop :=
  ∃ v, e = .returned v ∧ Own w' w.heap.size .u16 46 v (List.replicate n 1024) ∧ Fr Non w w'
theorem info_u16r : (Try.prog.info? 46).map (fun i => (i.zero, i.size, i.bytes)) = some (some (.int .u16 0), 1, 2) := by kernel_rfl
set_option maxRecDepth 100000 in
set_option maxHeartbeats 2000000 in
theorem rfresh_any (n : Nat) (w : World) (hn : n ≤ 65536) :
    Calls Try.prog 20 #[.int .i64 n] w (RFreshPost w n) := by
  go_enter Try.func20, Try.ntmps20
  go_wp2_with fail
  go_loopw [3, 4] (fun pv iv wr => ∃ k : Nat, k ≤ n ∧ iv = .int .i64 k ∧ Own wr w.heap.size .u16 46 pv (List.replicate k 1024) ∧ Fr Non w wr) (fun _ iv _ => n - (intOf iv).toNat)
  case atStart => exact ⟨0, Nat.zero_le _, rfl, Own.nil _ _ _ _, Fr.refl _ _⟩
  case round =>
    obtain ⟨k, hk, rfl, hown, hfr⟩ := hrel
    have HO := hid hown
    have HF := hid hfr
    clear hown hfr
    by_cases hlt : k < n
    · have hsz := HF.out.size
      go_wp2_with (refine opAppend1 (some 12) rfl rfl (.tmp 10) (.tmp 11) 43 rfl w.heap.size .u16 46 2 Try.underlying43 info_u16r _ _ rfl (by exact Own.alloc HO.out _) _ _ _ rfl (by exact cell_new1 _ _ _) (by decide) (by rw [List.length_replicate]; omega) (by simp; omega) ?_; intro v3 w3 hown3 hg3; have HO3 := hid hown3; have HF3 := hid (Fr.grown (HF.out.alloc _) hg3 (fun i hi hlt => absurd (HO.out.block i hi).1 (by omega))); clear hown3 hg3)
      go_roundw
      case rel => exact ⟨k + 1, by omega, by go_num, by rw [List.replicate_succ']; exact HO3.out, HF3.out⟩
      case measure => simp [intOf]; omega
    · have e : k = n := by omega
      subst e
      go_wp2_with fail
      go_ret
      exact ⟨u3, rfl, HO.out, HF.out⟩
end Go.Proofs.Ytphdnfilenkanaa
