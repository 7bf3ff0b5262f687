/- The document's coder (06): add. -/
import Derived.Test.YtnkdeedbgkcbfaaPrc3
import Derived.Test.YtnkdeedbgkcbfaaEncN
namespace Go.Proofs.Ytnkdeedbgkcbfaa
open Go.RowKit

theorem Own.setAt {w : World} {base : Nat} {k : IntKind} {e : TypeId} {v : Value} {xs : List Int} (h : Own w base k e v xs) {g : Nat} (hg : v.ownBlock = some g) (j : Nat) (x : Int) : Own (w.setCell ⟨g, j, none⟩ (.int k x)) base k e v (xs.set j x) := by
  obtain ⟨h1, h2⟩ := h
  refine ⟨by simp, ?_⟩
  rcases h2 with ⟨rfl, _⟩ | ⟨g', cap, cur, rfl, hb, hh, hn, hc, hs, ht⟩
  · simp [Value.ownBlock] at hg
  · have e : g' = g := by simpa [Value.ownBlock] using hg
    subst e
    refine .inr ⟨g', cap, cur.setIfInBounds j (.int k x), by rw [List.length_set], hb, blk_set hh, by rw [List.length_set]; exact hn, hc, by rw [Array.size_setIfInBounds]; exact hs, ?_⟩
    rw [List.length_set, Array.toList_setIfInBounds, List.take_set, ht, List.map_set]
theorem Own.cellAt {w : World} {base : Nat} {k : IntKind} {e : TypeId} {g n cap : Nat} {xs : List Int} (h : Own w base k e (.slice (some ⟨g, 0, none⟩) n cap) xs) {i : Nat} (hi : i < xs.length) :
    w.cell? ⟨g, i, none⟩ = some (.int k (xs.getD i 0)) ∧ w.frozen? ⟨g, i, none⟩ = false := by
  obtain ⟨h1, h2⟩ := h
  rcases h2 with ⟨h0, _⟩ | ⟨g', cap', cur, h0, hb, hh, hn, hc, hs, ht⟩
  · cases h0
  · have e : g' = g := by
      have := congrArg Value.ownBlock h0
      simpa [Value.ownBlock] using this.symm
    subst e
    refine ⟨blk_cell hh ?_, blk_frozen hh i⟩
    have e1 := map_getD k xs hi
    rw [← ht, List.getElem?_take_of_lt (by omega)] at e1
    simpa using e1
/-- the document's coder lies at block g; blocks of A are none of its. -/
structure EncV (A : Nat → Prop) (g : Nat) (w : World) (v : Value) (B : List Int) (r : Int) : Prop where
  at_ : w.heap[g]? = some (.cells #[v, .int .u64 r] 38)
  own : Own w 0 .u8 5 v B
  sep : ∀ k, v.ownBlock = some k → k ≠ g ∧ ¬ A k
  old : ∀ k, A k → k < w.heap.size
  not : ¬ A g
def EncIs (A : Nat → Prop) (g : Nat) (w : World) (V : Int) (L : Nat) (r : Int) : Prop := ∃ v B, EncV A g w v B r ∧ bytesL B ∧ B.length = L ∧ valL B = V
def EPost (A : Nat → Prop) (g : Nat) (w : World) (V : Int) (L : Nat) (r : Int) (e : Ending) (w' : World) : Prop := e = .returned (.tuple #[]) ∧ Fr (Out A) w w' ∧ EncIs A g w' V L r
theorem EncV.keep {A : Nat → Prop} {g : Nat} {w w' : World} {v : Value} {B : List Int} {r : Int} (h : EncV A g w v B r) {T : Nat → Prop} (hf : Fr T w w') (hg : ¬ T g) (ht : ∀ k, v.ownBlock = some k → ¬ T k) : EncV A g w' v B r :=
  ⟨hf.blk h.at_ hg, h.own.fr hf ht, h.sep, fun k hk => Nat.lt_of_lt_of_le (h.old k hk) hf.size, h.not⟩
theorem EncIs.keep {A : Nat → Prop} {g : Nat} {w w' : World} {V : Int} {L : Nat} {r : Int} (h : EncIs A g w V L r) {T : Nat → Prop} (hf : Fr T w w') (ht : ∀ k, k < w.heap.size → T k → A k) : EncIs A g w' V L r := by
  obtain ⟨v, B, hv, q⟩ := h
  have hf' : Fr (fun k => T k ∧ k < w.heap.size) w w' := hf.mono fun k hk e => ⟨e, hk⟩
  exact ⟨v, B, hv.keep hf' (fun e => hv.not (ht _ e.2 e.1)) (fun k hk e => (hv.sep k hk).2 (ht _ e.2 e.1)), q⟩
theorem EncIs.any {A : Nat → Prop} {g : Nat} {w w' : World} {V : Int} {L : Nat} {r : Int} (h : EncIs A g w V L r) (hf : Fr Non w w') : EncIs A g w' V L r := h.keep hf fun _ _ e => e.elim
/-- what is new is none of the coder's. -/
theorem EncIs.more {A : Nat → Prop} {g : Nat} {w w' : World} {V : Int} {L : Nat} {r : Int} (h : EncIs A g w V L r) {T : Nat → Prop} (hf : Fr T w w') (ht : ∀ k, k < w.heap.size → T k → A k) : EncIs (fun k => A k ∨ (w.heap.size ≤ k ∧ k < w'.heap.size)) g w' V L r := by
  obtain ⟨v, B, hv, q⟩ := h
  have hf' : Fr (fun k => T k ∧ k < w.heap.size) w w' := hf.mono fun k hk e => ⟨e, hk⟩
  have hk := hv.keep hf' (fun e => hv.not (ht _ e.2 e.1)) (fun k hk e => (hv.sep k hk).2 (ht _ e.2 e.1))
  refine ⟨v, B, ⟨hk.at_, hk.own, fun k e => ⟨(hv.sep k e).1, fun q => ?_⟩, fun k q => ?_, fun q => ?_⟩, q⟩
  · rcases q with q | q
    · exact (hv.sep k e).2 q
    · have := (hv.own.block k e).2; omega
  · rcases q with q | q
    · exact hk.old k q
    · exact q.2
  · rcases q with q | q
    · exact hv.not q
    · have := blk_lt hv.at_; omega
theorem EncIs.not {A : Nat → Prop} {g : Nat} {w : World} {V : Int} {L : Nat} {r : Int} (h : EncIs A g w V L r) : ¬ A g := by
  obtain ⟨v, B, hv, q⟩ := h
  exact hv.not
theorem enc_rng {A : Nat → Prop} {g : Nat} {w : World} {V : Int} {L : Nat} {r : Int} (h : EncIs A g w V L r) (x : Int) : EncIs A g (w.setCell ⟨g, 1, none⟩ (.int .u64 x)) V L x := by
  obtain ⟨v, B, hv, q⟩ := h
  exact ⟨v, B, ⟨blk_set (i := 1) hv.at_, hv.own.fr (S := fun k => k = g) ((Fr.refl _ _).setOne _ _) (fun k hk e => (hv.sep k hk).1 e), hv.sep, fun k hk => by have := hv.old k hk; simpa using this, hv.not⟩, q⟩
theorem EncV.setRng {A : Nat → Prop} {g : Nat} {w : World} {v : Value} {B : List Int} {r : Int} (hv : EncV A g w v B r) (x : Int) : EncV A g (w.setCell ⟨g, 1, none⟩ (.int .u64 x)) v B x :=
  ⟨blk_set (i := 1) hv.at_, hv.own.fr (S := fun k => k = g) ((Fr.refl _ _).setOne _ _) (fun k hk e => (hv.sep k hk).1 e), hv.sep, fun k hk => by have := hv.old k hk; simpa using this, hv.not⟩
theorem EncV.setAt {A : Nat → Prop} {g gb n cap : Nat} {w : World} {B : List Int} {r : Int} (h : EncV A g w (.slice (some ⟨gb, 0, none⟩) n cap) B r) (j : Nat) (x : Int) :
    EncV A g (w.setCell ⟨gb, j, none⟩ (.int .u8 x)) (.slice (some ⟨gb, 0, none⟩) n cap) (B.set j x) r := by
  have hs := h.sep gb rfl
  exact ⟨blk_set_ne h.at_ (fun e => hs.1 e.symm), h.own.setAt rfl j x, h.sep, fun k hk => by have := h.old k hk; simpa using this, h.not⟩

set_option maxRecDepth 100000 in
set_option maxHeartbeats 2000000 in
theorem eadd_any (A : Nat → Prop) (g : Nat) (V : Int) (L : Nat) (r x : Int) (w : World) (h : EncIs A g w V L r) (hL : 0 < L) (hL2 : L ≤ 1073741824) (hx0 : 0 ≤ x) (hx1 : x < 72057594037927936) (hlt : V + x < 256 ^ L) :
    Calls Try.prog 30 #[.pointer (some ⟨g, 0, none⟩), .int .u64 x] w (EPost A g w (V + x) L r) := by
  obtain ⟨v, B, hv, hby, hlen, hval⟩ := h
  obtain ⟨gb, cap, rfl⟩ : ∃ gb cap, v = .slice (some ⟨gb, 0, none⟩) L cap := by
    rcases hv.own.2 with ⟨_, h0⟩ | ⟨gb, cap, cur, rfl, _⟩
    · omega
    · exact ⟨gb, cap, by rw [hlen]⟩
  have HV := hid hv
  have Hby := hid hby
  have Hlt := hid hlt
  have HT0 := hid hval
  clear hv hby hlt hval
  go_enter Try.func30, Try.ntmps30
  have c0 := blk_cell HV.out.at_ (j := 0) (v := .slice (some ⟨gb, 0, none⟩) L cap) rfl
  go_wp2_with fail
  go_loopw [1, 4] (fun xv iv wr => ∃ (n : Nat) (y : Int) (B1 : List Int), n ≤ L ∧ iv = .int .i64 ((n : Int) - 1) ∧ xv = .int .u64 y ∧ 0 ≤ y ∧ y < 72057594037927936 ∧ EncV A g wr (.slice (some ⟨gb, 0, none⟩) L cap) B1 r ∧ bytesL B1 ∧ B1.length = L ∧ valL B1 + y * 256 ^ (L - n) = V + x ∧ Fr (Out A) w wr)
    (fun _ iv _ => (intOf iv + 1).toNat)
  case atStart =>
    exact ⟨L, x, B, Nat.le_refl _, rfl, rfl, hx0, hx1, HV.out, Hby.out, hlen, by rw [HT0.out, Nat.sub_self]; simp, Fr.refl _ _⟩
  case round =>
    obtain ⟨n, y, B1, hn, rfl, rfl, hy0, hy1, hv1, hb1, hl1, ht1, hf1⟩ := hrel
    by_cases hn0 : n = 0
    · subst hn0
      have hy : y = 0 := add_done (T := V + x) hb1 hy0 (by rw [hl1]; simpa using ht1) (by rw [hl1]; exact Hlt.out)
      subst hy
      have HE := hid (show EncIs A g wr (V + x) L r from ⟨_, B1, hv1, hb1, hl1, by rw [← ht1]; simp⟩)
      have HF1 := hid hf1
      clear hv1 hb1 ht1 hf1
      go_wp2_with fail
      go_end0
      exact ⟨rfl, HF1.out, HE.out⟩
    · obtain ⟨m, rfl⟩ := Nat.exists_eq_succ_of_ne_zero hn0
      by_cases hy : y = 0
      · subst hy
        have HE := hid (show EncIs A g wr (V + x) L r from ⟨_, B1, hv1, hb1, hl1, by rw [← ht1]; simp⟩)
        have HF1 := hid hf1
        clear hv1 hb1 ht1 hf1
        go_wp2_with fail
        go_end0
        exact ⟨rfl, HF1.out, HE.out⟩
      · have hyp : (0 : Int) < y := by omega
        have hbm := bytesL_getD hb1 m
        have c0 := blk_cell hv1.at_ (j := 0) (v := .slice (some ⟨gb, 0, none⟩) L cap) rfl
        obtain ⟨cm, fm⟩ := hv1.own.cellAt (i := m) (by omega)
        have HV1 := hid hv1
        have HB1 := hid hb1
        have HT1 := hid ht1
        have HF1 := hid hf1
        have hmi : ((m + 1 : Nat) : Int) - 1 = (m : Int) := by omega
        rw [show ((m.succ : Nat) : Int) - 1 = (m : Int) by omega]
        obtain ⟨b, hb⟩ : ∃ b, b = B1.getD m 0 := ⟨_, rfl⟩
        rw [← hb] at cm hbm
        have HBE := hid hb
        clear hv1 hb1 ht1 hf1 hb
        go_wp2_with fail
        refine ⟨⟨m, (y + b) / 256, B1.set m ((y + b) % 256), by omega, rfl, rfl, by omega, by omega, HV1.out.setAt m _, bytesL_set HB1.out m (by omega), by rw [List.length_set]; exact hl1, ?_, HF1.out.trans (Fr.setCell (p := ⟨gb, m, none⟩) (Fr.refl _ _) (fun _ => (HV1.out.sep gb rfl).2) _)⟩, by simp [intOf] <;> omega⟩
        have := add_step (l := B1) (n := m) (x := y) (T := V + x) (by omega) (by rw [hl1]; exact HT1.out)
        rw [← HBE.out, hl1] at this
        exact this

theorem enc_app {A : Nat → Prop} {g : Nat} {w W w2 : World} {v v2 : Value} {B xs : List Int} {r : Int} (h : EncV A g w v B r) (hf : Fr Non w W) (hg : W.grownBy w2 v.ownBlock) (ho : Own w2 0 .u8 5 v2 xs)
    (hb : v2.ownBlock = v.ownBlock ∨ v2.ownBlock = some W.heap.size) :
    EncV A g (w2.setCell ⟨g, 0, none⟩ v2) v2 xs r ∧ Fr (Out A) w (w2.setCell ⟨g, 0, none⟩ v2) := by
  have hgw := blk_lt h.at_
  have hne : v.ownBlock ≠ some g := fun e => (h.sep g e).1 rfl
  have hsz := hf.size
  have h1 : W.heap[g]? = some (.cells #[v, .int .u64 r] 38) := hf.blk h.at_ id
  have h2 := (Fr.grew hg).blk h1 hne
  have hs2 : ∀ k, v2.ownBlock = some k → k ≠ g ∧ ¬ A k := by
    intro k hk
    rcases hb with e | e
    · exact h.sep k (by rw [← e]; exact hk)
    · rw [e] at hk
      injection hk with hk
      subst hk
      exact ⟨by omega, fun q => by have := h.old _ q; omega⟩
  have hfr : Fr (Out A) w (w2.setCell ⟨g, 0, none⟩ v2) := by
    refine Fr.setCell (p := ⟨g, 0, none⟩) (Fr.then (hf.any (S := Out A)) (Fr.grew hg) fun i _ e => (h.sep i e).2) (fun _ => h.not) _
  refine ⟨⟨?_, ?_, hs2, ?_, h.not⟩, hfr⟩
  · exact blk_set (i := 0) h2
  · exact ho.fr (S := fun k => k = g) ((Fr.refl _ _).setOne _ _) (fun k hk e => (hs2 k hk).1 e)
  · intro k hk; exact Nat.lt_of_lt_of_le (h.old k hk) hfr.size
def rng64 (g : Nat) (w : World) : Nat := match w.cell? ⟨g, 1, none⟩ with | some (.int _ r) => 16777216 - r.toNat | _ => 0
theorem rng64_eq {A : Nat → Prop} {g : Nat} {w : World} {v : Value} {B : List Int} {r : Int} (h : EncV A g w v B r) : rng64 g w = 16777216 - r.toNat := by
  unfold rng64
  rw [blk_cell h.at_ (j := 1) (v := .int .u64 r) rfl]
theorem pow_few {k : Nat} {r : Int} (hr : 1 ≤ r) (h : 256 ^ k * r < 16777216) : k < 3 := by
  refine Nat.lt_of_not_le fun hk => ?_
  obtain ⟨d, rfl⟩ := Nat.exists_eq_add_of_le hk
  have hp := pow_pos256 d
  rw [Int.pow_add, show (256 : Int) ^ 3 = 16777216 by decide, Int.mul_assoc] at h
  have : 1 * 1 ≤ 256 ^ d * r := Int.mul_le_mul hp hr (by omega) (by omega)
  omega

end Go.Proofs.Ytnkdeedbgkcbfaa
