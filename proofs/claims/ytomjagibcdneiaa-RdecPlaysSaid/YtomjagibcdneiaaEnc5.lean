/- The document's coder (05): add, level. -/
import Derived.Test.YtomjagibcdneiaaRenc5
import Derived.Test.YtomjagibcdneiaaEncN
namespace Go.Proofs.Ytomjagibcdneiaa
open Go.RowKit

theorem Own.setAt {w : World} {base : Nat} {k : IntKind} {e : TypeId} {v : Value} {xs : List Int} (h : Own w base k e v xs) {g : Nat} (hg : v.ownBlock = some g) (j : Nat) (x : Int) : Own (w.setCell ⟨g, j, none⟩ (.int k x)) base k e v (xs.set j x) := by
  obtain ⟨h1, h2⟩ := h
  refine ⟨by simp, ?_⟩
  rcases h2 with ⟨rfl, _⟩ | ⟨g', cap, cur, rfl, hb, hh, hn, hc, hs, ht⟩
  · simp [Value.ownBlock] at hg
  · have e : g' = g := by simpa [Value.ownBlock] using hg
    subst e
    refine .inr ⟨g', cap, cur.setIfInBounds j (.int k x), by rw [List.length_set], hb, blk_set hh, by rw [List.length_set]; exact hn, hc, by rw [Array.size_setIfInBounds]; exact hs, ?_⟩
    rw [List.length_set, Array.toList_setIfInBounds, List.take_set, ht, List.map_set]
theorem Own.cellAt {w : World} {base : Nat} {k : IntKind} {e : TypeId} {g n cap : Nat} {xs : List Int} (h : Own w base k e (.slice (some ⟨g, 0, none⟩) n cap) xs) {i : Nat} (hi : i < xs.length) :
    w.cell? ⟨g, i, none⟩ = some (.int k (xs.getD i 0)) ∧ w.frozen? ⟨g, i, none⟩ = false := by
  obtain ⟨h1, h2⟩ := h
  rcases h2 with ⟨h0, _⟩ | ⟨g', cap', cur, h0, hb, hh, hn, hc, hs, ht⟩
  · cases h0
  · have e : g' = g := by
      have := congrArg Value.ownBlock h0
      simpa [Value.ownBlock] using this.symm
    subst e
    refine ⟨blk_cell hh ?_, blk_frozen hh i⟩
    have e1 := map_getD k xs hi
    rw [← ht, List.getElem?_take_of_lt (by omega)] at e1
    simpa using e1
/-- the document's coder lies at block g; blocks of A are none of its. -/
structure EncV (A : Nat → Prop) (g : Nat) (w : World) (v : Value) (B : List Int) (r : Int) : Prop where
  at_ : w.heap[g]? = some (.cells #[v, .int .u64 r] 45)
  own : Own w 0 .u8 5 v B
  sep : ∀ k, v.ownBlock = some k → k ≠ g ∧ ¬ A k
  old : ∀ k, A k → k < w.heap.size
  not : ¬ A g
def EncIs (A : Nat → Prop) (g : Nat) (w : World) (V : Int) (L : Nat) (r : Int) : Prop := ∃ v B, EncV A g w v B r ∧ bytesL B ∧ B.length = L ∧ valL B = V
def EPost (A : Nat → Prop) (g : Nat) (w : World) (V : Int) (L : Nat) (r : Int) (e : Ending) (w' : World) : Prop := e = .returned (.tuple #[]) ∧ Fr (Out A) w w' ∧ EncIs A g w' V L r
theorem EncV.keep {A : Nat → Prop} {g : Nat} {w w' : World} {v : Value} {B : List Int} {r : Int} (h : EncV A g w v B r) {T : Nat → Prop} (hf : Fr T w w') (hg : ¬ T g) (ht : ∀ k, v.ownBlock = some k → ¬ T k) : EncV A g w' v B r :=
  ⟨hf.blk h.at_ hg, h.own.fr hf ht, h.sep, fun k hk => Nat.lt_of_lt_of_le (h.old k hk) hf.size, h.not⟩
theorem EncIs.keep {A : Nat → Prop} {g : Nat} {w w' : World} {V : Int} {L : Nat} {r : Int} (h : EncIs A g w V L r) {T : Nat → Prop} (hf : Fr T w w') (ht : ∀ k, k < w.heap.size → T k → A k) : EncIs A g w' V L r := by
  obtain ⟨v, B, hv, q⟩ := h
  have hf' : Fr (fun k => T k ∧ k < w.heap.size) w w' := hf.mono fun k hk e => ⟨e, hk⟩
  exact ⟨v, B, hv.keep hf' (fun e => hv.not (ht _ e.2 e.1)) (fun k hk e => (hv.sep k hk).2 (ht _ e.2 e.1)), q⟩
theorem EncIs.any {A : Nat → Prop} {g : Nat} {w w' : World} {V : Int} {L : Nat} {r : Int} (h : EncIs A g w V L r) (hf : Fr Non w w') : EncIs A g w' V L r := h.keep hf fun _ _ e => e.elim
/-- what is new is none of the coder's. -/
theorem EncIs.more {A : Nat → Prop} {g : Nat} {w w' : World} {V : Int} {L : Nat} {r : Int} (h : EncIs A g w V L r) {T : Nat → Prop} (hf : Fr T w w') (ht : ∀ k, k < w.heap.size → T k → A k) : EncIs (fun k => A k ∨ (w.heap.size ≤ k ∧ k < w'.heap.size)) g w' V L r := by
  obtain ⟨v, B, hv, q⟩ := h
  have hf' : Fr (fun k => T k ∧ k < w.heap.size) w w' := hf.mono fun k hk e => ⟨e, hk⟩
  have hk := hv.keep hf' (fun e => hv.not (ht _ e.2 e.1)) (fun k hk e => (hv.sep k hk).2 (ht _ e.2 e.1))
  refine ⟨v, B, ⟨hk.at_, hk.own, fun k e => ⟨(hv.sep k e).1, fun q => ?_⟩, fun k q => ?_, fun q => ?_⟩, q⟩
  · rcases q with q | q
    · exact (hv.sep k e).2 q
    · have := (hv.own.block k e).2; omega
  · rcases q with q | q
    · exact hk.old k q
    · exact q.2
  · rcases q with q | q
    · exact hv.not q
    · have := blk_lt hv.at_; omega
theorem EncIs.not {A : Nat → Prop} {g : Nat} {w : World} {V : Int} {L : Nat} {r : Int} (h : EncIs A g w V L r) : ¬ A g := by
  obtain ⟨v, B, hv, q⟩ := h
  exact hv.not
theorem enc_rng {A : Nat → Prop} {g : Nat} {w : World} {V : Int} {L : Nat} {r : Int} (h : EncIs A g w V L r) (x : Int) : EncIs A g (w.setCell ⟨g, 1, none⟩ (.int .u64 x)) V L x := by
  obtain ⟨v, B, hv, q⟩ := h
  exact ⟨v, B, ⟨blk_set (i := 1) hv.at_, hv.own.fr (S := fun k => k = g) ((Fr.refl _ _).setOne _ _) (fun k hk e => (hv.sep k hk).1 e), hv.sep, fun k hk => by have := hv.old k hk; simpa using this, hv.not⟩, q⟩
theorem EncV.setRng {A : Nat → Prop} {g : Nat} {w : World} {v : Value} {B : List Int} {r : Int} (hv : EncV A g w v B r) (x : Int) : EncV A g (w.setCell ⟨g, 1, none⟩ (.int .u64 x)) v B x :=
  ⟨blk_set (i := 1) hv.at_, hv.own.fr (S := fun k => k = g) ((Fr.refl _ _).setOne _ _) (fun k hk e => (hv.sep k hk).1 e), hv.sep, fun k hk => by have := hv.old k hk; simpa using this, hv.not⟩
theorem EncV.setAt {A : Nat → Prop} {g gb n cap : Nat} {w : World} {B : List Int} {r : Int} (h : EncV A g w (.slice (some ⟨gb, 0, none⟩) n cap) B r) (j : Nat) (x : Int) :
    EncV A g (w.setCell ⟨gb, j, none⟩ (.int .u8 x)) (.slice (some ⟨gb, 0, none⟩) n cap) (B.set j x) r := by
  have hs := h.sep gb rfl
  exact ⟨blk_set_ne h.at_ (fun e => hs.1 e.symm), h.own.setAt rfl j x, h.sep, fun k hk => by have := h.old k hk; simpa using this, h.not⟩

set_option maxRecDepth 100000 in
set_option maxHeartbeats 2000000 in
theorem eadd_any (A : Nat → Prop) (g : Nat) (V : Int) (L : Nat) (r x : Int) (w : World) (h : EncIs A g w V L r) (hL : 0 < L) (hL2 : L ≤ 1073741824) (hx0 : 0 ≤ x) (hx1 : x < 72057594037927936) (hlt : V + x < 256 ^ L) :
    Calls Try.prog 43 #[.pointer (some ⟨g, 0, none⟩), .int .u64 x] w (EPost A g w (V + x) L r) := by
  obtain ⟨v, B, hv, hby, hlen, hval⟩ := h
  obtain ⟨gb, cap, rfl⟩ : ∃ gb cap, v = .slice (some ⟨gb, 0, none⟩) L cap := by
    rcases hv.own.2 with ⟨_, h0⟩ | ⟨gb, cap, cur, rfl, _⟩
    · omega
    · exact ⟨gb, cap, by rw [hlen]⟩
  have HV := hid hv
  have Hby := hid hby
  have Hlt := hid hlt
  have HT0 := hid hval
  clear hv hby hlt hval
  go_enter Try.func43, Try.ntmps43
  have c0 := blk_cell HV.out.at_ (j := 0) (v := .slice (some ⟨gb, 0, none⟩) L cap) rfl
  go_wp2_with fail
  go_loopw [1, 4] (fun xv iv wr => ∃ (n : Nat) (y : Int) (B1 : List Int), n ≤ L ∧ iv = .int .i64 ((n : Int) - 1) ∧ xv = .int .u64 y ∧ 0 ≤ y ∧ y < 72057594037927936 ∧ EncV A g wr (.slice (some ⟨gb, 0, none⟩) L cap) B1 r ∧ bytesL B1 ∧ B1.length = L ∧ valL B1 + y * 256 ^ (L - n) = V + x ∧ Fr (Out A) w wr)
    (fun _ iv _ => (intOf iv + 1).toNat)
  case atStart =>
    exact ⟨L, x, B, Nat.le_refl _, rfl, rfl, hx0, hx1, HV.out, Hby.out, hlen, by rw [HT0.out, Nat.sub_self]; simp, Fr.refl _ _⟩
  case round =>
    obtain ⟨n, y, B1, hn, rfl, rfl, hy0, hy1, hv1, hb1, hl1, ht1, hf1⟩ := hrel
    by_cases hn0 : n = 0
    · subst hn0
      have hy : y = 0 := add_done (T := V + x) hb1 hy0 (by rw [hl1]; simpa using ht1) (by rw [hl1]; exact Hlt.out)
      subst hy
      have HE := hid (show EncIs A g wr (V + x) L r from ⟨_, B1, hv1, hb1, hl1, by rw [← ht1]; simp⟩)
      have HF1 := hid hf1
      clear hv1 hb1 ht1 hf1
      go_wp2_with fail
      go_end0
      exact ⟨rfl, HF1.out, HE.out⟩
    · obtain ⟨m, rfl⟩ := Nat.exists_eq_succ_of_ne_zero hn0
      by_cases hy : y = 0
      · subst hy
        have HE := hid (show EncIs A g wr (V + x) L r from ⟨_, B1, hv1, hb1, hl1, by rw [← ht1]; simp⟩)
        have HF1 := hid hf1
        clear hv1 hb1 ht1 hf1
        go_wp2_with fail
        go_end0
        exact ⟨rfl, HF1.out, HE.out⟩
      · have hyp : (0 : Int) < y := by omega
        have hbm := bytesL_getD hb1 m
        have c0 := blk_cell hv1.at_ (j := 0) (v := .slice (some ⟨gb, 0, none⟩) L cap) rfl
        obtain ⟨cm, fm⟩ := hv1.own.cellAt (i := m) (by omega)
        have HV1 := hid hv1
        have HB1 := hid hb1
        have HT1 := hid ht1
        have HF1 := hid hf1
        have hmi : ((m + 1 : Nat) : Int) - 1 = (m : Int) := by omega
        rw [show ((m.succ : Nat) : Int) - 1 = (m : Int) by omega]
        obtain ⟨b, hb⟩ : ∃ b, b = B1.getD m 0 := ⟨_, rfl⟩
        rw [← hb] at cm hbm
        have HBE := hid hb
        clear hv1 hb1 ht1 hf1 hb
        go_wp2_with fail
        refine ⟨⟨m, (y + b) / 256, B1.set m ((y + b) % 256), by omega, rfl, rfl, by omega, by omega, HV1.out.setAt m _, bytesL_set HB1.out m (by omega), by rw [List.length_set]; exact hl1, ?_, HF1.out.trans (Fr.setCell (p := ⟨gb, m, none⟩) (Fr.refl _ _) (fun _ => (HV1.out.sep gb rfl).2) _)⟩, by simp [intOf] <;> omega⟩
        have := add_step (l := B1) (n := m) (x := y) (T := V + x) (by omega) (by rw [hl1]; exact HT1.out)
        rw [← HBE.out, hl1] at this
        exact this

theorem enc_app {A : Nat → Prop} {g : Nat} {w W w2 : World} {v v2 : Value} {B xs : List Int} {r : Int} (h : EncV A g w v B r) (hf : Fr Non w W) (hg : W.grownBy w2 v.ownBlock) (ho : Own w2 0 .u8 5 v2 xs)
    (hb : v2.ownBlock = v.ownBlock ∨ v2.ownBlock = some W.heap.size) :
    EncV A g (w2.setCell ⟨g, 0, none⟩ v2) v2 xs r ∧ Fr (Out A) w (w2.setCell ⟨g, 0, none⟩ v2) := by
  have hgw := blk_lt h.at_
  have hne : v.ownBlock ≠ some g := fun e => (h.sep g e).1 rfl
  have hsz := hf.size
  have h1 : W.heap[g]? = some (.cells #[v, .int .u64 r] 45) := hf.blk h.at_ id
  have h2 := (Fr.grew hg).blk h1 hne
  have hs2 : ∀ k, v2.ownBlock = some k → k ≠ g ∧ ¬ A k := by
    intro k hk
    rcases hb with e | e
    · exact h.sep k (by rw [← e]; exact hk)
    · rw [e] at hk
      injection hk with hk
      subst hk
      exact ⟨by omega, fun q => by have := h.old _ q; omega⟩
  have hfr : Fr (Out A) w (w2.setCell ⟨g, 0, none⟩ v2) := by
    refine Fr.setCell (p := ⟨g, 0, none⟩) (Fr.then (hf.any (S := Out A)) (Fr.grew hg) fun i _ e => (h.sep i e).2) (fun _ => h.not) _
  refine ⟨⟨?_, ?_, hs2, ?_, h.not⟩, hfr⟩
  · exact blk_set (i := 0) h2
  · exact ho.fr (S := fun k => k = g) ((Fr.refl _ _).setOne _ _) (fun k hk e => (hs2 k hk).1 e)
  · intro k hk; exact Nat.lt_of_lt_of_le (h.old k hk) hfr.size
def rng64 (g : Nat) (w : World) : Nat := match w.cell? ⟨g, 1, none⟩ with | some (.int _ r) => 16777216 - r.toNat | _ => 0
theorem rng64_eq {A : Nat → Prop} {g : Nat} {w : World} {v : Value} {B : List Int} {r : Int} (h : EncV A g w v B r) : rng64 g w = 16777216 - r.toNat := by
  unfold rng64
  rw [blk_cell h.at_ (j := 1) (v := .int .u64 r) rfl]
def LevPost (A : Nat → Prop) (g : Nat) (w : World) (V : Int) (L : Nat) (r : Int) (e : Ending) (w' : World) : Prop :=
  e = .returned (.tuple #[]) ∧ Fr (Out A) w w' ∧ ∃ k : Nat, EncIs A g w' (256 ^ k * V) (L + k) (256 ^ k * r) ∧ 16777216 ≤ 256 ^ k * r ∧ 256 ^ k * r < 4294967296
theorem pow_few {k : Nat} {r : Int} (hr : 1 ≤ r) (h : 256 ^ k * r < 16777216) : k < 3 := by
  refine Nat.lt_of_not_le fun hk => ?_
  obtain ⟨d, rfl⟩ := Nat.exists_eq_add_of_le hk
  have hp := pow_pos256 d
  rw [Int.pow_add, show (256 : Int) ^ 3 = 16777216 by decide, Int.mul_assoc] at h
  have : 1 * 1 ≤ 256 ^ d * r := Int.mul_le_mul hp hr (by omega) (by omega)
  omega

set_option maxRecDepth 100000 in
set_option maxHeartbeats 2000000 in
theorem elevel_any (A : Nat → Prop) (g : Nat) (V : Int) (L : Nat) (r : Int) (w : World) (h : EncIs A g w V L r) (hL2 : L ≤ 1073741820) (h1 : 1 ≤ r) (h2 : r < 4294967296) :
    Calls Try.prog 44 #[.pointer (some ⟨g, 0, none⟩)] w (LevPost A g w V L r) := by
  have H := hid h
  clear h
  go_enter Try.func44, Try.ntmps44
  go_wp2_with fail
  go_loopw [] (fun wr => ∃ k : Nat, k ≤ 3 ∧ Fr (Out A) w wr ∧ EncIs A g wr (256 ^ k * V) (L + k) (256 ^ k * r) ∧ 256 ^ k * r < 4294967296) (fun wr => rng64 g wr)
  case atStart => exact ⟨0, by omega, Fr.refl _ _, by simpa using H.out, by simpa using h2⟩
  case round =>
    obtain ⟨k, hk, hfr, ⟨v, B, hv, hby, hlen, hval⟩, hlt⟩ := hrel
    obtain ⟨x, hx⟩ : ∃ x, x = 256 ^ k * r := ⟨_, rfl⟩
    rw [← hx] at hlt hv
    have k0 := blk_cell hv.at_ (j := 0) (v := v) rfl
    have k1 := blk_cell hv.at_ (j := 1) (v := .int .u64 x) rfl
    have g1 := blk_frozen hv.at_ 1
    have HV := hid hv
    have HFR := hid hfr
    have HBY := hid hby
    have HVAL := hid hval
    have HX := hid hx
    have hx0 : 1 * 1 ≤ x := by rw [hx]; exact Int.mul_le_mul (pow_pos256 k) h1 (by omega) (by have := pow_pos256 k; omega)
    clear hv hfr hby hval hx
    by_cases hlt2 : x < 16777216
    · have hk2 : k < 3 := pow_few h1 (by rw [← HX.out]; exact hlt2)
      have HV2 := hid (HV.out.setRng (x * 256))
      have cn := cell_new1 (wr.setCell ⟨g, 1, none⟩ (.int .u64 (x * 256))) (.int .u8 0) 5
      rw [show (wr.setCell ⟨g, 1, none⟩ (.int .u64 (x * 256))).heap.size = wr.heap.size by simp] at cn
      have HCN := hid cn
      clear cn
      go_upto_region 2 with fail
      go_wp2_with (refine opGrow1 (some 21) rfl rfl (.tmp 19) (.tmp 20) 42 rfl .u8 5 1 Try.underlying42 Try.info_u8 v B rfl (by exact Own.alloc HV2.out.own _) _ _ _ rfl (by exact HCN.out) (by decide) (by omega) ?_; intro v3 w3 hown3 hg3 hb3; obtain ⟨a3, cap3, hv3, _, _, _⟩ := hown3.rowN (n := L + k + 1) (by simp [hlen]); subst hv3; obtain ⟨hc3, hf3⟩ := enc_app HV2.out ((Fr.refl Non _).alloc _) hg3 hown3 hb3; have g4 : w3.frozen? ⟨g, 0, none⟩ = false := blk_frozen ((Fr.grew hg3).blk (by exact blk_alloc HV2.out.at_) (fun e => (HV2.out.sep g e).1 rfl)) 0; have k5 : w3.cell? ⟨g, 0, none⟩ = some v := blk_cell ((Fr.grew hg3).blk (by exact blk_alloc HV2.out.at_) (fun e => (HV2.out.sep g e).1 rfl)) rfl; have HC3 := hid hc3; have HF3 := hid hf3; clear hown3 hg3 hb3 hc3 hf3)
      obtain ⟨v4, hv4⟩ : ∃ v4, v4 = Value.slice a3 (L + k + 1) cap3 := ⟨_, rfl⟩
      rw [← hv4] at HC3 HF3 ⊢
      go_roundw
      case rel =>
        have e4 : (256 : Int) ^ (k + 1) * r = x * 256 := by rw [HX.out, Int.pow_succ, Int.mul_assoc, Int.mul_comm 256 r, Int.mul_assoc]
        refine ⟨k + 1, by omega, HFR.out.trans ((Fr.setCell (p := ⟨g, 1, none⟩) (Fr.refl _ _) (fun _ => HV.out.not) _).trans HF3.out), ⟨v4, B ++ [0], ?_, bytesL_snoc HBY.out, by rw [List.length_append, hlen]; rfl, ?_⟩, by rw [e4]; omega⟩
        · rw [e4]; exact HC3.out
        · rw [valL_snoc, HVAL.out, Int.pow_succ]
          generalize (256 : Int) ^ k = P
          have e : P * 256 * V = P * V * 256 := by rw [Int.mul_assoc, Int.mul_comm 256 V, ← Int.mul_assoc]
          omega
      case measure =>
        rw [rng64_eq HC3.out, rng64_eq HV.out]
        omega
    · have HE := hid (show EncIs A g wr (256 ^ k * V) (L + k) x from ⟨v, B, HV.out, HBY.out, hlen, HVAL.out⟩)
      go_wp2_with fail
      go_end0
      exact ⟨rfl, HFR.out, k, by rw [← HX.out]; exact HE.out, by rw [← HX.out]; omega, by rw [← HX.out]; exact hlt⟩
end Go.Proofs.Ytomjagibcdneiaa
