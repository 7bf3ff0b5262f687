/- Texts of this proof, one behind the other. -/
import Derived.Test.YtjnegcambbeblaaMg03
import Derived.Test.YtjnegcambbeblaaMg02
import Derived.Test.YtjnegcambbeblaaMg01
import Derived.Deep.RegionLaw
import Derived.Laws.LoneSync
import Derived.BigQuiet
import Derived.Deep.QuietTactic
import Derived.BigRegion
import Derived.Laws.ResultCell
import Derived.Deep.RegionHeld3
import Derived.Deep.RegionWith
import Derived.Deep.CutBlock
import Derived.Deep.DeepCutAuto
import Derived.StillTailTactics

/- The document's coder (05): add, level. -/
namespace Go.Proofs.Ytjnegcambbeblaa
open Go.RowKit

theorem Own.setAt {w : World} {base : Nat} {k : IntKind} {e : TypeId} {v : Value} {xs : List Int} (h : Own w base k e v xs) {g : Nat} (hg : v.ownBlock = some g) (j : Nat) (x : Int) : Own (w.setCell ⟨g, j, none⟩ (.int k x)) base k e v (xs.set j x) := by
  obtain ⟨h1, h2⟩ := h
  refine ⟨by simp, ?_⟩
  rcases h2 with ⟨rfl, _⟩ | ⟨g', cap, cur, rfl, hb, hh, hn, hc, hs, ht⟩
  · simp [Value.ownBlock] at hg
  · have e : g' = g := by simpa [Value.ownBlock] using hg
    subst e
    refine .inr ⟨g', cap, cur.setIfInBounds j (.int k x), by rw [List.length_set], hb, blk_set hh, by rw [List.length_set]; exact hn, hc, by rw [Array.size_setIfInBounds]; exact hs, ?_⟩
    rw [List.length_set, Array.toList_setIfInBounds, List.take_set, ht, List.map_set]
theorem Own.cellAt {w : World} {base : Nat} {k : IntKind} {e : TypeId} {g n cap : Nat} {xs : List Int} (h : Own w base k e (.slice (some ⟨g, 0, none⟩) n cap) xs) {i : Nat} (hi : i < xs.length) :
    w.cell? ⟨g, i, none⟩ = some (.int k (xs.getD i 0)) ∧ w.frozen? ⟨g, i, none⟩ = false := by
  obtain ⟨h1, h2⟩ := h
  rcases h2 with ⟨h0, _⟩ | ⟨g', cap', cur, h0, hb, hh, hn, hc, hs, ht⟩
  · cases h0
  · have e : g' = g := by
      have := congrArg Value.ownBlock h0
      simpa [Value.ownBlock] using this.symm
    subst e
    refine ⟨blk_cell hh ?_, blk_frozen hh i⟩
    have e1 := map_getD k xs hi
    rw [← ht, List.getElem?_take_of_lt (by omega)] at e1
    simpa using e1
/-- the document's coder lies at block g; blocks of A are none of its. -/
structure EncV (A : Nat → Prop) (g : Nat) (w : World) (v : Value) (B : List Int) (r : Int) : Prop where
  at_ : w.heap[g]? = some (.cells #[v, .int .u64 r] 90)
  own : Own w 0 .u8 5 v B
  sep : ∀ k, v.ownBlock = some k → k ≠ g ∧ ¬ A k
  old : ∀ k, A k → k < w.heap.size
  not : ¬ A g
def EncIs (A : Nat → Prop) (g : Nat) (w : World) (V : Int) (L : Nat) (r : Int) : Prop := ∃ v B, EncV A g w v B r ∧ bytesL B ∧ B.length = L ∧ valL B = V
def EPost (A : Nat → Prop) (g : Nat) (w : World) (V : Int) (L : Nat) (r : Int) (e : Ending) (w' : World) : Prop := e = .returned (.tuple #[]) ∧ Fr (Out A) w w' ∧ EncIs A g w' V L r
theorem EncV.keep {A : Nat → Prop} {g : Nat} {w w' : World} {v : Value} {B : List Int} {r : Int} (h : EncV A g w v B r) {T : Nat → Prop} (hf : Fr T w w') (hg : ¬ T g) (ht : ∀ k, v.ownBlock = some k → ¬ T k) : EncV A g w' v B r :=
  ⟨hf.blk h.at_ hg, h.own.fr hf ht, h.sep, fun k hk => Nat.lt_of_lt_of_le (h.old k hk) hf.size, h.not⟩
theorem EncIs.keep {A : Nat → Prop} {g : Nat} {w w' : World} {V : Int} {L : Nat} {r : Int} (h : EncIs A g w V L r) {T : Nat → Prop} (hf : Fr T w w') (ht : ∀ k, k < w.heap.size → T k → A k) : EncIs A g w' V L r := by
  obtain ⟨v, B, hv, q⟩ := h
  have hf' : Fr (fun k => T k ∧ k < w.heap.size) w w' := hf.mono fun k hk e => ⟨e, hk⟩
  exact ⟨v, B, hv.keep hf' (fun e => hv.not (ht _ e.2 e.1)) (fun k hk e => (hv.sep k hk).2 (ht _ e.2 e.1)), q⟩
theorem EncIs.any {A : Nat → Prop} {g : Nat} {w w' : World} {V : Int} {L : Nat} {r : Int} (h : EncIs A g w V L r) (hf : Fr Non w w') : EncIs A g w' V L r := h.keep hf fun _ _ e => e.elim
/-- what is new is none of the coder's. -/
theorem EncIs.more {A : Nat → Prop} {g : Nat} {w w' : World} {V : Int} {L : Nat} {r : Int} (h : EncIs A g w V L r) {T : Nat → Prop} (hf : Fr T w w') (ht : ∀ k, k < w.heap.size → T k → A k) : EncIs (fun k => A k ∨ (w.heap.size ≤ k ∧ k < w'.heap.size)) g w' V L r := by
  obtain ⟨v, B, hv, q⟩ := h
  have hf' : Fr (fun k => T k ∧ k < w.heap.size) w w' := hf.mono fun k hk e => ⟨e, hk⟩
  have hk := hv.keep hf' (fun e => hv.not (ht _ e.2 e.1)) (fun k hk e => (hv.sep k hk).2 (ht _ e.2 e.1))
  refine ⟨v, B, ⟨hk.at_, hk.own, fun k e => ⟨(hv.sep k e).1, fun q => ?_⟩, fun k q => ?_, fun q => ?_⟩, q⟩
  · rcases q with q | q
    · exact (hv.sep k e).2 q
    · have := (hv.own.block k e).2; omega
  · rcases q with q | q
    · exact hk.old k q
    · exact q.2
  · rcases q with q | q
    · exact hv.not q
    · have := blk_lt hv.at_; omega
theorem EncIs.not {A : Nat → Prop} {g : Nat} {w : World} {V : Int} {L : Nat} {r : Int} (h : EncIs A g w V L r) : ¬ A g := by
  obtain ⟨v, B, hv, q⟩ := h
  exact hv.not
theorem enc_rng {A : Nat → Prop} {g : Nat} {w : World} {V : Int} {L : Nat} {r : Int} (h : EncIs A g w V L r) (x : Int) : EncIs A g (w.setCell ⟨g, 1, none⟩ (.int .u64 x)) V L x := by
  obtain ⟨v, B, hv, q⟩ := h
  exact ⟨v, B, ⟨blk_set (i := 1) hv.at_, hv.own.fr (S := fun k => k = g) ((Fr.refl _ _).setOne _ _) (fun k hk e => (hv.sep k hk).1 e), hv.sep, fun k hk => by have := hv.old k hk; simpa using this, hv.not⟩, q⟩
theorem EncV.setRng {A : Nat → Prop} {g : Nat} {w : World} {v : Value} {B : List Int} {r : Int} (hv : EncV A g w v B r) (x : Int) : EncV A g (w.setCell ⟨g, 1, none⟩ (.int .u64 x)) v B x :=
  ⟨blk_set (i := 1) hv.at_, hv.own.fr (S := fun k => k = g) ((Fr.refl _ _).setOne _ _) (fun k hk e => (hv.sep k hk).1 e), hv.sep, fun k hk => by have := hv.old k hk; simpa using this, hv.not⟩
theorem EncV.setAt {A : Nat → Prop} {g gb n cap : Nat} {w : World} {B : List Int} {r : Int} (h : EncV A g w (.slice (some ⟨gb, 0, none⟩) n cap) B r) (j : Nat) (x : Int) :
    EncV A g (w.setCell ⟨gb, j, none⟩ (.int .u8 x)) (.slice (some ⟨gb, 0, none⟩) n cap) (B.set j x) r := by
  have hs := h.sep gb rfl
  exact ⟨blk_set_ne h.at_ (fun e => hs.1 e.symm), h.own.setAt rfl j x, h.sep, fun k hk => by have := h.old k hk; simpa using this, h.not⟩

set_option maxRecDepth 100000 in
set_option maxHeartbeats 2000000 in
theorem eadd_any (A : Nat → Prop) (g : Nat) (V : Int) (L : Nat) (r x : Int) (w : World) (h : EncIs A g w V L r) (hL : 0 < L) (hL2 : L ≤ 1073741824) (hx0 : 0 ≤ x) (hx1 : x < 72057594037927936) (hlt : V + x < 256 ^ L) :
    Calls Try.prog 134 #[.pointer (some ⟨g, 0, none⟩), .int .u64 x] w (EPost A g w (V + x) L r) := by
  obtain ⟨v, B, hv, hby, hlen, hval⟩ := h
  obtain ⟨gb, cap, rfl⟩ : ∃ gb cap, v = .slice (some ⟨gb, 0, none⟩) L cap := by
    rcases hv.own.2 with ⟨_, h0⟩ | ⟨gb, cap, cur, rfl, _⟩
    · omega
    · exact ⟨gb, cap, by rw [hlen]⟩
  have HV := hid hv
  have Hby := hid hby
  have Hlt := hid hlt
  have HT0 := hid hval
  clear hv hby hlt hval
  go_enter Try.func134, Try.ntmps134
  have c0 := blk_cell HV.out.at_ (j := 0) (v := .slice (some ⟨gb, 0, none⟩) L cap) rfl
  go_wp2_with fail
  go_loopw [1, 4] (fun xv iv wr => ∃ (n : Nat) (y : Int) (B1 : List Int), n ≤ L ∧ iv = .int .i64 ((n : Int) - 1) ∧ xv = .int .u64 y ∧ 0 ≤ y ∧ y < 72057594037927936 ∧ EncV A g wr (.slice (some ⟨gb, 0, none⟩) L cap) B1 r ∧ bytesL B1 ∧ B1.length = L ∧ valL B1 + y * 256 ^ (L - n) = V + x ∧ Fr (Out A) w wr)
    (fun _ iv _ => (intOf iv + 1).toNat)
  case atStart =>
    exact ⟨L, x, B, Nat.le_refl _, rfl, rfl, hx0, hx1, HV.out, Hby.out, hlen, by rw [HT0.out, Nat.sub_self]; simp, Fr.refl _ _⟩
  case round =>
    obtain ⟨n, y, B1, hn, rfl, rfl, hy0, hy1, hv1, hb1, hl1, ht1, hf1⟩ := hrel
    by_cases hn0 : n = 0
    · subst hn0
      have hy : y = 0 := add_done (T := V + x) hb1 hy0 (by rw [hl1]; simpa using ht1) (by rw [hl1]; exact Hlt.out)
      subst hy
      have HE := hid (show EncIs A g wr (V + x) L r from ⟨_, B1, hv1, hb1, hl1, by rw [← ht1]; simp⟩)
      have HF1 := hid hf1
      clear hv1 hb1 ht1 hf1
      go_wp2_with fail
      go_end0
      exact ⟨rfl, HF1.out, HE.out⟩
    · obtain ⟨m, rfl⟩ := Nat.exists_eq_succ_of_ne_zero hn0
      by_cases hy : y = 0
      · subst hy
        have HE := hid (show EncIs A g wr (V + x) L r from ⟨_, B1, hv1, hb1, hl1, by rw [← ht1]; simp⟩)
        have HF1 := hid hf1
        clear hv1 hb1 ht1 hf1
        go_wp2_with fail
        go_end0
        exact ⟨rfl, HF1.out, HE.out⟩
      · have hyp : (0 : Int) < y := by omega
        have hbm := bytesL_getD hb1 m
        have c0 := blk_cell hv1.at_ (j := 0) (v := .slice (some ⟨gb, 0, none⟩) L cap) rfl
        obtain ⟨cm, fm⟩ := hv1.own.cellAt (i := m) (by omega)
        have HV1 := hid hv1
        have HB1 := hid hb1
        have HT1 := hid ht1
        have HF1 := hid hf1
        have hmi : ((m + 1 : Nat) : Int) - 1 = (m : Int) := by omega
        rw [show ((m.succ : Nat) : Int) - 1 = (m : Int) by omega]
        obtain ⟨b, hb⟩ : ∃ b, b = B1.getD m 0 := ⟨_, rfl⟩
        rw [← hb] at cm hbm
        have HBE := hid hb
        clear hv1 hb1 ht1 hf1 hb
        go_wp2_with fail
        refine ⟨⟨m, (y + b) / 256, B1.set m ((y + b) % 256), by omega, rfl, rfl, by omega, by omega, HV1.out.setAt m _, bytesL_set HB1.out m (by omega), by rw [List.length_set]; exact hl1, ?_, HF1.out.trans (Fr.setCell (p := ⟨gb, m, none⟩) (Fr.refl _ _) (fun _ => (HV1.out.sep gb rfl).2) _)⟩, by simp [intOf] <;> omega⟩
        have := add_step (l := B1) (n := m) (x := y) (T := V + x) (by omega) (by rw [hl1]; exact HT1.out)
        rw [← HBE.out, hl1] at this
        exact this

theorem enc_app {A : Nat → Prop} {g : Nat} {w W w2 : World} {v v2 : Value} {B xs : List Int} {r : Int} (h : EncV A g w v B r) (hf : Fr Non w W) (hg : W.grownBy w2 v.ownBlock) (ho : Own w2 0 .u8 5 v2 xs)
    (hb : v2.ownBlock = v.ownBlock ∨ v2.ownBlock = some W.heap.size) :
    EncV A g (w2.setCell ⟨g, 0, none⟩ v2) v2 xs r ∧ Fr (Out A) w (w2.setCell ⟨g, 0, none⟩ v2) := by
  have hgw := blk_lt h.at_
  have hne : v.ownBlock ≠ some g := fun e => (h.sep g e).1 rfl
  have hsz := hf.size
  have h1 : W.heap[g]? = some (.cells #[v, .int .u64 r] 90) := hf.blk h.at_ id
  have h2 := (Fr.grew hg).blk h1 hne
  have hs2 : ∀ k, v2.ownBlock = some k → k ≠ g ∧ ¬ A k := by
    intro k hk
    rcases hb with e | e
    · exact h.sep k (by rw [← e]; exact hk)
    · rw [e] at hk
      injection hk with hk
      subst hk
      exact ⟨by omega, fun q => by have := h.old _ q; omega⟩
  have hfr : Fr (Out A) w (w2.setCell ⟨g, 0, none⟩ v2) := by
    refine Fr.setCell (p := ⟨g, 0, none⟩) (Fr.then (hf.any (S := Out A)) (Fr.grew hg) fun i _ e => (h.sep i e).2) (fun _ => h.not) _
  refine ⟨⟨?_, ?_, hs2, ?_, h.not⟩, hfr⟩
  · exact blk_set (i := 0) h2
  · exact ho.fr (S := fun k => k = g) ((Fr.refl _ _).setOne _ _) (fun k hk e => (hs2 k hk).1 e)
  · intro k hk; exact Nat.lt_of_lt_of_le (h.old k hk) hfr.size
def rng64 (g : Nat) (w : World) : Nat := match w.cell? ⟨g, 1, none⟩ with | some (.int _ r) => 16777216 - r.toNat | _ => 0
theorem rng64_eq {A : Nat → Prop} {g : Nat} {w : World} {v : Value} {B : List Int} {r : Int} (h : EncV A g w v B r) : rng64 g w = 16777216 - r.toNat := by
  unfold rng64
  rw [blk_cell h.at_ (j := 1) (v := .int .u64 r) rfl]
def LevPost (A : Nat → Prop) (g : Nat) (w : World) (V : Int) (L : Nat) (r : Int) (e : Ending) (w' : World) : Prop :=
  e = .returned (.tuple #[]) ∧ Fr (Out A) w w' ∧ ∃ k : Nat, EncIs A g w' (256 ^ k * V) (L + k) (256 ^ k * r) ∧ 16777216 ≤ 256 ^ k * r ∧ 256 ^ k * r < 4294967296
theorem pow_few {k : Nat} {r : Int} (hr : 1 ≤ r) (h : 256 ^ k * r < 16777216) : k < 3 := by
  refine Nat.lt_of_not_le fun hk => ?_
  obtain ⟨d, rfl⟩ := Nat.exists_eq_add_of_le hk
  have hp := pow_pos256 d
  rw [Int.pow_add, show (256 : Int) ^ 3 = 16777216 by decide, Int.mul_assoc] at h
  have : 1 * 1 ≤ 256 ^ d * r := Int.mul_le_mul hp hr (by omega) (by omega)
  omega

set_option maxRecDepth 100000 in
set_option maxHeartbeats 2000000 in
theorem elevel_any (A : Nat → Prop) (g : Nat) (V : Int) (L : Nat) (r : Int) (w : World) (h : EncIs A g w V L r) (hL2 : L ≤ 1073741820) (h1 : 1 ≤ r) (h2 : r < 4294967296) :
    Calls Try.prog 133 #[.pointer (some ⟨g, 0, none⟩)] w (LevPost A g w V L r) := by
  have H := hid h
  clear h
  go_enter Try.func133, Try.ntmps133
  go_wp2_with fail
  go_loopw [] (fun wr => ∃ k : Nat, k ≤ 3 ∧ Fr (Out A) w wr ∧ EncIs A g wr (256 ^ k * V) (L + k) (256 ^ k * r) ∧ 256 ^ k * r < 4294967296) (fun wr => rng64 g wr)
  case atStart => exact ⟨0, by omega, Fr.refl _ _, by simpa using H.out, by simpa using h2⟩
  case round =>
    obtain ⟨k, hk, hfr, ⟨v, B, hv, hby, hlen, hval⟩, hlt⟩ := hrel
    obtain ⟨x, hx⟩ : ∃ x, x = 256 ^ k * r := ⟨_, rfl⟩
    rw [← hx] at hlt hv
    have k0 := blk_cell hv.at_ (j := 0) (v := v) rfl
    have k1 := blk_cell hv.at_ (j := 1) (v := .int .u64 x) rfl
    have g1 := blk_frozen hv.at_ 1
    have HV := hid hv
    have HFR := hid hfr
    have HBY := hid hby
    have HVAL := hid hval
    have HX := hid hx
    have hx0 : 1 * 1 ≤ x := by rw [hx]; exact Int.mul_le_mul (pow_pos256 k) h1 (by omega) (by have := pow_pos256 k; omega)
    clear hv hfr hby hval hx
    by_cases hlt2 : x < 16777216
    · have hk2 : k < 3 := pow_few h1 (by rw [← HX.out]; exact hlt2)
      have HV2 := hid (HV.out.setRng (x * 256))
      have cn := cell_new1 (wr.setCell ⟨g, 1, none⟩ (.int .u64 (x * 256))) (.int .u8 0) 5
      rw [show (wr.setCell ⟨g, 1, none⟩ (.int .u64 (x * 256))).heap.size = wr.heap.size by simp] at cn
      have HCN := hid cn
      clear cn
      go_upto_region 2 with fail
      go_wp2_with (refine opGrow1 (some 21) rfl rfl (.tmp 19) (.tmp 20) 30 rfl .u8 5 1 Try.underlying30 Try.info_u8 v B rfl (by exact Own.alloc HV2.out.own _) _ _ _ rfl (by exact HCN.out) (by decide) (by omega) ?_; intro v3 w3 hown3 hg3 hb3; obtain ⟨a3, cap3, hv3, _, _, _⟩ := hown3.rowN (n := L + k + 1) (by simp [hlen]); subst hv3; obtain ⟨hc3, hf3⟩ := enc_app HV2.out ((Fr.refl Non _).alloc _) hg3 hown3 hb3; have g4 : w3.frozen? ⟨g, 0, none⟩ = false := blk_frozen ((Fr.grew hg3).blk (by exact blk_alloc HV2.out.at_) (fun e => (HV2.out.sep g e).1 rfl)) 0; have k5 : w3.cell? ⟨g, 0, none⟩ = some v := blk_cell ((Fr.grew hg3).blk (by exact blk_alloc HV2.out.at_) (fun e => (HV2.out.sep g e).1 rfl)) rfl; have HC3 := hid hc3; have HF3 := hid hf3; clear hown3 hg3 hb3 hc3 hf3)
      obtain ⟨v4, hv4⟩ : ∃ v4, v4 = Value.slice a3 (L + k + 1) cap3 := ⟨_, rfl⟩
      rw [← hv4] at HC3 HF3 ⊢
      go_roundw
      case rel =>
        have e4 : (256 : Int) ^ (k + 1) * r = x * 256 := by rw [HX.out, Int.pow_succ, Int.mul_assoc, Int.mul_comm 256 r, Int.mul_assoc]
        refine ⟨k + 1, by omega, HFR.out.trans ((Fr.setCell (p := ⟨g, 1, none⟩) (Fr.refl _ _) (fun _ => HV.out.not) _).trans HF3.out), ⟨v4, B ++ [0], ?_, bytesL_snoc HBY.out, by rw [List.length_append, hlen]; rfl, ?_⟩, by rw [e4]; omega⟩
        · rw [e4]; exact HC3.out
        · rw [valL_snoc, HVAL.out, Int.pow_succ]
          generalize (256 : Int) ^ k = P
          have e : P * 256 * V = P * V * 256 := by rw [Int.mul_assoc, Int.mul_comm 256 V, ← Int.mul_assoc]
          omega
      case measure =>
        rw [rng64_eq HC3.out, rng64_eq HV.out]
        omega
    · have HE := hid (show EncIs A g wr (256 ^ k * V) (L + k) x from ⟨v, B, HV.out, HBY.out, hlen, HVAL.out⟩)
      go_wp2_with fail
      go_end0
      exact ⟨rfl, HFR.out, k, by rw [← HX.out]; exact HE.out, by rw [← HX.out]; omega, by rw [← HX.out]; exact hlt⟩
end Go.Proofs.Ytjnegcambbeblaa

/- The document's coder (05): New, Bit. -/
namespace Go.Proofs.Ytjnegcambbeblaa
open Go.RowKit

/-- the document's coder has told what c has. -/
def EncC (A : Nat → Prop) (g : Nat) (w : World) (c : RC) : Prop := EncIs A g w c.val c.len c.rng
theorem enc_part {A : Nat → Prop} {g : Nat} {w : World} {c : RC} {N : Nat} (hok : c.Ok N) (hb : c.bytes) {a r : Int} (ha : 0 ≤ a) (hr : 1 ≤ r) (har : a + r ≤ c.rng) {k : Nat}
    (h : EncIs A g w (256 ^ k * (c.val + a)) (c.len + k) (256 ^ k * r)) (h0 : 16777216 ≤ 256 ^ k * r) (h1 : 256 ^ k * r < 4294967296) : EncC A g w (c.part a r) := by
  obtain ⟨j, e1, e2, e3, _⟩ := hok.part_val hb ha hr har
  have ho := hok.part ha hr har
  have r0 := ho.rng0
  have r1 := ho.rng1
  rw [e2] at r0 r1
  have e : j = k := lev_once r0 r1 h0 h1
  subst e
  unfold EncC
  rw [e1, e2, e3]
  exact h
theorem RC.Ok.keep_part {c : RC} {N : Nat} (hok : c.Ok N) (hb : c.bytes) {a r : Int} (ha : 0 ≤ a) (hr : 1 ≤ r) (har : a + r ≤ c.rng) : (c.part a r).bytes := by
  obtain ⟨j, _, _, _, h⟩ := hok.part_val hb ha hr har
  exact h
def ENewPost (w : World) (e : Ending) (w' : World) : Prop :=
  ∃ g, e = .returned (.pointer (some ⟨g, 0, none⟩)) ∧ w.heap.size ≤ g ∧ Fr Non w w' ∧ EncC (fun k => k < w.heap.size) g w' RC.new
theorem emake_u8 (n : Nat) (hn : n ≤ 1048576) (w : World) : (Instr.makeSlice 30 (.int .i64 n) (.int .i64 n)).run Try.prog w = .ok (.slice (some ⟨w.heap.size, 0, none⟩) n n) (w.alloc (.cells (arr .u8 n (fun _ => 0)) 5)) := by
  obtain ⟨i, hi, hz0, hz1, hz2⟩ := info_parts Try.info_u8
  have h := run_make (P := Try.prog) w 30 5 i (.int .u8 0) Try.underlying30 hi hz0 .i64 .i64 n n (by omega) (by omega) (by rw [hz2]; omega) (by omega)
  simp only [Int.toNat_natCast, hz1, arr_made] at h
  exact h
set_option maxRecDepth 100000 in
theorem enew_raw (w : World) : Calls Try.prog 49 #[] w fun e w' => e = .returned (.pointer (some ⟨w.heap.size + 1, 0, none⟩)) ∧ w' = (w.alloc (.cells (arr .u8 5 (fun _ => 0)) 5)).alloc (.cells #[.slice (some ⟨w.heap.size, 0, none⟩) 5 5, .int .u64 4294967295] 90) := by
  have hmk : ∀ w : World, (Instr.makeSlice 30 (.int .i64 5) (.int .i64 5)).run Try.prog w = .ok (.slice (some ⟨w.heap.size, 0, none⟩) 5 5) (w.alloc (.cells (arr .u8 5 (fun _ => 0)) 5)) := fun w => emake_u8 5 (by decide) w
  go_enter Try.func49, Try.ntmps49
  go_wp2
  go_ret
  exact ⟨rfl, rfl⟩
theorem arr_zeros5 : arr .u8 5 (fun _ => 0) = ([0, 0, 0, 0, 0].map (Value.int .u8)).toArray := by kernel_rfl
theorem enew_any (w : World) : Calls Try.prog 49 #[] w (ENewPost w) := by
  refine (enew_raw w).mono ?_
  rintro e w' ⟨rfl, rfl⟩
  have hb := blk_alloc (o' := .cells #[.slice (some ⟨w.heap.size, 0, none⟩) 5 5, .int .u64 4294967295] 90) (blk_new w (.cells (arr .u8 5 (fun _ => 0)) 5))
  have hg := blk_new (w.alloc (.cells (arr .u8 5 (fun _ => 0)) 5)) (.cells #[.slice (some ⟨w.heap.size, 0, none⟩) 5 5, .int .u64 4294967295] 90)
  have hs : (w.alloc (.cells (arr .u8 5 (fun _ => 0)) 5)).heap.size = w.heap.size + 1 := by simp
  rw [hs] at hg
  refine ⟨w.heap.size + 1, rfl, by omega, ((Fr.refl _ _).alloc _).alloc _, .slice (some ⟨w.heap.size, 0, none⟩) 5 5, [0, 0, 0, 0, 0], ⟨hg, ⟨rfl, .inr ⟨w.heap.size, 5, _, rfl, Nat.zero_le _, hb, by decide, by simp [maxLen], by rw [arr_size], ?_⟩⟩, ?_, ?_, ?_⟩, ?_, rfl, ?_⟩
  · rw [arr_zeros5]; rfl
  · intro k hk
    have hk' : w.heap.size = k := by simpa [Value.ownBlock] using hk
    subst hk'
    exact ⟨by omega, fun h => by have : w.heap.size < w.heap.size := h; omega⟩
  · intro k hk
    have hk' : k < w.heap.size := hk
    simp; omega
  · intro hk
    have hk' : w.heap.size + 1 < w.heap.size := hk
    omega
  · intro x hx
    simp at hx
    omega
  · decide
end Go.Proofs.Ytjnegcambbeblaa

/- lzma.ahead, as a source. -/
namespace Go.Proofs.Ytjnegcambbeblaa
open Go.RowKit

/-- a source, the byte that was taken ahead, whether there is one. -/
structure AhS (S : Type) where
  s : S
  b : Int
  full : Bool
def ahNx {S : Type} (nx : S → Int × Bool × S) (x : AhS S) : Int × Bool × AhS S :=
  if x.full = true then (x.b, true, ⟨x.s, x.b, false⟩) else ((nx x.s).1, (nx x.s).2.1, ⟨(nx x.s).2.2, x.b, false⟩)
def ahMore {S : Type} (nx : S → Int × Bool × S) (x : AhS S) : Bool × AhS S :=
  if x.full = true then (true, x) else ((nx x.s).2.1, ⟨(nx x.s).2.2, (nx x.s).1, (nx x.s).2.1⟩)
def AhAt {S : Type} (t : Sour S) (w : World) (g : Nat) (x : AhS S) : Prop := w.heap[g]? = some (.cells #[.iface t.ty t.val, .int .u8 x.b, .bool x.full] 120)
structure AhIs {S : Type} (t : Sour S) (g : Nat) (w : World) (x : AhS S) : Prop where
  at_ : AhAt t w g x
  src : t.I w x.s
  apart : ¬ t.foot g
  by_ : 0 ≤ x.b ∧ x.b < 256
def ahFoot {S : Type} (t : Sour S) (g : Nat) : Nat → Prop := fun k => k = g ∨ t.foot k
theorem AhIs.keep {S : Type} {t : Sour S} {g : Nat} {w w' : World} {x : AhS S} (h : AhIs t g w x) {T : Nat → Prop} (hf : Fr T w w') (ht : ∀ k, ahFoot t g k → ¬ T k) : AhIs t g w' x :=
  ⟨hf.blk h.at_ (ht g (.inl rfl)), t.keep _ _ _ _ h.src hf (fun k hk => ht k (.inr hk)), h.apart, h.by_⟩
set_option maxRecDepth 100000 in
theorem ahNext_any {S : Type} (t : Sour S) (g : Nat) (x : AhS S) (w : World) (h : AhIs t g w x) :
    Calls Try.prog 156 #[.pointer (some ⟨g, 0, none⟩)] w fun e w' => e = .returned (.tuple #[.int .u8 (ahNx t.nx x).1, .bool (ahNx t.nx x).2.1]) ∧ Fr (ahFoot t g) w w' ∧ AhIs t g w' (ahNx t.nx x).2.2 := by
  have c0 := blk_cell h.at_ (j := 0) (v := .iface t.ty t.val) rfl
  have c1 := blk_cell h.at_ (j := 1) (v := .int .u8 x.b) rfl
  have c2 := blk_cell h.at_ (j := 2) (v := .bool x.full) rfl
  have f2 := blk_frozen h.at_ 2
  have H := hid h
  clear h
  unfold ahNx
  cases hb : x.full with
  | true =>
    rw [hb] at c2
    rw [if_pos rfl]
    clear hb
    go_enter Try.func156, Try.ntmps156
    go_wp2_with fail
    go_ret2
    have hf : Fr (fun k => k = g) w (w.setCell ⟨g, 2, none⟩ (.bool false)) := (Fr.refl _ _).setOne _ _
    exact ⟨rfl, hf.mono (fun _ _ e => .inl e), blk_set (i := 2) H.out.at_, t.keep _ _ _ _ H.out.src hf (fun k hk e => H.out.apart (by have e : k = g := e; rw [← e]; exact hk)), H.out.apart, H.out.by_⟩
  | false =>
    rw [hb] at c2
    rw [if_neg (by decide)]
    have HFL := hid hb
    clear hb
    go_enter Try.func156, Try.ntmps156
    go_wp2_with (refine opInvoke rfl (.tmp 18) _ rfl t.ty t.val rfl t.fid t.val t.meth t.enter (fun K hK => ?_))
    refine (t.call _ _ H.out.src).mono ?_
    rintro e w1 ⟨rfl, hf1, hi1⟩
    have HF1 := hid hf1
    have HI1 := hid hi1
    clear hf1 hi1
    go_wp2_with fail
    go_ret2
    refine ⟨rfl, HF1.out.mono (fun _ _ e => .inr e), ?_, HI1.out, H.out.apart, H.out.by_⟩
    have e := HF1.out.blk H.out.at_ H.out.apart
    rw [HFL.out] at e
    exact e
set_option maxRecDepth 100000 in
theorem ahMore_any {S : Type} (t : Sour S) (g : Nat) (x : AhS S) (w : World) (h : AhIs t g w x) :
    Calls Try.prog 98 #[.pointer (some ⟨g, 0, none⟩)] w fun e w' => e = .returned (.bool (ahMore t.nx x).1) ∧ Fr (ahFoot t g) w w' ∧ AhIs t g w' (ahMore t.nx x).2 := by
  have c0 := blk_cell h.at_ (j := 0) (v := .iface t.ty t.val) rfl
  have c2 := blk_cell h.at_ (j := 2) (v := .bool x.full) rfl
  have H := hid h
  clear h
  unfold ahMore
  cases hb : x.full with
  | true =>
    rw [hb] at c2
    rw [if_pos rfl]
    clear hb
    go_enter Try.func98, Try.ntmps98
    go_wp2_with fail
    go_ret
    exact ⟨rfl, Fr.refl _ _, H.out⟩
  | false =>
    rw [hb] at c2
    rw [if_neg (by decide)]
    clear hb
    go_enter Try.func98, Try.ntmps98
    go_wp2_with (refine opInvoke rfl (.tmp 14) _ rfl t.ty t.val rfl t.fid t.val t.meth t.enter (fun K hK => ?_))
    refine (t.call _ _ H.out.src).mono ?_
    rintro e w1 ⟨rfl, hf1, hi1⟩
    have e1 := hf1.blk H.out.at_ H.out.apart
    have d1 := blk_cell e1 (j := 1) (v := .int .u8 x.b) rfl
    have d2 := blk_cell e1 (j := 2) (v := .bool x.full) rfl
    have z1 := blk_frozen e1 1
    have z2 := blk_frozen e1 2
    have HE1 := hid e1
    have HF1 := hid hf1
    have HI1 := hid hi1
    clear hf1 hi1 e1
    go_wp2_with fail
    go_ret
    have hf : Fr (fun k => k = g) w1 ((w1.setCell ⟨g, 1, none⟩ (.int .u8 (t.nx x.s).1)).setCell ⟨g, 2, none⟩ (.bool (t.nx x.s).2.1)) := ((Fr.refl _ _).setOne _ _).setOne _ _
    exact ⟨rfl, (HF1.out.mono (fun _ _ e => .inr e)).then hf (fun _ _ e => .inl e), blk_set (i := 2) (blk_set (i := 1) HE1.out), t.keep _ _ _ _ HI1.out hf (fun k hk e => H.out.apart (by have e : k = g := e; rw [← e]; exact hk)), H.out.apart, t.byte _⟩
/-- a source that was asked ahead, as a source. -/
def ahead {S : Type} (t : Sour S) (g : Nat) : Sour (AhS S) where
  ty := 99
  val := .pointer (some ⟨g, 0, none⟩)
  fid := 156
  foot := ahFoot t g
  I := AhIs t g
  nx := fun x => ((ahNx t.nx x).1 % 256, (ahNx t.nx x).2)
  byte := fun s => by dsimp only; omega
  meth := fun w => by kernel_rfl
  enter := fun w => by kernel_rfl
  call := fun w s h => by
    refine (ahNext_any t g s w h).mono fun e w' ⟨h1, h2, h3⟩ => ⟨?_, h2, h3⟩
    have hb : 0 ≤ (ahNx t.nx s).1 ∧ (ahNx t.nx s).1 < 256 := by
      unfold ahNx
      split
      · exact h.by_
      · exact t.byte _
    rw [h1]
    show _ = Ending.returned (.tuple #[.int .u8 ((ahNx t.nx s).1 % 256), .bool (ahNx t.nx s).2.1])
    rw [Int.emod_eq_of_lt hb.1 hb.2]
  keep := fun w w' s T h hf ht => h.keep hf ht
end Go.Proofs.Ytjnegcambbeblaa

/- A row of values of the call's own that grows by append. -/
namespace Go.Proofs.Ytjnegcambbeblaa
open Go.RowKit

def OwnV (w : World) (base : Nat) (e : TypeId) (v : Value) (xs : List Value) : Prop := w.ownsRow base e 1 v xs.length xs
theorem OwnV.block {w : World} {base : Nat} {e : TypeId} {v : Value} {xs : List Value} (h : OwnV w base e v xs) : ∀ g, v.ownBlock = some g → base ≤ g ∧ g < w.heap.size := World.ownsRow.lt h
theorem OwnV.alloc {w : World} {base : Nat} {e : TypeId} {v : Value} {xs : List Value} (h : OwnV w base e v xs) (o : Obj) : OwnV (w.alloc o) base e v xs := World.ownsRow.alloc h o
theorem OwnV.nil (w : World) (base : Nat) (e : TypeId) : OwnV w base e (.slice none 0 0) [] := World.ownsRow_nil w base e 1
theorem OwnV.fr {S : Nat → Prop} {w w' : World} {base : Nat} {e : TypeId} {v : Value} {xs : List Value} (h : OwnV w base e v xs) (hf : Fr S w w') (hs : ∀ g, v.ownBlock = some g → ¬ S g) : OwnV w' base e v xs := by
  obtain ⟨h1, h2⟩ := h
  refine ⟨h1, ?_⟩
  rcases h2 with h2 | ⟨g, cap, cur, hv, hg, hh, r⟩
  · exact .inl h2
  · exact .inr ⟨g, cap, cur, hv, hg, hf.blk hh (hs g (by rw [hv]; rfl)), r⟩
/-- a row just built. -/
theorem OwnV.built (w : World) (base : Nat) (e : TypeId) (xs : List Value) (hb : base ≤ w.heap.size) (hn : xs.length ≤ 1000) : OwnV (w.alloc (.cells xs.toArray e)) base e (.slice (some ⟨w.heap.size, 0, none⟩) xs.length xs.length) xs :=
  ⟨by simp, .inr ⟨w.heap.size, xs.length, xs.toArray, rfl, hb, blk_new _ _, Nat.le_refl _, by unfold maxLen; omega, by simp, by simp⟩⟩
theorem OwnV.get {w : World} {base : Nat} {e : TypeId} {v : Value} {xs : List Value} (h : OwnV w base e v xs) (h0 : 0 < xs.length) :
    ∃ g cap, v = .slice (some ⟨g, 0, none⟩) xs.length cap ∧ base ≤ g ∧ ∀ i x, xs[i]? = some x → w.cell? ⟨g, i, none⟩ = some x := by
  obtain ⟨h1, h2⟩ := h
  rcases h2 with ⟨_, hn⟩ | ⟨g, cap, cur, hv, hg, hh, hnc, hcm, hsz, htk⟩
  · omega
  · refine ⟨g, cap, hv, hg, fun i x hx => blk_cell hh ?_⟩
    have hi : i < xs.length := (List.getElem?_eq_some_iff.1 hx).1
    have htk' : cur.toList.take xs.length = xs := by simpa using htk
    have e : cur.toList[i]? = some x := by
      rw [← hx]
      conv => rhs; rw [← htk']
      exact (List.getElem?_take_of_lt hi).symm
    simpa using e
theorem run_growV {P : Program} {w : World} (base : Nat) (t ty e : TypeId) (z : Value) (bytes : Nat) (ht : P.underlying t = some (.slice e)) (hinfo : (P.info? e).map (fun i => (i.zero, i.size, i.bytes)) = some (some z, 1, bytes)) (hz : z.cells.size = 1)
    (v : Value) (xs ys : List Value) (hown : OwnV w base e v xs) (ad : Addr) (c : Nat) (hcell : ∀ j y, ys[j]? = some y → w.cell? (ad.add j) = some y) (h1 : ∀ u ∈ ys, u.oneCell' = true)
    (hb1 : 1 ≤ bytes) (hbytes : (xs.length + ys.length) * bytes ≤ 140737488355328) (hbase : base ≤ w.heap.size) :
    ∃ v' w', (Builtin.append_ #[t, t] ty #[v, .slice (some ad) ys.length c]).run P w = .ok v' w' ∧ OwnV w' base e v' (xs ++ ys) ∧ w.grownBy w' v.ownBlock := by
  obtain ⟨i, hi, hz0, hz1, hz2⟩ := info_parts hinfo
  have hm : xs.length + ys.length ≤ (xs.length + ys.length) * bytes := Nat.le_mul_of_pos_right _ hb1
  obtain ⟨v', w', hr, h2, h3, _⟩ := run_append_own (P := P) w base t ty e i z 1 bytes ht hi hz0 hz1 hz2 hz (by decide) v xs.length _ hown ad ys.length c ys (by simp) hcell h1 (by unfold maxLen; omega) hbytes hbase
  refine ⟨v', w', hr, ?_, h3⟩
  unfold OwnV
  simpa using h2
theorem step_growV {P : Program} {ops : Array Oper} {o : Oper} {a : Act} {w : World} {K : Act → World → Prop} {Q : Exit → Act → World → Prop} {E : Prop} (hgd : o.guard = none) (s x : Operand) (t : TypeId)
    (ho : o.op = .call { callee := .builtin .append, args := #[s, x], argTypes := #[t, t] })
    (base : Nat) (e : TypeId) (z : Value) (bytes : Nat) (ht : P.underlying t = some (.slice e)) (hinfo : (P.info? e).map (fun i => (i.zero, i.size, i.bytes)) = some (some z, 1, bytes)) (hz : z.cells.size = 1)
    (v : Value) (xs ys : List Value) (hs : a.eval s = v) (m : Nat) (hm : ys.length = m) (ad : Addr) (c : Nat) (hx : a.eval x = .slice (some ad) m c) (hown : OwnV w base e v xs) (hcell : ∀ j y, ys[j]? = some y → w.cell? (ad.add j) = some y) (h1 : ∀ u ∈ ys, u.oneCell' = true)
    (hb1 : 1 ≤ bytes) (hbytes : (xs.length + ys.length) * bytes ≤ 140737488355328) (hbase : base ≤ w.heap.size)
    (h : ∀ v' w', OwnV w' base e v' (xs ++ ys) → w.grownBy w' v.ownBlock → K (a.put o.dst v') w') :
    if Region.wanted o (yielded ops a.tmps) = true then Oper.wp P o a w K Q else E := by
  have hw : Region.wanted o (yielded ops a.tmps) = true := by simp [Region.wanted, hgd]
  rw [if_pos hw]
  subst hm
  obtain ⟨v', w', hr, h2, h3⟩ := run_growV (P := P) (w := w) base t o.type e z bytes ht hinfo hz v xs ys hown ad c hcell h1 hb1 hbytes hbase
  unfold Oper.wp execOp
  simp only [ho, resolve, invoke, builtin, Sem.run_bind, Sem.run_pure, Result.andThen_ok, List.map_toArray, List.map_cons, List.map_nil, hs, hx, hr]
  exact h v' w' h2 h3
theorem opGrowV {P : Program} {w : World} {ops : Array Oper} {rest : List Oper} {o : Oper} {a : Act} {Q : Exit → Act → World → Prop} (d : Option Tmp) (hgd : o.guard = none) (hd : o.dst = d) (s x : Operand) (t : TypeId)
    (ho : o.op = .call { callee := .builtin .append, args := #[s, x], argTypes := #[t, t] })
    (base : Nat) (e : TypeId) (z : Value) (bytes : Nat) (ht : P.underlying t = some (.slice e)) (hinfo : (P.info? e).map (fun i => (i.zero, i.size, i.bytes)) = some (some z, 1, bytes)) (hz : z.cells.size = 1)
    (v : Value) (xs ys : List Value) (hs : a.eval s = v) (hown : OwnV w base e v xs) (m : Nat) (hm : ys.length = m) (ad : Addr) (c : Nat) (hx : a.eval x = .slice (some ad) m c) (hcell : ∀ j y, ys[j]? = some y → w.cell? (ad.add j) = some y) (h1 : ∀ u ∈ ys, u.oneCell' = true)
    (hb1 : 1 ≤ bytes) (hbytes : (xs.length + ys.length) * bytes ≤ 140737488355328) (hbase : base ≤ w.heap.size)
    (h : ∀ v' w', OwnV w' base e v' (xs ++ ys) → w.grownBy w' v.ownBlock → wpList P ops Q rest (a.put d v') w') : wpList P ops Q (o :: rest) a w := by
  subst hm
  obtain ⟨v', w', hr, h2, h3⟩ := run_growV (P := P) (w := w) base t o.type e z bytes ht hinfo hz v xs ys hown ad c hcell h1 hb1 hbytes hbase
  refine wpList_plain hgd fun K hK => ?_
  unfold Oper.wp execOp
  simp only [ho, resolve, invoke, builtin, Sem.run_bind, Sem.run_pure, Result.andThen_ok, List.map_toArray, List.map_cons, List.map_nil, hs, hx, hr]
  refine hK _ _ ?_
  rw [hd]
  exact h v' w' h2 h3
/-- the cells of a row just built. -/
theorem new_cells (w : World) (xs : List Value) (e : TypeId) (g : Nat) (hg : g = w.heap.size) : ∀ j y, xs[j]? = some y → (w.alloc (.cells xs.toArray e)).cell? ((⟨g, 0, none⟩ : Addr).add j) = some y := by
  intro j y hj
  have e1 : (⟨g, 0, none⟩ : Addr).add j = ⟨g, 0 + j, none⟩ := by unfold Addr.add; split <;> simp_all
  rw [e1, hg]
  exact blk_cell (blk_new w _) (by simpa using hj)
end Go.Proofs.Ytjnegcambbeblaa

/- A meter: what its functions answer, and where it lies. -/
namespace Go.Proofs.Ytjnegcambbeblaa
open Go.RowKit

theorem aload_any (g i : Nat) (x : Int) (w : World) (hc : w.cell? ⟨g, i, none⟩ = some (.int .i64 x)) :
    Calls Try.prog 65 #[.pointer (some ⟨g, i, none⟩)] w fun e w' => e = .returned (.int .i64 x) ∧ w = w' := by
  have hl := run_call_load (P := Try.prog) Try.func97 (by kernel_rfl) (by kernel_rfl) (by kernel_rfl) .i64 (by kernel_rfl) hc
  go_enter Try.func65, Try.ntmps65
  go_wp2
  go_ret
  exact ⟨rfl, rfl⟩
theorem acas_any (g i : Nat) (x y : Int) (w : World) (hc : w.cell? ⟨g, i, none⟩ = some (.int .i64 x)) (hz : w.frozen? ⟨g, i, none⟩ = false) :
    Calls Try.prog 83 #[.pointer (some ⟨g, i, none⟩), .int .i64 x, .int .i64 y] w fun e w' => e = .returned (.bool true) ∧ w' = w.setCell ⟨g, i, none⟩ (.int .i64 y) := by
  have hl := run_call_cas_hit (P := Try.prog) Try.func112 (by kernel_rfl) (by kernel_rfl) (by kernel_rfl) .i64 (by kernel_rfl) (y := y) hc hz
  go_enter Try.func83, Try.ntmps83
  go_wp2
  go_ret
  exact ⟨rfl, rfl⟩
/-- a meter: the quota of memory, what is used, the most at a time, the code; the other things. -/
structure MS where
  most : Nat
  now : Nat
  peak : Nat
  code : Nat
  om : Nat
  fm : Nat
  dm : Nat
  sm : Nat
def MS.cells (m : MS) : Array Value := #[.int .i64 m.most, .int .i64 m.now, .int .i64 m.om, .int .i64 0, .int .i64 m.fm, .int .i64 0, .int .i64 m.dm, .int .i64 0, .int .i64 m.sm, .int .i64 0, .int .i64 m.peak, .int .i64 m.code]
def MAt (w : World) (g : Nat) (m : MS) : Prop := w.heap[g]? = some (.cells m.cells 137)
structure MS.Ok (m : MS) : Prop where
  now : m.now ≤ m.most
  most : m.most ≤ 9223372036854775807
  peak : m.now ≤ m.peak
def MS.mem (m : MS) (n : Nat) : Bool × MS :=
  if m.code ≠ 0 then (false, m) else if m.most - m.now < n then (false, { m with code := 101 }) else (true, { m with now := m.now + n, peak := max m.peak (m.now + n) })
def MS.free (m : MS) (n : Nat) : MS := { m with now := m.now - n }
def GivePost (g : Nat) (x : Int) (w : World) (e : Ending) (w' : World) : Prop := e = .returned (.tuple #[]) ∧ w' = w.setCell ⟨g, 1, none⟩ (.int .i64 x)
set_option maxRecDepth 100000 in
theorem give_m (g : Nat) (m : MS) (n : Nat) (w : World) (h : MAt w g m) (hok : m.Ok) (hn : n ≤ 9223372036854775807) :
    Calls Try.prog 84 #[.pointer (some ⟨g, 0, none⟩), .int .i64 n] w (GivePost g ((m.now - n : Nat) : Int) w) := by
  have c1 := blk_cell h (j := 1) (v := .int .i64 m.now) rfl
  have z1 := blk_frozen h 1
  have h1 := hok.now
  have h2 := hok.most
  by_cases hle : n ≤ m.now
  · have hle2 : (n : Int) ≤ (m.now : Int) := by omega
    have h0 : (0 : Int) ≤ (m.now : Int) - (n : Int) := by omega
    rw [show ((m.now - n : Nat) : Int) = (m.now : Int) - (n : Int) by omega]
    clear hle
    go_enter Try.func84, Try.ntmps84
    go_wp2_with fail
    go_loopw [4] (fun _ wr => wr = w) (fun _ _ => 0)
    case atStart => rfl
    case round =>
      subst hrel
      go_wp2_with fail
      refine (aload_any g 1 m.now _ c1).mono ?_
      rintro e w1 ⟨rfl, rfl⟩
      go_wp2_with fail
      refine (acas_any g 1 m.now _ _ c1 z1).mono ?_
      rintro e w1 ⟨rfl, rfl⟩
      go_wp2_with fail
      go_end0
      exact ⟨rfl, rfl⟩
  · have hle2 : (m.now : Int) < (n : Int) := by omega
    rw [show ((m.now - n : Nat) : Int) = 0 by omega]
    clear hle
    go_enter Try.func84, Try.ntmps84
    go_wp2_with fail
    go_loopw [4] (fun _ wr => wr = w) (fun _ _ => 0)
    case atStart => rfl
    case round =>
      subst hrel
      go_wp2_with fail
      refine (aload_any g 1 m.now _ c1).mono ?_
      rintro e w1 ⟨rfl, rfl⟩
      go_wp2_with fail
      refine (acas_any g 1 m.now _ _ c1 z1).mono ?_
      rintro e w1 ⟨rfl, rfl⟩
      go_wp2_with fail
      go_end0
      exact ⟨rfl, rfl⟩
def MPost (g : Nat) (w : World) (v : Value) (m : MS) (e : Ending) (w' : World) : Prop := e = .returned v ∧ Fr (fun k => k = g) w w' ∧ MAt w' g m
theorem free_m (g : Nat) (m : MS) (n : Nat) (w : World) (h : MAt w g m) (hok : m.Ok) (hn : n ≤ 9223372036854775807) :
    Calls Try.prog 56 #[.pointer (some ⟨g, 0, none⟩), .int .i64 n] w (MPost g w (.tuple #[]) (m.free n)) := by
  have H := hid h
  have HO := hid hok
  clear h hok
  have hn0 : (0 : Int) ≤ (n : Int) := by omega
  go_enter Try.func56, Try.ntmps56
  go_wp2_with fail
  refine (give_m g m n _ H.out HO.out hn).mono ?_
  rintro e w1 ⟨rfl, rfl⟩
  go_wp2_with fail
  go_end0
  exact ⟨rfl, (Fr.refl _ _).setOne _ _, blk_set (i := 1) H.out⟩
set_option maxRecDepth 100000 in
theorem ask_yes (g : Nat) (m : MS) (n : Nat) (w : World) (h : MAt w g m) (hok : m.Ok) (hn : n ≤ m.most - m.now) :
    Calls Try.prog 111 #[.pointer (some ⟨g, 0, none⟩), .int .i64 n] w fun e w' => e = .returned (.bool true) ∧ w' = w.setCell ⟨g, 1, none⟩ (.int .i64 ((m.now : Int) + n)) := by
  have c0 := blk_cell h (j := 0) (v := .int .i64 m.most) rfl
  have c1 := blk_cell h (j := 1) (v := .int .i64 m.now) rfl
  have z1 := blk_frozen h 1
  have h1 := hok.now
  have h2 := hok.most
  have h3 : ¬ (m.most : Int) - (m.now : Int) < (n : Int) := by omega
  have h4 : (m.now : Int) + (n : Int) ≤ 9223372036854775807 := by omega
  have h5 : (0 : Int) ≤ (m.most : Int) - (m.now : Int) := by omega
  clear h hn
  go_enter Try.func111, Try.ntmps111
  go_wp2_with fail
  go_loopw [5] (fun _ wr => wr = w) (fun _ _ => 0)
  case atStart => rfl
  case round =>
    subst hrel
    go_wp2_with fail
    refine (aload_any g 1 m.now _ c1).mono ?_
    rintro e w1 ⟨rfl, rfl⟩
    go_wp2_with fail
    refine (acas_any g 1 m.now _ _ c1 z1).mono ?_
    rintro e w1 ⟨rfl, rfl⟩
    go_wp2_with fail
    go_ret
    exact ⟨rfl, rfl⟩
set_option maxRecDepth 100000 in
theorem ask_no (g : Nat) (m : MS) (n : Nat) (w : World) (h : MAt w g m) (hok : m.Ok) (hn : m.most - m.now < n) :
    Calls Try.prog 111 #[.pointer (some ⟨g, 0, none⟩), .int .i64 n] w fun e w' => e = .returned (.bool false) ∧ w = w' := by
  have c0 := blk_cell h (j := 0) (v := .int .i64 m.most) rfl
  have c1 := blk_cell h (j := 1) (v := .int .i64 m.now) rfl
  have h1 := hok.now
  have h2 := hok.most
  have h3 : (m.most : Int) - (m.now : Int) < (n : Int) := by omega
  have h5 : (0 : Int) ≤ (m.most : Int) - (m.now : Int) := by omega
  clear h hn
  go_enter Try.func111, Try.ntmps111
  go_wp2_with fail
  go_loopw [5] (fun _ wr => wr = w) (fun _ _ => 0)
  case atStart => rfl
  case round =>
    subst hrel
    go_wp2_with fail
    refine (aload_any g 1 m.now _ c1).mono ?_
    rintro e w1 ⟨rfl, rfl⟩
    go_wp2_with fail
    go_ret
    exact ⟨rfl, rfl⟩
set_option maxRecDepth 100000 in
theorem use_m (g : Nat) (m : MS) (n : Nat) (w : World) (h : MAt w g m) (hok : m.Ok) (hn : n ≤ 9223372036854775807) :
    Calls Try.prog 82 #[.pointer (some ⟨g, 0, none⟩), .pointer (some ⟨g, 0, none⟩), .int .i64 n, .int .i64 101] w
      (MPost g w (.bool (m.mem n).1) (if m.code ≠ 0 then m else if m.most - m.now < n then { m with code := 101 } else { m with now := m.now + n })) := by
  have H := hid h
  have HO := hid hok
  have c11 := blk_cell h (j := 11) (v := .int .i64 m.code) rfl
  have hn0 : (0 : Int) ≤ (n : Int) := by omega
  clear h hok
  by_cases hc : m.code = 0
  · have q1 : ((m.code : Int) != 0) = false := by simp [hc]
    by_cases hlt : m.most - m.now < n
    · have HR := hid (show m.mem n = (false, { m with code := 101 }) by unfold MS.mem; rw [if_neg (by simp [hc]), if_pos hlt])
      rw [if_neg (by simp [hc]), if_pos hlt, HR.out]
      have z11 := blk_frozen H.out 11
      have HC := hid hc
      have HL := hid hlt
      rw [hc] at c11
      clear hc hlt
      go_enter Try.func82, Try.ntmps82
      go_wp2_with fail
      refine (aload_any g 11 0 _ (by exact c11)).mono ?_
      rintro e w1 ⟨rfl, rfl⟩
      go_wp2_with fail
      refine (ask_no g m n _ H.out HO.out HL.out).mono ?_
      rintro e w1 ⟨rfl, rfl⟩
      go_wp2_with fail
      refine (acas_any g 11 0 101 _ (by exact c11) (by exact z11)).mono ?_
      rintro e w1 ⟨rfl, rfl⟩
      go_wp2_with fail
      go_ret
      exact ⟨rfl, (Fr.refl _ _).setOne _ _, blk_set (i := 11) H.out⟩
    · have HR := hid (show m.mem n = (true, { m with now := m.now + n, peak := max m.peak (m.now + n) }) by unfold MS.mem; rw [if_neg (by simp [hc]), if_neg hlt])
      rw [if_neg (by simp [hc]), if_neg hlt, HR.out]
      have HL := hid hlt
      rw [hc] at c11
      clear hc hlt
      go_enter Try.func82, Try.ntmps82
      go_wp2_with fail
      refine (aload_any g 11 0 _ (by exact c11)).mono ?_
      rintro e w1 ⟨rfl, rfl⟩
      go_wp2_with fail
      refine (ask_yes g m n _ H.out HO.out (by have := HL.out; omega)).mono ?_
      rintro e w1 ⟨rfl, rfl⟩
      go_wp2_with fail
      go_ret
      exact ⟨rfl, (Fr.refl _ _).setOne _ _, blk_set (i := 1) H.out⟩
  · have HR := hid (show m.mem n = (false, m) by unfold MS.mem; rw [if_pos hc])
    rw [if_pos hc, HR.out]
    have q1 : ((m.code : Int) != 0) = true := by simp [hc]
    clear hc
    go_enter Try.func82, Try.ntmps82
    go_wp2_with fail
    refine (aload_any g 11 m.code _ (by exact c11)).mono ?_
    rintro e w1 ⟨rfl, rfl⟩
    go_wp2_with fail
    go_ret
    exact ⟨rfl, Fr.refl _ _, H.out⟩
theorem mcode_m (g : Nat) (m : MS) (w : World) (h : MAt w g m) :
    Calls Try.prog 54 #[.pointer (some ⟨g, 0, none⟩)] w fun e w' => e = .returned (.int .i64 m.code) ∧ w = w' := by
  have c11 := blk_cell h (j := 11) (v := .int .i64 m.code) rfl
  clear h
  go_enter Try.func54, Try.ntmps54
  go_wp2_with fail
  refine (aload_any g 11 m.code _ (by exact c11)).mono ?_
  rintro e w1 ⟨rfl, rfl⟩
  go_wp2_with fail
  go_ret
  exact ⟨rfl, rfl⟩
theorem mirrorm {P : Program} {f : FuncId} {args : Array Value} {w : World} {v : Value} (h : Calls P f args w fun e w' => e = .returned v ∧ w = w') : Calls P f args w fun e w' => e = .returned v ∧ w' = w :=
  h.mono fun _ _ ⟨h1, h2⟩ => ⟨h1, h2.symm⟩
set_option maxRecDepth 100000 in
set_option maxHeartbeats 1000000 in
theorem mem_m (g : Nat) (m : MS) (n : Nat) (w : World) (h : MAt w g m) (hok : m.Ok) (hn : n ≤ 9223372036854775807) :
    Calls Try.prog 53 #[.pointer (some ⟨g, 0, none⟩), .int .i64 n] w (MPost g w (.bool (m.mem n).1) (m.mem n).2) := by
  have H := hid h
  have HO := hid hok
  clear h hok
  go_enter Try.func53, Try.ntmps53
  go_wp2_with fail
  refine (use_m g m n _ H.out HO.out hn).mono ?_
  rintro e w1 ⟨rfl, hf1, hm1⟩
  by_cases hc : m.code ≠ 0
  · have HR := hid (show m.mem n = (false, m) by unfold MS.mem; rw [if_pos hc])
    rw [if_pos hc] at hm1
    rw [HR.out]
    have HM := hid hm1
    have HF := hid hf1
    clear hc hm1 hf1
    go_wp2_with fail
    go_ret
    exact ⟨by rw [HR.out]; rfl, HF.out, by rw [HR.out]; exact HM.out⟩
  · by_cases hlt : m.most - m.now < n
    · have HR := hid (show m.mem n = (false, { m with code := 101 }) by unfold MS.mem; rw [if_neg hc, if_pos hlt])
      rw [if_neg hc, if_pos hlt] at hm1
      rw [HR.out]
      have HM := hid hm1
      have HF := hid hf1
      clear hc hlt hm1 hf1
      go_wp2_with fail
      go_ret
      exact ⟨by rw [HR.out]; rfl, HF.out, by rw [HR.out]; exact HM.out⟩
    · have HR := hid (show m.mem n = (true, { m with now := m.now + n, peak := max m.peak (m.now + n) }) by unfold MS.mem; rw [if_neg hc, if_neg hlt])
      rw [if_neg hc, if_neg hlt] at hm1
      rw [HR.out]
      have c1 := blk_cell hm1 (j := 1) (v := .int .i64 ((m.now + n : Nat) : Int)) rfl
      have c10 := blk_cell hm1 (j := 10) (v := .int .i64 m.peak) rfl
      have z10 := blk_frozen hm1 10
      have HM := hid hm1
      have HF := hid hf1
      clear hc hlt hm1 hf1
      go_wp2_with fail
      go_loopw [5, 6] (fun _ _ wr => wr = w1) (fun _ _ _ => 0)
      case atStart => rfl
      case round =>
        subst hrel
        go_wp2_with fail
        go_quiet ((first
          | (go_at_call 65; exact Calls.quiet_of_same (mirrorm (aload_any g 10 m.peak _ (by exact c10))))
          | (go_at_call 65; exact Calls.quiet_of_same (mirrorm (aload_any g 1 _ _ (by exact c1))))))
        by_cases hle : m.now + n ≤ m.peak
        · have hle2 : ((m.now + n : Nat) : Int) ≤ (m.peak : Int) := by omega
          have HE := hid (show max m.peak (m.now + n) = m.peak by omega)
          clear hle
          go_wp2_with fail
          go_ret
          exact ⟨by rw [HR.out]; rfl, HF.out.drewN _, by rw [HR.out]; show MAt _ g { m with now := m.now + n, peak := max m.peak (m.now + n) }; rw [HE.out]; exact HM.out⟩
        · have hle2 : ¬ ((m.now + n : Nat) : Int) ≤ (m.peak : Int) := by omega
          have HE := hid (show max m.peak (m.now + n) = m.now + n by omega)
          clear hle
          go_wp2_with fail
          refine (acas_any g 10 m.peak _ _ (by exact c10) (by exact z10)).mono ?_
          rintro e w2 ⟨rfl, rfl⟩
          go_wp2_with fail
          go_ret
          exact ⟨by rw [HR.out]; rfl, (HF.out.drewN _).setOne _ _, by rw [HR.out]; show MAt _ g { m with now := m.now + n, peak := max m.peak (m.now + n) }; rw [HE.out]; exact blk_set (i := 10) HM.out⟩
end Go.Proofs.Ytjnegcambbeblaa

/- A meter: New, Used. -/
namespace Go.Proofs.Ytjnegcambbeblaa
open Go.RowKit

def MZ : Array Value := #[.int .i64 0, .int .i64 0, .int .i64 0, .int .i64 0, .int .i64 0, .int .i64 0, .int .i64 0, .int .i64 0, .int .i64 0, .int .i64 0, .int .i64 0, .int .i64 0]
def MNewPost (w : World) (m : MS) (e : Ending) (w' : World) : Prop := ∃ g, e = .returned (.pointer (some ⟨g, 0, none⟩)) ∧ w.heap.size ≤ g ∧ Fr Non w w' ∧ MAt w' g m
set_option maxRecDepth 100000 in
set_option maxHeartbeats 1000000 in
theorem mnew_raw (a b c d e : Nat) (w : World) (ha : a ≤ 9223372036854775807) (hb : b ≤ 9223372036854775807) (hc : c ≤ 9223372036854775807) (hd : d ≤ 9223372036854775807) (he : e ≤ 9223372036854775807) :
    Calls Try.prog 26 #[.agg #[.int .i64 a, .int .i64 b, .int .i64 c, .int .i64 d, .int .i64 e]] w (MNewPost w ⟨a, 0, 0, 0, b, c, d, e⟩) := by
  have ha0 : (0 : Int) ≤ (a : Int) := by omega
  have hb0 : (0 : Int) ≤ (b : Int) := by omega
  have hc0 : (0 : Int) ≤ (c : Int) := by omega
  have hd0 : (0 : Int) ≤ (d : Int) := by omega
  have he0 : (0 : Int) ≤ (e : Int) := by omega
  go_enter Try.func26, Try.ntmps26
  go_upto_region 2 with fail
  obtain ⟨W, hW⟩ : ∃ W, W = (w.alloc (.cells #[.int .i64 a, .int .i64 b, .int .i64 c, .int .i64 d, .int .i64 e] 57)).alloc (.cells #[.int .i64 0, .int .i64 0, .int .i64 0, .int .i64 0, .int .i64 0, .int .i64 0, .int .i64 0, .int .i64 0, .int .i64 0, .int .i64 0, .int .i64 0, .int .i64 0] 137) := ⟨_, rfl⟩
  rw [← hW]
  have hq : W.heap[w.heap.size]? = some (.cells #[.int .i64 a, .int .i64 b, .int .i64 c, .int .i64 d, .int .i64 e] 57) := by rw [hW]; exact blk_alloc (blk_new _ _)
  have hm : W.heap[w.heap.size + 1]? = some (.cells #[.int .i64 0, .int .i64 0, .int .i64 0, .int .i64 0, .int .i64 0, .int .i64 0, .int .i64 0, .int .i64 0, .int .i64 0, .int .i64 0, .int .i64 0, .int .i64 0] 137) := by
    rw [hW]
    have h := blk_new (w.alloc (.cells #[.int .i64 a, .int .i64 b, .int .i64 c, .int .i64 d, .int .i64 e] 57)) (.cells #[.int .i64 0, .int .i64 0, .int .i64 0, .int .i64 0, .int .i64 0, .int .i64 0, .int .i64 0, .int .i64 0, .int .i64 0, .int .i64 0, .int .i64 0, .int .i64 0] 137)
    simpa using h
  have hf : Fr Non w W := by rw [hW]; exact ((Fr.refl _ _).alloc _).alloc _
  clear hW
  have c0 := blk_cell hq (j := 0) (v := .int .i64 a) rfl
  have c1 := blk_cell hq (j := 1) (v := .int .i64 b) rfl
  have c2 := blk_cell hq (j := 2) (v := .int .i64 c) rfl
  have c3 := blk_cell hq (j := 3) (v := .int .i64 d) rfl
  have c4 := blk_cell hq (j := 4) (v := .int .i64 e) rfl
  have k0 := blk_cell hm (j := 0) (v := .int .i64 0) rfl
  have z0 := blk_frozen hm 0
  have k1 := blk_cell hm (j := 2) (v := .int .i64 0) rfl
  have z1 := blk_frozen hm 2
  have k2 := blk_cell hm (j := 4) (v := .int .i64 0) rfl
  have z2 := blk_frozen hm 4
  have k3 := blk_cell hm (j := 6) (v := .int .i64 0) rfl
  have z3 := blk_frozen hm 6
  have k4 := blk_cell hm (j := 8) (v := .int .i64 0) rfl
  have z4 := blk_frozen hm 8
  have HM := hid hm
  have HQ := hid hq
  have HF := hid hf
  clear hm hq hf
  go_cut [] (fun wx => Fr Non w wx ∧ wx.heap[w.heap.size + 1]? = some (.cells #[.int .i64 a, .int .i64 0, .int .i64 b, .int .i64 0, .int .i64 c, .int .i64 0, .int .i64 0, .int .i64 0, .int .i64 0, .int .i64 0, .int .i64 0, .int .i64 0] 137) ∧ wx.heap[w.heap.size]? = some (.cells #[.int .i64 a, .int .i64 b, .int .i64 c, .int .i64 d, .int .i64 e] 57))
  case first =>
    go_region
    go_wp2_with fail
    go_meet
    exact ⟨(((HF.out.setNew (g := w.heap.size + 1) (by omega) 0 _).setNew (g := w.heap.size + 1) (by omega) 2 _).setNew (g := w.heap.size + 1) (by omega) 4 _).drew, blk_drew (blk_set (i := 4) (blk_set (i := 2) (blk_set (i := 0) HM.out))), blk_drew (blk_set_ne (blk_set_ne (blk_set_ne HQ.out (by show w.heap.size ≠ w.heap.size + 1; omega)) (by show w.heap.size ≠ w.heap.size + 1; omega)) (by show w.heap.size ≠ w.heap.size + 1; omega))⟩
  case rest =>
  obtain ⟨hf2, hm2, hq2⟩ := hcut
  clear k0 k1 k2 k3 k4 z0 z1 z2 z3 z4 c0 c1 c2 c3 c4
  have k3 := blk_cell hm2 (j := 6) (v := .int .i64 0) rfl
  have k4 := blk_cell hm2 (j := 8) (v := .int .i64 0) rfl
  have z3 := blk_frozen hm2 6
  have z4 := blk_frozen hm2 8
  have c3 := blk_cell hq2 (j := 3) (v := .int .i64 d) rfl
  have c4 := blk_cell hq2 (j := 4) (v := .int .i64 e) rfl
  have HM2 := hid hm2
  have HF2 := hid hf2
  clear hm2 hf2 hq2
  go_wp2_with fail
  go_region
  go_wp2_with fail
  go_ret
  exact ⟨w.heap.size + 1, rfl, by omega, ((HF2.out.setNew (g := w.heap.size + 1) (by omega) 6 _).setNew (g := w.heap.size + 1) (by omega) 8 _).drew, blk_drew (blk_set (i := 8) (blk_set (i := 6) HM2.out))⟩
set_option maxRecDepth 100000 in
set_option maxHeartbeats 1000000 in
theorem mnew_neg (q : Int) (hq0 : q < 0) (b c d e : Nat) (w : World) (hb : b ≤ 9223372036854775807) (hc : c ≤ 9223372036854775807) (hd : d ≤ 9223372036854775807) (he : e ≤ 9223372036854775807) :
    Calls Try.prog 26 #[.agg #[.int .i64 q, .int .i64 b, .int .i64 c, .int .i64 d, .int .i64 e]] w (MNewPost w ⟨0, 0, 0, 0, b, c, d, e⟩) := by
  have hb0 : (0 : Int) ≤ (b : Int) := by omega
  have hc0 : (0 : Int) ≤ (c : Int) := by omega
  have hd0 : (0 : Int) ≤ (d : Int) := by omega
  have he0 : (0 : Int) ≤ (e : Int) := by omega
  go_enter Try.func26, Try.ntmps26
  go_upto_region 2 with fail
  obtain ⟨W, hW⟩ : ∃ W, W = (w.alloc (.cells #[.int .i64 q, .int .i64 b, .int .i64 c, .int .i64 d, .int .i64 e] 57)).alloc (.cells #[.int .i64 0, .int .i64 0, .int .i64 0, .int .i64 0, .int .i64 0, .int .i64 0, .int .i64 0, .int .i64 0, .int .i64 0, .int .i64 0, .int .i64 0, .int .i64 0] 137) := ⟨_, rfl⟩
  rw [← hW]
  have hq : W.heap[w.heap.size]? = some (.cells #[.int .i64 q, .int .i64 b, .int .i64 c, .int .i64 d, .int .i64 e] 57) := by rw [hW]; exact blk_alloc (blk_new _ _)
  have hm : W.heap[w.heap.size + 1]? = some (.cells #[.int .i64 0, .int .i64 0, .int .i64 0, .int .i64 0, .int .i64 0, .int .i64 0, .int .i64 0, .int .i64 0, .int .i64 0, .int .i64 0, .int .i64 0, .int .i64 0] 137) := by
    rw [hW]
    have h := blk_new (w.alloc (.cells #[.int .i64 q, .int .i64 b, .int .i64 c, .int .i64 d, .int .i64 e] 57)) (.cells #[.int .i64 0, .int .i64 0, .int .i64 0, .int .i64 0, .int .i64 0, .int .i64 0, .int .i64 0, .int .i64 0, .int .i64 0, .int .i64 0, .int .i64 0, .int .i64 0] 137)
    simpa using h
  have hf : Fr Non w W := by rw [hW]; exact ((Fr.refl _ _).alloc _).alloc _
  clear hW
  have c0 := blk_cell hq (j := 0) (v := .int .i64 q) rfl
  have c1 := blk_cell hq (j := 1) (v := .int .i64 b) rfl
  have c2 := blk_cell hq (j := 2) (v := .int .i64 c) rfl
  have c3 := blk_cell hq (j := 3) (v := .int .i64 d) rfl
  have c4 := blk_cell hq (j := 4) (v := .int .i64 e) rfl
  have k0 := blk_cell hm (j := 0) (v := .int .i64 0) rfl
  have z0 := blk_frozen hm 0
  have k1 := blk_cell hm (j := 2) (v := .int .i64 0) rfl
  have z1 := blk_frozen hm 2
  have k2 := blk_cell hm (j := 4) (v := .int .i64 0) rfl
  have z2 := blk_frozen hm 4
  have k3 := blk_cell hm (j := 6) (v := .int .i64 0) rfl
  have z3 := blk_frozen hm 6
  have k4 := blk_cell hm (j := 8) (v := .int .i64 0) rfl
  have z4 := blk_frozen hm 8
  have HM := hid hm
  have HQ := hid hq
  have HF := hid hf
  clear hm hq hf
  go_cut [] (fun wx => Fr Non w wx ∧ wx.heap[w.heap.size + 1]? = some (.cells #[.int .i64 0, .int .i64 0, .int .i64 b, .int .i64 0, .int .i64 c, .int .i64 0, .int .i64 0, .int .i64 0, .int .i64 0, .int .i64 0, .int .i64 0, .int .i64 0] 137) ∧ wx.heap[w.heap.size]? = some (.cells #[.int .i64 q, .int .i64 b, .int .i64 c, .int .i64 d, .int .i64 e] 57))
  case first =>
    go_region
    go_wp2_with fail
    go_meet
    exact ⟨(((HF.out.setNew (g := w.heap.size + 1) (by omega) 0 _).setNew (g := w.heap.size + 1) (by omega) 2 _).setNew (g := w.heap.size + 1) (by omega) 4 _).drew, blk_drew (blk_set (i := 4) (blk_set (i := 2) (blk_set (i := 0) HM.out))), blk_drew (blk_set_ne (blk_set_ne (blk_set_ne HQ.out (by show w.heap.size ≠ w.heap.size + 1; omega)) (by show w.heap.size ≠ w.heap.size + 1; omega)) (by show w.heap.size ≠ w.heap.size + 1; omega))⟩
  case rest =>
  obtain ⟨hf2, hm2, hq2⟩ := hcut
  clear k0 k1 k2 k3 k4 z0 z1 z2 z3 z4 c0 c1 c2 c3 c4
  have k3 := blk_cell hm2 (j := 6) (v := .int .i64 0) rfl
  have k4 := blk_cell hm2 (j := 8) (v := .int .i64 0) rfl
  have z3 := blk_frozen hm2 6
  have z4 := blk_frozen hm2 8
  have c3 := blk_cell hq2 (j := 3) (v := .int .i64 d) rfl
  have c4 := blk_cell hq2 (j := 4) (v := .int .i64 e) rfl
  have HM2 := hid hm2
  have HF2 := hid hf2
  clear hm2 hf2 hq2
  go_wp2_with fail
  go_region
  go_wp2_with fail
  go_ret
  exact ⟨w.heap.size + 1, rfl, by omega, ((HF2.out.setNew (g := w.heap.size + 1) (by omega) 6 _).setNew (g := w.heap.size + 1) (by omega) 8 _).drew, blk_drew (blk_set (i := 8) (blk_set (i := 6) HM2.out))⟩
theorem mnew_m (q : Int) (hq : q ≤ 9223372036854775807) (b c d e : Nat) (w : World) (hb : b ≤ 9223372036854775807) (hc : c ≤ 9223372036854775807) (hd : d ≤ 9223372036854775807) (he : e ≤ 9223372036854775807) :
    Calls Try.prog 26 #[.agg #[.int .i64 q, .int .i64 b, .int .i64 c, .int .i64 d, .int .i64 e]] w (MNewPost w ⟨q.toNat, 0, 0, 0, b, c, d, e⟩) := by
  by_cases h : q < 0
  · rw [show q.toNat = 0 by omega]; exact mnew_neg q h b c d e w hb hc hd he
  · obtain ⟨a, rfl⟩ := Int.eq_ofNat_of_zero_le (Int.not_lt.1 h)
    exact mnew_raw a b c d e w (by omega) hb hc hd he
/-- Used. -/
def usedV (m : MS) : Value := .agg #[.int .i64 m.now, .int .i64 m.peak, .int .i64 0, .int .i64 0, .int .i64 0, .int .i64 0]
set_option maxRecDepth 100000 in
set_option maxHeartbeats 1000000 in
theorem used_m (g : Nat) (m : MS) (w : World) (h : MAt w g m) :
    Calls Try.prog 25 #[.pointer (some ⟨g, 0, none⟩)] w fun e w' => e = .returned (usedV m) ∧ Fr Non w w' := by
  obtain ⟨W, hW⟩ : ∃ W, W = w.alloc (.cells #[.int .i64 0, .int .i64 0, .int .i64 0, .int .i64 0, .int .i64 0, .int .i64 0] 52) := ⟨_, rfl⟩
  have hf : Fr Non w W := by rw [hW]; exact (Fr.refl _ _).alloc _
  have hm : MAt W g m := hf.blk h id
  have hu : W.heap[w.heap.size]? = some (.cells #[.int .i64 0, .int .i64 0, .int .i64 0, .int .i64 0, .int .i64 0, .int .i64 0] 52) := by rw [hW]; exact blk_new _ _
  have c1 := blk_cell hm (j := 1) (v := .int .i64 m.now) rfl
  have c3 := blk_cell hm (j := 3) (v := .int .i64 0) rfl
  have c5 := blk_cell hm (j := 5) (v := .int .i64 0) rfl
  have c7 := blk_cell hm (j := 7) (v := .int .i64 0) rfl
  have c9 := blk_cell hm (j := 9) (v := .int .i64 0) rfl
  have c10 := blk_cell hm (j := 10) (v := .int .i64 m.peak) rfl
  have HW := hid hW
  have HF := hid hf
  have HU := hid hu
  clear h hm hf hu hW
  go_enter Try.func25, Try.ntmps25
  go_upto_region 1 with fail
  rw [← HW.out]
  refine wp_region_still_tail 29 (by kernel_rfl) (by kernel_rfl) ?_
  simp only [List.take_succ_cons, List.take_zero, List.drop_succ_cons, List.drop_zero]
  iterate 4 still_step
  still_call (mirrorm (aload_any g 1 m.now _ (by exact c1)))
  iterate 3 still_step
  still_call (mirrorm (aload_any g 10 m.peak _ (by exact c10)))
  iterate 4 still_step
  still_call (mirrorm (aload_any g 3 0 _ (by exact c3)))
  iterate 4 still_step
  still_call (mirrorm (aload_any g 5 0 _ (by exact c5)))
  iterate 4 still_step
  still_call (mirrorm (aload_any g 7 0 _ (by exact c7)))
  iterate 4 still_step
  still_call (mirrorm (aload_any g 9 0 _ (by exact c9)))
  refine wpStill_nil ?_
  change wpList _ _ _ _ _ W.drew
  have hu2 : W.drew.heap[w.heap.size]? = some (.cells #[.int .i64 0, .int .i64 0, .int .i64 0, .int .i64 0, .int .i64 0, .int .i64 0] 52) := HU.out
  have HU2 := hid hu2
  clear hu2
  go_wp2_with (refine wpList_store_row rfl 52 _ _ rfl w.heap.size #[.int .i64 m.now, .int .i64 m.peak, .int .i64 0, .int .i64 0, .int .i64 0, .int .i64 0] rfl rfl 52 #[.int .i64 0, .int .i64 0, .int .i64 0, .int .i64 0, .int .i64 0, .int .i64 0] (by exact HU2.out) (by kernel_rfl) rfl (by kernel_rfl) ?_)
  refine bodyPost_ret (v := usedV m) (results_cell_row rfl _ _ w.heap.size 52 #[.int .i64 m.now, .int .i64 m.peak, .int .i64 0, .int .i64 0, .int .i64 0, .int .i64 0] (0, 0) _ rfl (by exact setRow_heap _ _ _ _ _ _ HU2.out) Try.underlying52 rfl (by kernel_rfl)) rfl ?_
  exact ⟨rfl, HF.out.os, HF.out.tape, HF.out.output, by simp; exact HF.out.size, fun k hk _ => by
    rw [setRow_other _ _ _ _ (show k ≠ w.heap.size by omega)]
    exact HF.out.block k hk id⟩
end Go.Proofs.Ytjnegcambbeblaa

/- The window: a ring of bytes; its functions, low. -/
namespace Go.Proofs.Ytjnegcambbeblaa
open Go.RowKit

structure WAt (g gr gm n next count : Nat) (ring : Nat → Int) (w : World) : Prop where
  st : w.heap[g]? = some (.cells #[.slice (some ⟨gr, 0, none⟩) n n, .int .i64 next, .int .i64 count, .pointer (some ⟨gm, 0, none⟩)] 159)
  rg : w.heap[gr]? = some (.cells (arr .u8 n ring) 5)
  ne : g ≠ gr
theorem WAt.keep {g gr gm n next count : Nat} {ring : Nat → Int} {w w' : World} (h : WAt g gr gm n next count ring w) {T : Nat → Prop} (hf : Fr T w w') (h1 : ¬ T g) (h2 : ¬ T gr) : WAt g gr gm n next count ring w' := ⟨hf.blk h.st h1, hf.blk h.rg h2, h.ne⟩
def WF (g gr : Nat) : Nat → Prop := fun k => k = g ∨ k = gr
def WPutPost (g gr gm n : Nat) (next count : Nat) (ring : Nat → Int) (w : World) (e : Ending) (w' : World) : Prop := e = .returned (.tuple #[]) ∧ Fr (WF g gr) w w' ∧ WAt g gr gm n next count ring w'
set_option maxRecDepth 100000 in
set_option maxHeartbeats 1000000 in
theorem wput_raw (g gr gm n next count : Nat) (ring : Nat → Int) (b : Int) (w : World) (h : WAt g gr gm n next count ring w) (hn : n ≤ 1048576) (hlt : next < n) (hc : count ≤ n) (hb : 0 ≤ b ∧ b < 256) (nx ct : Nat) (hnx : nx = if next + 1 = n then 0 else next + 1) (hct : ct = min (count + 1) n) :
    Calls Try.prog 94 #[.pointer (some ⟨g, 0, none⟩), .int .u8 b] w (WPutPost g gr gm n nx ct (upd ring next b) w) := by
  obtain ⟨hb0, hb1⟩ := hb
  have hx0 : (0 : Int) ≤ (next : Int) := by omega
  have hx1 : (next : Int) < (n : Int) := by omega
  have hn0 : ((n : Int) == 0) = false := by simp; omega
  have hnb : (n : Int) ≤ 1048576 := by omega
  have hcb : (count : Int) ≤ 1048576 := by omega
  have hc0 : (0 : Int) ≤ (count : Int) := by omega
  have hkn : next < n := hlt
  have k0 := blk_cell h.st (j := 0) (v := .slice (some ⟨gr, 0, none⟩) n n) rfl
  have k1 := blk_cell h.st (j := 1) (v := .int .i64 next) rfl
  have r1 := blk_cell h.rg (j := next) (v := .int .u8 (ring next)) (arr_get _ _ _ hlt)
  have z1 := blk_frozen h.rg next
  have H := hid h
  have HC := hid hc
  have HN := hid hn
  have HNX := hid hnx
  have HCT := hid hct
  clear h hlt hc hn hnx hct
  go_enter Try.func94, Try.ntmps94
  go_upto_region 1 with fail
  go_cut [] (fun wx => Fr (WF g gr) w wx ∧ WAt g gr gm n next count (upd ring next b) wx)
  case first =>
    go_region
    go_wp2_with fail
    go_meet
    have hf : Fr (WF g gr) w (w.setCell ⟨gr, next, none⟩ (.int .u8 b)) := Fr.setCell (p := ⟨gr, next, none⟩) (Fr.refl _ _) (fun _ => .inr rfl) _
    exact ⟨hf.drew, blk_drew (blk_set_ne H.out.st H.out.ne), by have e := blk_set (i := next) (v := .int .u8 b) H.out.rg; rw [arr_set] at e; exact e, H.out.ne⟩
  case rest =>
  obtain ⟨hf1, h1⟩ := hcut
  clear k0 k1 r1 z1
  have k0 := blk_cell h1.st (j := 0) (v := .slice (some ⟨gr, 0, none⟩) n n) rfl
  have k1 := blk_cell h1.st (j := 1) (v := .int .i64 next) rfl
  have z1 := blk_frozen h1.st 1
  have HF1 := hid hf1
  have H1 := hid h1
  clear hf1 h1
  go_upto_region 3 with fail
  obtain ⟨w2, hw2⟩ : ∃ w2, w2 = wc.setCell ⟨g, 1, none⟩ (.int .i64 ((next : Int) + 1)) := ⟨_, rfl⟩
  rw [← hw2]
  have hf2 : Fr (WF g gr) w w2 := by rw [hw2]; exact Fr.setCell (p := ⟨g, 1, none⟩) HF1.out (fun _ => .inl rfl) _
  have hs2 : w2.heap[g]? = some (.cells #[.slice (some ⟨gr, 0, none⟩) n n, .int .i64 ((next : Int) + 1), .int .i64 count, .pointer (some ⟨gm, 0, none⟩)] 159) := by rw [hw2]; exact blk_set (i := 1) H1.out.st
  have hr2 : w2.heap[gr]? = some (.cells (arr .u8 n (upd ring next b)) 5) := by rw [hw2]; exact blk_set_ne H1.out.rg (fun e => H1.out.ne e.symm)
  clear hw2 k0 k1 z1
  have k0 := blk_cell hs2 (j := 0) (v := .slice (some ⟨gr, 0, none⟩) n n) rfl
  have k1 := blk_cell hs2 (j := 1) (v := .int .i64 ((next : Int) + 1)) rfl
  have z1 := blk_frozen hs2 1
  have HF2 := hid hf2
  have HS2 := hid hs2
  have HR2 := hid hr2
  clear hf2 hs2 hr2
  have fin : ∀ (w3 : World) (c : Int), Fr (WF g gr) w w3 → WAt g gr gm n nx count (upd ring next b) w3 → c = (ct : Int) → WPutPost g gr gm n nx ct (upd ring next b) w (.returned (.tuple #[])) ((w3.setCell ⟨g, 2, none⟩ (.int .i64 c)).drew) := by
    intro w3 c hf3 h3 hc
    subst hc
    exact ⟨rfl, (Fr.setCell (p := ⟨g, 2, none⟩) hf3 (fun _ => .inl rfl) _).drew, blk_drew (blk_set (i := 2) h3.st), blk_drew (blk_set_ne h3.rg (fun e => h3.ne e.symm)), h3.ne⟩
  have FIN := hid fin
  clear fin
  by_cases hq : next + 1 = n
  · have q1 : ((next : Int) + 1 == (n : Int)) = true := by simp; omega
    have HX := hid (show nx = 0 by rw [HNX.out, if_pos hq])
    clear hq
    go_wp2_with fail
    go_quiet (fail)
    go_upto_region 5 with fail
    obtain ⟨w3, hw3⟩ : ∃ w3, w3 = (w2.drewN nq).setCell ⟨g, 1, none⟩ (.int .i64 0) := ⟨_, rfl⟩
    rw [← hw3]
    have hf3 : Fr (WF g gr) w w3 := by rw [hw3]; exact Fr.setCell (p := ⟨g, 1, none⟩) (HF2.out.drewN _) (fun _ => .inl rfl) _
    have h3 : WAt g gr gm n nx count (upd ring next b) w3 := by rw [hw3, HX.out]; exact ⟨blk_set (i := 1) (blk_drewN HS2.out), blk_set_ne (blk_drewN HR2.out) (fun e => H1.out.ne e.symm), H1.out.ne⟩
    clear hw3
    clear k0 k1 z1
    have k0 := blk_cell h3.st (j := 0) (v := .slice (some ⟨gr, 0, none⟩) n n) rfl
    have k2 := blk_cell h3.st (j := 2) (v := .int .i64 count) rfl
    have z2 := blk_frozen h3.st 2
    have HF3 := hid hf3
    have H3 := hid h3
    clear hf3 h3
    by_cases hq2 : count + 1 ≤ n
    · have q2 : (count : Int) + 1 ≤ (n : Int) := by omega
      have HY := hid (show ((count : Int) + 1) = (ct : Int) by have := HCT.out; omega)
      clear hq2
      go_region
      go_wp2_with fail
      go_end0
      exact FIN.out _ _ HF3.out H3.out HY.out
    · have q2 : (n : Int) < (count : Int) + 1 := by omega
      have HY := hid (show (n : Int) = (ct : Int) by have := HCT.out; omega)
      clear hq2
      go_region
      go_wp2_with fail
      go_end0
      exact FIN.out _ _ HF3.out H3.out HY.out
  · have q1 : ((next : Int) + 1 == (n : Int)) = false := by simp; omega
    have HX := hid (show nx = next + 1 by rw [HNX.out, if_neg hq])
    clear hq
    go_wp2_with fail
    go_quiet (fail)
    go_upto_region 5 with fail
    obtain ⟨w3, hw3⟩ : ∃ w3, w3 = w2.drewN nq := ⟨_, rfl⟩
    rw [← hw3]
    have hf3 : Fr (WF g gr) w w3 := by rw [hw3]; exact HF2.out.drewN _
    have h3 : WAt g gr gm n nx count (upd ring next b) w3 := by rw [hw3, HX.out]; exact ⟨blk_drewN HS2.out, blk_drewN HR2.out, H1.out.ne⟩
    clear hw3
    clear k0 k1 z1
    have k0 := blk_cell h3.st (j := 0) (v := .slice (some ⟨gr, 0, none⟩) n n) rfl
    have k2 := blk_cell h3.st (j := 2) (v := .int .i64 count) rfl
    have z2 := blk_frozen h3.st 2
    have HF3 := hid hf3
    have H3 := hid h3
    clear hf3 h3
    by_cases hq2 : count + 1 ≤ n
    · have q2 : (count : Int) + 1 ≤ (n : Int) := by omega
      have HY := hid (show ((count : Int) + 1) = (ct : Int) by have := HCT.out; omega)
      clear hq2
      go_region
      go_wp2_with fail
      go_end0
      exact FIN.out _ _ HF3.out H3.out HY.out
    · have q2 : (n : Int) < (count : Int) + 1 := by omega
      have HY := hid (show (n : Int) = (ct : Int) by have := HCT.out; omega)
      clear hq2
      go_region
      go_wp2_with fail
      go_end0
      exact FIN.out _ _ HF3.out H3.out HY.out
end Go.Proofs.Ytjnegcambbeblaa
