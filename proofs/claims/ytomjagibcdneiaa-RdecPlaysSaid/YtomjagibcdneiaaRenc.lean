/- The range coder: its state, give. -/
import Derived.Test.YtomjagibcdneiaaRdec5
import Derived.Test.YtomjagibcdneiaaGrow
import Derived.Test.YtomjagibcdneiaaCod
import Derived.Deep.CutBlock
import Derived.Laws.BitsAllLaws
import Derived.Deep.DeepCutAuto
namespace Go.Proofs.Ytomjagibcdneiaa
open Go.RowKit

/-- the coder lies at block g; its bytes in a row of its own; blocks of A are none of its. -/
structure CodV (A : Nat → Prop) (g : Nat) (w : World) (v : Value) (c : RC) : Prop where
  at_ : w.heap[g]? = some (.cells #[.int .u64 c.low, .int .u32 c.rng, .int .u8 c.waits, .int .i64 c.more, v] 70)
  own : Own w 0 .u8 5 v c.out
  sep : ∀ k, v.ownBlock = some k → k ≠ g ∧ ¬ A k
  old : ∀ k, A k → k < w.heap.size
  not : ¬ A g
def CodIs (A : Nat → Prop) (g : Nat) (w : World) (c : RC) : Prop := ∃ v, CodV A g w v c
def Out (A : Nat → Prop) : Nat → Prop := fun k => ¬ A k
def CPost (A : Nat → Prop) (g : Nat) (w : World) (c : RC) (e : Ending) (w' : World) : Prop := e = .returned (.tuple #[]) ∧ Fr (Out A) w w' ∧ CodIs A g w' c
theorem CodV.keep {A : Nat → Prop} {g : Nat} {w w' : World} {v : Value} {c : RC} (h : CodV A g w v c) {T : Nat → Prop} (hf : Fr T w w') (hg : ¬ T g) (ht : ∀ k, v.ownBlock = some k → ¬ T k) : CodV A g w' v c :=
  ⟨hf.blk h.at_ hg, h.own.fr hf ht, h.sep, fun k hk => Nat.lt_of_lt_of_le (h.old k hk) hf.size, h.not⟩
/-- a world where only blocks of A have turned. -/
theorem CodIs.keep {A : Nat → Prop} {g : Nat} {w w' : World} {c : RC} (h : CodIs A g w c) {T : Nat → Prop} (hf : Fr T w w') (ht : ∀ k, T k → A k) : CodIs A g w' c := by
  obtain ⟨v, hv⟩ := h
  exact ⟨v, hv.keep hf (fun e => hv.not (ht _ e)) (fun k hk e => (hv.sep k hk).2 (ht _ e))⟩
/-- what is new is none of the coder's. -/
theorem CodIs.more {A : Nat → Prop} {g : Nat} {w w' : World} {c : RC} (h : CodIs A g w c) {T : Nat → Prop} (hf : Fr T w w') (ht : ∀ k, T k → A k) : CodIs (fun k => A k ∨ (w.heap.size ≤ k ∧ k < w'.heap.size)) g w' c := by
  obtain ⟨v, hv⟩ := h
  have hk := hv.keep hf (fun e => hv.not (ht _ e)) (fun k hk e => (hv.sep k hk).2 (ht _ e))
  refine ⟨v, hk.at_, hk.own, fun k e => ⟨(hv.sep k e).1, fun q => ?_⟩, fun k q => ?_, fun q => ?_⟩
  · rcases q with q | q
    · exact (hv.sep k e).2 q
    · have := (hv.own.block k e).2; omega
  · rcases q with q | q
    · exact hk.old k q
    · exact q.2
  · rcases q with q | q
    · exact hv.not q
    · have := blk_lt hv.at_; omega
theorem CodIs.less {A A' : Nat → Prop} {g : Nat} {w : World} {c : RC} (h : CodIs A g w c) (hs : ∀ k, A' k → A k) : CodIs A' g w c := by
  obtain ⟨v, h1, h2, h3, h4, h5⟩ := h
  exact ⟨v, h1, h2, fun k e => ⟨(h3 k e).1, fun q => (h3 k e).2 (hs k q)⟩, fun k q => h4 k (hs k q), fun q => h5 (hs g q)⟩

theorem cod_app {A : Nat → Prop} {g : Nat} {w W w2 : World} {v v2 : Value} {c : RC} {xs : List Int} (h : CodV A g w v c) (hf : Fr Non w W) (hg : W.grownBy w2 v.ownBlock) (ho : Own w2 0 .u8 5 v2 xs)
    (hb : v2.ownBlock = v.ownBlock ∨ v2.ownBlock = some W.heap.size) :
    CodV A g (w2.setCell ⟨g, 4, none⟩ v2) v2 ⟨c.low, c.rng, c.waits, c.more, xs⟩ ∧ Fr (Out A) w (w2.setCell ⟨g, 4, none⟩ v2) := by
  have hgw := blk_lt h.at_
  have hne : v.ownBlock ≠ some g := fun e => (h.sep g e).1 rfl
  have hsz := hf.size
  have h1 : W.heap[g]? = some (.cells #[.int .u64 c.low, .int .u32 c.rng, .int .u8 c.waits, .int .i64 c.more, v] 70) := hf.blk h.at_ id
  have h2 := (Fr.grew hg).blk h1 hne
  have hs2 : ∀ k, v2.ownBlock = some k → k ≠ g ∧ ¬ A k := by
    intro k hk
    rcases hb with e | e
    · exact h.sep k (by rw [← e]; exact hk)
    · rw [e] at hk
      injection hk with hk
      subst hk
      exact ⟨by omega, fun q => by have := h.old _ q; omega⟩
  have hfr : Fr (Out A) w (w2.setCell ⟨g, 4, none⟩ v2) := by
    refine Fr.setCell (p := ⟨g, 4, none⟩) (Fr.then (hf.any (S := Out A)) (Fr.grew hg) fun i _ e => (h.sep i e).2) (fun _ => h.not) _
  refine ⟨⟨?_, ?_, hs2, ?_, h.not⟩, hfr⟩
  · exact blk_set (i := 4) h2
  · exact ho.fr (S := fun k => k = g) ((Fr.refl _ _).setOne _ _) (fun k hk e => (hs2 k hk).1 e)
  · intro k hk; exact Nat.lt_of_lt_of_le (h.old k hk) hfr.size
theorem low_and (x : Int) (h0 : 0 ≤ x) (h1 : x < 17179869184) : IntKind.u64.wrap (bits BinOp.and IntKind.u64 x 16777215 * 256) = x % 16777216 * 256 := by
  rw [u64_and x _ h0 (by omega) (by decide) (by decide)]
  obtain ⟨a, rfl⟩ := Int.eq_ofNat_of_zero_le h0
  show IntKind.u64.wrap (((a &&& 16777215 : Nat) : Int) * 256) = _
  rw [show (16777215 : Nat) = 2 ^ 24 - 1 by decide, Nat.and_two_pow_sub_one_eq_mod, IntKind.wrap_u64]
  omega
set_option maxRecDepth 100000 in
set_option maxHeartbeats 2000000 in
theorem give_any (A : Nat → Prop) (g : Nat) (c : RC) (w : World) (h : CodIs A g w c) (h0 : 0 ≤ c.low) (h1 : c.low < 17179869184) (h2 : 0 ≤ c.waits ∧ c.waits < 256) (h3 : c.out.length + c.more ≤ 1073741824) :
    Calls Try.prog 45 #[.pointer (some ⟨g, 0, none⟩)] w (CPost A g w c.give) := by
  obtain ⟨v, hv⟩ := h
  have c0 := blk_cell hv.at_ (j := 0) (v := .int .u64 c.low) rfl
  have c2 := blk_cell hv.at_ (j := 2) (v := .int .u8 c.waits) rfl
  have c3 := blk_cell hv.at_ (j := 3) (v := .int .i64 c.more) rfl
  have c4 := blk_cell hv.at_ (j := 4) (v := v) rfl
  have f0 := blk_frozen hv.at_ 0
  have f2 := blk_frozen hv.at_ 2
  have f3 := blk_frozen hv.at_ 3
  have f4 := blk_frozen hv.at_ 4
  have HV := hid hv
  clear hv
  by_cases hm : c.moves
  · have hm' : c.low < 4278190080 ∨ (¬ c.low < 4278190080 ∧ 4294967296 ≤ c.low) := by unfold RC.moves at hm; omega
    have HM := hid hm
    clear hm
    rcases hm' with m1 | ⟨m1, m2⟩
    · have q4 : ∀ o, (w.alloc o).cell? ⟨g, 4, none⟩ = some v := fun o => blk_cell (blk_alloc HV.out.at_) rfl
      go_enter Try.func45, Try.ntmps45
      go_upto_region 2 with fail
      go_cut [2] (fun kv wx => kv = .int .u8 c.carry ∧ ∃ v2, CodV A g wx v2 ⟨c.low, c.rng, c.waits, c.more, c.out ++ [(c.waits + c.carry) % 256]⟩ ∧ Fr (Out A) w wx)
      case first =>
        go_region_law (refine step_grow1 rfl (.tmp 25) (.tmp 32) 42 rfl .u8 5 1 Try.underlying42 Try.info_u8 v c.out rfl _ _ _ rfl (by exact Own.alloc HV.out.own _) (by exact cell_new1 _ _ _) (by decide) (by omega) ?_; intro v2 w2 hown2 hg2 hb2; obtain ⟨a2, cap2, hv2, _, _, _⟩ := hown2.rowN (n := c.out.length + 1) (by simp); subst hv2; obtain ⟨hc2, hf2⟩ := cod_app HV.out ((Fr.refl Non _).drew.alloc _) hg2 hown2 hb2; have g4 : w2.frozen? ⟨g, 4, none⟩ = false := blk_frozen ((Fr.grew hg2).blk (by exact blk_alloc HV.out.at_) (fun e => (HV.out.sep g e).1 rfl)) 4; have k4 : w2.cell? ⟨g, 4, none⟩ = some v := blk_cell ((Fr.grew hg2).blk (by exact blk_alloc HV.out.at_) (fun e => (HV.out.sep g e).1 rfl)) rfl; have HC2 := hid hc2; have HF2 := hid hf2; clear hown2 hg2 hb2 hc2 hf2)
        all_goals go_wp2_with fail
        all_goals go_meet
        all_goals (rw [IntKind.wrap_u8] at HC2; exact ⟨rfl, _, HC2.out, HF2.out⟩)
      case rest =>
        obtain ⟨hkv, v2, hc2, hf2⟩ := hcut
        subst hkv
        have c3 := blk_cell hc2.at_ (j := 3) (v := .int .i64 c.more) rfl
        have HC2 := hid hc2
        have HF2 := hid hf2
        clear hc2 hf2
        obtain ⟨y, hy⟩ : ∃ y, y = (c.waits + c.carry) % 256 := ⟨_, rfl⟩
        rw [← hy] at HC2
        go_wp2_with fail
        go_loopw [40] (fun iv wr => ∃ j : Nat, j ≤ c.more ∧ iv = .int .i64 j ∧ (∃ vr, CodV A g wr vr ⟨c.low, c.rng, c.waits, c.more, c.out ++ y :: List.replicate j ((255 + c.carry) % 256)⟩) ∧ Fr (Out A) w wr) (fun iv _ => c.more - (intOf iv).toNat)
        case atStart => exact ⟨0, Nat.zero_le _, rfl, ⟨v2, by simpa using HC2.out⟩, HF2.out⟩
        case round =>
          obtain ⟨j, hj, rfl, ⟨vr, hcr⟩, hfr⟩ := hrel
          have k4 := blk_cell hcr.at_ (j := 4) (v := vr) rfl
          have k0 := blk_cell hcr.at_ (j := 0) (v := .int .u64 c.low) rfl
          have k2 := blk_cell hcr.at_ (j := 2) (v := .int .u8 c.waits) rfl
          have k3 := blk_cell hcr.at_ (j := 3) (v := .int .i64 c.more) rfl
          have g0 := blk_frozen hcr.at_ 0
          have g2 := blk_frozen hcr.at_ 2
          have g3 := blk_frozen hcr.at_ 3
          have HCR := hid hcr
          have HFR := hid hfr
          clear hcr hfr
          by_cases hlt : j < c.more
          · go_wp2_with (refine opGrow1 (some 50) rfl rfl (.tmp 46) (.tmp 49) 42 rfl .u8 5 1 Try.underlying42 Try.info_u8 vr _ rfl (by exact Own.alloc HCR.out.own _) _ _ _ rfl (by exact cell_new1 _ _ _) (by decide) (by simp; omega) ?_; intro v3 w3 hown3 hg3 hb3; obtain ⟨a3, cap3, hv3, _, _, _⟩ := hown3.rowN (n := c.out.length + 1 + j + 1) (by simp; omega); subst hv3; obtain ⟨hc3, hf3⟩ := cod_app HCR.out ((Fr.refl Non _).alloc _) hg3 hown3 hb3; have g4 : w3.frozen? ⟨g, 4, none⟩ = false := blk_frozen ((Fr.grew hg3).blk (by exact blk_alloc HCR.out.at_) (fun e => (HCR.out.sep g e).1 rfl)) 4; have k5 : w3.cell? ⟨g, 4, none⟩ = some vr := blk_cell ((Fr.grew hg3).blk (by exact blk_alloc HCR.out.at_) (fun e => (HCR.out.sep g e).1 rfl)) rfl; have HC3 := hid hc3; have HF3 := hid hf3; clear hown3 hg3 hb3 hc3 hf3)
            go_roundw
            case rel =>
              refine ⟨j + 1, by omega, by congr 1, ?_, HFR.out.trans HF3.out⟩
              have := HC3.out
              rw [List.replicate_succ']
              exact ⟨_, by simpa using this⟩
            case measure => simp [intOf]; omega
          · have e : j = c.more := by omega
            subst e
            go_wp2_with fail
            go_end0
            rw [low_and _ h0 h1]
            have e : c.give = ⟨c.low % 16777216 * 256, c.rng, c.low / 16777216 % 256, 0, c.out ++ y :: List.replicate c.more ((255 + c.carry) % 256)⟩ := by rw [hy]; exact if_pos HM.out
            try rw [show c.low / 16777216 % 256 = c.low / 16777216 by omega] at e
            rw [e]
            refine ⟨rfl, Fr.setCell (p := ⟨g, 0, none⟩) (Fr.setCell (p := ⟨g, 3, none⟩) (Fr.setCell (p := ⟨g, 2, none⟩) HFR.out (fun _ => HV.out.not) _) (fun _ => HV.out.not) _) (fun _ => HV.out.not) _, vr, ?_, ?_, HCR.out.sep, ?_, HCR.out.not⟩
            · exact blk_set (i := 0) (blk_set (i := 3) (blk_set (i := 2) HCR.out.at_))
            · exact HCR.out.own.fr (S := fun k => k = g) ((((Fr.refl _ _)).setOne _ _).setOne _ _ |>.setOne _ _) (fun k hk e => (HCR.out.sep k hk).1 e)
            · intro k hk; have := HCR.out.old k hk; simpa using this
    · have q4 : ∀ o, (w.alloc o).cell? ⟨g, 4, none⟩ = some v := fun o => blk_cell (blk_alloc HV.out.at_) rfl
      go_enter Try.func45, Try.ntmps45
      go_upto_region 2 with fail
      go_cut [2] (fun kv wx => kv = .int .u8 c.carry ∧ ∃ v2, CodV A g wx v2 ⟨c.low, c.rng, c.waits, c.more, c.out ++ [(c.waits + c.carry) % 256]⟩ ∧ Fr (Out A) w wx)
      case first =>
        go_region_law (refine step_grow1 rfl (.tmp 25) (.tmp 32) 42 rfl .u8 5 1 Try.underlying42 Try.info_u8 v c.out rfl _ _ _ rfl (by exact Own.alloc HV.out.own _) (by exact cell_new1 _ _ _) (by decide) (by omega) ?_; intro v2 w2 hown2 hg2 hb2; obtain ⟨a2, cap2, hv2, _, _, _⟩ := hown2.rowN (n := c.out.length + 1) (by simp); subst hv2; obtain ⟨hc2, hf2⟩ := cod_app HV.out ((Fr.refl Non _).drew.alloc _) hg2 hown2 hb2; have g4 : w2.frozen? ⟨g, 4, none⟩ = false := blk_frozen ((Fr.grew hg2).blk (by exact blk_alloc HV.out.at_) (fun e => (HV.out.sep g e).1 rfl)) 4; have k4 : w2.cell? ⟨g, 4, none⟩ = some v := blk_cell ((Fr.grew hg2).blk (by exact blk_alloc HV.out.at_) (fun e => (HV.out.sep g e).1 rfl)) rfl; have HC2 := hid hc2; have HF2 := hid hf2; clear hown2 hg2 hb2 hc2 hf2)
        all_goals go_wp2_with fail
        all_goals go_meet
        all_goals (rw [IntKind.wrap_u8] at HC2; exact ⟨rfl, _, HC2.out, HF2.out⟩)
      case rest =>
        obtain ⟨hkv, v2, hc2, hf2⟩ := hcut
        subst hkv
        have c3 := blk_cell hc2.at_ (j := 3) (v := .int .i64 c.more) rfl
        have HC2 := hid hc2
        have HF2 := hid hf2
        clear hc2 hf2
        obtain ⟨y, hy⟩ : ∃ y, y = (c.waits + c.carry) % 256 := ⟨_, rfl⟩
        rw [← hy] at HC2
        go_wp2_with fail
        go_loopw [40] (fun iv wr => ∃ j : Nat, j ≤ c.more ∧ iv = .int .i64 j ∧ (∃ vr, CodV A g wr vr ⟨c.low, c.rng, c.waits, c.more, c.out ++ y :: List.replicate j ((255 + c.carry) % 256)⟩) ∧ Fr (Out A) w wr) (fun iv _ => c.more - (intOf iv).toNat)
        case atStart => exact ⟨0, Nat.zero_le _, rfl, ⟨v2, by simpa using HC2.out⟩, HF2.out⟩
        case round =>
          obtain ⟨j, hj, rfl, ⟨vr, hcr⟩, hfr⟩ := hrel
          have k4 := blk_cell hcr.at_ (j := 4) (v := vr) rfl
          have k0 := blk_cell hcr.at_ (j := 0) (v := .int .u64 c.low) rfl
          have k2 := blk_cell hcr.at_ (j := 2) (v := .int .u8 c.waits) rfl
          have k3 := blk_cell hcr.at_ (j := 3) (v := .int .i64 c.more) rfl
          have g0 := blk_frozen hcr.at_ 0
          have g2 := blk_frozen hcr.at_ 2
          have g3 := blk_frozen hcr.at_ 3
          have HCR := hid hcr
          have HFR := hid hfr
          clear hcr hfr
          by_cases hlt : j < c.more
          · go_wp2_with (refine opGrow1 (some 50) rfl rfl (.tmp 46) (.tmp 49) 42 rfl .u8 5 1 Try.underlying42 Try.info_u8 vr _ rfl (by exact Own.alloc HCR.out.own _) _ _ _ rfl (by exact cell_new1 _ _ _) (by decide) (by simp; omega) ?_; intro v3 w3 hown3 hg3 hb3; obtain ⟨a3, cap3, hv3, _, _, _⟩ := hown3.rowN (n := c.out.length + 1 + j + 1) (by simp; omega); subst hv3; obtain ⟨hc3, hf3⟩ := cod_app HCR.out ((Fr.refl Non _).alloc _) hg3 hown3 hb3; have g4 : w3.frozen? ⟨g, 4, none⟩ = false := blk_frozen ((Fr.grew hg3).blk (by exact blk_alloc HCR.out.at_) (fun e => (HCR.out.sep g e).1 rfl)) 4; have k5 : w3.cell? ⟨g, 4, none⟩ = some vr := blk_cell ((Fr.grew hg3).blk (by exact blk_alloc HCR.out.at_) (fun e => (HCR.out.sep g e).1 rfl)) rfl; have HC3 := hid hc3; have HF3 := hid hf3; clear hown3 hg3 hb3 hc3 hf3)
            go_roundw
            case rel =>
              refine ⟨j + 1, by omega, by congr 1, ?_, HFR.out.trans HF3.out⟩
              have := HC3.out
              rw [List.replicate_succ']
              exact ⟨_, by simpa using this⟩
            case measure => simp [intOf]; omega
          · have e : j = c.more := by omega
            subst e
            go_wp2_with fail
            go_end0
            rw [low_and _ h0 h1]
            have e : c.give = ⟨c.low % 16777216 * 256, c.rng, c.low / 16777216 % 256, 0, c.out ++ y :: List.replicate c.more ((255 + c.carry) % 256)⟩ := by rw [hy]; exact if_pos HM.out
            try rw [show c.low / 16777216 % 256 = c.low / 16777216 by omega] at e
            rw [e]
            refine ⟨rfl, Fr.setCell (p := ⟨g, 0, none⟩) (Fr.setCell (p := ⟨g, 3, none⟩) (Fr.setCell (p := ⟨g, 2, none⟩) HFR.out (fun _ => HV.out.not) _) (fun _ => HV.out.not) _) (fun _ => HV.out.not) _, vr, ?_, ?_, HCR.out.sep, ?_, HCR.out.not⟩
            · exact blk_set (i := 0) (blk_set (i := 3) (blk_set (i := 2) HCR.out.at_))
            · exact HCR.out.own.fr (S := fun k => k = g) ((((Fr.refl _ _)).setOne _ _).setOne _ _ |>.setOne _ _) (fun k hk e => (HCR.out.sep k hk).1 e)
            · intro k hk; have := HCR.out.old k hk; simpa using this
  · have hn : ¬ c.low < 4278190080 ∧ ¬ 4294967296 ≤ c.low := by unfold RC.moves at hm; omega
    obtain ⟨n1, n2⟩ := hn
    have HM := hid hm
    clear hm
    go_enter Try.func45, Try.ntmps45
    go_wp2
    go_end0
    rw [low_and _ h0 h1]
    have e : c.give = ⟨c.low % 16777216 * 256, c.rng, c.waits, c.more + 1, c.out⟩ := if_neg HM.out
    rw [e]
    refine ⟨rfl, Fr.setCell (Fr.setCell (Fr.refl _ _) (fun _ => HV.out.not) _) (fun _ => HV.out.not) _, v, ?_, ?_, HV.out.sep, ?_, HV.out.not⟩
    · exact blk_set (i := 0) (blk_set (i := 3) HV.out.at_)
    · exact HV.out.own.fr (S := fun k => k = g) ((((Fr.refl _ _)).setOne _ _).setOne _ _) (fun k hk e => (HV.out.sep k hk).1 e)
    · intro k hk; have := HV.out.old k hk; simpa using this
end Go.Proofs.Ytomjagibcdneiaa
