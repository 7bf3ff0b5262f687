/- Texts of this proof, one behind the other. -/
import Derived.Test.YtjnegcambbeblaaMg01
import Derived.Laws.ShiftsVarLaws
import Derived.Test.YtjnegcambbeblaaMg04
import Derived.Test.YtjnegcambbeblaaMg02
import Derived.Deep.Slices
import Derived.Deep.Fields
import Derived.ChangeSame
import Derived.ProofKit
import Derived.OpenShut

/- A setting of LZMA: May, Probs. -/
namespace Go.Proofs.Ytjnegcambbeblaa
open Go.RowKit

structure Lset where
  lc : Int
  lp : Int
  pb : Int
  dict : Int
def Lset.val (p : Lset) : Value := .agg #[.int .i64 p.lc, .int .i64 p.lp, .int .i64 p.pb, .int .i64 p.dict]
def i64r (x : Int) : Prop := -9223372036854775808 ≤ x ∧ x ≤ 9223372036854775807
structure Lset.wf (p : Lset) : Prop where
  lc : i64r p.lc
  lp : i64r p.lp
  pb : i64r p.pb
  dict : i64r p.dict
structure Lset.May (p : Lset) : Prop where
  lc0 : 0 ≤ p.lc
  lc1 : p.lc ≤ 8
  lp0 : 0 ≤ p.lp
  lp1 : p.lp ≤ 4
  pb0 : 0 ≤ p.pb
  pb1 : p.pb ≤ 4
  d0 : 4096 ≤ p.dict
  d1 : p.dict ≤ 4294967295
def Lset.may (p : Lset) : Bool := decide (0 ≤ p.lc) && (decide (p.lc ≤ 8) && (decide (0 ≤ p.lp) && (decide (p.lp ≤ 4) && (decide (0 ≤ p.pb) && (decide (p.pb ≤ 4) && (decide (4096 ≤ p.dict) && decide (p.dict ≤ 4294967295)))))))
theorem Lset.may_iff {p : Lset} : p.may = true ↔ p.May := by
  unfold Lset.may
  simp only [Bool.and_eq_true, decide_eq_true_eq]
  constructor
  · rintro ⟨h1, h2, h3, h4, h5, h6, h7, h8⟩; exact ⟨h1, h2, h3, h4, h5, h6, h7, h8⟩
  · rintro ⟨h1, h2, h3, h4, h5, h6, h7, h8⟩; exact ⟨h1, h2, h3, h4, h5, h6, h7, h8⟩
set_option maxRecDepth 100000 in
theorem lmay_any (p : Lset) (w : World) : Calls Try.prog 33 #[p.val] w fun e w' => e = .returned (.bool p.may) ∧ Fr Non w w' := by
  obtain ⟨a, b, c, d⟩ := p
  have HM := hid (show Lset.may ⟨a, b, c, d⟩ = (decide (0 ≤ a) && (decide (a ≤ 8) && (decide (0 ≤ b) && (decide (b ≤ 4) && (decide (0 ≤ c) && (decide (c ≤ 4) && (decide (4096 ≤ d) && decide (d ≤ 4294967295)))))))) from rfl)
  unfold Lset.val
  dsimp only
  by_cases h0 : 0 ≤ a
  rotate_left
  · have HX := hid (show Lset.may ⟨a, b, c, d⟩ = false by rw [HM.out, decide_eq_false h0]; rfl)
    go_enter Try.func33, Try.ntmps33
    go_wp2_with fail
    go_ret
    exact ⟨by rw [HX.out]; rfl, (Fr.refl _ _).alloc _⟩
  by_cases h1 : a ≤ 8
  rotate_left
  · have HX := hid (show Lset.may ⟨a, b, c, d⟩ = false by rw [HM.out, decide_eq_true h0, decide_eq_false h1]; rfl)
    go_enter Try.func33, Try.ntmps33
    go_wp2_with fail
    go_ret
    exact ⟨by rw [HX.out]; rfl, (Fr.refl _ _).alloc _⟩
  by_cases h2 : 0 ≤ b
  rotate_left
  · have HX := hid (show Lset.may ⟨a, b, c, d⟩ = false by rw [HM.out, decide_eq_true h0, decide_eq_true h1, decide_eq_false h2]; rfl)
    go_enter Try.func33, Try.ntmps33
    go_wp2_with fail
    go_ret
    exact ⟨by rw [HX.out]; rfl, (Fr.refl _ _).alloc _⟩
  by_cases h3 : b ≤ 4
  rotate_left
  · have HX := hid (show Lset.may ⟨a, b, c, d⟩ = false by rw [HM.out, decide_eq_true h0, decide_eq_true h1, decide_eq_true h2, decide_eq_false h3]; rfl)
    go_enter Try.func33, Try.ntmps33
    go_wp2_with fail
    go_ret
    exact ⟨by rw [HX.out]; rfl, (Fr.refl _ _).alloc _⟩
  by_cases h4 : 0 ≤ c
  rotate_left
  · have HX := hid (show Lset.may ⟨a, b, c, d⟩ = false by rw [HM.out, decide_eq_true h0, decide_eq_true h1, decide_eq_true h2, decide_eq_true h3, decide_eq_false h4]; rfl)
    go_enter Try.func33, Try.ntmps33
    go_wp2_with fail
    go_ret
    exact ⟨by rw [HX.out]; rfl, (Fr.refl _ _).alloc _⟩
  by_cases h5 : c ≤ 4
  rotate_left
  · have HX := hid (show Lset.may ⟨a, b, c, d⟩ = false by rw [HM.out, decide_eq_true h0, decide_eq_true h1, decide_eq_true h2, decide_eq_true h3, decide_eq_true h4, decide_eq_false h5]; rfl)
    go_enter Try.func33, Try.ntmps33
    go_wp2_with fail
    go_ret
    exact ⟨by rw [HX.out]; rfl, (Fr.refl _ _).alloc _⟩
  by_cases h6 : 4096 ≤ d
  rotate_left
  · have HX := hid (show Lset.may ⟨a, b, c, d⟩ = false by rw [HM.out, decide_eq_true h0, decide_eq_true h1, decide_eq_true h2, decide_eq_true h3, decide_eq_true h4, decide_eq_true h5, decide_eq_false h6]; rfl)
    go_enter Try.func33, Try.ntmps33
    go_wp2_with fail
    go_ret
    exact ⟨by rw [HX.out]; rfl, (Fr.refl _ _).alloc _⟩
  by_cases h7 : d ≤ 4294967295
  rotate_left
  · have HX := hid (show Lset.may ⟨a, b, c, d⟩ = false by rw [HM.out, decide_eq_true h0, decide_eq_true h1, decide_eq_true h2, decide_eq_true h3, decide_eq_true h4, decide_eq_true h5, decide_eq_true h6, decide_eq_false h7]; rfl)
    go_enter Try.func33, Try.ntmps33
    go_wp2_with fail
    go_ret
    exact ⟨by rw [HX.out]; rfl, (Fr.refl _ _).alloc _⟩
  have HX := hid (show Lset.may ⟨a, b, c, d⟩ = true by rw [HM.out, decide_eq_true h0, decide_eq_true h1, decide_eq_true h2, decide_eq_true h3, decide_eq_true h4, decide_eq_true h5, decide_eq_true h6, decide_eq_true h7]; rfl)
  go_enter Try.func33, Try.ntmps33
  go_wp2_with fail
  go_ret
  exact ⟨by rw [HX.out]; rfl, (Fr.refl _ _).alloc _⟩
set_option maxRecDepth 100000 in
theorem rmay_any (p : Lset) (w : World) : Calls Try.prog 14 #[p.val] w fun e w' => e = .returned (.bool p.may) ∧ Fr Non w w' := by
  obtain ⟨a, b, c, d⟩ := p
  have HM := hid (show Lset.may ⟨a, b, c, d⟩ = (decide (0 ≤ a) && (decide (a ≤ 8) && (decide (0 ≤ b) && (decide (b ≤ 4) && (decide (0 ≤ c) && (decide (c ≤ 4) && (decide (4096 ≤ d) && decide (d ≤ 4294967295)))))))) from rfl)
  unfold Lset.val
  dsimp only
  by_cases h0 : 0 ≤ a
  rotate_left
  · have HX := hid (show Lset.may ⟨a, b, c, d⟩ = false by rw [HM.out, decide_eq_false h0]; rfl)
    go_enter Try.func14, Try.ntmps14
    go_wp2_with fail
    go_ret
    exact ⟨by rw [HX.out]; rfl, (Fr.refl _ _).alloc _⟩
  by_cases h1 : a ≤ 8
  rotate_left
  · have HX := hid (show Lset.may ⟨a, b, c, d⟩ = false by rw [HM.out, decide_eq_true h0, decide_eq_false h1]; rfl)
    go_enter Try.func14, Try.ntmps14
    go_wp2_with fail
    go_ret
    exact ⟨by rw [HX.out]; rfl, (Fr.refl _ _).alloc _⟩
  by_cases h2 : 0 ≤ b
  rotate_left
  · have HX := hid (show Lset.may ⟨a, b, c, d⟩ = false by rw [HM.out, decide_eq_true h0, decide_eq_true h1, decide_eq_false h2]; rfl)
    go_enter Try.func14, Try.ntmps14
    go_wp2_with fail
    go_ret
    exact ⟨by rw [HX.out]; rfl, (Fr.refl _ _).alloc _⟩
  by_cases h3 : b ≤ 4
  rotate_left
  · have HX := hid (show Lset.may ⟨a, b, c, d⟩ = false by rw [HM.out, decide_eq_true h0, decide_eq_true h1, decide_eq_true h2, decide_eq_false h3]; rfl)
    go_enter Try.func14, Try.ntmps14
    go_wp2_with fail
    go_ret
    exact ⟨by rw [HX.out]; rfl, (Fr.refl _ _).alloc _⟩
  by_cases h4 : 0 ≤ c
  rotate_left
  · have HX := hid (show Lset.may ⟨a, b, c, d⟩ = false by rw [HM.out, decide_eq_true h0, decide_eq_true h1, decide_eq_true h2, decide_eq_true h3, decide_eq_false h4]; rfl)
    go_enter Try.func14, Try.ntmps14
    go_wp2_with fail
    go_ret
    exact ⟨by rw [HX.out]; rfl, (Fr.refl _ _).alloc _⟩
  by_cases h5 : c ≤ 4
  rotate_left
  · have HX := hid (show Lset.may ⟨a, b, c, d⟩ = false by rw [HM.out, decide_eq_true h0, decide_eq_true h1, decide_eq_true h2, decide_eq_true h3, decide_eq_true h4, decide_eq_false h5]; rfl)
    go_enter Try.func14, Try.ntmps14
    go_wp2_with fail
    go_ret
    exact ⟨by rw [HX.out]; rfl, (Fr.refl _ _).alloc _⟩
  by_cases h6 : 4096 ≤ d
  rotate_left
  · have HX := hid (show Lset.may ⟨a, b, c, d⟩ = false by rw [HM.out, decide_eq_true h0, decide_eq_true h1, decide_eq_true h2, decide_eq_true h3, decide_eq_true h4, decide_eq_true h5, decide_eq_false h6]; rfl)
    go_enter Try.func14, Try.ntmps14
    go_wp2_with fail
    go_ret
    exact ⟨by rw [HX.out]; rfl, (Fr.refl _ _).alloc _⟩
  by_cases h7 : d ≤ 4294967295
  rotate_left
  · have HX := hid (show Lset.may ⟨a, b, c, d⟩ = false by rw [HM.out, decide_eq_true h0, decide_eq_true h1, decide_eq_true h2, decide_eq_true h3, decide_eq_true h4, decide_eq_true h5, decide_eq_true h6, decide_eq_false h7]; rfl)
    go_enter Try.func14, Try.ntmps14
    go_wp2_with fail
    go_ret
    exact ⟨by rw [HX.out]; rfl, (Fr.refl _ _).alloc _⟩
  have HX := hid (show Lset.may ⟨a, b, c, d⟩ = true by rw [HM.out, decide_eq_true h0, decide_eq_true h1, decide_eq_true h2, decide_eq_true h3, decide_eq_true h4, decide_eq_true h5, decide_eq_true h6, decide_eq_true h7]; rfl)
  go_enter Try.func14, Try.ntmps14
  go_wp2_with fail
  go_ret
  exact ⟨by rw [HX.out]; rfl, (Fr.refl _ _).alloc _⟩
def Lset.probs (p : Lset) : Nat := if p.may = true then 1847 + 768 * 2 ^ (p.lc + p.lp).toNat else 0
set_option maxRecDepth 100000 in
theorem lprobs_any (p : Lset) (w : World) : Calls Try.prog 34 #[p.val] w fun e w' => e = .returned (.int .i64 p.probs) ∧ Fr Non w w' := by
  cases hm : p.may with
  | false =>
    have HP := hid (show p.probs = 0 by unfold Lset.probs; rw [hm]; rfl)
    have HM := hid hm
    clear hm
    obtain ⟨a, b, c, d⟩ := p
    unfold Lset.val
    dsimp only
    go_enter Try.func34, Try.ntmps34
    go_wp2_with fail
    refine (lmay_any ⟨a, b, c, d⟩ _).mono ?_
    rintro e w1 ⟨rfl, hf1⟩
    rw [HM.out]
    go_wp2_with fail
    go_ret
    exact ⟨by rw [HP.out]; rfl, ((Fr.refl _ _).alloc _).trans hf1⟩
  | true =>
    have HP := hid (show p.probs = 1847 + 768 * 2 ^ (p.lc + p.lp).toNat by unfold Lset.probs; rw [hm]; rfl)
    obtain ⟨h1, h2, h3, h4, h5, h6, h7, h8⟩ := Lset.may_iff.1 hm
    have HM := hid hm
    clear hm
    obtain ⟨a, b, c, d⟩ := p
    dsimp only at h1 h2 h3 h4 HP
    unfold Lset.val
    dsimp only
    obtain ⟨k, hk⟩ : ∃ k : Nat, (k : Int) = a + b := ⟨(a + b).toNat, by omega⟩
    have HK := hid hk
    clear hk h5 h6 h7 h8
    go_enter Try.func34, Try.ntmps34
    go_wp2_with fail
    refine (lmay_any ⟨a, b, c, d⟩ _).mono ?_
    rintro e w1 ⟨rfl, hf1⟩
    rw [HM.out]
    have hb := hf1.blk (blk_new w (.cells #[.int .i64 a, .int .i64 b, .int .i64 c, .int .i64 d] 23)) id
    have c0 := blk_cell hb (j := 0) (v := .int .i64 a) rfl
    have c1 := blk_cell hb (j := 1) (v := .int .i64 b) rfl
    have HF := hid (((Fr.refl Non w).alloc (.cells #[.int .i64 a, .int .i64 b, .int .i64 c, .int .i64 d] 23)).trans hf1)
    clear hb hf1
    go_wp2_with fail
    go_ret
    have e : wrap64 (1847 + wrap64 (768 * 2 ^ (a + b).toNat)) = ((1847 + 768 * 2 ^ (a + b).toNat : Nat) : Int) := by
      have hp : 2 ^ (a + b).toNat ≤ 4096 := by
        have : 2 ^ (a + b).toNat ≤ 2 ^ 12 := Nat.pow_le_pow_right (by decide) (by omega)
        exact this
      have e1 : (768 : Int) * 2 ^ (a + b).toNat = ((768 * 2 ^ (a + b).toNat : Nat) : Int) := by simp
      rw [e1]
      unfold wrap64
      omega
    exact ⟨by rw [HP.out]; exact congrArg (fun x => Ending.returned (.int .i64 x)) e, HF.out⟩
end Go.Proofs.Ytjnegcambbeblaa

/- lzma.Decoder: Reset. -/
namespace Go.Proofs.Ytjnegcambbeblaa
open Go.RowKit

/-- a state that begins anew by a setting. -/
def LS.reset (s : LS) (lc lp pb : Nat) : LS := { s with lc := lc, lp := lp, pb := pb, st := 0, rep := fun _ => 0, P := fun _ => 1024 }
theorem fresh_prL (n : Nat) : Pr (fun _ => (1024 : Int)) n := fun j _ => by show (31 : Int) ≤ 1024 ∧ (1024 : Int) ≤ 2017; omega
structure SetOk (L : LL) (lc lp pb : Nat) : Prop where
  a : lc ≤ 8
  b : lp ≤ 4
  c : pb ≤ 4
  nl : 768 * 2 ^ (lc + lp) ≤ L.nl
theorem LS.Ok.reset {L : LL} {s : LS} (h : s.Ok L) {lc lp pb : Nat} (hs : SetOk L lc lp pb) : (s.reset lc lp pb).Ok L :=
  ⟨fresh_prL _, by show 0 < 12; decide, fun i _ => by show 0 < 4294967296; decide, h.by_, hs.a, hs.b, hs.c, hs.nl, h.dict, h.left⟩
/-- what lies in memory, whatever the numbers are. -/
structure LMem (L : LL) (sp rp : Value) (w : World) (s : LS) : Prop where
  at_ : w.heap[L.gd]? = some (.cells (s.cells L L.lit sp rp) 115)
  lit : w.heap[L.gl]? = some (.cells (arr .u16 L.nl (fun i => s.P (1847 + i))) 40)
  win : WinIs L.gw L.gn L.gm L.n w s.H
  ap : L.Ap
  big : L.nl ≤ 49152
theorem LIs.mem {L : LL} {sp rp : Value} {w : World} {s : LS} (h : LIs L sp rp w s) : LMem L sp rp w s := ⟨h.at_, h.lit, h.win, h.ap, h.big⟩
theorem LMem.keep {L : LL} {sp rp : Value} {w w' : World} {s : LS} (h : LMem L sp rp w s) {T : Nat → Prop} (hf : Fr T w w') (ht : ∀ k, L.foot k → ¬ T k) : LMem L sp rp w' s :=
  ⟨hf.blk h.at_ (ht _ (.inl rfl)), hf.blk h.lit (ht _ (.inr (.inl rfl))), h.win.keep hf (ht _ (.inr (.inr (.inl rfl)))) (ht _ (.inr (.inr (.inr rfl)))), h.ap, h.big⟩
theorem LMem.headC {L : LL} {sp rp : Value} {w : World} {s : LS} (h : LMem L sp rp w s) (i : Nat) {v : Value} (hi : i < 9) (hv : (s.head L sp rp)[i]? = some v) : w.cell? ⟨L.gd, i, none⟩ = some v :=
  blk_cell h.at_ (by rw [cellsL_head _ _ _ _ _ hi]; exact hv)
theorem LMem.tailC {L : LL} {sp rp : Value} {w : World} {s : LS} (h : LMem L sp rp w s) (i : Nat) {v : Value} (hv : (s.tail L.lit)[i]? = some v) : w.cell? ⟨L.gd, 1856 + i, none⟩ = some v :=
  blk_cell h.at_ (by rw [cellsL_tail]; exact hv)
structure LPre (s : LS) : Prop where
  by_ : bytesL s.H
  dict : s.dict ≤ 4294967295
  left : s.left ≤ 273
theorem LPre.reset {L : LL} {s : LS} (h : LPre s) {lc lp pb : Nat} (hs : SetOk L lc lp pb) : (s.reset lc lp pb).Ok L :=
  ⟨fresh_prL _, by show 0 < 12; decide, fun i _ => by show 0 < 4294967296; decide, h.by_, hs.a, hs.b, hs.c, hs.nl, h.dict, h.left⟩
set_option maxRecDepth 100000 in
set_option maxHeartbeats 4000000 in
theorem lreset_raw (L : LL) (sp rp : Value) (s : LS) (lc lp pb : Nat) (di : Int) (w : World) (h : LMem L sp rp w s) (hpre : LPre s) (hs : SetOk L lc lp pb) :
    Calls Try.prog 57 #[.pointer (some ⟨L.gd, 0, none⟩), .agg #[.int .i64 lc, .int .i64 lp, .int .i64 pb, .int .i64 di]] w (LPost L sp rp (.tuple #[]) (s.reset lc lp pb) w) := by
  obtain ⟨W, hW⟩ : ∃ W, W = w.alloc (.cells #[.int .i64 lc, .int .i64 lp, .int .i64 pb, .int .i64 di] 23) := ⟨_, rfl⟩
  have hfW : Fr Non w W := by rw [hW]; exact (Fr.refl _ _).alloc _
  have hbW : W.heap[w.heap.size]? = some (.cells #[.int .i64 lc, .int .i64 lp, .int .i64 pb, .int .i64 di] 23) := by rw [hW]; exact blk_new _ _
  have hlt : L.gd < w.heap.size := blk_lt h.at_
  have h1 := h.keep hfW (fun _ _ e => e)
  have c0 := blk_cell hbW (j := 0) (v := .int .i64 lc) rfl
  have c1 := blk_cell hbW (j := 1) (v := .int .i64 lp) rfl
  have c2 := blk_cell hbW (j := 2) (v := .int .i64 pb) rfl
  have k0 := h1.headC 0 (v := .int .i64 s.lc) (by decide) rfl
  have k1 := h1.headC 1 (v := .int .i64 s.lp) (by decide) rfl
  have k2 := h1.headC 2 (v := .int .i64 s.pb) (by decide) rfl
  have z0 := blk_frozen h1.at_ 0
  have z1 := blk_frozen h1.at_ 1
  have z2 := blk_frozen h1.at_ 2
  have HW := hid hW
  have HFW := hid hfW
  have H1 := hid h1
  have HLT := hid hlt
  have HS := hid hs
  have HPRE := hid hpre
  clear hpre
  clear h hW hfW hbW hlt h1 hs
  go_enter Try.func57, Try.ntmps57
  go_upto_region 1 with fail
  rw [← HW.out]
  go_cut [] (fun wx => Fr (fun k => k = L.gd) W wx ∧ LMem L sp rp wx { s with lc := lc, lp := lp, pb := pb })
  case first =>
    go_region
    go_wp2_with fail
    go_meet
    have hf : Fr (fun k => k = L.gd) W (((W.setCell ⟨L.gd, 0, none⟩ (.int .i64 lc)).setCell ⟨L.gd, 1, none⟩ (.int .i64 lp)).setCell ⟨L.gd, 2, none⟩ (.int .i64 pb)).drew := ((((Fr.refl _ _).setOne _ _).setOne _ _).setOne _ _).drew
    refine ⟨hf, ?_, hf.blk H1.out.lit (fun e => H1.out.ap.dl e.symm), H1.out.win.keep hf (fun e => H1.out.ap.dw e.symm) (fun e => H1.out.ap.dn e.symm), H1.out.ap, H1.out.big⟩
    · have e := blk_set (i := 0) (v := .int .i64 lc) H1.out.at_
      rw [cellsL_setH L L.lit sp rp sp rp s { s with lc := lc } (by decide) rfl rfl rfl] at e
      have e2 := blk_set (i := 1) (v := .int .i64 lp) e
      rw [cellsL_setH L L.lit sp rp sp rp { s with lc := lc } { s with lc := lc, lp := lp } (by decide) rfl rfl rfl] at e2
      have e3 := blk_set (i := 2) (v := .int .i64 pb) e2
      rw [cellsL_setH L L.lit sp rp sp rp { s with lc := lc, lp := lp } { s with lc := lc, lp := lp, pb := pb } (by decide) rfl rfl rfl] at e3
      exact blk_drew e3
  case rest =>
  obtain ⟨hf2, h2⟩ := hcut
  clear c0 c1 c2 k0 k1 k2 z0 z1 z2
  have t1 := h2.tailC 1 (v := .int .i64 s.st) rfl
  have t2 := h2.tailC 2 (v := .int .u32 (s.rep 0)) rfl
  have t3 := h2.tailC 3 (v := .int .u32 (s.rep 1)) rfl
  have t4 := h2.tailC 4 (v := .int .u32 (s.rep 2)) rfl
  have t5 := h2.tailC 5 (v := .int .u32 (s.rep 3)) rfl
  have y1 := blk_frozen h2.at_ (1856 + 1)
  have y2 := blk_frozen h2.at_ (1856 + 2)
  have y3 := blk_frozen h2.at_ (1856 + 3)
  have y4 := blk_frozen h2.at_ (1856 + 4)
  have y5 := blk_frozen h2.at_ (1856 + 5)
  have HF2 := hid hf2
  have H2 := hid h2
  clear hf2 h2
  go_upto_region 3 with fail
  obtain ⟨w3, hw3⟩ : ∃ w3, w3 = ((((wc.setCell ⟨L.gd, 1857, none⟩ (.int .i64 0)).setCell ⟨L.gd, 1858, none⟩ (.int .u32 0)).setCell ⟨L.gd, 1859, none⟩ (.int .u32 0)).setCell ⟨L.gd, 1860, none⟩ (.int .u32 0)).setCell ⟨L.gd, 1861, none⟩ (.int .u32 0) := ⟨_, rfl⟩
  rw [← hw3]
  obtain ⟨s3, hs3⟩ : ∃ s3 : LS, s3 = { s with lc := lc, lp := lp, pb := pb, st := 0, rep := fun _ => 0 } := ⟨_, rfl⟩
  have hf3 : Fr (fun k => k = L.gd) W w3 := by rw [hw3]; exact ((((HF2.out.setOne _ _).setOne _ _).setOne _ _).setOne _ _).setOne _ _
  have hb3 : w3.heap[L.gd]? = some (.cells (s3.cells L L.lit sp rp) 115) := by
    rw [hw3, hs3]
    have e1 := blk_set (i := 1856 + 1) (v := .int .i64 0) H2.out.at_
    rw [cellsL_setT L L.lit L.lit sp rp { s with lc := lc, lp := lp, pb := pb } { s with lc := lc, lp := lp, pb := pb, st := 0 } rfl rfl rfl] at e1
    have e2 := blk_set (i := 1856 + 2) (v := .int .u32 0) e1
    rw [cellsL_setT L L.lit L.lit sp rp { s with lc := lc, lp := lp, pb := pb, st := 0 } { s with lc := lc, lp := lp, pb := pb, st := 0, rep := fun j => if j = 0 then 0 else s.rep j } rfl rfl rfl] at e2
    have e3 := blk_set (i := 1856 + 3) (v := .int .u32 0) e2
    rw [cellsL_setT L L.lit L.lit sp rp { s with lc := lc, lp := lp, pb := pb, st := 0, rep := fun j => if j = 0 then 0 else s.rep j } { s with lc := lc, lp := lp, pb := pb, st := 0, rep := fun j => if j = 0 then 0 else if j = 1 then 0 else s.rep j } rfl rfl rfl] at e3
    have e4 := blk_set (i := 1856 + 4) (v := .int .u32 0) e3
    rw [cellsL_setT L L.lit L.lit sp rp { s with lc := lc, lp := lp, pb := pb, st := 0, rep := fun j => if j = 0 then 0 else if j = 1 then 0 else s.rep j } { s with lc := lc, lp := lp, pb := pb, st := 0, rep := fun j => if j = 0 then 0 else if j = 1 then 0 else if j = 2 then 0 else s.rep j } rfl rfl rfl] at e4
    have e5 := blk_set (i := 1856 + 5) (v := .int .u32 0) e4
    rw [cellsL_setT L L.lit L.lit sp rp { s with lc := lc, lp := lp, pb := pb, st := 0, rep := fun j => if j = 0 then 0 else if j = 1 then 0 else if j = 2 then 0 else s.rep j } { s with lc := lc, lp := lp, pb := pb, st := 0, rep := fun _ => 0 } rfl rfl rfl] at e5
    exact e5
  have HF3 := hid hf3
  have HB3 := hid hb3
  have HS3 := hid hs3
  clear hw3 hs3 hf3 hb3 t1 t2 t3 t4 t5 y1 y2 y3 y4 y5
  go_wp2_with fail
  refine (begin_any L.gd 9 (s3.head L sp rp) (s3.tail L.lit) (fun i => s3.P (piL i)) 115 _ rfl (by exact HB3.out)).mono ?_
  rintro e w4 ⟨rfl, hf4, hb4⟩
  obtain ⟨s4, hs4⟩ : ∃ s4 : LS, s4 = s.reset lc lp pb := ⟨_, rfl⟩
  have hb4' : w4.heap[L.gd]? = some (.cells (s4.cells L L.lit sp rp) 115) := by
    rw [hb4, hs4, HS3.out]; rfl
  have hfr : Fr (fun k => k = L.gd) W w4 := HF3.out.trans hf4
  have HL4 := hid (hfr.blk H1.out.lit (fun e => H1.out.ap.dl e.symm))
  have HF4 := hid hfr
  have HB4 := hid hb4'
  have HS4 := hid hs4
  have hnl := H1.out.big
  have lt4 := blk_cell hb4' (j := 1856 + 0) (v := L.lit) (by rw [cellsL_tail]; rfl)
  unfold LL.lit at lt4
  have hne : ¬ L.gd = L.gl := H1.out.ap.dl
  clear hf4 hb4 hb4' hfr hs4
  go_wp2_with fail
  go_loopw [39] (fun iv wr => ∃ k : Nat, k ≤ L.nl ∧ iv = .int .i64 k ∧ Fr (fun b => b = L.gl) w4 wr ∧ wr.heap[L.gl]? = some (.cells (arr .u16 L.nl (fun j => if j < k then 1024 else s.P (1847 + j))) 40)) (fun iv _ => L.nl - (intOf iv).toNat)
  case atStart => exact ⟨0, Nat.zero_le _, rfl, Fr.refl _ _, by rw [HL4.out]; rfl⟩
  case round =>
    obtain ⟨k, hk, rfl, hf, hb⟩ := hrel
    have HFR := hid hf
    have HB := hid hb
    have ltk := hf.cell lt4 (fun e => hne e)
    by_cases hlt : k < L.nl
    · have hk0 : (0 : Int) ≤ (k : Int) := by omega
      have hk1 : (k : Int) < (L.nl : Int) := by omega
      have ck := blk_cell hb (arr_get .u16 _ (fun j => if j < k then (1024 : Int) else s.P (1847 + j)) hlt)
      have zk := blk_frozen hb k
      clear hf hb
      go_wp2_with fail
      go_roundw
      case rel =>
        refine ⟨k + 1, hlt, by go_num, HFR.out.setOne _ _, ?_⟩
        have e := blk_set (i := k) (v := .int .u16 1024) HB.out
        rw [arr_set] at e
        rw [e]
        congr 2
        unfold arr
        apply Array.ext_getElem?
        intro i
        by_cases hi : i < L.nl
        · simp only [Array.getElem?_map, Array.getElem?_range]
          rw [if_pos hi]
          simp only [Option.map_some]
          congr 2
          by_cases e : i = k
          · rw [e, upd_same, if_pos (by omega)]
          · rw [upd_ne _ _ e]
            by_cases h3 : i < k
            · rw [if_pos h3, if_pos (by omega)]
            · rw [if_neg h3, if_neg (by omega)]
        · rw [Array.getElem?_eq_none (by simp; omega), Array.getElem?_eq_none (by simp; omega)]
      case measure => simp [intOf]; omega
    · have e : k = L.nl := by omega
      subst e
      clear hf hb ltk
      go_wp2_with fail
      go_end0
      have hf5 : Fr L.foot w wr := ((HFW.out.any (S := L.foot)).then HF4.out (fun _ _ e => .inl e)).then HFR.out (fun _ _ e => .inr (.inl e))
      refine ⟨rfl, hf5, ?_⟩
      have e4 := HS4.out
      subst e4
      have hw := (H1.out.win.keep HF4.out (fun e => H1.out.ap.dw e.symm) (fun e => H1.out.ap.dn e.symm)).keep HFR.out (fun e => H1.out.ap.lw e.symm) (fun e => H1.out.ap.ln e.symm)
      refine ⟨HFR.out.blk HB4.out (fun e => H1.out.ap.dl e), ?_, hw, HPRE.out.reset HS.out, H1.out.ap, H1.out.big⟩
      rw [HB.out]
      congr 2
      unfold arr
      apply Array.ext_getElem?
      intro i
      by_cases hi : i < L.nl
      · simp only [Array.getElem?_map, Array.getElem?_range]
        rw [if_pos hi]
        simp only [Option.map_some]
        rw [if_pos hi]
        rfl
      · rw [Array.getElem?_eq_none (by simp; omega), Array.getElem?_eq_none (by simp; omega)]
theorem lreset_any (L : LL) (sp rp : Value) (s : LS) (lc lp pb : Nat) (di : Int) (w : World) (h : LIs L sp rp w s) (hs : SetOk L lc lp pb) :
    Calls Try.prog 57 #[.pointer (some ⟨L.gd, 0, none⟩), .agg #[.int .i64 lc, .int .i64 lp, .int .i64 pb, .int .i64 di]] w (LPost L sp rp (.tuple #[]) (s.reset lc lp pb) w) :=
  lreset_raw L sp rp s lc lp pb di w h.mem ⟨h.ok.by_, h.ok.dict, h.ok.left⟩ hs
end Go.Proofs.Ytjnegcambbeblaa

/- Questions (api.Ask): how a list of them reads; Right; law04.ask. -/
namespace Go.Proofs.Ytjnegcambbeblaa
open Go.RowKit

structure Ask where
  kind : Int
  at_ : Int
  bits : Int
  val : Int
def Ask.agg (a : Ask) : Value := .agg #[.int .i64 a.kind, .int .i64 a.at_, .int .i64 a.bits, .int .u32 a.val]
def Ask.wf (a : Ask) : Prop := (-9223372036854775808 ≤ a.kind ∧ a.kind ≤ 9223372036854775807) ∧ (-9223372036854775808 ≤ a.at_ ∧ a.at_ ≤ 9223372036854775807) ∧ (-9223372036854775808 ≤ a.bits ∧ a.bits ≤ 9223372036854775807) ∧ 0 ≤ a.val ∧ a.val < 4294967296
/-- n questions l, as a slice that came in holds them. -/
def AsksIn (B : Nat) (w : World) (a : Option Addr) (n : Nat) (l : Nat → Ask) : Prop :=
  n = 0 ∨ ∃ b off, a = some ⟨b, off, none⟩ ∧ b < B ∧ ∀ i, i < n → w.cell? ⟨b, off + i * 4, none⟩ = some (.int .i64 (l i).kind) ∧ w.cell? ⟨b, off + i * 4 + 1, none⟩ = some (.int .i64 (l i).at_) ∧
    w.cell? ⟨b, off + i * 4 + 2, none⟩ = some (.int .i64 (l i).bits) ∧ w.cell? ⟨b, off + i * 4 + 3, none⟩ = some (.int .u32 (l i).val)
theorem AsksIn.fr {B : Nat} {w w' : World} {a : Option Addr} {n : Nat} {l : Nat → Ask} {S : Nat → Prop} (h : AsksIn B w a n l) (hf : Fr S w w') (hs : ∀ i, i < B → ¬ S i) : AsksIn B w' a n l := by
  rcases h with h | ⟨b, off, h1, h2, h3⟩
  · exact .inl h
  · exact .inr ⟨b, off, h1, h2, fun i hi => ⟨hf.cell (h3 i hi).1 (hs b h2), hf.cell (h3 i hi).2.1 (hs b h2), hf.cell (h3 i hi).2.2.1 (hs b h2), hf.cell (h3 i hi).2.2.2 (hs b h2)⟩⟩
theorem AsksIn.at {B : Nat} {w : World} {a : Option Addr} {n : Nat} {l : Nat → Ask} (h : AsksIn B w a n l) {i : Nat} (hi : i < n) :
    ∃ b off, a = some ⟨b, off, none⟩ ∧ b < B ∧ w.cell? ⟨b, off + i * 4, none⟩ = some (.int .i64 (l i).kind) ∧ w.cell? ⟨b, off + i * 4 + 1, none⟩ = some (.int .i64 (l i).at_) ∧
      w.cell? ⟨b, off + i * 4 + 2, none⟩ = some (.int .i64 (l i).bits) ∧ w.cell? ⟨b, off + i * 4 + 3, none⟩ = some (.int .u32 (l i).val) := by
  rcases h with h | ⟨b, off, h1, h2, h3⟩
  · omega
  · exact ⟨b, off, h1, h2, h3 i hi⟩

/-- may that be asked, with 600 probabilities? -/
def Ask.Right (a : Ask) : Prop := (a.kind = 0 ∧ 0 ≤ a.at_ ∧ a.at_ < 600) ∨ ((a.kind = 1 ∨ a.kind = 2) ∧ 0 ≤ a.at_ ∧ a.at_ < 340 ∧ 1 ≤ a.bits ∧ a.bits ≤ 8) ∨ (a.kind = 3 ∧ 0 ≤ a.bits ∧ a.bits ≤ 32)
instance (a : Ask) : Decidable a.Right := by unfold Ask.Right; infer_instance
def Ask.rightB (a : Ask) : Bool := decide a.Right
def RightPost (w : World) (b : Bool) (e : Ending) (w' : World) : Prop := e = .returned (.bool b) ∧ Fr Non w w'

/-- what is asked of a decoder: the answer, the probabilities, the decoder. -/
def spliceQ (q : Nat → Int) (off L : Nat) (r : Nat → Int) : Nat → Int := fun j => if off ≤ j ∧ j < off + L then r (j - off) else q j
def RD.ask {S : Type} (nx : S → Int × Bool × S) (d : RD S) (q : Nat → Int) (a : Ask) : Nat × (Nat → Int) × RD S :=
  if a.kind = 0 then ((d.bit nx (q a.at_.toNat)).1, upd q a.at_.toNat (d.bit nx (q a.at_.toNat)).2.1, (d.bit nx (q a.at_.toNat)).2.2)
  else if a.kind = 1 then ((d.tree nx a.bits.toNat (fun j => q (a.at_.toNat + j))).1, spliceQ q a.at_.toNat (2 ^ a.bits.toNat) (d.tree nx a.bits.toNat (fun j => q (a.at_.toNat + j))).2.1, (d.tree nx a.bits.toNat (fun j => q (a.at_.toNat + j))).2.2)
  else if a.kind = 2 then ((d.rev nx a.bits.toNat (fun j => q (a.at_.toNat + j))).1, spliceQ q a.at_.toNat (2 ^ a.bits.toNat) (d.rev nx a.bits.toNat (fun j => q (a.at_.toNat + j))).2.1, (d.rev nx a.bits.toNat (fun j => q (a.at_.toNat + j))).2.2)
  else ((d.str nx a.bits.toNat).1, q, (d.str nx a.bits.toNat).2)
theorem win_arr {N off L : Nat} {q r : Nat → Int} {cs' : Array Value} (h : Win (arr .u16 N q) cs' off L r) (hN : off + L ≤ N) : cs' = arr .u16 N (spliceQ q off L r) := by
  apply Array.ext_getElem?
  intro i
  rw [arr_get?]
  unfold spliceQ
  by_cases h1 : off ≤ i ∧ i < off + L
  · have := h.cell (i - off) (by omega)
    rw [show off + (i - off) = i by omega] at this
    rw [this, if_pos (by omega), if_pos h1]
  · rw [h.rest i (by omega), arr_get?, if_neg h1]
end Go.Proofs.Ytjnegcambbeblaa

/- law04.ask by its contract. -/
namespace Go.Proofs.Ytjnegcambbeblaa
open Go.RowKit

theorem treeGo_lt {S : Type} (nx : S → Int × Bool × S) : ∀ (k j : Nat) (d : RD S) (q : Nat → Int) (m : Nat), m < 2 ^ j → (RD.treeGo nx k d q m).1 < 2 ^ (j + k)
  | 0, j, d, q, m, h => h
  | k + 1, j, d, q, m, h => by
    have hb := bit_le nx d (q m)
    have := treeGo_lt nx k (j + 1) (d.bit nx (q m)).2.2 (upd q m (d.bit nx (q m)).2.1) (2 * m + (d.bit nx (q m)).1) (by rw [Nat.pow_succ]; omega)
    rw [show j + (k + 1) = j + 1 + k by omega]
    exact this
theorem tree_lt {S : Type} (nx : S → Int × Bool × S) (k : Nat) (d : RD S) (q : Nat → Int) : (d.tree nx k q).1 < 2 ^ k := by
  have h := treeGo_lt nx k 1 d q 1 (by decide)
  have hp : 0 < 2 ^ k := Nat.pow_pos (by decide)
  unfold RD.tree
  by_cases hb : (RD.treeGo nx k d q 1).2.2.bad = true
  · rw [if_pos hb]; exact hp
  · rw [if_neg hb]
    show (RD.treeGo nx k d q 1).1 - 2 ^ k < 2 ^ k
    rw [show 1 + k = k + 1 by omega, Nat.pow_succ] at h
    omega
theorem revGo_lt {S : Type} (nx : S → Int × Bool × S) : ∀ (k i : Nat) (d : RD S) (q : Nat → Int) (m out : Nat), out < 2 ^ i → (RD.revGo nx k i d q m out).1 < 2 ^ (i + k)
  | 0, i, d, q, m, out, h => h
  | k + 1, i, d, q, m, out, h => by
    have hb := bit_le nx d (q m)
    have h2 : (d.bit nx (q m)).1 * 2 ^ i ≤ 1 * 2 ^ i := Nat.mul_le_mul_right _ hb
    have := revGo_lt nx k (i + 1) (d.bit nx (q m)).2.2 (upd q m (d.bit nx (q m)).2.1) (2 * m + (d.bit nx (q m)).1) (out + (d.bit nx (q m)).1 * 2 ^ i) (by rw [Nat.pow_succ]; omega)
    rw [show i + (k + 1) = i + 1 + k by omega]
    exact this
theorem rev_lt {S : Type} (nx : S → Int × Bool × S) (k : Nat) (d : RD S) (q : Nat → Int) : (d.rev nx k q).1 < 2 ^ k := by
  have h := revGo_lt nx k 0 d q 1 0 (by decide)
  have hp : 0 < 2 ^ k := Nat.pow_pos (by decide)
  unfold RD.rev
  by_cases hb : (RD.revGo nx k 0 d q 1 0).2.2.bad = true
  · rw [if_pos hb]; exact hp
  · rw [if_neg hb]; rw [Nat.zero_add] at h; exact h

def AskPost {S : Type} (s : Sour S) (g gp : Nat) (w : World) (r : Nat × (Nat → Int) × RD S) (e : Ending) (w' : World) : Prop :=
  e = .returned (.int .u32 r.1) ∧ Fr (bitFoot s g gp) w w' ∧ DecIs s g w' r.2.2 ∧ w'.heap[gp]? = some (.cells (arr .u16 600 r.2.1) 40)

end Go.Proofs.Ytjnegcambbeblaa

/- Decoders over feeds; law04's first look, awake. -/
namespace Go.Proofs.Ytjnegcambbeblaa
open Go.RowKit

theorem make_u8 (n : Nat) (hn : n ≤ 1048576) (w : World) : (Instr.makeSlice 30 (.int .i64 n) (.int .i64 n)).run Try.prog w = .ok (.slice (some ⟨w.heap.size, 0, none⟩) n n) (w.alloc (.cells (arr .u8 n (fun _ => 0)) 5)) := by
  obtain ⟨i, hi, hz0, hz1, hz2⟩ := info_parts Try.info_u8
  have h := run_make (P := Try.prog) w 30 5 i (.int .u8 0) Try.underlying30 hi hz0 .i64 .i64 n n (by omega) (by omega) (by rw [hz2]; omega) (by omega)
  simp only [Int.toNat_natCast, hz1, arr_made] at h
  exact h

/-- a decoder at g over a feed of the n bytes f, all its blocks from lo on, below hi. -/
structure Deco (lo hi : Nat) (f : Nat → Int) (n : Nat) where
  fg : Nat
  a : Option Addr
  c : Nat
  g : Nat
  hf : ∀ i, i < n → 0 ≤ f i ∧ f i < 256
  low : ∀ k, decFoot (feed fg a n c f hf) g k → lo ≤ k ∧ k < hi
def Deco.s {lo hi : Nat} {f : Nat → Int} {n : Nat} (D : Deco lo hi f n) : Sour Nat := feed D.fg D.a n D.c f D.hf
def Deco.Is {lo hi : Nat} {f : Nat → Int} {n : Nat} (D : Deco lo hi f n) (w : World) (d : RD Nat) : Prop := DecIs D.s D.g w d

theorem feedNew_any (w : World) (n : Nat) (f : Nat → Int) (hf : ∀ i, i < n → 0 ≤ f i ∧ f i < 256) (hn : n ≤ 1048576) (e : Ending) (w' : World) (h : NewFeedPost w n f e w') :
    ∃ g a' c', e = .returned (.pointer (some ⟨g, 0, none⟩)) ∧ Fr Non w w' ∧ (feed g a' n c' f hf).I w' 0 ∧ ∀ k, (feed g a' n c' f hf).foot k → w.heap.size ≤ k ∧ k < w'.heap.size := by
  obtain ⟨g, a', c', h1, h2, h3, h4, h5⟩ := h
  exact ⟨g, a', c', h1, h2, ⟨Nat.zero_le _, hn, h3, h4⟩, h5⟩
/-- New over a feed. -/
def DecoPost (w0 _w : World) (f : Nat → Int) (n : Nat) (e : Ending) (w' : World) : Prop :=
  ∃ D : Deco w0.heap.size w'.heap.size f n, e = .returned (.pointer (some ⟨D.g, 0, none⟩)) ∧ Fr Non w0 w' ∧ D.Is w' (RD.new (feedNx f n) 0)
theorem newF_any (w0 w : World) (n : Nat) (f : Nat → Int) (hf : ∀ i, i < n → 0 ≤ f i ∧ f i < 256) (g : Nat) (a' : Option Addr) (c' : Nat) (hw : Fr Non w0 w) (hi : (feed g a' n c' f hf).I w 0)
    (hl : ∀ k, (feed g a' n c' f hf).foot k → w0.heap.size ≤ k ∧ k < w.heap.size) :
    Calls Try.prog 58 #[.iface 45 (.pointer (some ⟨g, 0, none⟩))] w (DecoPost w0 w f n) := by
  refine (dnew_any (feed g a' n c' f hf) 0 w hi (fun k hk => (hl k hk).2)).mono ?_
  rintro e w' ⟨gd, h1, h2, h3, h4, h5⟩
  have hs := hw.size
  have hs2 := h4.size
  refine ⟨⟨g, a', c', gd, hf, fun k hk => ?_⟩, h3, ?_, h5⟩
  · rcases hk with rfl | hk
    · exact ⟨by omega, h2⟩
    · have := hl k hk; exact ⟨this.1, by omega⟩
  · exact hw.then h4 (fun i hi hk => by have := hl i hk; omega)
theorem Deco.keep {lo hi : Nat} {f : Nat → Int} {n : Nat} {D : Deco lo hi f n} {w w' : World} {d : RD Nat} (h : D.Is w d) {T : Nat → Prop} (hf : Fr T w w') (ht : ∀ k, lo ≤ k → k < hi → ¬ T k) : D.Is w' d :=
  DecIs.keep h hf (fun k hk => ht k (D.low k hk).1 (D.low k hk).2)

theorem zeros_row (w : World) (n : Nat) (t : TypeId) (B : Nat) (hB : w.heap.size < B) : RowIn B .u8 (w.alloc (.cells (arr .u8 n (fun _ => 0)) t)) (some ⟨w.heap.size, 0, none⟩) n (fun _ => 0) :=
  (RowIn.ofArr0 (blk_new w _)).mono hB
theorem zeros_bd (n : Nat) : ∀ i, i < n → 0 ≤ (fun _ : Nat => (0 : Int)) i ∧ (fun _ : Nat => (0 : Int)) i < 256 := fun _ _ => by show (0 : Int) ≤ 0 ∧ (0 : Int) < 256; omega

theorem new5 : RD.new (feedNx (fun _ => 0) 5) 0 = ⟨5, 4294967295, 0, false⟩ := by kernel_rfl
theorem bit5 : RD.bit (feedNx (fun _ => 0) 5) ⟨5, 4294967295, 0, false⟩ 1024 = (0, 1056, ⟨5, 2147482624, 0, false⟩) := by kernel_rfl
theorem bad5 : (RD.new (feedNx (lit [1, 0, 0, 0, 0]) 5) 0).bad = true := by kernel_rfl

end Go.Proofs.Ytjnegcambbeblaa

/- A list of questions that came in, opened. (The first block is the kit's own page extra-structs, to be copied.) -/
namespace Go.Proofs.Ytjnegcambbeblaa
open Go.ChangeShapes Go.WideShapes Go.Deep Go.RowKit

section
variable {H : Type} {enc : TypeId × Value → H} {P : Program} {w : World} {base : Nat} {spare : Nat → Bool} {held : Bool}
theorem open_slice_fields {t e : TypeId} {fs : Array Field} {fuel : Nat} {cs : List Value} {x : DataW H × List MemPlace} (ht : P.underlying t = some (.slice e)) (he : P.underlying e = some (.struct fs))
    (hone : oneCellFields P fs = true) (hC : P.cellsOf e = fs.size) (h : DataW.trod enc P w base spare held fuel t cs = some x) :
    (cs = [.slice none 0 0] ∧ x = (.nil, [])) ∨
    ∃ (a : Addr) (len cap m : Nat) (D : Nat → DataW H) (Pl : Nat → List MemPlace), cs = [.slice (some a) len cap] ∧ base ≤ a.block ∧ len ≤ cap ∧ cap ≤ maxLen ∧ m = (if spare a.block then cap else len) ∧
      x = (.slice ((List.range len).map D) ((List.range (m - len)).map fun j => D (len + j)), MemPlace.row a (m * fs.size) ++ (List.range m).flatMap Pl) ∧
      ∀ i, i < m → ∃ (ys : List (DataW H × List MemPlace)) (n : Nat), D i = .agg (ys.map (·.1)) ∧ Pl i = ys.flatMap (·.2) ∧ ys.length = fs.size ∧
        ∀ (j : Nat) (f : Field), fs[j]? = some f → ∃ (v : Value) (y : DataW H × List MemPlace), w.cell? (a.add (i * fs.size + j)) = some v ∧ ys[j]? = some y ∧ DataW.trod enc P w base spare held n f.type [v] = some y := by
  rcases open_slice ht h with h0 | ⟨a, len, cap, m, n, D, Pl, hcs, hb, hl, hm, hmm, hx, hi⟩
  · exact .inl h0
  · refine .inr ⟨a, len, cap, m, D, Pl, hcs, hb, hl, hm, hmm, by rw [hC] at hx; exact hx, fun i him => ?_⟩
    obtain ⟨cs', hc, ht'⟩ := hi i him
    rw [hC] at hc
    obtain ⟨ys, n', hn', hy, hlen, hyl, hf⟩ := DataW.trod_struct he ht'
    obtain ⟨_, hcl, hat⟩ := World.cells?_some hc
    simp only [Prod.mk.injEq] at hy
    refine ⟨ys, n', hy.1, hy.2, hyl, fun j f hj => ?_⟩
    obtain ⟨ho, hk⟩ := hone_of hone j f hj
    have hjl : j < fs.size := (Array.getElem?_eq_some_iff.1 hj).1
    have hcell := hat j hjl
    have hv : cs'[j]? = some (cs'[j]'(by omega)) := List.getElem?_eq_getElem (by omega)
    have h1 := hf j f hj
    rw [ho, hk] at h1
    have hone' : (cs'.drop j).take 1 = [cs'[j]'(by omega)] := by
      rw [List.drop_eq_getElem_cons (by omega)]
      rfl
    rw [hone'] at h1
    have hys : ys[j]? = some (ys[j]'(by omega)) := List.getElem?_eq_getElem (by omega)
    refine ⟨_, _, ?_, hys, h1.trans hys⟩
    rw [← Go.Deep.add_add, hcell, hv]
end

def AskRow (w : World) (a : Option Addr) (len cap : Nat) (l : Nat → Ask) : Prop :=
  len ≤ cap ∧ cap ≤ maxLen ∧ AsksIn w.heap.size w a len l ∧ (a = none → cap = 0) ∧ ∀ i, i < len → (l i).wf
end Go.Proofs.Ytjnegcambbeblaa

/- law04: same; what a row of questions does, in plain terms. -/
namespace Go.Proofs.Ytjnegcambbeblaa
open Go.RowKit

/-! ### plain: what a bad decoder tells -/
theorem upd_id (q : Nat → Int) (m : Nat) : upd q m (q m) = q := by
  funext j; unfold upd; by_cases h : j = m
  · rw [if_pos h, h]
  · rw [if_neg h]
theorem bit_bad {S : Type} (nx : S → Int × Bool × S) (d : RD S) (p : Int) (h : d.bad = true) : d.bit nx p = (0, p, d) := if_pos h
theorem treeGo_bad {S : Type} (nx : S → Int × Bool × S) : ∀ (k : Nat) (d : RD S) (q : Nat → Int) (m : Nat), d.bad = true → (RD.treeGo nx k d q m).2 = (q, d)
  | 0, d, q, m, h => rfl
  | k + 1, d, q, m, h => by
    show (RD.treeGo nx k (d.bit nx (q m)).2.2 (upd q m (d.bit nx (q m)).2.1) (2 * m + (d.bit nx (q m)).1)).2 = _
    rw [bit_bad nx d (q m) h, upd_id]
    exact treeGo_bad nx k d q _ h
theorem revGo_bad {S : Type} (nx : S → Int × Bool × S) : ∀ (k i : Nat) (d : RD S) (q : Nat → Int) (m out : Nat), d.bad = true → (RD.revGo nx k i d q m out).2 = (q, d)
  | 0, i, d, q, m, out, h => rfl
  | k + 1, i, d, q, m, out, h => by
    show (RD.revGo nx k (i + 1) (d.bit nx (q m)).2.2 (upd q m (d.bit nx (q m)).2.1) (2 * m + (d.bit nx (q m)).1) (out + (d.bit nx (q m)).1 * 2 ^ i)).2 = _
    rw [bit_bad nx d (q m) h, upd_id]
    exact revGo_bad nx k (i + 1) d q _ _ h
theorem tree_bad {S : Type} (nx : S → Int × Bool × S) (k : Nat) (d : RD S) (q : Nat → Int) (h : d.bad = true) : d.tree nx k q = (0, q, d) := by
  unfold RD.tree
  rw [treeGo_bad nx k d q 1 h]
  simp only [h, if_true]
theorem rev_bad {S : Type} (nx : S → Int × Bool × S) (k : Nat) (d : RD S) (q : Nat → Int) (h : d.bad = true) : d.rev nx k q = (0, q, d) := by
  unfold RD.rev
  rw [revGo_bad nx k 0 d q 1 0 h]
  simp only [h, if_true]
theorem str_bad {S : Type} (nx : S → Int × Bool × S) (k : Nat) (d : RD S) (h : d.bad = true) : d.str nx k = (0, d) := by
  unfold RD.str
  rw [strGo_bad nx k d 0 h]
  simp only [h, if_true]
theorem spliceQ_id (q : Nat → Int) (off L : Nat) : spliceQ q off L (fun j => q (off + j)) = q := by
  funext j; unfold spliceQ
  by_cases h : off ≤ j ∧ j < off + L
  · rw [if_pos h]; show q (off + (j - off)) = q j; rw [show off + (j - off) = j by omega]
  · rw [if_neg h]
/-- a bad decoder tells 0, and changes nothing. -/
theorem ask_bad {S : Type} (nx : S → Int × Bool × S) (d : RD S) (q : Nat → Int) (a : Ask) (h : d.bad = true) : d.ask nx q a = (0, q, d) := by
  unfold RD.ask
  by_cases h0 : a.kind = 0
  · rw [if_pos h0, bit_bad nx d _ h, upd_id]
  · rw [if_neg h0]
    by_cases h1 : a.kind = 1
    · rw [if_pos h1, tree_bad nx _ d _ h, spliceQ_id]
    · rw [if_neg h1]
      by_cases h2 : a.kind = 2
      · rw [if_pos h2, rev_bad nx _ d _ h, spliceQ_id]
      · rw [if_neg h2, str_bad nx _ d h]

/-! ### plain: probabilities stay in their bounds -/
theorem treeGo_pr {S : Type} (nx : S → Int × Bool × S) : ∀ (k j : Nat) (d : RD S) (q : Nat → Int) (m L : Nat), Pr q L → m < 2 ^ j → 2 ^ (j + k) ≤ 2 * L → Pr (RD.treeGo nx k d q m).2.1 L
  | 0, j, d, q, m, L, h, _, _ => h
  | k + 1, j, d, q, m, L, h, hm, hL => by
    have hb := bit_le nx d (q m)
    have hmL : m < L := by
      have : 2 ^ (j + 1) ≤ 2 ^ (j + (k + 1)) := Nat.pow_le_pow_right (by decide) (by omega)
      rw [Nat.pow_succ] at this
      omega
    have hp := h m hmL
    have hb2 := bit_prob nx d (q m) hp.1 hp.2
    exact treeGo_pr nx k (j + 1) _ _ _ L (h.upd m hb2.1 hb2.2) (by rw [Nat.pow_succ]; omega) (by rw [show j + 1 + k = j + (k + 1) by omega]; exact hL)
theorem revGo_pr {S : Type} (nx : S → Int × Bool × S) : ∀ (k i j : Nat) (d : RD S) (q : Nat → Int) (m out L : Nat), Pr q L → m < 2 ^ j → 2 ^ (j + k) ≤ 2 * L → Pr (RD.revGo nx k i d q m out).2.1 L
  | 0, i, j, d, q, m, out, L, h, _, _ => h
  | k + 1, i, j, d, q, m, out, L, h, hm, hL => by
    have hb := bit_le nx d (q m)
    have hmL : m < L := by
      have : 2 ^ (j + 1) ≤ 2 ^ (j + (k + 1)) := Nat.pow_le_pow_right (by decide) (by omega)
      rw [Nat.pow_succ] at this
      omega
    have hp := h m hmL
    have hb2 := bit_prob nx d (q m) hp.1 hp.2
    exact revGo_pr nx k (i + 1) (j + 1) _ _ _ _ L (h.upd m hb2.1 hb2.2) (by rw [Nat.pow_succ]; omega) (by rw [show j + 1 + k = j + (k + 1) by omega]; exact hL)
theorem splice_pr {q r : Nat → Int} {off L N : Nat} (h : Pr q N) (hr : Pr r L) : Pr (spliceQ q off L r) N := by
  intro j hj
  unfold spliceQ
  by_cases e : off ≤ j ∧ j < off + L
  · rw [if_pos e]; exact hr _ (by omega)
  · rw [if_neg e]; exact h j hj
theorem ask_pr {S : Type} (nx : S → Int × Bool × S) (d : RD S) (q : Nat → Int) (a : Ask) (ha : a.Right) (h : Pr q 600) : Pr (d.ask nx q a).2.1 600 := by
  have hsub : (a.kind = 1 ∨ a.kind = 2) → Pr (fun j => q (a.at_.toNat + j)) (2 ^ a.bits.toNat) := by
    intro hk j hj
    rcases ha with ⟨h0, _⟩ | ⟨_, h1, h2, h3, h4⟩ | ⟨h0, _⟩
    · omega
    · have : 2 ^ a.bits.toNat ≤ 2 ^ 8 := Nat.pow_le_pow_right (by decide) (by omega)
      exact h _ (by omega)
    · omega
  unfold RD.ask
  by_cases h0 : a.kind = 0
  · rw [if_pos h0]
    have hat : a.at_.toNat < 600 := by
      rcases ha with ⟨_, h1, h2⟩ | ⟨hk, _⟩ | ⟨hk, _⟩ <;> omega
    have hp := h _ hat
    have hb2 := bit_prob nx d (q a.at_.toNat) hp.1 hp.2
    exact h.upd _ hb2.1 hb2.2
  · rw [if_neg h0]
    by_cases h1 : a.kind = 1
    · rw [if_pos h1]
      exact splice_pr h (treeGo_pr nx _ 1 d _ 1 _ (hsub (.inl h1)) (by decide) (by rw [show 1 + a.bits.toNat = a.bits.toNat + 1 by omega, Nat.pow_succ]; omega))
    · rw [if_neg h1]
      by_cases h2 : a.kind = 2
      · rw [if_pos h2]
        exact splice_pr h (revGo_pr nx _ 0 1 d _ 1 0 _ (hsub (.inr h2)) (by decide) (by rw [show 1 + a.bits.toNat = a.bits.toNat + 1 by omega, Nat.pow_succ]; omega))
      · rw [if_neg h2]; exact h

/-- k questions of a row, those that may be asked. -/
def RD.run {S : Type} (nx : S → Int × Bool × S) (l : Nat → Ask) (d : RD S) (q : Nat → Int) : Nat → RD S × (Nat → Int)
  | 0 => (d, q)
  | k + 1 => if (l k).rightB = true then ((RD.ask nx (RD.run nx l d q k).1 (RD.run nx l d q k).2 (l k)).2.2, (RD.ask nx (RD.run nx l d q k).1 (RD.run nx l d q k).2 (l k)).2.1) else RD.run nx l d q k
theorem fresh_pr : Pr (fun _ => 1024) 600 := fun _ _ => by show (31 : Int) ≤ 1024 ∧ (1024 : Int) ≤ 2017; omega
end Go.Proofs.Ytjnegcambbeblaa

/- lzma.Decoder and its range decoder: a bit, a tree, a reverse tree among its probabilities. -/
namespace Go.Proofs.Ytjnegcambbeblaa
open Go.RowKit

/-- a decoder that has begun: over the source t, its ahead at ga, its range decoder at gr. -/
structure LOn {S : Type} (L : LL) (t : Sour S) (ga gr : Nat) (w : World) (s : LS) (d : RD (AhS S)) : Prop where
  is_ : LIs L (.pointer (some ⟨ga, 0, none⟩)) (.pointer (some ⟨gr, 0, none⟩)) w s
  dec : DecIs (ahead t ga) gr w d
  ap : ∀ k, L.foot k → ¬ decFoot (ahead t ga) gr k
def LFt {S : Type} (L : LL) (t : Sour S) (ga gr : Nat) : Nat → Prop := fun k => L.foot k ∨ decFoot (ahead t ga) gr k
theorem LOn.keep {S : Type} {L : LL} {t : Sour S} {ga gr : Nat} {w w' : World} {s : LS} {d : RD (AhS S)} (h : LOn L t ga gr w s d) {T : Nat → Prop} (hf : Fr T w w') (ht : ∀ k, LFt L t ga gr k → ¬ T k) : LOn L t ga gr w' s d :=
  ⟨h.is_.keep hf (fun k hk => ht k (.inl hk)), h.dec.keep hf (fun k hk => ht k (.inr hk)), h.ap⟩
theorem LOn.any {S : Type} {L : LL} {t : Sour S} {ga gr : Nat} {w w' : World} {s : LS} {d : RD (AhS S)} (h : LOn L t ga gr w s d) (hf : Fr Non w w') : LOn L t ga gr w' s d := h.keep hf (fun _ _ e => e)
/-- only the decoder's own blocks have turned. -/
theorem LOn.own {S : Type} {L : LL} {t : Sour S} {ga gr : Nat} {w w' : World} {s s' : LS} {d : RD (AhS S)} (h : LOn L t ga gr w s d) {T : Nat → Prop} (hf : Fr T w w') (ht : ∀ k, T k → L.foot k) (h' : LIs L (.pointer (some ⟨ga, 0, none⟩)) (.pointer (some ⟨gr, 0, none⟩)) w' s') : LOn L t ga gr w' s' d :=
  ⟨h', h.dec.keep hf (fun k hk e => h.ap k (ht k e) hk), h.ap⟩
def LOPost {S : Type} (L : LL) (t : Sour S) (ga gr : Nat) (v : Value) (s : LS) (d : RD (AhS S)) (w : World) (e : Ending) (w' : World) : Prop := e = .returned v ∧ Fr (LFt L t ga gr) w w' ∧ LOn L t ga gr w' s d
theorem LS.Ok.P {L : LL} {s : LS} (h : s.Ok L) {P : Nat → Int} (hP : Pr P (1847 + L.nl)) : ({ s with P := P } : LS).Ok L := ⟨hP, h.st, h.rep, h.by_, h.lc, h.lp, h.pb, h.nl, h.dict, h.left⟩
def lbit {S : Type} (nx : S → Int × Bool × S) (P : Nat → Int) (d : RD S) (k : Nat) : Nat × (Nat → Int) × RD S := ((d.bit nx (P k)).1, upd P k (d.bit nx (P k)).2.1, (d.bit nx (P k)).2.2)
def ltree {S : Type} (nx : S → Int × Bool × S) (P : Nat → Int) (d : RD S) (k B : Nat) : Nat × (Nat → Int) × RD S := ((d.tree nx B (fun j => P (k + j))).1, spliceQ P k (2 ^ B) (d.tree nx B (fun j => P (k + j))).2.1, (d.tree nx B (fun j => P (k + j))).2.2)
def lrev {S : Type} (nx : S → Int × Bool × S) (P : Nat → Int) (d : RD S) (k B : Nat) : Nat × (Nat → Int) × RD S := ((d.rev nx B (fun j => P (k + j))).1, spliceQ P k (2 ^ B) (d.rev nx B (fun j => P (k + j))).2.1, (d.rev nx B (fun j => P (k + j))).2.2)
theorem lbit_pr {S : Type} (nx : S → Int × Bool × S) {P : Nat → Int} {n : Nat} (h : Pr P n) (d : RD S) {k : Nat} (hk : k < n) : Pr (lbit nx P d k).2.1 n := by
  have hp := h k hk
  have hb := bit_prob nx d (P k) hp.1 hp.2
  exact h.upd k hb.1 hb.2
/-- a bit with a probability of the decoder's own block. -/
theorem lbitP {S : Type} (L : LL) (t : Sour S) (ga gr : Nat) (s : LS) (d : RD (AhS S)) (k o : Nat) (w : World) (h : LOn L t ga gr w s d) (hk : k < 1847) (ho : o = 9 + sgL k) :
    Calls Try.prog 87 #[.pointer (some ⟨gr, 0, none⟩), .pointer (some ⟨L.gd, o, none⟩)] w
      (LOPost L t ga gr (.int .i64 ((lbit (ahead t ga).nx s.P d k).1 : Nat)) { s with P := (lbit (ahead t ga).nx s.P d k).2.1 } (lbit (ahead t ga).nx s.P d k).2.2 w) := by
  subst ho
  have hp := h.is_.ok.pr k (by omega)
  refine (dbit_any (ahead t ga) gr L.gd (9 + sgL k) _ _ d (s.P k) w h.dec (h.ap _ (.inl rfl)) h.is_.at_ (cellsL_P _ _ _ _ _ hk) (by omega) (by omega)).mono ?_
  rintro e w' ⟨rfl, hf, hd, hb⟩
  rw [cellsL_setP _ _ _ _ _ hk] at hb
  refine ⟨rfl, hf.mono (fun j _ e => e.elim .inr (fun e => .inl (.inl e))), ⟨hb, ?_, ?_, h.is_.ok.P (lbit_pr _ h.is_.ok.pr d (by omega)), h.is_.ap, h.is_.big⟩, hd, h.ap⟩
  · have e := hf.blk h.is_.lit (fun e => e.elim (fun e => h.ap _ (.inr (.inl rfl)) e) (fun e => h.is_.ap.dl e.symm))
    rw [e]
    congr 2
    unfold arr
    apply Array.ext_getElem?
    intro i
    by_cases hi : i < L.nl
    · simp only [Array.getElem?_map, Array.getElem?_range]
      rw [if_pos hi]
      simp only [Option.map_some]
      congr 2
      exact (upd_ne _ _ (show 1847 + i ≠ k by omega)).symm
    · rw [Array.getElem?_eq_none (by simp; omega), Array.getElem?_eq_none (by simp; omega)]
  · exact h.is_.win.keep hf (fun e => e.elim (fun e => h.ap _ (.inr (.inr (.inl rfl))) e) (fun e => h.is_.ap.dw e.symm)) (fun e => e.elim (fun e => h.ap _ (.inr (.inr (.inr rfl))) e) (fun e => h.is_.ap.dn e.symm))
theorem cells_eqP (L : LL) (lv sp rp : Value) (s : LS) (P : Nat → Int) (h : ∀ i, i < 1847 → P i = s.P i) : ({ s with P := P } : LS).cells L lv sp rp = s.cells L lv sp rp := by
  unfold LS.cells
  have e : arr .u16 1847 (fun i => P (piL i)) = arr .u16 1847 (fun i => s.P (piL i)) := by
    unfold arr
    apply Array.ext_getElem?
    intro i
    by_cases hi : i < 1847
    · simp only [Array.getElem?_map, Array.getElem?_range]
      rw [if_pos hi]
      simp only [Option.map_some]
      congr 2
      exact h _ (sgL_piL hi).2
    · rw [Array.getElem?_eq_none (by simp; omega), Array.getElem?_eq_none (by simp; omega)]
  show (s.head L sp rp ++ arr .u16 1847 (fun i => P (piL i))) ++ s.tail lv = _
  rw [e]
/-- a bit with a literals' probability. -/
theorem lbitL {S : Type} (L : LL) (t : Sour S) (ga gr : Nat) (s : LS) (d : RD (AhS S)) (k o : Nat) (w : World) (h : LOn L t ga gr w s d) (hk : k < L.nl) (ho : o = k) :
    Calls Try.prog 87 #[.pointer (some ⟨gr, 0, none⟩), .pointer (some ⟨L.gl, o, none⟩)] w
      (LOPost L t ga gr (.int .i64 ((lbit (ahead t ga).nx s.P d (1847 + k)).1 : Nat)) { s with P := (lbit (ahead t ga).nx s.P d (1847 + k)).2.1 } (lbit (ahead t ga).nx s.P d (1847 + k)).2.2 w) := by
  subst ho
  have hp := h.is_.ok.pr (1847 + o) (by omega)
  refine (dbit_any (ahead t ga) gr L.gl o _ _ d (s.P (1847 + o)) w h.dec (h.ap _ (.inr (.inl rfl))) h.is_.lit (arr_get _ _ _ hk) (by omega) (by omega)).mono ?_
  rintro e w' ⟨rfl, hf, hd, hb⟩
  rw [arr_set] at hb
  refine ⟨rfl, hf.mono (fun j _ e => e.elim .inr (fun e => .inl (.inr (.inl e)))), ⟨?_, ?_, ?_, h.is_.ok.P (lbit_pr _ h.is_.ok.pr d (by omega)), h.is_.ap, h.is_.big⟩, hd, h.ap⟩
  · have e := hf.blk h.is_.at_ (fun e => e.elim (fun e => h.ap _ (.inl rfl) e) (fun e => h.is_.ap.dl e))
    rw [e, cells_eqP L L.lit _ _ s (lbit (ahead t ga).nx s.P d (1847 + o)).2.1 (fun i hi => upd_ne _ _ (show i ≠ 1847 + o by omega))]
  · rw [hb]
    congr 2
    unfold arr
    apply Array.ext_getElem?
    intro i
    by_cases hi : i < L.nl
    · simp only [Array.getElem?_map, Array.getElem?_range]
      rw [if_pos hi]
      simp only [Option.map_some]
      congr 2
      by_cases e : i = o
      · rw [e, upd_same]; exact (upd_same _ _ _).symm
      · rw [upd_ne _ _ e]; exact (upd_ne _ _ (show 1847 + i ≠ 1847 + o by omega)).symm
    · rw [Array.getElem?_eq_none (by simp; omega), Array.getElem?_eq_none (by simp; omega)]
  · exact h.is_.win.keep hf (fun e => e.elim (fun e => h.ap _ (.inr (.inr (.inl rfl))) e) (fun e => h.is_.ap.lw e.symm)) (fun e => e.elim (fun e => h.ap _ (.inr (.inr (.inr rfl))) e) (fun e => h.is_.ap.ln e.symm))
theorem cells_get (L : LL) (lv sp rp : Value) (s : LS) (i : Nat) : (s.cells L lv sp rp)[i]? = if i < 9 then (s.head L sp rp)[i]? else if i < 1856 then some (Value.int .u16 (s.P (piL (i - 9)))) else (s.tail lv)[i - 1856]? := by
  by_cases h1 : i < 9
  · rw [if_pos h1, cellsL_head _ _ _ _ _ h1]
  · rw [if_neg h1]
    by_cases h2 : i < 1856
    · rw [if_pos h2]
      obtain ⟨j, rfl⟩ : ∃ j, i = 9 + j := ⟨i - 9, by omega⟩
      unfold LS.cells
      rw [arrmid_get _ _ .u16 1847 9 _ (head_size L sp rp s) j (by omega), Nat.add_sub_cancel_left]
    · rw [if_neg h2]
      obtain ⟨j, rfl⟩ : ∃ j, i = 1856 + j := ⟨i - 1856, by omega⟩
      rw [cellsL_tail, Nat.add_sub_cancel_left]
/-- a row of probabilities that lies in one piece. -/
structure RowL (k n : Nat) : Prop where
  top : k + n ≤ 1847
  pos : 0 < n
  sg : ∀ j, j < n → sgL (k + j) = sgL k + j
theorem win_cells {L : LL} {lv sp rp : Value} {s : LS} {k n : Nat} {q : Nat → Int} {cs' : Array Value} (hr : RowL k n) (h : Win (s.cells L lv sp rp) cs' (9 + sgL k) n q) : cs' = ({ s with P := spliceQ s.P k n q } : LS).cells L lv sp rp := by
  apply Array.ext_getElem?
  intro i
  rw [cells_get]
  by_cases hi : 9 + sgL k ≤ i ∧ i < 9 + sgL k + n
  · obtain ⟨j, rfl⟩ : ∃ j, i = 9 + sgL k + j := ⟨i - (9 + sgL k), by omega⟩
    have hj : j < n := by omega
    have hs := hr.sg j hj
    have hp := piL_sgL (show k + j < 1847 by have := hr.top; omega)
    rw [h.cell j hj, if_neg (by omega), if_pos (by omega), show 9 + sgL k + j - 9 = sgL (k + j) by omega]
    show _ = some (Value.int .u16 (spliceQ s.P k n q (piL (sgL (k + j)))))
    rw [hp.1]
    unfold spliceQ
    rw [if_pos ⟨by omega, by omega⟩, Nat.add_sub_cancel_left]
  · rw [h.rest i (by omega), cells_get]
    by_cases h1 : i < 9
    · rw [if_pos h1, if_pos h1]; rfl
    · rw [if_neg h1, if_neg h1]
      by_cases h2 : i < 1856
      · rw [if_pos h2, if_pos h2]
        congr 2
        show s.P (piL (i - 9)) = spliceQ s.P k n q (piL (i - 9))
        unfold spliceQ
        rw [if_neg]
        intro ⟨e1, e2⟩
        have hs := hr.sg (piL (i - 9) - k) (by omega)
        rw [show k + (piL (i - 9) - k) = piL (i - 9) by omega, (sgL_piL (show i - 9 < 1847 by omega)).1] at hs
        omega
      · rw [if_neg h2, if_neg h2]; rfl
/-- what a row's walk leaves. -/
theorem row_left {S : Type} {L : LL} {t : Sour S} {ga gr : Nat} {s : LS} {d : RD (AhS S)} {w : World} (h : LOn L t ga gr w s d) {k n : Nat} (hr : RowL k n) {v : Value} {q : Nat → Int} {d' : RD (AhS S)} (hq : Pr q n) {e : Ending} {w' : World}
    (hp : TreePost (ahead t ga) gr L.gd (9 + sgL k) n (s.cells L L.lit (.pointer (some ⟨ga, 0, none⟩)) (.pointer (some ⟨gr, 0, none⟩))) 115 w v q d' e w') : LOPost L t ga gr v { s with P := spliceQ s.P k n q } d' w e w' := by
  obtain ⟨rfl, hf, hd, cs', hb, hw⟩ := hp
  rw [win_cells hr hw] at hb
  refine ⟨rfl, hf.mono (fun j _ e => e.elim .inr (fun e => .inl (.inl e))), ⟨hb, ?_, ?_, h.is_.ok.P (splice_pr h.is_.ok.pr hq), h.is_.ap, h.is_.big⟩, hd, h.ap⟩
  · have e := hf.blk h.is_.lit (fun e => e.elim (fun e => h.ap _ (.inr (.inl rfl)) e) (fun e => h.is_.ap.dl e.symm))
    rw [e]
    congr 2
    unfold arr
    apply Array.ext_getElem?
    intro i
    by_cases hi : i < L.nl
    · simp only [Array.getElem?_map, Array.getElem?_range]
      rw [if_pos hi]
      simp only [Option.map_some]
      congr 2
      show s.P (1847 + i) = spliceQ s.P k n q (1847 + i)
      unfold spliceQ
      rw [if_neg (by have := hr.top; omega)]
    · rw [Array.getElem?_eq_none (by simp; omega), Array.getElem?_eq_none (by simp; omega)]
  · exact h.is_.win.keep hf (fun e => e.elim (fun e => h.ap _ (.inr (.inr (.inl rfl))) e) (fun e => h.is_.ap.dw e.symm)) (fun e => e.elim (fun e => h.ap _ (.inr (.inr (.inr rfl))) e) (fun e => h.is_.ap.dn e.symm))
theorem ltreeP {S : Type} (L : LL) (t : Sour S) (ga gr : Nat) (s : LS) (d : RD (AhS S)) (k o B len cap : Nat) (w : World) (h : LOn L t ga gr w s d) (hr : RowL k (2 ^ B)) (ho : o = 9 + sgL k) (hB : B ≤ 8) (hl : 2 ^ B ≤ len) (hlen : len ≤ 1048576) :
    Calls Try.prog 127 #[.pointer (some ⟨gr, 0, none⟩), .slice (some ⟨L.gd, o, none⟩) len cap, .int .i64 B] w
      (LOPost L t ga gr (.int .i64 ((ltree (ahead t ga).nx s.P d k B).1 : Nat)) { s with P := (ltree (ahead t ga).nx s.P d k B).2.1 } (ltree (ahead t ga).nx s.P d k B).2.2 w) := by
  subst ho
  have hpr : Pr (fun j => s.P (k + j)) (2 ^ B) := fun j hj => h.is_.ok.pr (k + j) (by have := hr.top; omega)
  refine (dtree_any (ahead t ga) gr L.gd (9 + sgL k) len cap B _ _ d (fun j => s.P (k + j)) w h.dec (h.ap _ (.inl rfl)) h.is_.at_ (fun j hj => ?_) hpr (by omega) hl hlen).mono fun e w' hp => row_left h hr ?_ hp
  · have := cellsL_P L L.lit (.pointer (some ⟨ga, 0, none⟩)) (.pointer (some ⟨gr, 0, none⟩)) s (show k + j < 1847 by have := hr.top; omega)
    rw [hr.sg j hj, ← Nat.add_assoc] at this
    exact this
  · exact treeGo_pr _ B 1 d _ 1 (2 ^ B) hpr (by decide) (by rw [Nat.pow_add]; omega)
theorem lrevP {S : Type} (L : LL) (t : Sour S) (ga gr : Nat) (s : LS) (d : RD (AhS S)) (k o B len cap : Nat) (w : World) (h : LOn L t ga gr w s d) (hr : RowL k (2 ^ B)) (ho : o = 9 + sgL k) (hB : B ≤ 8) (hl : 2 ^ B ≤ len) (hlen : len ≤ 1048576) :
    Calls Try.prog 128 #[.pointer (some ⟨gr, 0, none⟩), .slice (some ⟨L.gd, o, none⟩) len cap, .int .i64 B] w
      (LOPost L t ga gr (.int .i64 ((lrev (ahead t ga).nx s.P d k B).1 : Nat)) { s with P := (lrev (ahead t ga).nx s.P d k B).2.1 } (lrev (ahead t ga).nx s.P d k B).2.2 w) := by
  subst ho
  have hpr : Pr (fun j => s.P (k + j)) (2 ^ B) := fun j hj => h.is_.ok.pr (k + j) (by have := hr.top; omega)
  refine (drev_any (ahead t ga) gr L.gd (9 + sgL k) len cap B _ _ d (fun j => s.P (k + j)) w h.dec (h.ap _ (.inl rfl)) h.is_.at_ (fun j hj => ?_) hpr (by omega) hl hlen).mono fun e w' hp => row_left h hr ?_ hp
  · have := cellsL_P L L.lit (.pointer (some ⟨ga, 0, none⟩)) (.pointer (some ⟨gr, 0, none⟩)) s (show k + j < 1847 by have := hr.top; omega)
    rw [hr.sg j hj, ← Nat.add_assoc] at this
    exact this
  · exact revGo_pr _ B 0 1 d _ 1 0 (2 ^ B) hpr (by decide) (by rw [Nat.pow_add]; omega)
end Go.Proofs.Ytjnegcambbeblaa

/- lzma: Begin, Whole, over. -/
namespace Go.Proofs.Ytjnegcambbeblaa
open Go.RowKit

/-- what a source that was asked ahead answers. -/
def anx {S : Type} (nx : S → Int × Bool × S) (x : AhS S) : Int × Bool × AhS S := ((ahNx nx x).1 % 256, (ahNx nx x).2)
theorem ahead_nx {S : Type} (t : Sour S) (g : Nat) : (ahead t g).nx = anx t.nx := rfl
theorem LIs.lt {L : LL} {sp rp : Value} {w : World} {s : LS} (h : LIs L sp rp w s) : ∀ k, L.foot k → k < w.heap.size := by
  have h1 := blk_lt h.at_
  have h2 := blk_lt h.lit
  have h3 := h.win.lt
  rintro k (e | e | e | e) <;> omega
def LBeginPost {S : Type} (L : LL) (t : Sour S) (s : LS) (s0 : S) (w : World) (e : Ending) (w' : World) : Prop :=
  ∃ ga gr, e = .returned (.tuple #[]) ∧ Fr (fun k => k = L.gd ∨ t.foot k) w w' ∧ LOn L t ga gr w' s (RD.new (anx t.nx) ⟨s0, 0, false⟩) ∧ w.heap.size ≤ ga ∧ ga < w'.heap.size ∧ w.heap.size ≤ gr ∧ gr < w'.heap.size
set_option maxRecDepth 100000 in
set_option maxHeartbeats 800000 in
theorem lbegin_any {S : Type} (L : LL) (t : Sour S) (sp rp : Value) (s : LS) (s0 : S) (w : World) (h : LIs L sp rp w s) (ht : t.I w s0) (hlt : ∀ k, t.foot k → k < w.heap.size) (hap : ∀ k, L.foot k → ¬ t.foot k) :
    Calls Try.prog 21 #[.pointer (some ⟨L.gd, 0, none⟩), .iface t.ty t.val] w (LBeginPost L t s s0 w) := by
  have hgd : L.gd < w.heap.size := h.lt _ (.inl rfl)
  have z7 := blk_frozen h.at_ 7
  have c7 := h.headC 7 (v := sp) (by decide) rfl
  obtain ⟨g, hg⟩ : ∃ g, g = w.heap.size := ⟨_, rfl⟩
  have H := hid h
  have HT := hid ht
  have HLT := hid hlt
  have HAP := hid hap
  have HGD := hid hgd
  have HG := hid hg
  clear h ht hlt hap hg
  go_enter Try.func21, Try.ntmps21
  go_upto_region 1 with fail
  rw [← HG.out]
  obtain ⟨w1, hw1⟩ : ∃ w1, w1 = (w.setCell ⟨L.gd, 7, none⟩ (.pointer (some ⟨g, 0, none⟩))).alloc (.cells #[.iface t.ty t.val, .int .u8 0, .bool false] 120) := ⟨_, rfl⟩
  have hne : g ≠ L.gd := by have := HG.out; omega
  have hl1 : LIs L (.pointer (some ⟨g, 0, none⟩)) rp w1 s := by
    rw [hw1]
    exact (H.out.setH (i := 7) (by decide) rfl rfl rfl rfl H.out.ok).keep ((Fr.refl Non _).alloc _) (fun _ _ e => e)
  have hf1 : Fr (fun k => k = L.gd) w w1 := by rw [hw1]; exact ((Fr.refl _ _).setOne _ _).alloc _
  have hs1 : w1.heap.size = g + 1 := by rw [hw1, HG.out]; simp
  have ha1 : (ahead t g).I w1 ⟨s0, 0, false⟩ := by
    refine ⟨?_, t.keep _ _ _ _ HT.out hf1 (fun k hk e => HAP.out k (.inl e) hk), fun e => by have := HLT.out _ e; have := HG.out; omega, by show (0 : Int) ≤ 0 ∧ (0 : Int) < 256; decide⟩
    rw [hw1]
    have e := blk_new (w.setCell ⟨L.gd, 7, none⟩ (.pointer (some ⟨g, 0, none⟩))) (.cells #[.iface t.ty t.val, .int .u8 0, .bool false] 120)
    have hz : (w.setCell ⟨L.gd, 7, none⟩ (.pointer (some ⟨g, 0, none⟩))).heap.size = g := by rw [HG.out]; simp
    rw [hz] at e
    exact e
  have c7' := hl1.headC 7 (v := .pointer (some ⟨g, 0, none⟩)) (by decide) rfl
  have z8 := blk_frozen hl1.at_ 8
  have c8 := hl1.headC 8 (v := rp) (by decide) rfl
  have L1 := hid hl1
  have F1 := hid hf1
  have A1 := hid ha1
  have S1 := hid hs1
  rw [← hw1]
  clear hw1 hl1 hf1 hs1 ha1 c7 z7
  go_wp2_with fail
  refine (show Calls Try.prog 58 #[.iface (ahead t g).ty (ahead t g).val] w1 (NewPost (ahead t g) w1 (RD.new (anx t.nx) ⟨s0, 0, false⟩)) from dnew_any (ahead t g) ⟨s0, 0, false⟩ w1 A1.out (by
    rintro k (e | e)
    · have := S1.out; omega
    · have := HLT.out k e; have := S1.out; have := HG.out; omega)).mono ?_
  rintro e w2 ⟨gr, hgr0, hgr1, rfl, hf2, hd2⟩
  have hl2 : LIs L (.pointer (some ⟨g, 0, none⟩)) rp w2 s := L1.out.keep hf2 (fun k hk e => e.elim (fun e => by have := H.out.lt k hk; have := HG.out; omega) (fun e => HAP.out k hk e))
  have hgrs : g < gr := by have := S1.out; omega
  have z8 := blk_frozen hl2.at_ 8
  have c8 := hl2.headC 8 (v := rp) (by decide) rfl
  have L2 := hid hl2
  have F2 := hid hf2
  have D2 := hid hd2
  clear hl2 hf2 hd2
  go_wp2_with fail
  go_end0
  have hgg := HG.out
  have hsz := F2.out.size
  have hs1 := S1.out
  have hap' : ∀ k, L.foot k → ¬ decFoot (ahead t g) gr k := by
    intro k hk e
    have := H.out.lt k hk
    rcases e with e | e | e
    · omega
    · omega
    · exact HAP.out k hk e
  have hf3 : Fr (fun k => k = L.gd) w2 (w2.setCell ⟨L.gd, 8, none⟩ (.pointer (some ⟨gr, 0, none⟩))) := (Fr.refl _ _).setOne _ _
  refine ⟨g, gr, rfl, ?_, ⟨L2.out.setH (i := 8) (by decide) rfl rfl rfl rfl L2.out.ok, D2.out.keep hf3 (fun k hk e => hap' L.gd (.inl rfl) (by rw [← (show k = L.gd from e)]; exact hk)), hap'⟩, by omega, by simp; omega, by omega, by simp; omega⟩
  refine Fr.setCell (p := ⟨L.gd, 8, none⟩) (Fr.then (S := fun k => k = L.gd ∨ t.foot k) (F1.out.mono (fun _ _ e => .inl e)) F2.out ?_) (fun _ => .inl rfl) _
  intro k hk e
  rcases e with e | e
  · omega
  · exact .inr e

/-- whether no packet has more to tell, and the range decoder is done. -/
def lwhole {S : Type} (s : LS) (d : RD S) : Bool := !s.bad && decide (s.left = 0) && d.done
set_option maxRecDepth 100000 in
set_option maxHeartbeats 800000 in
theorem lwhole_any {S : Type} (L : LL) (t : Sour S) (ga gr : Nat) (s : LS) (d : RD (AhS S)) (w : World) (h : LOn L t ga gr w s d) :
    Calls Try.prog 29 #[.pointer (some ⟨L.gd, 0, none⟩)] w fun e w' => e = .returned (.bool (lwhole s d)) ∧ w = w' := by
  have k8 := h.is_.headC 8 (v := .pointer (some ⟨gr, 0, none⟩)) (by decide) rfl
  have t7 := h.is_.tailC 7 (v := .int .i64 s.left) rfl
  have t9 := h.is_.tailC 9 (v := .bool s.bad) rfl
  have H := hid h
  unfold lwhole
  obtain ⟨b, hb⟩ : ∃ b, b = s.bad := ⟨_, rfl⟩
  obtain ⟨l, hl⟩ : ∃ l, l = s.left := ⟨_, rfl⟩
  rw [← hb] at t9 ⊢
  rw [← hl] at t7 ⊢
  clear h hb hl
  cases b with
  | true =>
    go_enter Try.func29, Try.ntmps29
    go_wp2_with fail
    go_ret
    exact ⟨rfl, rfl⟩
  | false =>
    by_cases hl0 : l = 0
    · subst hl0
      go_enter Try.func29, Try.ntmps29
      go_wp2_with fail
      refine (ddone_any (ahead t ga) gr d _ H.out.dec).mono ?_
      rintro e w4 ⟨rfl, rfl⟩
      go_wp2_with fail
      go_ret
      exact ⟨by simp, rfl⟩
    · have hlb : ((l : Int) == 0) = false := by simp; omega
      have HL := hid hl0
      clear hl0
      go_enter Try.func29, Try.ntmps29
      go_wp2_with fail
      go_ret
      exact ⟨by simp [HL.out], rfl⟩
/-- whether all is whole, and no byte is left. -/
def lover {S : Type} (nx : S → Int × Bool × S) (s : LS) (d : RD (AhS S)) : Bool × RD (AhS S) :=
  if lwhole s d = true then (!(ahMore nx d.src).1, ⟨(ahMore nx d.src).2, d.rng, d.code, d.bad⟩) else (false, d)
set_option maxRecDepth 100000 in
set_option maxHeartbeats 800000 in
theorem lover_any {S : Type} (L : LL) (t : Sour S) (ga gr : Nat) (s : LS) (d : RD (AhS S)) (w : World) (h : LOn L t ga gr w s d) :
    Calls Try.prog 68 #[.pointer (some ⟨L.gd, 0, none⟩)] w (LOPost L t ga gr (.bool (lover t.nx s d).1) s (lover t.nx s d).2 w) := by
  have k7 := h.is_.headC 7 (v := .pointer (some ⟨ga, 0, none⟩)) (by decide) rfl
  have H := hid h
  have HW := hid (lwhole_any L t ga gr s d w h)
  unfold lover
  clear h
  generalize lwhole s d = b at HW ⊢
  cases b with
  | true =>
    rw [if_pos rfl]
    go_enter Try.func68, Try.ntmps68
    go_wp2_with fail
    refine HW.out.mono ?_
    rintro e w4 ⟨rfl, rfl⟩
    go_wp2_with fail
    refine (ahMore_any t ga d.src _ H.out.dec.src).mono ?_
    rintro e w4 ⟨rfl, hf4, h4⟩
    have HF4 := hid hf4
    have H4 := hid h4
    clear hf4 h4
    go_wp2_with fail
    go_ret
    refine ⟨rfl, HF4.out.mono (fun _ _ e => .inr (.inr e)), H.out.is_.keep HF4.out (fun k hk e => H.out.ap k hk (.inr e)), ⟨HF4.out.blk H.out.dec.at_ H.out.dec.apart, H4.out, H.out.dec.ok, H.out.dec.apart⟩, H.out.ap⟩
  | false =>
    rw [if_neg (by decide)]
    go_enter Try.func68, Try.ntmps68
    go_wp2_with fail
    refine HW.out.mono ?_
    rintro e w4 ⟨rfl, rfl⟩
    go_wp2_with fail
    go_ret
    exact ⟨rfl, Fr.refl _ _, H.out⟩
end Go.Proofs.Ytjnegcambbeblaa
