/- Texts of this proof, one behind the other. -/
import Derived.Test.YtjnegcambbeblaaMg05
import Derived.Test.YtjnegcambbeblaaMg02
import Derived.Deep.CutBlock
import Derived.BigQuiet
import Derived.OwnWalk

/- lzma.Decoder: Reset. -/
namespace Go.Proofs.Ytjnegcambbeblaa
open Go.RowKit

/-- a state that begins anew by a setting. -/
def LS.reset (s : LS) (lc lp pb : Nat) : LS := { s with lc := lc, lp := lp, pb := pb, st := 0, rep := fun _ => 0, P := fun _ => 1024 }
theorem fresh_prL (n : Nat) : Pr (fun _ => (1024 : Int)) n := fun j _ => by show (31 : Int) ≤ 1024 ∧ (1024 : Int) ≤ 2017; omega
structure SetOk (L : LL) (lc lp pb : Nat) : Prop where
  a : lc ≤ 8
  b : lp ≤ 4
  c : pb ≤ 4
  nl : 768 * 2 ^ (lc + lp) ≤ L.nl
theorem LS.Ok.reset {L : LL} {s : LS} (h : s.Ok L) {lc lp pb : Nat} (hs : SetOk L lc lp pb) : (s.reset lc lp pb).Ok L :=
  ⟨fresh_prL _, by show 0 < 12; decide, fun i _ => by show 0 < 4294967296; decide, h.by_, hs.a, hs.b, hs.c, hs.nl, h.dict, h.left⟩
/-- what lies in memory, whatever the numbers are. -/
structure LMem (L : LL) (sp rp : Value) (w : World) (s : LS) : Prop where
  at_ : w.heap[L.gd]? = some (.cells (s.cells L L.lit sp rp) 115)
  lit : w.heap[L.gl]? = some (.cells (arr .u16 L.nl (fun i => s.P (1847 + i))) 40)
  win : WinIs L.gw L.gn L.gm L.n w s.H
  ap : L.Ap
  big : L.nl ≤ 49152
theorem LIs.mem {L : LL} {sp rp : Value} {w : World} {s : LS} (h : LIs L sp rp w s) : LMem L sp rp w s := ⟨h.at_, h.lit, h.win, h.ap, h.big⟩
theorem LMem.keep {L : LL} {sp rp : Value} {w w' : World} {s : LS} (h : LMem L sp rp w s) {T : Nat → Prop} (hf : Fr T w w') (ht : ∀ k, L.foot k → ¬ T k) : LMem L sp rp w' s :=
  ⟨hf.blk h.at_ (ht _ (.inl rfl)), hf.blk h.lit (ht _ (.inr (.inl rfl))), h.win.keep hf (ht _ (.inr (.inr (.inl rfl)))) (ht _ (.inr (.inr (.inr rfl)))), h.ap, h.big⟩
theorem LMem.headC {L : LL} {sp rp : Value} {w : World} {s : LS} (h : LMem L sp rp w s) (i : Nat) {v : Value} (hi : i < 9) (hv : (s.head L sp rp)[i]? = some v) : w.cell? ⟨L.gd, i, none⟩ = some v :=
  blk_cell h.at_ (by rw [cellsL_head _ _ _ _ _ hi]; exact hv)
theorem LMem.tailC {L : LL} {sp rp : Value} {w : World} {s : LS} (h : LMem L sp rp w s) (i : Nat) {v : Value} (hv : (s.tail L.lit)[i]? = some v) : w.cell? ⟨L.gd, 1856 + i, none⟩ = some v :=
  blk_cell h.at_ (by rw [cellsL_tail]; exact hv)
structure LPre (s : LS) : Prop where
  by_ : bytesL s.H
  dict : s.dict ≤ 4294967295
  left : s.left ≤ 273
theorem LPre.reset {L : LL} {s : LS} (h : LPre s) {lc lp pb : Nat} (hs : SetOk L lc lp pb) : (s.reset lc lp pb).Ok L :=
  ⟨fresh_prL _, by show 0 < 12; decide, fun i _ => by show 0 < 4294967296; decide, h.by_, hs.a, hs.b, hs.c, hs.nl, h.dict, h.left⟩
set_option maxRecDepth 100000 in
set_option maxHeartbeats 4000000 in
theorem lreset_raw (L : LL) (sp rp : Value) (s : LS) (lc lp pb : Nat) (di : Int) (w : World) (h : LMem L sp rp w s) (hpre : LPre s) (hs : SetOk L lc lp pb) :
    Calls Try.prog 57 #[.pointer (some ⟨L.gd, 0, none⟩), .agg #[.int .i64 lc, .int .i64 lp, .int .i64 pb, .int .i64 di]] w (LPost L sp rp (.tuple #[]) (s.reset lc lp pb) w) := by
  obtain ⟨W, hW⟩ : ∃ W, W = w.alloc (.cells #[.int .i64 lc, .int .i64 lp, .int .i64 pb, .int .i64 di] 23) := ⟨_, rfl⟩
  have hfW : Fr Non w W := by rw [hW]; exact (Fr.refl _ _).alloc _
  have hbW : W.heap[w.heap.size]? = some (.cells #[.int .i64 lc, .int .i64 lp, .int .i64 pb, .int .i64 di] 23) := by rw [hW]; exact blk_new _ _
  have hlt : L.gd < w.heap.size := blk_lt h.at_
  have h1 := h.keep hfW (fun _ _ e => e)
  have c0 := blk_cell hbW (j := 0) (v := .int .i64 lc) rfl
  have c1 := blk_cell hbW (j := 1) (v := .int .i64 lp) rfl
  have c2 := blk_cell hbW (j := 2) (v := .int .i64 pb) rfl
  have k0 := h1.headC 0 (v := .int .i64 s.lc) (by decide) rfl
  have k1 := h1.headC 1 (v := .int .i64 s.lp) (by decide) rfl
  have k2 := h1.headC 2 (v := .int .i64 s.pb) (by decide) rfl
  have z0 := blk_frozen h1.at_ 0
  have z1 := blk_frozen h1.at_ 1
  have z2 := blk_frozen h1.at_ 2
  have HW := hid hW
  have HFW := hid hfW
  have H1 := hid h1
  have HLT := hid hlt
  have HS := hid hs
  have HPRE := hid hpre
  clear hpre
  clear h hW hfW hbW hlt h1 hs
  go_enter Try.func57, Try.ntmps57
  go_upto_region 1 with fail
  rw [← HW.out]
  go_cut [] (fun wx => Fr (fun k => k = L.gd) W wx ∧ LMem L sp rp wx { s with lc := lc, lp := lp, pb := pb })
  case first =>
    go_region
    go_wp2_with fail
    go_meet
    have hf : Fr (fun k => k = L.gd) W (((W.setCell ⟨L.gd, 0, none⟩ (.int .i64 lc)).setCell ⟨L.gd, 1, none⟩ (.int .i64 lp)).setCell ⟨L.gd, 2, none⟩ (.int .i64 pb)).drew := ((((Fr.refl _ _).setOne _ _).setOne _ _).setOne _ _).drew
    refine ⟨hf, ?_, hf.blk H1.out.lit (fun e => H1.out.ap.dl e.symm), H1.out.win.keep hf (fun e => H1.out.ap.dw e.symm) (fun e => H1.out.ap.dn e.symm), H1.out.ap, H1.out.big⟩
    · have e := blk_set (i := 0) (v := .int .i64 lc) H1.out.at_
      rw [cellsL_setH L L.lit sp rp sp rp s { s with lc := lc } (by decide) rfl rfl rfl] at e
      have e2 := blk_set (i := 1) (v := .int .i64 lp) e
      rw [cellsL_setH L L.lit sp rp sp rp { s with lc := lc } { s with lc := lc, lp := lp } (by decide) rfl rfl rfl] at e2
      have e3 := blk_set (i := 2) (v := .int .i64 pb) e2
      rw [cellsL_setH L L.lit sp rp sp rp { s with lc := lc, lp := lp } { s with lc := lc, lp := lp, pb := pb } (by decide) rfl rfl rfl] at e3
      exact blk_drew e3
  case rest =>
  obtain ⟨hf2, h2⟩ := hcut
  clear c0 c1 c2 k0 k1 k2 z0 z1 z2
  have t1 := h2.tailC 1 (v := .int .i64 s.st) rfl
  have t2 := h2.tailC 2 (v := .int .u32 (s.rep 0)) rfl
  have t3 := h2.tailC 3 (v := .int .u32 (s.rep 1)) rfl
  have t4 := h2.tailC 4 (v := .int .u32 (s.rep 2)) rfl
  have t5 := h2.tailC 5 (v := .int .u32 (s.rep 3)) rfl
  have y1 := blk_frozen h2.at_ (1856 + 1)
  have y2 := blk_frozen h2.at_ (1856 + 2)
  have y3 := blk_frozen h2.at_ (1856 + 3)
  have y4 := blk_frozen h2.at_ (1856 + 4)
  have y5 := blk_frozen h2.at_ (1856 + 5)
  have HF2 := hid hf2
  have H2 := hid h2
  clear hf2 h2
  go_upto_region 3 with fail
  obtain ⟨w3, hw3⟩ : ∃ w3, w3 = ((((wc.setCell ⟨L.gd, 1857, none⟩ (.int .i64 0)).setCell ⟨L.gd, 1858, none⟩ (.int .u32 0)).setCell ⟨L.gd, 1859, none⟩ (.int .u32 0)).setCell ⟨L.gd, 1860, none⟩ (.int .u32 0)).setCell ⟨L.gd, 1861, none⟩ (.int .u32 0) := ⟨_, rfl⟩
  rw [← hw3]
  obtain ⟨s3, hs3⟩ : ∃ s3 : LS, s3 = { s with lc := lc, lp := lp, pb := pb, st := 0, rep := fun _ => 0 } := ⟨_, rfl⟩
  have hf3 : Fr (fun k => k = L.gd) W w3 := by rw [hw3]; exact ((((HF2.out.setOne _ _).setOne _ _).setOne _ _).setOne _ _).setOne _ _
  have hb3 : w3.heap[L.gd]? = some (.cells (s3.cells L L.lit sp rp) 115) := by
    rw [hw3, hs3]
    have e1 := blk_set (i := 1856 + 1) (v := .int .i64 0) H2.out.at_
    rw [cellsL_setT L L.lit L.lit sp rp { s with lc := lc, lp := lp, pb := pb } { s with lc := lc, lp := lp, pb := pb, st := 0 } rfl rfl rfl] at e1
    have e2 := blk_set (i := 1856 + 2) (v := .int .u32 0) e1
    rw [cellsL_setT L L.lit L.lit sp rp { s with lc := lc, lp := lp, pb := pb, st := 0 } { s with lc := lc, lp := lp, pb := pb, st := 0, rep := fun j => if j = 0 then 0 else s.rep j } rfl rfl rfl] at e2
    have e3 := blk_set (i := 1856 + 3) (v := .int .u32 0) e2
    rw [cellsL_setT L L.lit L.lit sp rp { s with lc := lc, lp := lp, pb := pb, st := 0, rep := fun j => if j = 0 then 0 else s.rep j } { s with lc := lc, lp := lp, pb := pb, st := 0, rep := fun j => if j = 0 then 0 else if j = 1 then 0 else s.rep j } rfl rfl rfl] at e3
    have e4 := blk_set (i := 1856 + 4) (v := .int .u32 0) e3
    rw [cellsL_setT L L.lit L.lit sp rp { s with lc := lc, lp := lp, pb := pb, st := 0, rep := fun j => if j = 0 then 0 else if j = 1 then 0 else s.rep j } { s with lc := lc, lp := lp, pb := pb, st := 0, rep := fun j => if j = 0 then 0 else if j = 1 then 0 else if j = 2 then 0 else s.rep j } rfl rfl rfl] at e4
    have e5 := blk_set (i := 1856 + 5) (v := .int .u32 0) e4
    rw [cellsL_setT L L.lit L.lit sp rp { s with lc := lc, lp := lp, pb := pb, st := 0, rep := fun j => if j = 0 then 0 else if j = 1 then 0 else if j = 2 then 0 else s.rep j } { s with lc := lc, lp := lp, pb := pb, st := 0, rep := fun _ => 0 } rfl rfl rfl] at e5
    exact e5
  have HF3 := hid hf3
  have HB3 := hid hb3
  have HS3 := hid hs3
  clear hw3 hs3 hf3 hb3 t1 t2 t3 t4 t5 y1 y2 y3 y4 y5
  go_wp2_with fail
  refine (begin_any L.gd 9 (s3.head L sp rp) (s3.tail L.lit) (fun i => s3.P (piL i)) 115 _ rfl (by exact HB3.out)).mono ?_
  rintro e w4 ⟨rfl, hf4, hb4⟩
  obtain ⟨s4, hs4⟩ : ∃ s4 : LS, s4 = s.reset lc lp pb := ⟨_, rfl⟩
  have hb4' : w4.heap[L.gd]? = some (.cells (s4.cells L L.lit sp rp) 115) := by
    rw [hb4, hs4, HS3.out]; rfl
  have hfr : Fr (fun k => k = L.gd) W w4 := HF3.out.trans hf4
  have HL4 := hid (hfr.blk H1.out.lit (fun e => H1.out.ap.dl e.symm))
  have HF4 := hid hfr
  have HB4 := hid hb4'
  have HS4 := hid hs4
  have hnl := H1.out.big
  have lt4 := blk_cell hb4' (j := 1856 + 0) (v := L.lit) (by rw [cellsL_tail]; rfl)
  unfold LL.lit at lt4
  have hne : ¬ L.gd = L.gl := H1.out.ap.dl
  clear hf4 hb4 hb4' hfr hs4
  go_wp2_with fail
  go_loopw [39] (fun iv wr => ∃ k : Nat, k ≤ L.nl ∧ iv = .int .i64 k ∧ Fr (fun b => b = L.gl) w4 wr ∧ wr.heap[L.gl]? = some (.cells (arr .u16 L.nl (fun j => if j < k then 1024 else s.P (1847 + j))) 40)) (fun iv _ => L.nl - (intOf iv).toNat)
  case atStart => exact ⟨0, Nat.zero_le _, rfl, Fr.refl _ _, by rw [HL4.out]; rfl⟩
  case round =>
    obtain ⟨k, hk, rfl, hf, hb⟩ := hrel
    have HFR := hid hf
    have HB := hid hb
    have ltk := hf.cell lt4 (fun e => hne e)
    by_cases hlt : k < L.nl
    · have hk0 : (0 : Int) ≤ (k : Int) := by omega
      have hk1 : (k : Int) < (L.nl : Int) := by omega
      have ck := blk_cell hb (arr_get .u16 _ (fun j => if j < k then (1024 : Int) else s.P (1847 + j)) hlt)
      have zk := blk_frozen hb k
      clear hf hb
      go_wp2_with fail
      go_roundw
      case rel =>
        refine ⟨k + 1, hlt, by go_num, HFR.out.setOne _ _, ?_⟩
        have e := blk_set (i := k) (v := .int .u16 1024) HB.out
        rw [arr_set] at e
        rw [e]
        congr 2
        unfold arr
        apply Array.ext_getElem?
        intro i
        by_cases hi : i < L.nl
        · simp only [Array.getElem?_map, Array.getElem?_range]
          rw [if_pos hi]
          simp only [Option.map_some]
          congr 2
          by_cases e : i = k
          · rw [e, upd_same, if_pos (by omega)]
          · rw [upd_ne _ _ e]
            by_cases h3 : i < k
            · rw [if_pos h3, if_pos (by omega)]
            · rw [if_neg h3, if_neg (by omega)]
        · rw [Array.getElem?_eq_none (by simp; omega), Array.getElem?_eq_none (by simp; omega)]
      case measure => simp [intOf]; omega
    · have e : k = L.nl := by omega
      subst e
      clear hf hb ltk
      go_wp2_with fail
      go_end0
      have hf5 : Fr L.foot w wr := ((HFW.out.any (S := L.foot)).then HF4.out (fun _ _ e => .inl e)).then HFR.out (fun _ _ e => .inr (.inl e))
      refine ⟨rfl, hf5, ?_⟩
      have e4 := HS4.out
      subst e4
      have hw := (H1.out.win.keep HF4.out (fun e => H1.out.ap.dw e.symm) (fun e => H1.out.ap.dn e.symm)).keep HFR.out (fun e => H1.out.ap.lw e.symm) (fun e => H1.out.ap.ln e.symm)
      refine ⟨HFR.out.blk HB4.out (fun e => H1.out.ap.dl e), ?_, hw, HPRE.out.reset HS.out, H1.out.ap, H1.out.big⟩
      rw [HB.out]
      congr 2
      unfold arr
      apply Array.ext_getElem?
      intro i
      by_cases hi : i < L.nl
      · simp only [Array.getElem?_map, Array.getElem?_range]
        rw [if_pos hi]
        simp only [Option.map_some]
        rw [if_pos hi]
        rfl
      · rw [Array.getElem?_eq_none (by simp; omega), Array.getElem?_eq_none (by simp; omega)]
theorem lreset_any (L : LL) (sp rp : Value) (s : LS) (lc lp pb : Nat) (di : Int) (w : World) (h : LIs L sp rp w s) (hs : SetOk L lc lp pb) :
    Calls Try.prog 57 #[.pointer (some ⟨L.gd, 0, none⟩), .agg #[.int .i64 lc, .int .i64 lp, .int .i64 pb, .int .i64 di]] w (LPost L sp rp (.tuple #[]) (s.reset lc lp pb) w) :=
  lreset_raw L sp rp s lc lp pb di w h.mem ⟨h.ok.by_, h.ok.dict, h.ok.left⟩ hs
end Go.Proofs.Ytjnegcambbeblaa

/- lzma.Decoder and its range decoder: a bit, a tree, a reverse tree among its probabilities. -/
namespace Go.Proofs.Ytjnegcambbeblaa
open Go.RowKit

/-- a decoder that has begun: over the source t, its ahead at ga, its range decoder at gr. -/
structure LOn {S : Type} (L : LL) (t : Sour S) (ga gr : Nat) (w : World) (s : LS) (d : RD (AhS S)) : Prop where
  is_ : LIs L (.pointer (some ⟨ga, 0, none⟩)) (.pointer (some ⟨gr, 0, none⟩)) w s
  dec : DecIs (ahead t ga) gr w d
  ap : ∀ k, L.foot k → ¬ decFoot (ahead t ga) gr k
def LFt {S : Type} (L : LL) (t : Sour S) (ga gr : Nat) : Nat → Prop := fun k => L.foot k ∨ decFoot (ahead t ga) gr k
theorem LOn.keep {S : Type} {L : LL} {t : Sour S} {ga gr : Nat} {w w' : World} {s : LS} {d : RD (AhS S)} (h : LOn L t ga gr w s d) {T : Nat → Prop} (hf : Fr T w w') (ht : ∀ k, LFt L t ga gr k → ¬ T k) : LOn L t ga gr w' s d :=
  ⟨h.is_.keep hf (fun k hk => ht k (.inl hk)), h.dec.keep hf (fun k hk => ht k (.inr hk)), h.ap⟩
theorem LOn.any {S : Type} {L : LL} {t : Sour S} {ga gr : Nat} {w w' : World} {s : LS} {d : RD (AhS S)} (h : LOn L t ga gr w s d) (hf : Fr Non w w') : LOn L t ga gr w' s d := h.keep hf (fun _ _ e => e)
/-- only the decoder's own blocks have turned. -/
theorem LOn.own {S : Type} {L : LL} {t : Sour S} {ga gr : Nat} {w w' : World} {s s' : LS} {d : RD (AhS S)} (h : LOn L t ga gr w s d) {T : Nat → Prop} (hf : Fr T w w') (ht : ∀ k, T k → L.foot k) (h' : LIs L (.pointer (some ⟨ga, 0, none⟩)) (.pointer (some ⟨gr, 0, none⟩)) w' s') : LOn L t ga gr w' s' d :=
  ⟨h', h.dec.keep hf (fun k hk e => h.ap k (ht k e) hk), h.ap⟩
def LOPost {S : Type} (L : LL) (t : Sour S) (ga gr : Nat) (v : Value) (s : LS) (d : RD (AhS S)) (w : World) (e : Ending) (w' : World) : Prop := e = .returned v ∧ Fr (LFt L t ga gr) w w' ∧ LOn L t ga gr w' s d
theorem LS.Ok.P {L : LL} {s : LS} (h : s.Ok L) {P : Nat → Int} (hP : Pr P (1847 + L.nl)) : ({ s with P := P } : LS).Ok L := ⟨hP, h.st, h.rep, h.by_, h.lc, h.lp, h.pb, h.nl, h.dict, h.left⟩
def lbit {S : Type} (nx : S → Int × Bool × S) (P : Nat → Int) (d : RD S) (k : Nat) : Nat × (Nat → Int) × RD S := ((d.bit nx (P k)).1, upd P k (d.bit nx (P k)).2.1, (d.bit nx (P k)).2.2)
def ltree {S : Type} (nx : S → Int × Bool × S) (P : Nat → Int) (d : RD S) (k B : Nat) : Nat × (Nat → Int) × RD S := ((d.tree nx B (fun j => P (k + j))).1, spliceQ P k (2 ^ B) (d.tree nx B (fun j => P (k + j))).2.1, (d.tree nx B (fun j => P (k + j))).2.2)
def lrev {S : Type} (nx : S → Int × Bool × S) (P : Nat → Int) (d : RD S) (k B : Nat) : Nat × (Nat → Int) × RD S := ((d.rev nx B (fun j => P (k + j))).1, spliceQ P k (2 ^ B) (d.rev nx B (fun j => P (k + j))).2.1, (d.rev nx B (fun j => P (k + j))).2.2)
theorem lbit_pr {S : Type} (nx : S → Int × Bool × S) {P : Nat → Int} {n : Nat} (h : Pr P n) (d : RD S) {k : Nat} (hk : k < n) : Pr (lbit nx P d k).2.1 n := by
  have hp := h k hk
  have hb := bit_prob nx d (P k) hp.1 hp.2
  exact h.upd k hb.1 hb.2
/-- a bit with a probability of the decoder's own block. -/
theorem lbitP {S : Type} (L : LL) (t : Sour S) (ga gr : Nat) (s : LS) (d : RD (AhS S)) (k o : Nat) (w : World) (h : LOn L t ga gr w s d) (hk : k < 1847) (ho : o = 9 + sgL k) :
    Calls Try.prog 87 #[.pointer (some ⟨gr, 0, none⟩), .pointer (some ⟨L.gd, o, none⟩)] w
      (LOPost L t ga gr (.int .i64 ((lbit (ahead t ga).nx s.P d k).1 : Nat)) { s with P := (lbit (ahead t ga).nx s.P d k).2.1 } (lbit (ahead t ga).nx s.P d k).2.2 w) := by
  subst ho
  have hp := h.is_.ok.pr k (by omega)
  refine (dbit_any (ahead t ga) gr L.gd (9 + sgL k) _ _ d (s.P k) w h.dec (h.ap _ (.inl rfl)) h.is_.at_ (cellsL_P _ _ _ _ _ hk) (by omega) (by omega)).mono ?_
  rintro e w' ⟨rfl, hf, hd, hb⟩
  rw [cellsL_setP _ _ _ _ _ hk] at hb
  refine ⟨rfl, hf.mono (fun j _ e => e.elim .inr (fun e => .inl (.inl e))), ⟨hb, ?_, ?_, h.is_.ok.P (lbit_pr _ h.is_.ok.pr d (by omega)), h.is_.ap, h.is_.big⟩, hd, h.ap⟩
  · have e := hf.blk h.is_.lit (fun e => e.elim (fun e => h.ap _ (.inr (.inl rfl)) e) (fun e => h.is_.ap.dl e.symm))
    rw [e]
    congr 2
    unfold arr
    apply Array.ext_getElem?
    intro i
    by_cases hi : i < L.nl
    · simp only [Array.getElem?_map, Array.getElem?_range]
      rw [if_pos hi]
      simp only [Option.map_some]
      congr 2
      exact (upd_ne _ _ (show 1847 + i ≠ k by omega)).symm
    · rw [Array.getElem?_eq_none (by simp; omega), Array.getElem?_eq_none (by simp; omega)]
  · exact h.is_.win.keep hf (fun e => e.elim (fun e => h.ap _ (.inr (.inr (.inl rfl))) e) (fun e => h.is_.ap.dw e.symm)) (fun e => e.elim (fun e => h.ap _ (.inr (.inr (.inr rfl))) e) (fun e => h.is_.ap.dn e.symm))
theorem cells_eqP (L : LL) (lv sp rp : Value) (s : LS) (P : Nat → Int) (h : ∀ i, i < 1847 → P i = s.P i) : ({ s with P := P } : LS).cells L lv sp rp = s.cells L lv sp rp := by
  unfold LS.cells
  have e : arr .u16 1847 (fun i => P (piL i)) = arr .u16 1847 (fun i => s.P (piL i)) := by
    unfold arr
    apply Array.ext_getElem?
    intro i
    by_cases hi : i < 1847
    · simp only [Array.getElem?_map, Array.getElem?_range]
      rw [if_pos hi]
      simp only [Option.map_some]
      congr 2
      exact h _ (sgL_piL hi).2
    · rw [Array.getElem?_eq_none (by simp; omega), Array.getElem?_eq_none (by simp; omega)]
  show (s.head L sp rp ++ arr .u16 1847 (fun i => P (piL i))) ++ s.tail lv = _
  rw [e]
/-- a bit with a literals' probability. -/
theorem lbitL {S : Type} (L : LL) (t : Sour S) (ga gr : Nat) (s : LS) (d : RD (AhS S)) (k o : Nat) (w : World) (h : LOn L t ga gr w s d) (hk : k < L.nl) (ho : o = k) :
    Calls Try.prog 87 #[.pointer (some ⟨gr, 0, none⟩), .pointer (some ⟨L.gl, o, none⟩)] w
      (LOPost L t ga gr (.int .i64 ((lbit (ahead t ga).nx s.P d (1847 + k)).1 : Nat)) { s with P := (lbit (ahead t ga).nx s.P d (1847 + k)).2.1 } (lbit (ahead t ga).nx s.P d (1847 + k)).2.2 w) := by
  subst ho
  have hp := h.is_.ok.pr (1847 + o) (by omega)
  refine (dbit_any (ahead t ga) gr L.gl o _ _ d (s.P (1847 + o)) w h.dec (h.ap _ (.inr (.inl rfl))) h.is_.lit (arr_get _ _ _ hk) (by omega) (by omega)).mono ?_
  rintro e w' ⟨rfl, hf, hd, hb⟩
  rw [arr_set] at hb
  refine ⟨rfl, hf.mono (fun j _ e => e.elim .inr (fun e => .inl (.inr (.inl e)))), ⟨?_, ?_, ?_, h.is_.ok.P (lbit_pr _ h.is_.ok.pr d (by omega)), h.is_.ap, h.is_.big⟩, hd, h.ap⟩
  · have e := hf.blk h.is_.at_ (fun e => e.elim (fun e => h.ap _ (.inl rfl) e) (fun e => h.is_.ap.dl e))
    rw [e, cells_eqP L L.lit _ _ s (lbit (ahead t ga).nx s.P d (1847 + o)).2.1 (fun i hi => upd_ne _ _ (show i ≠ 1847 + o by omega))]
  · rw [hb]
    congr 2
    unfold arr
    apply Array.ext_getElem?
    intro i
    by_cases hi : i < L.nl
    · simp only [Array.getElem?_map, Array.getElem?_range]
      rw [if_pos hi]
      simp only [Option.map_some]
      congr 2
      by_cases e : i = o
      · rw [e, upd_same]; exact (upd_same _ _ _).symm
      · rw [upd_ne _ _ e]; exact (upd_ne _ _ (show 1847 + i ≠ 1847 + o by omega)).symm
    · rw [Array.getElem?_eq_none (by simp; omega), Array.getElem?_eq_none (by simp; omega)]
  · exact h.is_.win.keep hf (fun e => e.elim (fun e => h.ap _ (.inr (.inr (.inl rfl))) e) (fun e => h.is_.ap.lw e.symm)) (fun e => e.elim (fun e => h.ap _ (.inr (.inr (.inr rfl))) e) (fun e => h.is_.ap.ln e.symm))
theorem cells_get (L : LL) (lv sp rp : Value) (s : LS) (i : Nat) : (s.cells L lv sp rp)[i]? = if i < 9 then (s.head L sp rp)[i]? else if i < 1856 then some (Value.int .u16 (s.P (piL (i - 9)))) else (s.tail lv)[i - 1856]? := by
  by_cases h1 : i < 9
  · rw [if_pos h1, cellsL_head _ _ _ _ _ h1]
  · rw [if_neg h1]
    by_cases h2 : i < 1856
    · rw [if_pos h2]
      obtain ⟨j, rfl⟩ : ∃ j, i = 9 + j := ⟨i - 9, by omega⟩
      unfold LS.cells
      rw [arrmid_get _ _ .u16 1847 9 _ (head_size L sp rp s) j (by omega), Nat.add_sub_cancel_left]
    · rw [if_neg h2]
      obtain ⟨j, rfl⟩ : ∃ j, i = 1856 + j := ⟨i - 1856, by omega⟩
      rw [cellsL_tail, Nat.add_sub_cancel_left]
/-- a row of probabilities that lies in one piece. -/
structure RowL (k n : Nat) : Prop where
  top : k + n ≤ 1847
  pos : 0 < n
  sg : ∀ j, j < n → sgL (k + j) = sgL k + j
theorem win_cells {L : LL} {lv sp rp : Value} {s : LS} {k n : Nat} {q : Nat → Int} {cs' : Array Value} (hr : RowL k n) (h : Win (s.cells L lv sp rp) cs' (9 + sgL k) n q) : cs' = ({ s with P := spliceQ s.P k n q } : LS).cells L lv sp rp := by
  apply Array.ext_getElem?
  intro i
  rw [cells_get]
  by_cases hi : 9 + sgL k ≤ i ∧ i < 9 + sgL k + n
  · obtain ⟨j, rfl⟩ : ∃ j, i = 9 + sgL k + j := ⟨i - (9 + sgL k), by omega⟩
    have hj : j < n := by omega
    have hs := hr.sg j hj
    have hp := piL_sgL (show k + j < 1847 by have := hr.top; omega)
    rw [h.cell j hj, if_neg (by omega), if_pos (by omega), show 9 + sgL k + j - 9 = sgL (k + j) by omega]
    show _ = some (Value.int .u16 (spliceQ s.P k n q (piL (sgL (k + j)))))
    rw [hp.1]
    unfold spliceQ
    rw [if_pos ⟨by omega, by omega⟩, Nat.add_sub_cancel_left]
  · rw [h.rest i (by omega), cells_get]
    by_cases h1 : i < 9
    · rw [if_pos h1, if_pos h1]; rfl
    · rw [if_neg h1, if_neg h1]
      by_cases h2 : i < 1856
      · rw [if_pos h2, if_pos h2]
        congr 2
        show s.P (piL (i - 9)) = spliceQ s.P k n q (piL (i - 9))
        unfold spliceQ
        rw [if_neg]
        intro ⟨e1, e2⟩
        have hs := hr.sg (piL (i - 9) - k) (by omega)
        rw [show k + (piL (i - 9) - k) = piL (i - 9) by omega, (sgL_piL (show i - 9 < 1847 by omega)).1] at hs
        omega
      · rw [if_neg h2, if_neg h2]; rfl
/-- what a row's walk leaves. -/
theorem row_left {S : Type} {L : LL} {t : Sour S} {ga gr : Nat} {s : LS} {d : RD (AhS S)} {w : World} (h : LOn L t ga gr w s d) {k n : Nat} (hr : RowL k n) {v : Value} {q : Nat → Int} {d' : RD (AhS S)} (hq : Pr q n) {e : Ending} {w' : World}
    (hp : TreePost (ahead t ga) gr L.gd (9 + sgL k) n (s.cells L L.lit (.pointer (some ⟨ga, 0, none⟩)) (.pointer (some ⟨gr, 0, none⟩))) 115 w v q d' e w') : LOPost L t ga gr v { s with P := spliceQ s.P k n q } d' w e w' := by
  obtain ⟨rfl, hf, hd, cs', hb, hw⟩ := hp
  rw [win_cells hr hw] at hb
  refine ⟨rfl, hf.mono (fun j _ e => e.elim .inr (fun e => .inl (.inl e))), ⟨hb, ?_, ?_, h.is_.ok.P (splice_pr h.is_.ok.pr hq), h.is_.ap, h.is_.big⟩, hd, h.ap⟩
  · have e := hf.blk h.is_.lit (fun e => e.elim (fun e => h.ap _ (.inr (.inl rfl)) e) (fun e => h.is_.ap.dl e.symm))
    rw [e]
    congr 2
    unfold arr
    apply Array.ext_getElem?
    intro i
    by_cases hi : i < L.nl
    · simp only [Array.getElem?_map, Array.getElem?_range]
      rw [if_pos hi]
      simp only [Option.map_some]
      congr 2
      show s.P (1847 + i) = spliceQ s.P k n q (1847 + i)
      unfold spliceQ
      rw [if_neg (by have := hr.top; omega)]
    · rw [Array.getElem?_eq_none (by simp; omega), Array.getElem?_eq_none (by simp; omega)]
  · exact h.is_.win.keep hf (fun e => e.elim (fun e => h.ap _ (.inr (.inr (.inl rfl))) e) (fun e => h.is_.ap.dw e.symm)) (fun e => e.elim (fun e => h.ap _ (.inr (.inr (.inr rfl))) e) (fun e => h.is_.ap.dn e.symm))
theorem ltreeP {S : Type} (L : LL) (t : Sour S) (ga gr : Nat) (s : LS) (d : RD (AhS S)) (k o B len cap : Nat) (w : World) (h : LOn L t ga gr w s d) (hr : RowL k (2 ^ B)) (ho : o = 9 + sgL k) (hB : B ≤ 8) (hl : 2 ^ B ≤ len) (hlen : len ≤ 1048576) :
    Calls Try.prog 127 #[.pointer (some ⟨gr, 0, none⟩), .slice (some ⟨L.gd, o, none⟩) len cap, .int .i64 B] w
      (LOPost L t ga gr (.int .i64 ((ltree (ahead t ga).nx s.P d k B).1 : Nat)) { s with P := (ltree (ahead t ga).nx s.P d k B).2.1 } (ltree (ahead t ga).nx s.P d k B).2.2 w) := by
  subst ho
  have hpr : Pr (fun j => s.P (k + j)) (2 ^ B) := fun j hj => h.is_.ok.pr (k + j) (by have := hr.top; omega)
  refine (dtree_any (ahead t ga) gr L.gd (9 + sgL k) len cap B _ _ d (fun j => s.P (k + j)) w h.dec (h.ap _ (.inl rfl)) h.is_.at_ (fun j hj => ?_) hpr (by omega) hl hlen).mono fun e w' hp => row_left h hr ?_ hp
  · have := cellsL_P L L.lit (.pointer (some ⟨ga, 0, none⟩)) (.pointer (some ⟨gr, 0, none⟩)) s (show k + j < 1847 by have := hr.top; omega)
    rw [hr.sg j hj, ← Nat.add_assoc] at this
    exact this
  · exact treeGo_pr _ B 1 d _ 1 (2 ^ B) hpr (by decide) (by rw [Nat.pow_add]; omega)
theorem lrevP {S : Type} (L : LL) (t : Sour S) (ga gr : Nat) (s : LS) (d : RD (AhS S)) (k o B len cap : Nat) (w : World) (h : LOn L t ga gr w s d) (hr : RowL k (2 ^ B)) (ho : o = 9 + sgL k) (hB : B ≤ 8) (hl : 2 ^ B ≤ len) (hlen : len ≤ 1048576) :
    Calls Try.prog 128 #[.pointer (some ⟨gr, 0, none⟩), .slice (some ⟨L.gd, o, none⟩) len cap, .int .i64 B] w
      (LOPost L t ga gr (.int .i64 ((lrev (ahead t ga).nx s.P d k B).1 : Nat)) { s with P := (lrev (ahead t ga).nx s.P d k B).2.1 } (lrev (ahead t ga).nx s.P d k B).2.2 w) := by
  subst ho
  have hpr : Pr (fun j => s.P (k + j)) (2 ^ B) := fun j hj => h.is_.ok.pr (k + j) (by have := hr.top; omega)
  refine (drev_any (ahead t ga) gr L.gd (9 + sgL k) len cap B _ _ d (fun j => s.P (k + j)) w h.dec (h.ap _ (.inl rfl)) h.is_.at_ (fun j hj => ?_) hpr (by omega) hl hlen).mono fun e w' hp => row_left h hr ?_ hp
  · have := cellsL_P L L.lit (.pointer (some ⟨ga, 0, none⟩)) (.pointer (some ⟨gr, 0, none⟩)) s (show k + j < 1847 by have := hr.top; omega)
    rw [hr.sg j hj, ← Nat.add_assoc] at this
    exact this
  · exact revGo_pr _ B 0 1 d _ 1 0 (2 ^ B) hpr (by decide) (by rw [Nat.pow_add]; omega)
end Go.Proofs.Ytjnegcambbeblaa

/- lzma: a length. -/
namespace Go.Proofs.Ytjnegcambbeblaa
open Go.RowKit

def ltell {S : Type} (nx : S → Int × Bool × S) (P : Nat → Int) (d : RD S) (b sp : Nat) : Nat × (Nat → Int) × RD S :=
  if (lbit nx P d b).1 = 0 then ltree nx (lbit nx P d b).2.1 (lbit nx P d b).2.2 (b + 2 + 8 * sp) 3
  else if (lbit nx (lbit nx P d b).2.1 (lbit nx P d b).2.2 (b + 1)).1 = 0 then
    (8 + (ltree nx (lbit nx (lbit nx P d b).2.1 (lbit nx P d b).2.2 (b + 1)).2.1 (lbit nx (lbit nx P d b).2.1 (lbit nx P d b).2.2 (b + 1)).2.2 (b + 130 + 8 * sp) 3).1,
      (ltree nx (lbit nx (lbit nx P d b).2.1 (lbit nx P d b).2.2 (b + 1)).2.1 (lbit nx (lbit nx P d b).2.1 (lbit nx P d b).2.2 (b + 1)).2.2 (b + 130 + 8 * sp) 3).2)
  else
    (16 + (ltree nx (lbit nx (lbit nx P d b).2.1 (lbit nx P d b).2.2 (b + 1)).2.1 (lbit nx (lbit nx P d b).2.1 (lbit nx P d b).2.2 (b + 1)).2.2 (b + 258) 8).1,
      (ltree nx (lbit nx (lbit nx P d b).2.1 (lbit nx P d b).2.2 (b + 1)).2.1 (lbit nx (lbit nx P d b).2.1 (lbit nx P d b).2.2 (b + 1)).2.2 (b + 258) 8).2)
theorem ltree_lt {S : Type} (nx : S → Int × Bool × S) (P : Nat → Int) (d : RD S) (k B : Nat) : (ltree nx P d k B).1 < 2 ^ B := tree_lt nx B d _
theorem lrev_lt {S : Type} (nx : S → Int × Bool × S) (P : Nat → Int) (d : RD S) (k B : Nat) : (lrev nx P d k B).1 < 2 ^ B := rev_lt nx B d _
theorem LOPost.then {S : Type} {L : LL} {t : Sour S} {ga gr : Nat} {v : Value} {s : LS} {d : RD (AhS S)} {w w1 : World} {e : Ending} {w' : World} (hf : Fr (LFt L t ga gr) w w1) (h : LOPost L t ga gr v s d w1 e w') : LOPost L t ga gr v s d w e w' := ⟨h.1, hf.trans h.2.1, h.2.2⟩
theorem sgL_hi {k : Nat} (h : 432 ≤ k) : sgL k = k := by
  unfold sgL
  rw [if_neg (by omega), if_neg (by omega), if_neg (by omega)]
theorem rowL_hi {k n : Nat} (h : 432 ≤ k) (ht : k + n ≤ 1847) (hn : 0 < n) : RowL k n := ⟨ht, hn, fun j _ => by rw [sgL_hi (by omega), sgL_hi h]⟩
theorem lbit_le {S : Type} (nx : S → Int × Bool × S) (P : Nat → Int) (d : RD S) (k : Nat) : (lbit nx P d k).1 ≤ 1 := bit_le nx d (P k)
set_option maxRecDepth 100000 in
theorem ltell_any {S : Type} (L : LL) (t : Sour S) (ga gr : Nat) (s : LS) (d : RD (AhS S)) (b sp : Nat) (w : World) (h : LOn L t ga gr w s d) (hb0 : 432 ≤ b) (hb1 : b ≤ 1333) (hs : sp < 16) :
    Calls Try.prog 116 #[.pointer (some ⟨L.gd, 9 + b, none⟩), .pointer (some ⟨gr, 0, none⟩), .int .i64 sp] w
      (LOPost L t ga gr (.int .i64 ((ltell (ahead t ga).nx s.P d b sp).1 : Nat)) { s with P := (ltell (ahead t ga).nx s.P d b sp).2.1 } (ltell (ahead t ga).nx s.P d b sp).2.2 w) := by
  have hs0 : (0 : Int) ≤ (sp : Int) := by omega
  have hs1 : (sp : Int) < 16 := by omega
  have H := hid h
  clear h
  unfold ltell
  have C1 := hid (lbitP L t ga gr s d b (9 + b) w H.out (by omega) (by rw [sgL_hi hb0]))
  have L1 := lbit_le (ahead t ga).nx s.P d b
  generalize lbit (ahead t ga).nx s.P d b = r1 at C1 L1 ⊢
  obtain ⟨x1, P1, d1⟩ := r1
  dsimp only at C1 L1 ⊢
  by_cases hx1 : x1 = 0
  · rw [if_pos hx1]
    subst hx1
    go_enter Try.func116, Try.ntmps116
    go_wp2_with fail
    refine C1.out.mono ?_
    rintro e w1 ⟨rfl, hf1, h1⟩
    have HF := hid hf1
    have H1 := hid h1
    clear hf1 h1 C1
    go_wp2_with fail
    refine (ltreeP L t ga gr _ _ (b + 2 + 8 * sp) _ 3 _ _ _ H1.out (rowL_hi (by omega) (by omega) (by decide)) (by rw [sgL_hi (by omega)]; omega) (by decide) (by decide) (by decide)).mono ?_
    rintro e w2 ⟨rfl, hf2, h2⟩
    have HF2 := hid hf2
    have H2 := hid h2
    clear hf2 h2
    go_wp2_with fail
    go_ret
    exact ⟨rfl, HF.out.trans HF2.out, H2.out⟩
  · rw [if_neg hx1]
    have e1 : x1 = 1 := by omega
    subst e1
    have C2 := hid (fun w1 (h1 : LOn L t ga gr w1 { s with P := P1 } d1) => lbitP L t ga gr { s with P := P1 } d1 (b + 1) (9 + b + 1) w1 h1 (by omega) (by rw [sgL_hi (by omega)]; omega))
    have L2 := lbit_le (ahead t ga).nx P1 d1 (b + 1)
    dsimp only at C2
    generalize lbit (ahead t ga).nx P1 d1 (b + 1) = r2 at C2 L2 ⊢
    obtain ⟨x2, P2, d2⟩ := r2
    dsimp only at C2 L2 ⊢
    by_cases hx2 : x2 = 0
    · rw [if_pos hx2]
      subst hx2
      have L3 := ltree_lt (ahead t ga).nx P2 d2 (b + 130 + 8 * sp) 3
      have C3 := hid (fun w2 (h2 : LOn L t ga gr w2 { s with P := P2 } d2) => ltreeP L t ga gr { s with P := P2 } d2 (b + 130 + 8 * sp) (9 + b + 130 + sp * 8) 3 8 8 w2 h2 (rowL_hi (by omega) (by omega) (by decide)) (by rw [sgL_hi (by omega)]; omega) (by decide) (by decide) (by decide))
      dsimp only at C3
      generalize ltree (ahead t ga).nx P2 d2 (b + 130 + 8 * sp) 3 = r3 at C3 L3 ⊢
      obtain ⟨x3, P3, d3⟩ := r3
      dsimp only at C3 L3 ⊢
      have L3' : (x3 : Int) < 8 := by omega
      have L3'' : (0 : Int) ≤ (x3 : Int) := by omega
      go_enter Try.func116, Try.ntmps116
      go_wp2_with fail
      refine C1.out.mono ?_
      rintro e w1 ⟨rfl, hf1, h1⟩
      have HF := hid hf1
      have H1 := hid h1
      clear hf1 h1 C1
      go_wp2_with fail
      refine (C2.out _ H1.out).mono ?_
      rintro e w2 ⟨rfl, hf2, h2⟩
      have HF2 := hid hf2
      have H2 := hid h2
      clear hf2 h2 C2
      go_wp2_with fail
      refine (C3.out _ H2.out).mono ?_
      rintro e w3 ⟨rfl, hf3, h3⟩
      have HF3 := hid hf3
      have H3 := hid h3
      clear hf3 h3 C3
      go_wp2_with fail
      go_ret
      exact ⟨by first | rfl | (congr 1; push_cast; omega), (HF.out.trans HF2.out).trans HF3.out, H3.out⟩
    · rw [if_neg hx2]
      have e2 : x2 = 1 := by omega
      subst e2
      have L3 := ltree_lt (ahead t ga).nx P2 d2 (b + 258) 8
      have C3 := hid (fun w2 (h2 : LOn L t ga gr w2 { s with P := P2 } d2) => ltreeP L t ga gr { s with P := P2 } d2 (b + 258) (9 + b + 258) 8 256 256 w2 h2 (rowL_hi (by omega) (by omega) (by decide)) (by rw [sgL_hi (by omega)]; omega) (by decide) (by decide) (by decide))
      dsimp only at C3
      generalize ltree (ahead t ga).nx P2 d2 (b + 258) 8 = r3 at C3 L3 ⊢
      obtain ⟨x3, P3, d3⟩ := r3
      dsimp only at C3 L3 ⊢
      have L3' : (x3 : Int) < 256 := by omega
      have L3'' : (0 : Int) ≤ (x3 : Int) := by omega
      go_enter Try.func116, Try.ntmps116
      go_wp2_with fail
      refine C1.out.mono ?_
      rintro e w1 ⟨rfl, hf1, h1⟩
      have HF := hid hf1
      have H1 := hid h1
      clear hf1 h1 C1
      go_wp2_with fail
      refine (C2.out _ H1.out).mono ?_
      rintro e w2 ⟨rfl, hf2, h2⟩
      have HF2 := hid hf2
      have H2 := hid h2
      clear hf2 h2 C2
      go_wp2_with fail
      refine (C3.out _ H2.out).mono ?_
      rintro e w3 ⟨rfl, hf3, h3⟩
      have HF3 := hid hf3
      have H3 := hid h3
      clear hf3 h3 C3
      go_wp2_with fail
      go_ret
      exact ⟨by first | rfl | (congr 1; push_cast; omega), (HF.out.trans HF2.out).trans HF3.out, H3.out⟩
end Go.Proofs.Ytjnegcambbeblaa

/- lzma: a literal, plain. -/
namespace Go.Proofs.Ytjnegcambbeblaa
open Go.RowKit

theorem i64_and_nat (a b : Nat) (ha : a < 9223372036854775808) (hb : b < 9223372036854775808) : bits .and .i64 (a : Int) (b : Int) = ((a &&& b : Nat) : Int) := by
  have hx : a &&& b < 2 ^ 63 := Nat.and_lt_two_pow _ (by omega)
  show IntKind.i64.wrap ((BitVec.ofInt 64 (a : Int) &&& BitVec.ofInt 64 (b : Int)).toNat : Int) = _
  rw [BitVec.toNat_and, ofInt_i64 a (by omega), ofInt_i64 b (by omega), IntKind.wrap_i64]
  omega
theorem w64_nat (a : Nat) (h : a < 9223372036854775808) : wrap64 (a : Int) = (a : Int) := IntWalk.wrap64_in _ ⟨by omega, by omega⟩
theorem and_mask (a k : Nat) (ha : a < 9223372036854775808) (hk : k ≤ 30) : bits .and .i64 (a : Int) (wrap64 (wrap64 (2 ^ k) - 1)) = ((a % 2 ^ k : Nat) : Int) := by
  have hp : 2 ^ k ≤ 2 ^ 30 := Nat.pow_le_pow_right (by decide) hk
  have h0 : 0 < 2 ^ k := Nat.pow_pos (by decide)
  have e : (2 : Int) ^ k = ((2 ^ k : Nat) : Int) := by simp
  have e2 : ((2 ^ k : Nat) : Int) - 1 = ((2 ^ k - 1 : Nat) : Int) := by omega
  rw [e, w64_nat _ (by omega), e2, w64_nat _ (by omega), i64_and_nat _ _ ha (by omega), Nat.and_two_pow_sub_one_eq_mod]
/-- the literals' row. -/
def litAt (place lc lp : Nat) (v : Int) : Nat := (place % 2 ^ lp) * 2 ^ lc + v.toNat / 2 ^ (8 - lc)
theorem litAt_lt {place lc lp : Nat} {v : Int} (hlc : lc ≤ 8) (h0 : 0 ≤ v) (h1 : v < 256) : litAt place lc lp v < 2 ^ (lc + lp) := by
  unfold litAt
  have h2 : v.toNat / 2 ^ (8 - lc) < 2 ^ lc := by
    rw [Nat.div_lt_iff_lt_mul (Nat.pow_pos (by decide)), ← Nat.pow_add, show lc + (8 - lc) = 8 by omega]
    omega
  have h3 : place % 2 ^ lp < 2 ^ lp := Nat.mod_lt _ (Nat.pow_pos (by decide))
  have h4 : (place % 2 ^ lp + 1) * 2 ^ lc ≤ 2 ^ lp * 2 ^ lc := Nat.mul_le_mul_right _ h3
  rw [Nat.add_mul, Nat.one_mul] at h4
  rw [Nat.add_comm lc, Nat.pow_add]
  omega
theorem litAt_go {place lc lp : Nat} {v : Int} (hlc : lc ≤ 8) (hlp : lp ≤ 4) (hp : place ≤ 1000000) (h0 : 0 ≤ v) (h1 : v < 256) :
    wrap64 (wrap64 (bits BinOp.and IntKind.i64 (place : Int) (wrap64 (wrap64 (2 ^ lp) - 1)) * 2 ^ lc) + v / 2 ^ (8 - lc)) = ((litAt place lc lp v : Nat) : Int) := by
  have hl := litAt_lt (place := place) (lp := lp) hlc h0 h1
  have hp2 : 2 ^ (lc + lp) ≤ 2 ^ 12 := Nat.pow_le_pow_right (by decide) (by omega)
  unfold litAt at hl ⊢
  rw [and_mask _ _ (by omega) (by omega)]
  have e1 : ((place % 2 ^ lp : Nat) : Int) * 2 ^ lc = ((place % 2 ^ lp * 2 ^ lc : Nat) : Int) := by simp
  have e2 : v / 2 ^ (8 - lc) = ((v.toNat / 2 ^ (8 - lc) : Nat) : Int) := by
    have : v = (v.toNat : Int) := by omega
    rw [this]
    simp
  rw [e1, e2]
  generalize place % 2 ^ lp * 2 ^ lc = A at hl ⊢
  generalize v.toNat / 2 ^ (8 - lc) = B at hl ⊢
  rw [w64_nat A (by omega)]
  have e3 : (A : Int) + (B : Int) = ((A + B : Nat) : Int) := by omega
  rw [e3, w64_nat _ (by omega)]
def litGo {S : Type} (nx : S → Int × Bool × S) (k0 : Nat) : Nat → Bool → Nat → Nat → (Nat → Int) → RD S → Nat × (Nat → Int) × RD S
  | 0, _, _, m, P, d => (m, P, d)
  | i + 1, true, o, m, P, d => litGo nx k0 i ((lbit nx P d (k0 + 256 * (1 + o / 2 ^ i % 2) + m)).1 == o / 2 ^ i % 2) o (2 * m + (lbit nx P d (k0 + 256 * (1 + o / 2 ^ i % 2) + m)).1) (lbit nx P d (k0 + 256 * (1 + o / 2 ^ i % 2) + m)).2.1 (lbit nx P d (k0 + 256 * (1 + o / 2 ^ i % 2) + m)).2.2
  | i + 1, false, o, m, P, d => litGo nx k0 i false o (2 * m + (lbit nx P d (k0 + m)).1) (lbit nx P d (k0 + m)).2.1 (lbit nx P d (k0 + m)).2.2
theorem litGo_rng {S : Type} (nx : S → Int × Bool × S) (k0 : Nat) : ∀ (i : Nat) (b : Bool) (o m : Nat) (P : Nat → Int) (d : RD S), m * 2 ^ i ≤ (litGo nx k0 i b o m P d).1 ∧ (litGo nx k0 i b o m P d).1 < (m + 1) * 2 ^ i
  | 0, b, o, m, P, d => by unfold litGo; simp
  | i + 1, b, o, m, P, d => by
    have key : ∀ (x : Nat) (b' : Bool) (P' : Nat → Int) (d' : RD S), x ≤ 1 → m * 2 ^ (i + 1) ≤ (litGo nx k0 i b' o (2 * m + x) P' d').1 ∧ (litGo nx k0 i b' o (2 * m + x) P' d').1 < (m + 1) * 2 ^ (i + 1) := by
      intro x b' P' d' hx
      have h := litGo_rng nx k0 i b' o (2 * m + x) P' d'
      have e1 : m * 2 ^ (i + 1) = (2 * m) * 2 ^ i := by rw [Nat.pow_succ, Nat.mul_comm (2 ^ i) 2, ← Nat.mul_assoc, Nat.mul_comm m 2]
      have e2 : (m + 1) * 2 ^ (i + 1) = (2 * m + 2) * 2 ^ i := by rw [Nat.pow_succ, Nat.mul_comm (2 ^ i) 2, ← Nat.mul_assoc]; congr 1; omega
      rw [e1, e2]
      exact ⟨Nat.le_trans (Nat.mul_le_mul_right _ (by omega)) h.1, Nat.lt_of_lt_of_le h.2 (Nat.mul_le_mul_right _ (by omega))⟩
    cases b with
    | true => unfold litGo; exact key _ _ _ _ (lbit_le _ _ _ _)
    | false => unfold litGo; exact key _ _ _ _ (lbit_le _ _ _ _)
theorem litGo_pr {S : Type} (nx : S → Int × Bool × S) (k0 n : Nat) (hn : k0 + 768 ≤ n) : ∀ (i : Nat) (b : Bool) (o m : Nat) (P : Nat → Int) (d : RD S), Pr P n → (m + 1) * 2 ^ i ≤ 512 → Pr (litGo nx k0 i b o m P d).2.1 n
  | 0, b, o, m, P, d, h, hm => by unfold litGo; exact h
  | i + 1, b, o, m, P, d, h, hm => by
    have h2 : (m + 1) * 2 * 2 ^ i ≤ 512 := by rw [Nat.mul_assoc, Nat.mul_comm 2, ← Nat.pow_succ]; exact hm
    have h3 : (m + 1) * 2 * 1 ≤ (m + 1) * 2 * 2 ^ i := Nat.mul_le_mul_left _ (Nat.pow_pos (by decide))
    have hb : ∀ k, (lbit nx P d k).1 ≤ 1 := fun k => lbit_le _ _ _ _
    have h4 : ∀ x, x ≤ 1 → (2 * m + x + 1) * 2 ^ i ≤ 512 := fun x hx => Nat.le_trans (Nat.mul_le_mul_right _ (by omega)) h2
    cases b with
    | true => unfold litGo; exact litGo_pr nx k0 n hn i _ _ _ _ _ (lbit_pr _ h _ (by have : o / 2 ^ i % 2 < 2 := Nat.mod_lt _ (by decide); omega)) (h4 _ (hb _))
    | false => unfold litGo; exact litGo_pr nx k0 n hn i _ _ _ _ _ (lbit_pr _ h _ (by omega)) (h4 _ (hb _))
def LS.row (L : LL) (s : LS) : Nat := 768 * litAt s.place s.lc s.lp (backH s.H L.n 0)
theorem LS.Ok.row {L : LL} {s : LS} (h : s.Ok L) : s.row L + 768 ≤ L.nl := by
  have hb := backH_by h.by_ L.n 0
  have h1 := litAt_lt (place := s.place) (lp := s.lp) h.lc hb.1 hb.2
  have h2 := h.nl
  unfold LS.row
  omega
def llit {S : Type} (nx : S → Int × Bool × S) (L : LL) (s : LS) (d : RD S) : Nat × (Nat → Int) × RD S := litGo nx (1847 + s.row L) 8 (decide (7 ≤ s.st)) (backH s.H L.n (s.rep 0)).toNat 1 s.P d
def stL (st : Nat) : Nat := if st < 4 then 0 else if st < 10 then st - 3 else st - 6
theorem top_bit (o j : Nat) (ho : o < 256) (hj : j ≤ 7) : bits BinOp.and IntKind.i64 (((o * 2 ^ j : Nat) : Int) / 128) 1 = ((o / 2 ^ (7 - j) % 2 : Nat) : Int) := by
  have e : o * 2 ^ j / 128 = o / 2 ^ (7 - j) := by
    have : 128 = 2 ^ (7 - j) * 2 ^ j := by rw [← Nat.pow_add, show 7 - j + j = 7 by omega]
    rw [this, Nat.mul_div_mul_right _ _ (Nat.pow_pos (by decide))]
  have e2 : ((o * 2 ^ j : Nat) : Int) / 128 = ((o / 2 ^ (7 - j) : Nat) : Int) := by rw [← e]; omega
  have hlt : o / 2 ^ (7 - j) ≤ o := Nat.div_le_self _ _
  rw [e2, show (1 : Int) = ((1 : Nat) : Int) from rfl, i64_and_nat _ _ (by omega) (by decide), nat_mask1]
theorem wrap_in (n : Int) (h0 : 0 ≤ n) (h1 : n < 1048576) : IntKind.i64.wrap n = n := by rw [IntKind.wrap_i64]; omega
theorem lit_idx (x m : Nat) (hx : x ≤ 1) (hm : m < 256) : IntKind.i64.wrap (IntKind.i64.wrap (IntKind.i64.wrap (1 + (x : Int)) * 256) + (m : Int)) = ((256 * (1 + x) + m : Nat) : Int) := by
  rw [wrap_in (1 + (x : Int)) (by omega) (by omega), wrap_in ((1 + (x : Int)) * 256) (by omega) (by omega), wrap_in _ (by omega) (by omega)]
  omega
end Go.Proofs.Ytjnegcambbeblaa

/- lzma: a literal. -/
namespace Go.Proofs.Ytjnegcambbeblaa
open Go.RowKit

theorem LOn.st_ {S : Type} {L : LL} {t : Sour S} {ga gr : Nat} {w : World} {s : LS} {d : RD (AhS S)} (h : LOn L t ga gr w s d) {x : Nat} (hx : x < 12) :
    LOn L t ga gr (w.setCell ⟨L.gd, 1857, none⟩ (.int .i64 x)) { s with st := x } d :=
  h.own ((Fr.refl _ _).setOne _ _) (T := fun k => k = L.gd) (fun _ e => .inl e) (h.is_.setT (i := 1) (s' := { s with st := x }) rfl rfl rfl rfl ⟨h.is_.ok.pr, hx, h.is_.ok.rep, h.is_.ok.by_, h.is_.ok.lc, h.is_.ok.lp, h.is_.ok.pb, h.is_.ok.nl, h.is_.ok.dict, h.is_.ok.left⟩)
structure LitMid {S : Type} (L : LL) (t : Sour S) (ga gr : Nat) (s : LS) (d : RD (AhS S)) (w : World) (b : Bool) (j m : Nat) (P1 : Nat → Int) (d1 : RD (AhS S)) (wx : World) : Prop where
  top : j ≤ 8
  lo : 2 ^ j ≤ m
  hi : m < 2 ^ (j + 1)
  go : litGo (ahead t ga).nx (1847 + s.row L) (8 - j) b (backH s.H L.n (s.rep 0)).toNat m P1 d1 = llit (ahead t ga).nx L s d
  fr : Fr (LFt L t ga gr) w wx
  on : LOn L t ga gr wx { s with P := P1 } d1
theorem pow_lt8 {j m : Nat} (h : 2 ^ j ≤ m) (hm : m < 256) : j < 8 := by
  rcases Nat.lt_or_ge j 8 with h1 | h1
  · exact h1
  · have : 2 ^ 8 ≤ 2 ^ j := Nat.pow_le_pow_right (by decide) h1
    omega
theorem LitMid.any {S : Type} {L : LL} {t : Sour S} {ga gr : Nat} {s : LS} {d : RD (AhS S)} {w : World} {b : Bool} {j m : Nat} {P1 : Nat → Int} {d1 : RD (AhS S)} {wx wy : World}
    (h : LitMid L t ga gr s d w b j m P1 d1 wx) (hf : Fr Non wx wy) : LitMid L t ga gr s d w b j m P1 d1 wy := ⟨h.top, h.lo, h.hi, h.go, h.fr.trans (hf.mono (fun _ _ e => e.elim)), h.on.any hf⟩
/-- one bit more, with the matched byte's. -/
theorem LitMid.step {S : Type} {L : LL} {t : Sour S} {ga gr : Nat} {s : LS} {d : RD (AhS S)} {w : World} {b : Bool} {j m : Nat} {P1 : Nat → Int} {d1 : RD (AhS S)} {wx wy : World} {o x r : Nat} {P2 : Nat → Int} {d2 : RD (AhS S)} {b' : Bool}
    (h : LitMid L t ga gr s d w b j m P1 d1 wx) (hj : j < 8) (ho : o = (backH s.H L.n (s.rep 0)).toNat) (hx : x = o / 2 ^ (7 - j) % 2) (k : Nat)
    (hk : k = 1847 + s.row L + (if b = true then 256 * (1 + x) else 0) + m) (hr : lbit (ahead t ga).nx P1 d1 k = (r, P2, d2)) (hb : b' = (b && (r == x)))
    (hf : Fr (LFt L t ga gr) wx wy) (hon : LOn L t ga gr wy { s with P := P2 } d2) : LitMid L t ga gr s d w b' (j + 1) (2 * m + r) P2 d2 wy := by
  have hr1 : r ≤ 1 := by have := lbit_le (ahead t ga).nx P1 d1 k; rw [hr] at this; exact this
  refine ⟨by omega, by have := h.lo; rw [Nat.pow_succ]; omega, by have := h.hi; rw [Nat.pow_succ] at this ⊢; omega, ?_, h.fr.trans hf, hon⟩
  rw [← h.go, ← ho]
  have e : 8 - j = (8 - (j + 1)) + 1 := by omega
  have e2 : 8 - (j + 1) = 7 - j := by omega
  rw [e, e2]
  cases b with
  | false =>
    rw [hb]
    conv => rhs; unfold litGo
    have hk' : k = 1847 + s.row L + m := by rw [hk]; rfl
    rw [hk'] at hr
    rw [hr]
    rfl
  | true =>
    rw [hb]
    conv => rhs; unfold litGo
    have hk' : k = 1847 + s.row L + 256 * (1 + o / 2 ^ (7 - j) % 2) + m := by rw [hk, ← hx]; rfl
    rw [hk'] at hr
    rw [hr, ← hx]
    rfl
theorem LitMid.full {S : Type} {L : LL} {t : Sour S} {ga gr : Nat} {s : LS} {d : RD (AhS S)} {w : World} {b b' : Bool} {j m : Nat} {P1 : Nat → Int} {d1 : RD (AhS S)} {wx : World}
    (h : LitMid L t ga gr s d w b j m P1 d1 wx) (hm : ¬ m < 256) : j = 8 ∧ LitMid L t ga gr s d w b' j m P1 d1 wx := by
  have hj : j = 8 := by
    have h1 := h.hi
    have h2 := h.top
    rcases Nat.lt_or_ge j 8 with h3 | h3
    · have : 2 ^ (j + 1) ≤ 2 ^ 8 := Nat.pow_le_pow_right (by decide) (by omega)
      omega
    · omega
  refine ⟨hj, h.top, h.lo, h.hi, ?_, h.fr, h.on⟩
  have := h.go
  subst hj
  exact this
set_option maxRecDepth 100000 in
set_option maxHeartbeats 2000000 in
theorem llit_any {S : Type} (L : LL) (t : Sour S) (ga gr : Nat) (s : LS) (d : RD (AhS S)) (w : World) (h : LOn L t ga gr w s d) (hp : s.place ≤ 1000000) :
    Calls Try.prog 88 #[.pointer (some ⟨L.gd, 0, none⟩)] w
      (LOPost L t ga gr (.int .u8 (((llit (ahead t ga).nx L s d).1 % 256 : Nat) : Int)) { s with P := (llit (ahead t ga).nx L s d).2.1, st := stL s.st } (llit (ahead t ga).nx L s d).2.2 w) := by
  have k0 := h.is_.headC 0 (v := .int .i64 s.lc) (by decide) rfl
  have k1 := h.is_.headC 1 (v := .int .i64 s.lp) (by decide) rfl
  have k6 := h.is_.headC 6 (v := .pointer (some ⟨L.gw, 0, none⟩)) (by decide) rfl
  have k8 := h.is_.headC 8 (v := .pointer (some ⟨gr, 0, none⟩)) (by decide) rfl
  have t0 := h.is_.tailC 0 (v := .slice (some ⟨L.gl, 0, none⟩) L.nl L.nl) rfl
  have t1 := h.is_.tailC 1 (v := .int .i64 s.st) rfl
  have t2 := h.is_.tailC 2 (v := .int .u32 (s.rep 0)) rfl
  have t6 := h.is_.tailC 6 (v := .int .i64 s.place) rfl
  have hb := backH_by h.is_.ok.by_ L.n 0
  have hlc : (s.lc : Int) ≤ 8 := by have := h.is_.ok.lc; omega
  have hlp : (s.lp : Int) ≤ 4 := by have := h.is_.ok.lp; omega
  have hlc0 : (0 : Int) ≤ s.lc := by omega
  have hlp0 : (0 : Int) ≤ s.lp := by omega
  have hpl : (s.place : Int) ≤ 1000000 := by omega
  have hpl0 : (0 : Int) ≤ s.place := by omega
  have HA := hid (litAt_go (place := s.place) h.is_.ok.lc h.is_.ok.lp hp hb.1 hb.2)
  have HR := hid h.is_.ok.row
  have hnl := h.is_.big
  have hnl0 : (L.nl : Int) ≤ 49152 := by omega
  obtain ⟨A, hA⟩ : ∃ A, A = litAt s.place s.lc s.lp (backH s.H L.n 0) := ⟨_, rfl⟩
  have hrow : s.row L = 768 * A := by unfold LS.row; rw [hA]
  have hA1 : 768 * A + 768 ≤ L.nl := by have := HR.out; rw [hrow] at this; exact this
  have hA2 : 768 * (A : Int) + 768 ≤ (L.nl : Int) := by omega
  have hA0 : (0 : Int) ≤ (A : Int) := by omega
  have hA3 : ¬ (L.nl = 768 * A) := by omega
  rw [← hA] at HA
  have HROW := hid hrow
  have H := hid h
  clear h hp hA hrow
  go_enter Try.func88, Try.ntmps88
  go_upto_region 1 with fail
  go_quiet ((go_at_call 95; exact Calls.quiet_of (wat_any L.gw L.gn L.gm L.n s.H 0 _ (by exact H.out.is_.win.keep ((Fr.refl Non _).drewN _) (fun e => e) (fun e => e)))))
  go_upto_region 2 with fail
  go_cut [4] (fun a4 wx => a4 = .int .i64 A ∧ Fr Non w wx)
  case first =>
    go_quiet (fail)
    go_wp2_with fail
    go_meet
    exact ⟨by rw [HA.out], ((Fr.refl Non w).drewN _).drewN _⟩
  case rest =>
    obtain ⟨h4, hf0⟩ := hcut
    subst h4
    obtain ⟨wq, hwq⟩ : ∃ wq, wq = wc := ⟨_, rfl⟩
    rw [← hwq] at hf0 ⊢
    clear hwq
    have h := H.out.any hf0
    have k6 := h.is_.headC 6 (v := .pointer (some ⟨L.gw, 0, none⟩)) (by decide) rfl
    have t0 := h.is_.tailC 0 (v := .slice (some ⟨L.gl, 0, none⟩) L.nl L.nl) rfl
    have t1 := h.is_.tailC 1 (v := .int .i64 s.st) rfl
    have t2 := h.is_.tailC 2 (v := .int .u32 (s.rep 0)) rfl
    have HF0 := hid hf0
    have H1 := hid h
    clear hf0 h
    obtain ⟨o, ho⟩ : ∃ o, o = (backH s.H L.n (s.rep 0)).toNat := ⟨_, rfl⟩
    have hbo := backH_by H.out.is_.ok.by_ L.n (s.rep 0)
    have hob : backH s.H L.n (s.rep 0) = (o : Int) := by omega
    have ho2 : o < 256 := by omega
    have HO := hid ho
    have HOB := hid hob
    clear ho hob hbo
    have M0 := hid (show LitMid L t ga gr s d w (decide (7 ≤ s.st)) 0 1 s.P d wq from ⟨by omega, by decide, by decide, rfl, HF0.out.mono (fun _ _ e => e.elim), H1.out⟩)
    have hrp0 : IntKind.i64.wrap ((s.rep 0 : Nat) : Int) = ((s.rep 0 : Nat) : Int) := by have := H1.out.is_.ok.rep 0 (by decide); rw [IntKind.wrap_i64]; omega
    go_upto_if 60 with fail
    rw [show 768 * A + 768 - 768 * A = 768 by omega]
    obtain ⟨bb, hbb⟩ : ∃ bb, bb = decide ((7 : Int) ≤ (s.st : Int)) := ⟨_, rfl⟩
    have hbb2 : decide (7 ≤ s.st) = bb := by rw [hbb]; congr 1; apply propext; omega
    rw [hbb2] at M0
    rw [← hbb]
    clear hbb hbb2 t1
    go_cut [6] (fun a6 wx => ∃ (j m : Nat) (P1 : Nat → Int) (d1 : RD (AhS S)), a6 = .int .i64 m ∧ LitMid L t ga gr s d w false j m P1 d1 wx)
    case first =>
      cases bb with
      | true =>
        go_upto_region 5 with fail
        go_quiet ((go_at_call 95; exact Calls.quiet_of (wat_any L.gw L.gn L.gm L.n s.H (s.rep 0) _ (by exact H1.out.is_.win.keep ((Fr.refl Non _).drewN _) (fun e => e) (fun e => e)))))
        rw [HOB.out]
        go_wp2_with fail
        go_loopw [6, 7] (fun a6 a7 wr => ∃ (j m : Nat) (P1 : Nat → Int) (d1 : RD (AhS S)), a6 = .int .i64 m ∧ a7 = .int .i64 (o * 2 ^ j : Nat) ∧ LitMid L t ga gr s d w true j m P1 d1 wr) (fun a6 _ _ => 512 - (intOf a6).toNat)
        case atStart => exact ⟨0, 1, s.P, d, rfl, by rw [w64_nat o (by omega)]; simp, M0.out.any ((Fr.refl Non _).drewN _)⟩
        case round =>
          obtain ⟨j, m, P1, d1, rfl, rfl, hm⟩ := hrel
          have HM := hid hm
          clear hm
          by_cases hlt : m < 256
          · have hlt' : (m : Int) < 256 := by omega
            have hj := pow_lt8 HM.out.lo hlt
            have hm1 : 1 ≤ m := Nat.le_trans (Nat.pow_pos (by decide)) HM.out.lo
            obtain ⟨x, hx⟩ : ∃ x, x = o / 2 ^ (7 - j) % 2 := ⟨_, rfl⟩
            have hx1 : x ≤ 1 := by have : o / 2 ^ (7 - j) % 2 < 2 := Nat.mod_lt _ (by decide); omega
            have hx1' : (x : Int) ≤ 1 := by omega
            have hx0 : (0 : Int) ≤ (x : Int) := by omega
            have HTB := hid (top_bit o j ho2 (by omega))
            rw [← hx] at HTB
            have k8 := HM.out.on.is_.headC 8 (v := .pointer (some ⟨gr, 0, none⟩)) (by decide) rfl
            obtain ⟨y, hy⟩ : ∃ y, y = o * 2 ^ j := ⟨_, rfl⟩
            have hy2 : y ≤ 65536 := by rw [hy]; have : 2 ^ j ≤ 2 ^ 8 := Nat.pow_le_pow_right (by decide) (by omega); exact Nat.le_trans (Nat.mul_le_mul (show o ≤ 256 by omega) this) (by decide)
            rw [← hy] at HTB ⊢
            have hy2' : (y : Int) ≤ 65536 := by omega
            have hy0 : (0 : Int) ≤ (y : Int) := by omega
            have HX := hid hx
            have HY := hid hy
            have HJ := hid hj
            clear hx hy hj hy2
            go_upto_region 8 with fail
            rw [HTB.out]
            go_upto_region 9 with fail
            obtain ⟨q, hq⟩ : ∃ q, q = 256 * (1 + x) + m := ⟨_, rfl⟩
            have hidx := lit_idx x m hx1 hlt
            rw [← hq] at hidx
            have hq7 : q < 768 := by omega
            have hq7' : (q : Int) < 768 := by omega
            have hq0 : (0 : Int) ≤ (q : Int) := by omega
            have HQ := hid hq
            have HIN := hid (show 768 * A + q < L.nl by omega)
            have CB := hid (fun w1 (h1 : LOn L t ga gr w1 { s with P := P1 } d1) => lbitL L t ga gr { s with P := P1 } d1 (768 * A + q) (768 * A + q) w1 h1 HIN.out rfl)
            dsimp only at CB
            obtain ⟨rr, hrr⟩ : ∃ rr, rr = lbit (ahead t ga).nx P1 d1 (1847 + (768 * A + q)) := ⟨_, rfl⟩
            obtain ⟨r, P2, d2⟩ := rr
            have hr1 : r ≤ 1 := by have := lbit_le (ahead t ga).nx P1 d1 (1847 + (768 * A + q)); rw [← hrr] at this; exact this
            rw [← hrr] at CB
            dsimp only at CB
            have HRR := hid hrr
            clear hrr hq
            go_cut [9] (fun a9 wx => a9 = .int .i64 r ∧ Fr (LFt L t ga gr) wr wx ∧ LOn L t ga gr wx { s with P := P2 } d2)
            case first =>
              go_region_with (go_at_call 87; refine (CB.out _ (by exact HM.out.on.any ((Fr.refl Non _).drew))).mono ?_; rintro e w1 ⟨rfl, hf1, h1⟩; have HF1 := hid hf1; have HO1 := hid h1; clear hf1 h1)
              simp only [List.getElem_toArray, List.getElem_cons_zero, List.getElem_cons_succ, Act.put, List.setIfInBounds_toArray, List.set_cons_zero, List.set_cons_succ]
              go_wp2_with fail
              go_meet
              exact ⟨rfl, (Fr.refl _ _).drew.trans HF1.out, HO1.out⟩
            case rest =>
              obtain ⟨h9, hf1, ho1⟩ := hcut
              subst h9
              have HM2 := hid (HM.out.step (b' := (true && (r == x))) HJ.out HO.out HX.out (1847 + (768 * A + q)) (by rw [HROW.out, HQ.out, if_pos rfl]; omega) HRR.out.symm rfl hf1 ho1)
              have HOR := hid (or_bit m r hr1 (by omega))
              clear hf1 ho1
              by_cases hrx : r = x
              · subst hrx
                rw [beq_self_eq_true] at HM2
                go_wp2_with fail
                go_roundw
                case rel =>
                  exact ⟨j + 1, 2 * m + r, P2, d2, by rw [HOR.out], by rw [HY.out]; congr 1; push_cast; rw [Int.pow_succ, Int.mul_assoc], HM2.out⟩
                case measure => rw [HOR.out]; simp [intOf]; omega
              · rw [beq_false_of_ne hrx] at HM2
                have hrx1 : ¬ ((r : Int) = (x : Int)) := by omega
                go_wp2_with fail
                go_meet
                exact ⟨j + 1, 2 * m + r, P2, d2, by rw [HOR.out], HM2.out⟩
          · have hlt' : ¬ (m : Int) < 256 := by omega
            go_wp2_with fail
            go_meet
            exact ⟨j, m, P1, d1, rfl, (HM.out.full hlt).2⟩
      | false =>
        go_wp2_with fail
        go_meet
        exact ⟨0, 1, s.P, d, rfl, M0.out⟩
    case rest =>
      obtain ⟨j, m, P1, d1, h6, hm⟩ := hcut
      subst h6
      go_upto_block 2 with fail
      go_cut [6] (fun a6 wx => ∃ (m : Nat) (P1 : Nat → Int) (d1 : RD (AhS S)), a6 = .int .i64 m ∧ LitMid L t ga gr s d w false 8 m P1 d1 wx)
      case first =>
        have M1 := hid hm
        clear hm
        go_wp2_with fail
        go_loopw [6] (fun a6 wr => ∃ (j m : Nat) (P1 : Nat → Int) (d1 : RD (AhS S)), a6 = .int .i64 m ∧ LitMid L t ga gr s d w false j m P1 d1 wr) (fun a6 _ => 512 - (intOf a6).toNat)
        case atStart => exact ⟨j, m, P1, d1, rfl, M1.out⟩
        case round =>
          obtain ⟨j, m, P1, d1, rfl, hm⟩ := hrel
          have HM := hid hm
          clear hm
          by_cases hlt : m < 256
          · have hlt' : (m : Int) < 256 := by omega
            have hj := pow_lt8 HM.out.lo hlt
            have hm1 : 1 ≤ m := Nat.le_trans (Nat.pow_pos (by decide)) HM.out.lo
            have k8 := HM.out.on.is_.headC 8 (v := .pointer (some ⟨gr, 0, none⟩)) (by decide) rfl
            have HJ := hid hj
            have HIN := hid (show 768 * A + m < L.nl by omega)
            have CB := hid (fun w1 (h1 : LOn L t ga gr w1 { s with P := P1 } d1) => lbitL L t ga gr { s with P := P1 } d1 (768 * A + m) (768 * A + m) w1 h1 HIN.out rfl)
            dsimp only at CB
            obtain ⟨rr, hrr⟩ : ∃ rr, rr = lbit (ahead t ga).nx P1 d1 (1847 + (768 * A + m)) := ⟨_, rfl⟩
            obtain ⟨r, P2, d2⟩ := rr
            have hr1 : r ≤ 1 := by have := lbit_le (ahead t ga).nx P1 d1 (1847 + (768 * A + m)); rw [← hrr] at this; exact this
            rw [← hrr] at CB
            dsimp only at CB
            have HRR := hid hrr
            have hm2 : IntKind.i64.wrap ((m : Int) * 2) = (m : Int) * 2 := wrap_in _ (by omega) (by omega)
            have HOR := hid (or_bit m r hr1 (by omega))
            clear hrr hj
            go_upto_region 13 with fail
            go_region_with (go_at_call 87; refine (CB.out _ (by exact HM.out.on.any ((Fr.refl Non _).drew))).mono ?_; rintro e w1 ⟨rfl, hf1, h1⟩; have HF1 := hid hf1; have HO1 := hid h1; clear hf1 h1)
            all_goals
              simp only [List.getElem_toArray, List.getElem_cons_zero, List.getElem_cons_succ, Act.put, List.setIfInBounds_toArray, List.set_cons_zero, List.set_cons_succ]
              have HM2 := hid (HM.out.step (b' := (false && (r == 0))) (x := _) HJ.out rfl rfl (1847 + (768 * A + m)) (by rw [HROW.out, if_neg (by decide)]; omega) HRR.out.symm rfl ((Fr.refl _ _).drew.trans HF1.out) HO1.out)
              go_wp2_with fail
              go_roundw
              case rel => exact ⟨j + 1, 2 * m + r, P2, d2, by rw [HOR.out], HM2.out⟩
              case measure => rw [HOR.out]; simp [intOf]; omega
          · have hlt' : ¬ (m : Int) < 256 := by omega
            obtain ⟨e8, HM8⟩ := HM.out.full (b' := false) hlt
            subst e8
            have HM9 := hid HM8
            clear HM8
            go_wp2_with fail
            go_meet
            exact ⟨m, P1, d1, rfl, HM9.out⟩
      case rest =>
        clear hm
        obtain ⟨m, P1, d1, h6, hm⟩ := hcut
        subst h6
        have hst : s.st < 12 := hm.on.is_.ok.st
        have t1 := hm.on.is_.tailC 1 (v := .int .i64 s.st) rfl
        have z1 := blk_frozen hm.on.is_.at_ (1856 + 1)
        have hgo := hm.go
        have hr := hm.lo
        have hr2 := hm.hi
        have hon := hm.on
        have hfr := hm.fr
        have HGO := hid hgo
        have HON := hid hon
        have HFR := hid hfr
        clear hgo hon hfr hm hr hr2
        have hfin : ∀ x, x < 12 → x = stL s.st → LOPost L t ga gr (.int .u8 (((llit (ahead t ga).nx L s d).1 % 256 : Nat) : Int)) { s with P := (llit (ahead t ga).nx L s d).2.1, st := stL s.st } (llit (ahead t ga).nx L s d).2.2 w (.returned (.int .u8 ((m % 256 : Nat) : Int))) (wc.setCell ⟨L.gd, 1857, none⟩ (.int .i64 (x : Int))) := by
          intro x hx e
          have e1 : llit (ahead t ga).nx L s d = (m, P1, d1) := HGO.out.symm
          rw [e1]
          refine ⟨rfl, HFR.out.trans ((Fr.refl (LFt L t ga gr) _).setCell (p := ⟨L.gd, 1857, none⟩) (fun _ => .inl (.inl rfl)) _), ?_⟩
          have := HON.out.st_ hx
          rw [e] at this ⊢
          exact this
        have HFIN := hid hfin
        clear hfin
        by_cases h4 : s.st < 4
        · have h4' : (s.st : Int) < 4 := by omega
          have hs : stL s.st = 0 := by unfold stL; rw [if_pos h4]
          have HS := hid hs
          clear hs
          go_wp2_with fail
          go_ret
          exact HFIN.out 0 (by decide) HS.out.symm
        · have h4' : ¬ (s.st : Int) < 4 := by omega
          by_cases h10 : s.st < 10
          · have h10' : (s.st : Int) < 10 := by omega
            have hs : stL s.st = s.st - 3 := by unfold stL; rw [if_neg h4, if_pos h10]
            have HS := hid hs
            have he : ((s.st : Int) - 3) = ((s.st - 3 : Nat) : Int) := by omega
            have HE := hid he
            clear hs he
            go_wp2_with fail
            go_ret
            rw [HE.out]
            exact HFIN.out (s.st - 3) (by omega) HS.out.symm
          · have h10' : ¬ (s.st : Int) < 10 := by omega
            have hs : stL s.st = s.st - 6 := by unfold stL; rw [if_neg h4, if_neg h10]
            have HS := hid hs
            have he : ((s.st : Int) - 6) = ((s.st - 6 : Nat) : Int) := by omega
            have HE := hid he
            have hst' : (s.st : Int) < 12 := by omega
            clear hs he
            go_wp2_with fail
            go_ret
            rw [HE.out]
            exact HFIN.out (s.st - 6) (by omega) HS.out.symm
end Go.Proofs.Ytjnegcambbeblaa
