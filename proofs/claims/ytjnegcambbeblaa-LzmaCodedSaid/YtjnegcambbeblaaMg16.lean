/- Texts of this proof, one behind the other. -/
import Derived.Test.YtjnegcambbeblaaMg15
import Derived.Test.YtjnegcambbeblaaMg14
import Derived.Laws.CopyRow
import Derived.Laws.ResultCell
import Derived.Laws.Rows
import Derived.StillTailTactics

/- lzma: Parse, Props; the document's. -/
namespace Go.Proofs.Ytjnegcambbeblaa
open Go.RowKit

theorem results_cell_tmp_row {P : Program} {fn : Func} {p u : Tmp} {ty : TypeId} (h : fn.results = #[.cell p ty, .tmp u]) (tmps : Array Value) (w : World) (g : Nat) (t : TypeId) (cs : Array Value) (fr : Nat × Nat) (d : TypeDesc)
    (hp : tmps.getD p undef = .pointer (some ⟨g, 0, none⟩)) (hg : w.heap[g]? = some (.cells cs t fr))
    (hu : P.underlying ty = some d) (hd : (match d with | .struct _ | .array _ _ => true | _ => false) = true) (hi : (P.info? ty).map (·.size) = some cs.size) :
    (results fn tmps).run P w = .ok (.tuple #[.agg cs, tmps.getD u undef]) w := by
  have hp' : tmps[p]?.getD undef = .pointer (some ⟨g, 0, none⟩) := by simpa using hp
  rw [results_cell_tmp h]
  simp [hp', asAddr, Result.andThen, run_loadVar_row w g t ty cs fr d hg hu hd hi]
theorem results_cell_tmp_row' {P : Program} {fn : Func} {p u : Tmp} {ty : TypeId} (h : fn.results = #[.cell p ty, .tmp u]) (tmps : Array Value) (w : World) (g : Nat) (t : TypeId) (cs : Array Value) (fr : Nat × Nat) (d : TypeDesc) (y : Value)
    (hp : tmps.getD p undef = .pointer (some ⟨g, 0, none⟩)) (hy : tmps.getD u undef = y) (hg : w.heap[g]? = some (.cells cs t fr))
    (hu : P.underlying ty = some d) (hd : (match d with | .struct _ | .array _ _ => true | _ => false) = true) (hi : (P.info? ty).map (·.size) = some cs.size) :
    (results fn tmps).run P w = .ok (.tuple #[.agg cs, y]) w := by
  rw [results_cell_tmp_row h tmps w g t cs fr d hp hg hu hd hi, hy]
/-- a setting's properties, read. -/
def pSet (f : Nat → Int) : Lset := ⟨f 0 % 9, f 0 / 9 % 5, f 0 / 45, max 4096 (f 1 + 256 * f 2 + 65536 * f 3 + 16777216 * f 4)⟩
def pParse (f : Nat → Int) (n : Nat) : Lset × Int := if n ≠ 5 ∨ 225 ≤ f 0 then (⟨0, 0, 0, 0⟩, 11) else (pSet f, 0)
def PsPost (f : Nat → Int) (n : Nat) (w : World) (e : Ending) (w' : World) : Prop := e = .returned (.tuple #[(pParse f n).1.val, .int .i64 (pParse f n).2]) ∧ Fr Non w w'
theorem setNew_fr {w w' : World} (h : Fr Non w w') {g : Nat} (hg : w.heap.size ≤ g) (c : Array Value) : Fr Non w (w'.setRow g c) := by
  refine ⟨h.os, h.tape, h.output, by simp [World.setRow]; exact h.size, fun k hk _ => ?_⟩
  rw [setRow_other _ _ _ _ (show k ≠ g by omega)]
  exact h.block k hk id
theorem leN4 (f : Nat → Int) : leN f 4 = f 0 + 256 * f 1 + 65536 * f 2 + 16777216 * f 3 := by
  show 0 + f 0 * 256 ^ 0 + f 1 * 256 ^ 1 + f 2 * 256 ^ 2 + f 3 * 256 ^ 3 = _
  rw [show (256 : Int) ^ 0 = 1 from rfl, show (256 : Int) ^ 1 = 256 from rfl, show (256 : Int) ^ 2 = 65536 from rfl, show (256 : Int) ^ 3 = 16777216 from rfl]
  omega
set_option maxRecDepth 100000 in
set_option maxHeartbeats 800000 in
theorem parse_any (a : Option Addr) (n c : Nat) (f : Nat → Int) (w : World) (hn : n ≤ 1048576) (hnc : n ≤ c) (hnil : a = none → c = 0) (hr : RowIn w.heap.size .u8 w a n f) (hf : ∀ i, i < n → 0 ≤ f i ∧ f i < 256) :
    Calls Try.prog 31 #[.slice a n c] w (PsPost f n w) := by
  obtain ⟨R, hR⟩ : ∃ R, R = pParse f n := ⟨_, rfl⟩
  unfold PsPost
  rw [← hR]
  unfold pParse at hR
  have HR := hid hr
  have Hf := hid hf
  have HRE := hid hR
  have HNIL := hid hnil
  have HF0 := hid ((Fr.refl Non w).alloc (.cells #[.int .i64 0, .int .i64 0, .int .i64 0, .int .i64 0] 23))
  have HB0 := hid (blk_new w (.cells #[.int .i64 0, .int .i64 0, .int .i64 0, .int .i64 0] 23))
  clear hr hf hR hnil
  go_enter Try.func31, Try.ntmps31
  by_cases h5 : n = 5
  · subst h5
    obtain ⟨b, off, rfl, hB, hx⟩ := HR.out.at (show 0 < 5 by decide)
    rw [Nat.add_zero] at hx
    obtain ⟨hx0, hx1⟩ := Hf.out 0 (by decide)
    obtain ⟨W, hW⟩ : ∃ W, W = w.alloc (.cells #[.int .i64 0, .int .i64 0, .int .i64 0, .int .i64 0] 23) := ⟨_, rfl⟩
    have hxW := HF0.out.cell hx id
    rw [← hW] at HF0 HB0 hxW
    obtain ⟨x, hxe⟩ : ∃ x, x = f 0 := ⟨_, rfl⟩
    rw [← hxe] at hx hx0 hx1 hxW
    have HXE := hid hxe
    clear hxe
    by_cases h225 : 225 ≤ x
    · have hc : decide (225 ≤ x) = true := decide_eq_true h225
      have HE := hid (show R = (⟨0, 0, 0, 0⟩, 11) by rw [HRE.out, if_pos (.inr (by rw [← HXE.out]; exact h225))])
      rw [HE.out]
      go_upto_region 2 with fail
      go_wp2_with fail
      refine bodyPost_ret (v := .tuple #[.agg #[.int .i64 0, .int .i64 0, .int .i64 0, .int .i64 0], .int .i64 11]) (results_cell_tmp_row' rfl _ _ w.heap.size 23 #[.int .i64 0, .int .i64 0, .int .i64 0, .int .i64 0] (0, 0) _ _ rfl rfl (by exact blk_new w _) Try.underlying23 rfl (by kernel_rfl)) rfl ?_
      exact ⟨rfl, (Fr.refl Non w).alloc _⟩
    · have hc : decide (225 ≤ x) = false := decide_eq_false h225
      have HE := hid (show R = (pSet f, 0) by rw [HRE.out, if_neg (by rw [← HXE.out]; intro e; exact e.elim (fun e => e rfl) h225)])
      have HX9 := hid (show x < 225 by omega)
      rw [HE.out]
      have hc8 : ¬ c = 1 := by have := HR.out; omega
      have hc7 : ¬ (c : Int) = 1 := by omega
      have hc5 : (5 : Int) ≤ (c : Int) := by omega
      clear h225
      go_upto_region 4 with fail
      rw [← hW]
      have HW := hid hW
      clear hW
      have HRW := hid (HR.out.fr HF0.out (fun _ _ => id))
      go_wp2_with fail
      refine (curNew_any (some ⟨b, off + 1, none⟩) 4 (c - 1) (fun i => f (i + 1)) W (by decide) (by omega) (fun e => by cases e) (.inr ⟨b, off + 1, rfl, Nat.lt_of_lt_of_le hB HF0.out.size, fun i hi => by
        rcases HRW.out with h | ⟨b', o', e, hb, hcc⟩
        · cases h
        · injection e with e; injection e with e1 e2
          subst e1 e2
          have := hcc (i + 1) (by omega)
          rw [show off + (i + 1) = off + 1 + i by omega] at this
          exact this⟩)).mono ?_
      rintro e w1 ⟨g, a', c', rfl, hf1, hcur, hrow, hc1, hc2, hg0, hg1⟩
      have F1 := hid hf1
      have CUR := hid hcur
      have ROW := hid hrow
      have HB1 := hid (hf1.blk HB0.out id)
      have HG := hid hg0
      clear hf1 hcur hrow
      go_wp2_with fail
      refine (num4 w1 g a' c' _ CUR.out hc1 hc2 ROW.out (fun i hi => Hf.out (i + 1) (by omega))).mono ?_
      rintro e w2 ⟨rfl, hf2⟩
      have F2 := hid (F1.out.then hf2 (fun k hk e => by have e' : k = g := e; have := HG.out; omega))
      have hgW : w.heap.size ≠ g := by have := HG.out; have := blk_lt HB0.out; omega
      have HB2 := hid (hf2.blk HB1.out hgW)
      clear hf2 hgW
      obtain ⟨v, hv⟩ : ∃ v, v = leN (fun i => f (i + 1)) 4 := ⟨_, rfl⟩
      rw [← hv]
      have hbd := leN_bd (f := fun i => f (i + 1)) 4 (fun i hi => Hf.out (i + 1) (by omega))
      rw [← hv] at hbd
      have hv0 : 0 ≤ v := hbd.1
      have hv1 : v < 4294967296 := hbd.2
      have HVE := hid (show v = f 1 + 256 * f 2 + 65536 * f 3 + 16777216 * f 4 by rw [hv, leN4])
      clear hv hbd
      have hcv : IntKind.i64.wrap v = v := by rw [IntKind.wrap_i64]; omega
      by_cases hv4 : 4096 < v
      · have hv4' : ¬ v ≤ 4096 := by omega
        have HM := hid (show max 4096 v = v by omega)
        go_wp2_with (refine wpList_store_row rfl 23 _ _ rfl w.heap.size #[.int .i64 (x % 9), .int .i64 (x / 9 % 5), .int .i64 (x / 45), .int .i64 v] rfl rfl 23 #[.int .i64 0, .int .i64 0, .int .i64 0, .int .i64 0] (by exact HB2.out) (by kernel_rfl) rfl (by kernel_rfl) ?_)
        refine bodyPost_ret (v := .tuple #[.agg #[.int .i64 (x % 9), .int .i64 (x / 9 % 5), .int .i64 (x / 45), .int .i64 v], .int .i64 0]) (results_cell_tmp_row' rfl _ _ w.heap.size 23 #[.int .i64 (x % 9), .int .i64 (x / 9 % 5), .int .i64 (x / 45), .int .i64 v] (0, 0) _ _ rfl rfl (by exact setRow_heap _ _ _ _ _ _ HB2.out) Try.underlying23 rfl (by kernel_rfl)) rfl ?_
        refine ⟨?_, setNew_fr (HF0.out.trans F2.out) (Nat.le_refl _) _⟩
        show _ = Ending.returned (.tuple #[.agg #[.int .i64 (f 0 % 9), .int .i64 (f 0 / 9 % 5), .int .i64 (f 0 / 45), .int .i64 (max 4096 (f 1 + 256 * f 2 + 65536 * f 3 + 16777216 * f 4))], .int .i64 0])
        rw [← HVE.out, ← HXE.out, HM.out]
      · have hv4' : v ≤ 4096 := by omega
        have HM := hid (show max 4096 v = 4096 by omega)
        go_wp2_with (refine wpList_store_row rfl 23 _ _ rfl w.heap.size #[.int .i64 (x % 9), .int .i64 (x / 9 % 5), .int .i64 (x / 45), .int .i64 4096] rfl rfl 23 #[.int .i64 0, .int .i64 0, .int .i64 0, .int .i64 0] (by exact HB2.out) (by kernel_rfl) rfl (by kernel_rfl) ?_)
        refine bodyPost_ret (v := .tuple #[.agg #[.int .i64 (x % 9), .int .i64 (x / 9 % 5), .int .i64 (x / 45), .int .i64 4096], .int .i64 0]) (results_cell_tmp_row' rfl _ _ w.heap.size 23 #[.int .i64 (x % 9), .int .i64 (x / 9 % 5), .int .i64 (x / 45), .int .i64 4096] (0, 0) _ _ rfl rfl (by exact setRow_heap _ _ _ _ _ _ HB2.out) Try.underlying23 rfl (by kernel_rfl)) rfl ?_
        refine ⟨?_, setNew_fr (HF0.out.trans F2.out) (Nat.le_refl _) _⟩
        show _ = Ending.returned (.tuple #[.agg #[.int .i64 (f 0 % 9), .int .i64 (f 0 / 9 % 5), .int .i64 (f 0 / 45), .int .i64 (max 4096 (f 1 + 256 * f 2 + 65536 * f 3 + 16777216 * f 4))], .int .i64 0])
        rw [← HVE.out, ← HXE.out, HM.out]
  · have HE := hid (show R = (⟨0, 0, 0, 0⟩, 11) by rw [HRE.out, if_pos (.inl h5)])
    rw [HE.out]
    have hne : ((n : Int) == 5) = false := by simp; omega
    go_wp2_with fail
    refine bodyPost_ret (v := .tuple #[.agg #[.int .i64 0, .int .i64 0, .int .i64 0, .int .i64 0], .int .i64 11]) (results_cell_tmp_row' rfl _ _ w.heap.size 23 #[.int .i64 0, .int .i64 0, .int .i64 0, .int .i64 0] (0, 0) _ _ rfl rfl (by exact blk_new w _) Try.underlying23 rfl (by kernel_rfl)) rfl ?_
    exact ⟨rfl, (Fr.refl Non w).alloc _⟩
end Go.Proofs.Ytjnegcambbeblaa

/- lzma2: a limited source; the decoder's plain model; where it lies. -/
namespace Go.Proofs.Ytjnegcambbeblaa
open Go.RowKit

/-- so many bytes of a source. -/
def lnx {S : Type} (nx : S → Int × Bool × S) (x : S × Nat) : Int × Bool × (S × Nat) :=
  if x.2 = 0 then (0, false, x) else ((nx x.1).1, (nx x.1).2.1, ((nx x.1).2.2, x.2 - 1))
def LimAt {S : Type} (t : Sour S) (w : World) (g n : Nat) : Prop := w.heap[g]? = some (.cells #[.iface t.ty t.val, .int .i64 n] 186)
structure LimIs {S : Type} (t : Sour S) (g : Nat) (w : World) (x : S × Nat) : Prop where
  at_ : LimAt t w g x.2
  src : t.I w x.1
  apart : ¬ t.foot g
  few : x.2 ≤ 65536
def limFoot {S : Type} (t : Sour S) (g : Nat) : Nat → Prop := fun k => k = g ∨ t.foot k
theorem LimIs.keep {S : Type} {t : Sour S} {g : Nat} {w w' : World} {x : S × Nat} (h : LimIs t g w x) {T : Nat → Prop} (hf : Fr T w w') (ht : ∀ k, limFoot t g k → ¬ T k) : LimIs t g w' x :=
  ⟨hf.blk h.at_ (ht g (.inl rfl)), t.keep _ _ _ _ h.src hf (fun k hk => ht k (.inr hk)), h.apart, h.few⟩
set_option maxRecDepth 100000 in
theorem limNext_any {S : Type} (t : Sour S) (g : Nat) (x : S × Nat) (w : World) (h : LimIs t g w x) :
    Calls Try.prog 158 #[.pointer (some ⟨g, 0, none⟩)] w fun e w' => e = .returned (.tuple #[.int .u8 (lnx t.nx x).1, .bool (lnx t.nx x).2.1]) ∧ Fr (limFoot t g) w w' ∧ LimIs t g w' (lnx t.nx x).2.2 := by
  obtain ⟨s, n⟩ := x
  have c0 := blk_cell h.at_ (j := 0) (v := .iface t.ty t.val) rfl
  have c1 := blk_cell h.at_ (j := 1) (v := .int .i64 n) rfl
  have f1 := blk_frozen h.at_ 1
  have hfew : n ≤ 65536 := h.few
  have hn1 : (n : Int) ≤ 65536 := by omega
  have H := hid h
  clear h hfew
  unfold lnx
  by_cases hn : n = 0
  · subst hn
    rw [if_pos rfl]
    go_enter Try.func158, Try.ntmps158
    go_wp2_with fail
    go_ret2
    exact ⟨rfl, Fr.refl _ _, H.out⟩
  · rw [if_neg hn]
    have hb : ((n : Int) == 0) = false := by simp; omega
    have h1 : (1 : Int) ≤ (n : Int) := by omega
    have HN := hid hn
    clear hn
    have hf0 : Fr (fun k => k = g) w (w.setCell ⟨g, 1, none⟩ (.int .i64 ((n : Int) - 1))) := (Fr.refl _ _).setOne _ _
    have hi0 := t.keep _ _ _ _ H.out.src hf0 (fun k hk e => H.out.apart (by have e : k = g := e; rw [← e]; exact hk))
    have HF0 := hid hf0
    have HI0 := hid hi0
    have HB0 := hid (blk_set (i := 1) (v := .int .i64 ((n : Int) - 1)) H.out.at_)
    clear hf0 hi0
    go_enter Try.func158, Try.ntmps158
    go_wp2_with (refine opInvoke rfl (.tmp 19) _ rfl t.ty t.val rfl t.fid t.val t.meth t.enter (fun K hK => ?_))
    refine (t.call _ _ HI0.out).mono ?_
    rintro e w1 ⟨rfl, hf1, hi1⟩
    have HF1 := hid hf1
    have HI1 := hid hi1
    clear hf1 hi1
    go_wp2_with fail
    go_ret2
    refine ⟨rfl, (HF0.out.mono (fun _ _ e => .inl e)).then HF1.out (fun _ _ e => .inr e), ?_, HI1.out, H.out.apart, by show n - 1 ≤ 65536; omega⟩
    have e := HF1.out.blk HB0.out H.out.apart
    rw [show ((n : Int) - 1) = ((n - 1 : Nat) : Int) by have := HN.out; omega] at e
    exact e
def lim {S : Type} (t : Sour S) (g : Nat) : Sour (S × Nat) where
  ty := 143
  val := .pointer (some ⟨g, 0, none⟩)
  fid := 158
  foot := limFoot t g
  I := LimIs t g
  nx := lnx t.nx
  byte := fun x => by
    unfold lnx
    split
    · show (0 : Int) ≤ 0 ∧ (0 : Int) < 256; omega
    · exact t.byte _
  meth := fun w => by kernel_rfl
  enter := fun w => by kernel_rfl
  call := fun w s h => limNext_any t g s w h
  keep := fun w w' s T h hf ht => h.keep hf ht

/-! ### the decoder, plain -/
structure L2 (S : Type) where
  c : LS
  mode : Option (RD (AhS (S × Nat)))
  s : S
  lc : Nat
  lp : Nat
  pb : Nat
  dict : Nat
  left : Nat
  emptied : Bool
  stated : Bool
  setted : Bool
  ended : Bool
  bad : Bool
def L2.src {S : Type} (z : L2 S) : S := match z.mode with
  | none => z.s
  | some rd => rd.src.s.1
/-- no packed chunk is on. -/
def L2.idle {S : Type} (z : L2 S) : L2 S := { z with mode := none, s := z.src }
def L2.byte {S : Type} (nx : S → Int × Bool × S) (z : L2 S) : Int × L2 S := ((nx z.s).1, { z with s := (nx z.s).2.2, bad := z.bad || !(nx z.s).2.1 })
def L2.pair {S : Type} (nx : S → Int × Bool × S) (z : L2 S) : Nat × L2 S := (((z.byte nx).1 * 256 + ((z.byte nx).2.byte nx).1 + 1).toNat, ((z.byte nx).2.byte nx).2)
def L2.empty {S : Type} (z : L2 S) : L2 S := { z with c := { z.c with H := [], place := 0 }, emptied := true, stated := false, setted := false }
def L2.plain {S : Type} (nx : S → Int × Bool × S) (k : Int) (z : L2 S) : L2 S :=
  let y := if k = 1 then z.empty else z
  { (y.pair nx).2 with left := (y.pair nx).1, bad := (y.pair nx).2.bad || !(y.pair nx).2.emptied }
def bySet (b : Int) : Lset × Int := pParse (fun i => if i = 0 then b else 0) 5
def L2.setting {S : Type} (nx : S → Int × Bool × S) (z : L2 S) : L2 S :=
  if (bySet (z.byte nx).1).2 ≠ 0 ∨ 4 < (bySet (z.byte nx).1).1.lc + (bySet (z.byte nx).1).1.lp then { (z.byte nx).2 with bad := true }
  else { (z.byte nx).2 with lc := (bySet (z.byte nx).1).1.lc.toNat, lp := (bySet (z.byte nx).1).1.lp.toNat, pb := (bySet (z.byte nx).1).1.pb.toNat, setted := true }
def L2.st0 {S : Type} (how : Int) (z : L2 S) : L2 S := if how = 3 then z.empty else z
def L2.st2 {S : Type} (nx : S → Int × Bool × S) (how : Int) (z : L2 S) : L2 S := if 2 ≤ how then z.setting nx else z
def L2.st3 {S : Type} (how : Int) (z : L2 S) : L2 S := if 1 ≤ how then { z with stated := true } else z
def L2.judge {S : Type} (z : L2 S) : L2 S := { z with bad := z.bad || (!z.emptied || (!z.setted || !z.stated)) }
/-- a packed chunk is on. -/
def L2.pack1 {S : Type} (nx : S → Int × Bool × S) (how : Int) (z : L2 S) (left packed : Nat) : L2 S :=
  { z with c := if 1 ≤ how then z.c.reset z.lc z.lp z.pb else z.c, left := left, mode := some (RD.new (anx (lnx nx)) ⟨(z.s, packed), 0, false⟩) }
def L2.packEnd {S : Type} (nx : S → Int × Bool × S) (how : Int) (z : L2 S) (left packed : Nat) : L2 S := if z.bad = true then z else z.pack1 nx how left packed
/-- a packed chunk's beginning. -/
def L2.pack {S : Type} (nx : S → Int × Bool × S) (k : Int) (z : L2 S) : L2 S :=
  L2.packEnd nx (k / 32 - 4) (L2.judge (L2.st3 (k / 32 - 4) (L2.st2 nx (k / 32 - 4) ((((z.st0 (k / 32 - 4)).pair nx).2.pair nx).2)))) ((k % 32) * 65536 + (((z.st0 (k / 32 - 4)).pair nx).1 : Int)).toNat ((((z.st0 (k / 32 - 4)).pair nx).2.pair nx).1)
/-- a chunk's beginning by its first byte, or the end. -/
def L2.chunk1 {S : Type} (nx : S → Int × Bool × S) (k : Int) (z : L2 S) : L2 S :=
  if z.bad = true then z
  else if k = 0 then { z with ended := true }
  else if k ≤ 2 then z.plain nx k
  else if 128 ≤ k then z.pack nx k
  else { z with bad := true }
def L2.chunk {S : Type} (nx : S → Int × Bool × S) (z : L2 S) : L2 S := ((z.idle.byte nx).2).chunk1 nx (z.idle.byte nx).1
def L2.closed {S : Type} (z : L2 S) : Bool := match z.mode with
  | none => true
  | some rd => lwhole z.c rd && decide (rd.src.s.2 = 0)
def L2.spoil {S : Type} (z : L2 S) : L2 S := { z with bad := true }
def L2.open_ {S : Type} (nx : S → Int × Bool × S) (z : L2 S) : Bool × L2 S :=
  if z.bad = true ∨ z.ended = true then (false, z)
  else if z.left = 0 then
    if z.closed = true then (!(z.chunk nx).bad && !(z.chunk nx).ended, z.chunk nx) else (false, z.spoil)
  else (true, z)
/-- a byte of the chunk that is on. -/
def L2.take {S : Type} (nx : S → Int × Bool × S) (L : LL) (z : L2 S) : (Int × Bool) × L2 S := match z.mode with
  | none => if (z.byte nx).2.bad = true then ((0, false), (z.byte nx).2) else (((z.byte nx).1, true), { (z.byte nx).2 with c := lputS z.c (z.byte nx).1 })
  | some rd => ((lnext (anx (lnx nx)) L z.c rd).1, { z with c := (lnext (anx (lnx nx)) L z.c rd).2.1, mode := some (lnext (anx (lnx nx)) L z.c rd).2.2, bad := !(lnext (anx (lnx nx)) L z.c rd).1.2 })
def L2.next {S : Type} (nx : S → Int × Bool × S) (L : LL) (z : L2 S) : (Int × Bool) × L2 S :=
  if (z.open_ nx).1 = true then ({ (z.open_ nx).2 with left := (z.open_ nx).2.left - 1 } : L2 S).take nx L else ((0, false), (z.open_ nx).2)
/-- whether the stream ends; the decoder behind it. -/
def L2.finish {S : Type} (nx : S → Int × Bool × S) (z : L2 S) : Bool :=
  if z.left = 0 then
    !(z.open_ nx).1 && ((z.open_ nx).2.ended && (!(z.open_ nx).2.bad && !(nx (z.open_ nx).2.src).2.1))
  else false
end Go.Proofs.Ytjnegcambbeblaa

/- lzma2: where a decoder lies; byte, pair, empty. -/
namespace Go.Proofs.Ytjnegcambbeblaa
open Go.RowKit

def L2.cells {S : Type} (z : L2 S) (L : LL) (sv pv : Value) : Array Value :=
  #[.pointer (some ⟨L.gd, 0, none⟩), .int .i64 z.lc, .int .i64 z.lp, .int .i64 z.pb, .int .i64 z.dict, sv, pv, .int .i64 z.left, .bool z.emptied, .bool z.stated, .bool z.setted, .bool z.ended, .bool z.bad]
structure L2.Ok {S : Type} (L : LL) (z : L2 S) : Prop where
  lclp : z.lc + z.lp ≤ 4
  pb : z.pb ≤ 4
  nl : L.nl = 12288
  left : z.left ≤ 2097152
theorem L2.Ok.set {S : Type} {L : LL} {z : L2 S} (h : z.Ok L) : SetOk L z.lc z.lp z.pb := by
  refine ⟨by have := h.lclp; omega, by have := h.lclp; omega, h.pb, ?_⟩
  rw [h.nl]
  have : 2 ^ (z.lc + z.lp) ≤ 2 ^ 4 := Nat.pow_le_pow_right (by decide) h.lclp
  omega
def L2.foot {S : Type} (L : LL) (t : Sour S) (g : Nat) : Nat → Prop := fun k => k = g ∨ L.foot k ∨ t.foot k
/-- a decoder that reads, or is idle. -/
structure L2At {S : Type} (L : LL) (t : Sour S) (g : Nat) (pv sp rp : Value) (w : World) (z : L2 S) : Prop where
  at_ : w.heap[g]? = some (.cells (z.cells L (.iface t.ty t.val) pv) 145)
  core : LIs L sp rp w z.c
  src : t.I w z.s
  ng : ¬ L.foot g
  nt : ¬ t.foot g
  ap : ∀ k, L.foot k → ¬ t.foot k
  ok : z.Ok L
theorem L2At.keep {S : Type} {L : LL} {t : Sour S} {g : Nat} {pv sp rp : Value} {w w' : World} {z : L2 S} (h : L2At L t g pv sp rp w z) {T : Nat → Prop} (hf : Fr T w w') (ht : ∀ k, L2.foot L t g k → ¬ T k) : L2At L t g pv sp rp w' z :=
  ⟨hf.blk h.at_ (ht g (.inl rfl)), h.core.keep hf (fun k hk => ht k (.inr (.inl hk))), t.keep _ _ _ _ h.src hf (fun k hk => ht k (.inr (.inr hk))), h.ng, h.nt, h.ap, h.ok⟩
theorem L2At.cell {S : Type} {L : LL} {t : Sour S} {g : Nat} {pv sp rp : Value} {w : World} {z : L2 S} (h : L2At L t g pv sp rp w z) (i : Nat) {v : Value} (hv : (z.cells L (.iface t.ty t.val) pv)[i]? = some v) : w.cell? ⟨g, i, none⟩ = some v := blk_cell h.at_ hv
theorem L2At.set {S : Type} {L : LL} {t : Sour S} {g : Nat} {pv pv' sp rp : Value} {w : World} {z z' : L2 S} (h : L2At L t g pv sp rp w z) {i : Nat} {v : Value} (hc : (z.cells L (.iface t.ty t.val) pv).setIfInBounds i v = z'.cells L (.iface t.ty t.val) pv') (h1 : z'.c = z.c) (h2 : z'.s = z.s) (hok : z'.Ok L) : L2At L t g pv' sp rp (w.setCell ⟨g, i, none⟩ v) z' := by
  have hf : Fr (fun k => k = g) w (w.setCell ⟨g, i, none⟩ v) := (Fr.refl _ _).setOne _ _
  refine ⟨?_, by rw [h1]; exact h.core.keep hf (fun k hk e => h.ng (by have e' : k = g := e; rw [← e']; exact hk)), by rw [h2]; exact t.keep _ _ _ _ h.src hf (fun k hk e => h.nt (by have e' : k = g := e; rw [← e']; exact hk)), h.ng, h.nt, h.ap, hok⟩
  have e := blk_set (i := i) (v := v) h.at_
  rw [hc] at e
  exact e
/-- the source has gone on. -/
theorem L2At.srcTo {S : Type} {L : LL} {t : Sour S} {g : Nat} {pv sp rp : Value} {w w' : World} {z : L2 S} (h : L2At L t g pv sp rp w z) (hf : Fr t.foot w w') {s' : S} (hs : t.I w' s') : L2At L t g pv sp rp w' { z with s := s' } :=
  ⟨hf.blk h.at_ h.nt, h.core.keep hf h.ap, hs, h.ng, h.nt, h.ap, ⟨h.ok.lclp, h.ok.pb, h.ok.nl, h.ok.left⟩⟩
/-- the core has gone on. -/
theorem L2At.coreTo {S : Type} {L : LL} {t : Sour S} {g : Nat} {pv sp rp : Value} {w w' : World} {z : L2 S} (h : L2At L t g pv sp rp w z) (hf : Fr L.foot w w') {c' : LS} (hs : LIs L sp rp w' c') : L2At L t g pv sp rp w' { z with c := c' } :=
  ⟨hf.blk h.at_ h.ng, hs, t.keep _ _ _ _ h.src hf (fun k hk e => h.ap k e hk), h.ng, h.nt, h.ap, ⟨h.ok.lclp, h.ok.pb, h.ok.nl, h.ok.left⟩⟩
def L2Post {S : Type} (L : LL) (t : Sour S) (g : Nat) (pv sp rp v : Value) (z : L2 S) (w : World) (e : Ending) (w' : World) : Prop := e = .returned v ∧ Fr (L2.foot L t g) w w' ∧ L2At L t g pv sp rp w' z
theorem L2.byte_by {S : Type} (t : Sour S) (z : L2 S) : 0 ≤ (z.byte t.nx).1 ∧ (z.byte t.nx).1 < 256 := t.byte z.s
set_option maxRecDepth 100000 in
theorem l2byte_any {S : Type} (L : LL) (t : Sour S) (g : Nat) (pv sp rp : Value) (z : L2 S) (w : World) (h : L2At L t g pv sp rp w z) :
    Calls Try.prog 73 #[.pointer (some ⟨g, 0, none⟩)] w (L2Post L t g pv sp rp (.int .i64 (z.byte t.nx).1) (z.byte t.nx).2 w) := by
  have c5 := h.cell 5 (v := .iface t.ty t.val) rfl
  obtain ⟨x, hx⟩ : ∃ x, x = (t.nx z.s).1 := ⟨_, rfl⟩
  obtain ⟨ok, hok⟩ : ∃ ok, ok = (t.nx z.s).2.1 := ⟨_, rfl⟩
  obtain ⟨b, hb⟩ : ∃ b, b = z.bad := ⟨_, rfl⟩
  have hxb := t.byte z.s
  rw [← hx] at hxb
  have hcall := t.call w z.s h.src
  rw [← hx, ← hok] at hcall
  have HC := hid hcall
  have HX := hid hx
  have HOK := hid hok
  have HB := hid hb
  have H := hid h
  obtain ⟨hx0, hx1⟩ := hxb
  have hw : IntKind.i64.wrap x = x := by rw [IntKind.wrap_i64]; omega
  clear h hcall hx hok hb
  go_enter Try.func73, Try.ntmps73
  go_wp2_with (refine opInvoke rfl (.tmp 9) _ rfl t.ty t.val rfl t.fid t.val t.meth t.enter (fun K hK => ?_))
  refine HC.out.mono ?_
  rintro e w1 ⟨rfl, hf1, hi1⟩
  have h1 := H.out.srcTo hf1 hi1
  have c12 := h1.cell 12 (v := .bool z.bad) rfl
  rw [← HB.out] at c12
  have z12 := blk_frozen h1.at_ 12
  have HF1 := hid (hf1.mono (fun _ _ e => .inr (.inr e)) : Fr (L2.foot L t g) w w1)
  have H1 := hid h1
  clear hf1 hi1 h1 c5
  have hfin : ∀ q, q = (b || !ok) → L2Post L t g pv sp rp (.int .i64 (z.byte t.nx).1) (z.byte t.nx).2 w (.returned (.int .i64 x)) (w1.setCell ⟨g, 12, none⟩ (.bool q)) := by
    intro q hq
    refine ⟨by rw [HX.out]; rfl, HF1.out.setCell (p := ⟨g, 12, none⟩) (fun _ => .inl rfl) _, ?_⟩
    refine H1.out.set (z' := (z.byte t.nx).2) ?_ rfl rfl ⟨H.out.ok.lclp, H.out.ok.pb, H.out.ok.nl, H.out.ok.left⟩
    rw [hq, HB.out, HOK.out]
    rfl
  have HFIN := hid hfin
  clear hfin
  cases b with
  | true =>
    go_wp2_with fail
    go_ret
    exact HFIN.out true rfl
  | false =>
    go_wp2_with fail
    go_ret
    exact HFIN.out (!ok) rfl
theorem L2.byte_ok {S : Type} (nx : S → Int × Bool × S) {L : LL} {z : L2 S} (h : z.Ok L) : (z.byte nx).2.Ok L := ⟨h.lclp, h.pb, h.nl, h.left⟩
theorem L2.pair_ok {S : Type} (nx : S → Int × Bool × S) {L : LL} {z : L2 S} (h : z.Ok L) : (z.pair nx).2.Ok L := ⟨h.lclp, h.pb, h.nl, h.left⟩
theorem L2.pair_by {S : Type} (t : Sour S) (z : L2 S) : 1 ≤ (z.pair t.nx).1 ∧ (z.pair t.nx).1 ≤ 65536 := by
  have h1 := L2.byte_by t z
  have h2 := L2.byte_by t (z.byte t.nx).2
  show 1 ≤ ((z.byte t.nx).1 * 256 + ((z.byte t.nx).2.byte t.nx).1 + 1).toNat ∧ _ ≤ 65536
  unfold L2.pair
  dsimp only
  omega
set_option maxRecDepth 100000 in
theorem l2pair_any {S : Type} (L : LL) (t : Sour S) (g : Nat) (pv sp rp : Value) (z : L2 S) (w : World) (h : L2At L t g pv sp rp w z) :
    Calls Try.prog 131 #[.pointer (some ⟨g, 0, none⟩)] w (L2Post L t g pv sp rp (.int .i64 ((z.pair t.nx).1 : Nat)) (z.pair t.nx).2 w) := by
  have H := hid h
  have hb1 := L2.byte_by t z
  have hb2 := L2.byte_by t (z.byte t.nx).2
  obtain ⟨R, hR⟩ : ∃ R, R = z.pair t.nx := ⟨_, rfl⟩
  rw [← hR]
  unfold L2.pair at hR
  have C1 := hid (l2byte_any L t g pv sp rp z w h)
  have C2 := hid (fun w1 (h1 : L2At L t g pv sp rp w1 (z.byte t.nx).2) => l2byte_any L t g pv sp rp (z.byte t.nx).2 w1 h1)
  generalize z.byte t.nx = a at C1 C2 hb1 hb2 hR
  obtain ⟨x, z1⟩ := a
  dsimp only at C1 C2 hb1 hb2 hR
  generalize z1.byte t.nx = a at C2 hb2 hR
  obtain ⟨y, z2⟩ := a
  dsimp only at C2 hb2 hR
  obtain ⟨x0, x1⟩ := hb1
  obtain ⟨y0, y1⟩ := hb2
  have HR := hid hR
  clear h hR
  have hw1 : IntKind.i64.wrap (x * 256) = x * 256 := by rw [IntKind.wrap_i64]; omega
  have hw2 : IntKind.i64.wrap (x * 256 + y) = x * 256 + y := by rw [IntKind.wrap_i64]; omega
  have hw3 : IntKind.i64.wrap (x * 256 + y + 1) = x * 256 + y + 1 := by rw [IntKind.wrap_i64]; omega
  go_enter Try.func131, Try.ntmps131
  go_wp2_with fail
  refine C1.out.mono ?_
  rintro e w1 ⟨rfl, hf1, h1⟩
  have HF1 := hid hf1
  have H1 := hid h1
  clear hf1 h1
  go_wp2_with fail
  refine (C2.out _ H1.out).mono ?_
  rintro e w2 ⟨rfl, hf2, h2⟩
  have HF2 := hid (HF1.out.trans hf2)
  have H2 := hid h2
  clear hf2 h2
  go_wp2_with fail
  go_ret
  rw [HR.out]
  refine ⟨?_, HF2.out, H2.out⟩
  rw [show (((x * 256 + y + 1).toNat : Nat) : Int) = x * 256 + y + 1 by omega]
  rfl
set_option maxRecDepth 100000 in
theorem l2empty_any {S : Type} (L : LL) (t : Sour S) (g : Nat) (pv sp rp : Value) (z : L2 S) (w : World) (h : L2At L t g pv sp rp w z) :
    Calls Try.prog 130 #[.pointer (some ⟨g, 0, none⟩)] w (L2Post L t g pv sp rp (.tuple #[]) z.empty w) := by
  have c0 := h.cell 0 (v := .pointer (some ⟨L.gd, 0, none⟩)) rfl
  have H := hid h
  clear h
  go_enter Try.func130, Try.ntmps130
  go_wp2_with fail
  refine (lempty_any L sp rp z.c w H.out.core).mono ?_
  rintro e w1 ⟨rfl, hf1, hc1⟩
  have h1 := H.out.coreTo hf1 hc1
  have c8 := h1.cell 8 (v := .bool z.emptied) rfl
  have c9 := h1.cell 9 (v := .bool z.stated) rfl
  have c10 := h1.cell 10 (v := .bool z.setted) rfl
  have z8 := blk_frozen h1.at_ 8
  have z9 := blk_frozen h1.at_ 9
  have z10 := blk_frozen h1.at_ 10
  have HF1 := hid (hf1.mono (fun _ _ e => .inr (.inl e)) : Fr (L2.foot L t g) w w1)
  have H1 := hid h1
  clear hf1 hc1 h1 c0
  go_wp2_with fail
  go_end0
  have g1 := H1.out.set (z' := { z with c := { z.c with H := [], place := 0 }, emptied := true }) (i := 8) (v := .bool true) rfl rfl rfl ⟨H.out.ok.lclp, H.out.ok.pb, H.out.ok.nl, H.out.ok.left⟩
  have g2 := g1.set (z' := { z with c := { z.c with H := [], place := 0 }, emptied := true, stated := false }) (i := 9) (v := .bool false) rfl rfl rfl ⟨H.out.ok.lclp, H.out.ok.pb, H.out.ok.nl, H.out.ok.left⟩
  have g3 := g2.set (z' := z.empty) (i := 10) (v := .bool false) rfl rfl rfl ⟨H.out.ok.lclp, H.out.ok.pb, H.out.ok.nl, H.out.ok.left⟩
  exact ⟨rfl, ((HF1.out.setCell (p := ⟨g, 8, none⟩) (fun _ => .inl rfl) _).setCell (p := ⟨g, 9, none⟩) (fun _ => .inl rfl) _).setCell (p := ⟨g, 10, none⟩) (fun _ => .inl rfl) _, g3⟩
end Go.Proofs.Ytjnegcambbeblaa

/- lzma2: plain, setting. -/
namespace Go.Proofs.Ytjnegcambbeblaa
open Go.RowKit

theorem L2.plain_ok {S : Type} (t : Sour S) {L : LL} {k : Int} {z : L2 S} (h : z.Ok L) : (z.plain t.nx k).Ok L := by
  have hb := L2.pair_by t (if k = 1 then z.empty else z)
  unfold L2.plain
  dsimp only
  have h2 : (if k = 1 then z.empty else z).Ok L := by
    split
    · exact ⟨h.lclp, h.pb, h.nl, h.left⟩
    · exact h
  exact ⟨h2.lclp, h2.pb, h2.nl, by show (L2.pair t.nx _).1 ≤ 2097152; omega⟩
set_option maxRecDepth 100000 in
set_option maxHeartbeats 800000 in
theorem l2plain_any {S : Type} (L : LL) (t : Sour S) (g : Nat) (pv sp rp : Value) (k : Int) (z : L2 S) (w : World) (h : L2At L t g pv sp rp w z) :
    Calls Try.prog 121 #[.pointer (some ⟨g, 0, none⟩), .int .i64 k] w (L2Post L t g (.pointer none) sp rp (.tuple #[]) (z.plain t.nx k) w) := by
  have HOKK := hid (L2.plain_ok t (k := k) h.ok)
  obtain ⟨R, hR⟩ : ∃ R, R = z.plain t.nx k := ⟨_, rfl⟩
  rw [← hR] at HOKK ⊢
  unfold L2.plain at hR
  obtain ⟨y, hy⟩ : ∃ y, y = if k = 1 then z.empty else z := ⟨_, rfl⟩
  rw [← hy] at hR
  dsimp only at hR
  have H := hid h
  have HY := hid hy
  have HR := hid hR
  clear h hy hR
  go_enter Try.func121, Try.ntmps121
  go_upto_if 5 with fail
  go_cut [] (fun wx => Fr (L2.foot L t g) w wx ∧ L2At L t g pv sp rp wx y)
  case first =>
    by_cases hk : k = 1
    · subst hk
      have HE := hid (show y = z.empty by rw [HY.out, if_pos rfl])
      go_wp2_with fail
      refine (l2empty_any L t g pv sp rp z w H.out).mono ?_
      rintro e w1 ⟨rfl, hf1, h1⟩
      have HF1 := hid hf1
      have H1 := hid h1
      clear hf1 h1
      go_wp2_with fail
      go_meet
      rw [HE.out]
      exact ⟨HF1.out, H1.out⟩
    · have HE := hid (show y = z by rw [HY.out, if_neg hk])
      have hkb : (k == 1) = false := by simpa using hk
      go_wp2_with fail
      go_meet
      rw [HE.out]
      exact ⟨Fr.refl _ _, H.out⟩
  case rest =>
    obtain ⟨hf1, h1⟩ := hcut
    obtain ⟨w1, hw1⟩ : ∃ w1, w1 = wc := ⟨_, rfl⟩
    rw [← hw1] at hf1 h1 ⊢
    have C1 := hid (l2pair_any L t g pv sp rp y w1 h1)
    have hpb := L2.pair_by t y
    generalize y.pair t.nx = a at C1 hpb HR
    obtain ⟨q, y2⟩ := a
    dsimp only at C1 hpb HR
    have HF1 := hid hf1
    clear hw1 hf1 h1
    go_wp2_with fail
    refine C1.out.mono ?_
    rintro e w2 ⟨rfl, hf2, h2⟩
    have c7 := h2.cell 7 (v := .int .i64 y2.left) rfl
    have c6 := h2.cell 6 (v := pv) rfl
    have c8 := h2.cell 8 (v := .bool y2.emptied) rfl
    have c12 := h2.cell 12 (v := .bool y2.bad) rfl
    have z7 := blk_frozen h2.at_ 7
    have z6 := blk_frozen h2.at_ 6
    have z12 := blk_frozen h2.at_ 12
    obtain ⟨b, hb⟩ : ∃ b, b = y2.bad := ⟨_, rfl⟩
    obtain ⟨em, hem⟩ : ∃ em, em = y2.emptied := ⟨_, rfl⟩
    rw [← hb] at c12
    rw [← hem] at c8
    have HF2 := hid (HF1.out.trans hf2)
    have H2 := hid h2
    have HB := hid hb
    have HEM := hid hem
    have hfin : ∀ v, v = (b || !em) → L2Post L t g (.pointer none) sp rp (.tuple #[]) R w (.returned (.tuple #[])) (((w2.setCell ⟨g, 7, none⟩ (.int .i64 q)).setCell ⟨g, 6, none⟩ (.pointer none)).setCell ⟨g, 12, none⟩ (.bool v)) := by
      intro v hv
      have ho := H2.out.ok
      have hl : q ≤ 2097152 := by have := hpb; omega
      have g1 := H2.out.set (z' := { y2 with left := q }) (i := 7) (v := .int .i64 q) rfl rfl rfl ⟨ho.lclp, ho.pb, ho.nl, hl⟩
      have g2 := g1.set (z' := { y2 with left := q }) (pv' := .pointer none) (i := 6) (v := .pointer none) rfl rfl rfl ⟨ho.lclp, ho.pb, ho.nl, hl⟩
      have g3 := g2.set (z' := { y2 with left := q, bad := v }) (i := 12) (v := .bool v) rfl rfl rfl ⟨ho.lclp, ho.pb, ho.nl, hl⟩
      refine ⟨rfl, ((HF2.out.setCell (p := ⟨g, 7, none⟩) (fun _ => .inl rfl) _).setCell (p := ⟨g, 6, none⟩) (fun _ => .inl rfl) _).setCell (p := ⟨g, 12, none⟩) (fun _ => .inl rfl) _, ?_⟩
      rw [HR.out, show (y2.bad || !y2.emptied) = v by rw [hv, HB.out, HEM.out]]
      exact g3
    have HFIN := hid hfin
    clear hf2 h2 hb hem hfin
    cases b with
    | true =>
      go_wp2_with fail
      go_end0
      exact HFIN.out true rfl
    | false =>
      cases em with
      | true =>
        go_wp2_with fail
        go_end0
        exact HFIN.out false rfl
      | false =>
        go_wp2_with fail
        go_end0
        exact HFIN.out true rfl
theorem bySet_lt {b : Int} (h0 : 0 ≤ b) (h1 : b < 256) (h : (bySet b).2 = 0) : 0 ≤ (bySet b).1.lc ∧ (bySet b).1.lc ≤ 8 ∧ 0 ≤ (bySet b).1.lp ∧ (bySet b).1.lp ≤ 4 ∧ 0 ≤ (bySet b).1.pb ∧ (bySet b).1.pb ≤ 4 := by
  unfold bySet pParse at h ⊢
  by_cases hc : (5 : Nat) ≠ 5 ∨ 225 ≤ (if (0 : Nat) = 0 then b else 0)
  · rw [if_pos hc] at h; cases h
  · rw [if_neg hc]
    have hb : ¬ 225 ≤ b := fun e => hc (.inr e)
    show 0 ≤ b % 9 ∧ b % 9 ≤ 8 ∧ 0 ≤ b / 9 % 5 ∧ b / 9 % 5 ≤ 4 ∧ 0 ≤ b / 45 ∧ b / 45 ≤ 4
    omega
/-- the same, but whether the numbers may be. -/
structure L2Raw {S : Type} (L : LL) (t : Sour S) (g : Nat) (pv sp rp : Value) (w : World) (z : L2 S) : Prop where
  at_ : w.heap[g]? = some (.cells (z.cells L (.iface t.ty t.val) pv) 145)
  core : LIs L sp rp w z.c
  src : t.I w z.s
  ng : ¬ L.foot g
  nt : ¬ t.foot g
  ap : ∀ k, L.foot k → ¬ t.foot k
theorem L2At.raw {S : Type} {L : LL} {t : Sour S} {g : Nat} {pv sp rp : Value} {w : World} {z : L2 S} (h : L2At L t g pv sp rp w z) : L2Raw L t g pv sp rp w z := ⟨h.at_, h.core, h.src, h.ng, h.nt, h.ap⟩
theorem L2Raw.ok {S : Type} {L : LL} {t : Sour S} {g : Nat} {pv sp rp : Value} {w : World} {z : L2 S} (h : L2Raw L t g pv sp rp w z) (ho : z.Ok L) : L2At L t g pv sp rp w z := ⟨h.at_, h.core, h.src, h.ng, h.nt, h.ap, ho⟩
theorem L2Raw.keep {S : Type} {L : LL} {t : Sour S} {g : Nat} {pv sp rp : Value} {w w' : World} {z : L2 S} (h : L2Raw L t g pv sp rp w z) (hf : Fr Non w w') : L2Raw L t g pv sp rp w' z :=
  ⟨hf.blk h.at_ id, h.core.keep hf (fun _ _ => id), t.keep _ _ _ _ h.src hf (fun _ _ => id), h.ng, h.nt, h.ap⟩
theorem L2Raw.set {S : Type} {L : LL} {t : Sour S} {g : Nat} {pv pv' sp rp : Value} {w : World} {z z' : L2 S} (h : L2Raw L t g pv sp rp w z) {i : Nat} {v : Value} (hc : (z.cells L (.iface t.ty t.val) pv).setIfInBounds i v = z'.cells L (.iface t.ty t.val) pv') (h1 : z'.c = z.c) (h2 : z'.s = z.s) : L2Raw L t g pv' sp rp (w.setCell ⟨g, i, none⟩ v) z' := by
  have hf : Fr (fun k => k = g) w (w.setCell ⟨g, i, none⟩ v) := (Fr.refl _ _).setOne _ _
  refine ⟨?_, by rw [h1]; exact h.core.keep hf (fun k hk e => h.ng (by have e' : k = g := e; rw [← e']; exact hk)), by rw [h2]; exact t.keep _ _ _ _ h.src hf (fun k hk e => h.nt (by have e' : k = g := e; rw [← e']; exact hk)), h.ng, h.nt, h.ap⟩
  have e := blk_set (i := i) (v := v) h.at_
  rw [hc] at e
  exact e
set_option maxRecDepth 100000 in
set_option maxHeartbeats 800000 in
theorem l2setting_any {S : Type} (L : LL) (t : Sour S) (g : Nat) (pv sp rp : Value) (z : L2 S) (w : World) (h : L2At L t g pv sp rp w z) :
    Calls Try.prog 132 #[.pointer (some ⟨g, 0, none⟩)] w (L2Post L t g pv sp rp (.tuple #[]) (z.setting t.nx) w) := by
  obtain ⟨R, hR⟩ : ∃ R, R = z.setting t.nx := ⟨_, rfl⟩
  rw [← hR]
  unfold L2.setting at hR
  have hb := L2.byte_by t z
  have C1 := hid (l2byte_any L t g pv sp rp z w h)
  generalize z.byte t.nx = a at C1 hb hR
  obtain ⟨x, y⟩ := a
  dsimp only at C1 hb hR
  obtain ⟨x0, x1⟩ := hb
  have HR := hid hR
  have HW0 := hid (blk_lt h.at_)
  have hw8 : IntKind.u8.wrap x = x := by rw [IntKind.wrap_u8]; omega
  clear h hR
  go_enter Try.func132, Try.ntmps132
  go_wp2_with fail
  refine C1.out.mono ?_
  rintro e w1 ⟨rfl, hf1, h1⟩
  have HF1 := hid hf1
  have H1 := hid h1
  clear hf1 h1
  go_wp2_with fail
  refine (parse_any (some ⟨w1.heap.size, 0, none⟩) 5 5 (fun i => if i = 0 then x else 0) _ (by decide) (Nat.le_refl _) (fun e => by cases e) (.inr ⟨w1.heap.size, 0, rfl, by simp, fun i hi => blk_cell (blk_new _ _) (by
      rw [Nat.zero_add]
      match i, hi with
      | 0, _ => rfl
      | 1, _ => rfl
      | 2, _ => rfl
      | 3, _ => rfl
      | 4, _ => rfl)⟩) (fun i hi => by
      split
      · exact ⟨x0, x1⟩
      · exact ⟨by decide, by decide⟩)).mono ?_
  rintro e w2 ⟨rfl, hf2⟩
  rw [show pParse (fun i => if i = 0 then x else 0) 5 = bySet x from rfl]
  have HLT := hid (fun h => bySet_lt x0 x1 h)
  obtain ⟨q, hq⟩ : ∃ q, q = bySet x := ⟨_, rfl⟩
  have hR := HR.out
  rw [← hq] at hR HLT ⊢
  obtain ⟨⟨p0, p1, p2, p3⟩, ec⟩ := q
  dsimp only at hR HLT ⊢
  have HR2 := hid hR
  have F2 := hid (show Fr Non w1 w2 from ((Fr.refl Non w1).alloc _).trans hf2)
  have H2 := hid (H1.out.keep F2.out (fun _ _ => id))
  clear hf2 hq hR
  rw [show (Lset.val ⟨p0, p1, p2, p3⟩) = .agg #[.int .i64 p0, .int .i64 p1, .int .i64 p2, .int .i64 p3] from rfl]
  go_upto_region 2 with fail
  obtain ⟨gp, hgp⟩ : ∃ g, g = w2.heap.size := ⟨_, rfl⟩
  obtain ⟨w3, hw3⟩ : ∃ W, W = w2.alloc (.cells #[.int .i64 p0, .int .i64 p1, .int .i64 p2, .int .i64 p3] 23) := ⟨_, rfl⟩
  have hbp : w3.heap[gp]? = some (.cells #[.int .i64 p0, .int .i64 p1, .int .i64 p2, .int .i64 p3] 23) := by rw [hw3, hgp]; exact blk_new _ _
  have hf23 : Fr Non w2 w3 := by rw [hw3]; exact (Fr.refl Non _).alloc _
  have H3 := hid (H2.out.keep hf23 (fun _ _ => id))
  have F3 := hid (HF1.out.trans (F2.out.trans hf23).any)
  have q0 := blk_cell hbp (j := 0) (v := .int .i64 p0) rfl
  have q1 := blk_cell hbp (j := 1) (v := .int .i64 p1) rfl
  have q2 := blk_cell hbp (j := 2) (v := .int .i64 p2) rfl
  have hgn := hid (show gp ≠ g from fun e => by have h1 := blk_lt H2.out.at_; rw [← e, hgp] at h1; omega)
  have c12 := H3.out.cell 12 (v := .bool y.bad) rfl
  have z12 := blk_frozen H3.out.at_ 12
  have c10 := H3.out.cell 10 (v := .bool y.setted) rfl
  have z10 := blk_frozen H3.out.at_ 10
  rw [← hw3, ← hgp]
  have HBP := hid hbp
  clear hw3 hgp hbp hf23
  have hbadfin : R = { y with bad := true } → L2Post L t g pv sp rp (.tuple #[]) R w (.returned (.tuple #[])) (w3.setCell ⟨g, 12, none⟩ (.bool true)) := by
    intro e
    rw [e]
    exact ⟨rfl, F3.out.setCell (p := ⟨g, 12, none⟩) (fun _ => .inl rfl) _, H3.out.set (z' := { y with bad := true }) rfl rfl rfl ⟨H3.out.ok.lclp, H3.out.ok.pb, H3.out.ok.nl, H3.out.ok.left⟩⟩
  have HBF := hid hbadfin
  clear hbadfin
  by_cases hec : ec = 0
  · obtain ⟨l0, l1, l2, l3, l4, l5⟩ := HLT.out hec
    subst hec
    have hw : IntKind.i64.wrap (p0 + p1) = p0 + p1 := by rw [IntKind.wrap_i64]; omega
    by_cases h4 : 4 < p0 + p1
    · have hd : decide (4 < p0 + p1) = true := decide_eq_true h4
      have HR3 := hid (show R = { y with bad := true } by rw [HR2.out, if_pos (.inr h4)])
      go_wp2_with fail
      go_end0
      exact HBF.out HR3.out
    · have hd : decide (4 < p0 + p1) = false := decide_eq_false h4
      have HR3 := hid (show R = { y with lc := p0.toNat, lp := p1.toNat, pb := p2.toNat, setted := true } by rw [HR2.out, if_neg (fun e => e.elim (fun e => e rfl) h4)])
      obtain ⟨a0, rfl⟩ := Int.eq_ofNat_of_zero_le l0
      obtain ⟨a1, rfl⟩ := Int.eq_ofNat_of_zero_le l2
      obtain ⟨a2, rfl⟩ := Int.eq_ofNat_of_zero_le l4
      rw [show ((a0 : Int)).toNat = a0 from rfl, show ((a1 : Int)).toNat = a1 from rfl, show ((a2 : Int)).toNat = a2 from rfl] at HR3
      have hq : a0 + a1 ≤ 4 ∧ a2 ≤ 4 := by omega
      have HQ := hid hq
      have c1 := H3.out.cell 1 (v := .int .i64 y.lc) rfl
      have c2 := H3.out.cell 2 (v := .int .i64 y.lp) rfl
      have c3 := H3.out.cell 3 (v := .int .i64 y.pb) rfl
      have z1 := blk_frozen H3.out.at_ 1
      have z2 := blk_frozen H3.out.at_ 2
      have z3 := blk_frozen H3.out.at_ 3
      have hgg : ¬ gp = g := hgn.out
      have hgg' : ¬ g = gp := fun e => hgg e.symm
      clear hq l0 l1 l2 l3 l4 l5 h4
      go_upto_region 4 with fail
      go_cut [] (fun wx => Fr (fun k => k = g) w3 wx ∧ L2Raw L t g pv sp rp wx { y with lc := a0, lp := a1, pb := a2 })
      case first =>
        go_region_held3 (fun wx => wx.cell? ⟨gp, 0, none⟩ = some (.int .i64 a0) ∧ wx.cell? ⟨gp, 1, none⟩ = some (.int .i64 a1) ∧ wx.cell? ⟨gp, 2, none⟩ = some (.int .i64 a2)) (go_keep) (fail)
        all_goals
          go_wp2_with fail
          go_meet
          exact ⟨(((Fr.refl (fun k => k = g) w3).setOne _ _).setOne _ _).setOne _ _ |>.drew, (((H3.out.raw.set (z' := { y with lc := a0 }) (i := 1) (v := .int .i64 ((a0 : Nat) : Int)) rfl rfl rfl).set (z' := { y with lc := a0, lp := a1 }) (i := 2) (v := .int .i64 ((a1 : Nat) : Int)) rfl rfl rfl).set (z' := { y with lc := a0, lp := a1, pb := a2 }) (i := 3) (v := .int .i64 ((a2 : Nat) : Int)) rfl rfl rfl).keep (Fr.refl Non _).drew⟩
      case rest =>
        obtain ⟨hf4, hr4⟩ := hcut
        obtain ⟨w4, hw4⟩ : ∃ w4, w4 = wc := ⟨_, rfl⟩
        rw [← hw4] at hf4 hr4 ⊢
        have h4 := hr4.ok ⟨HQ.out.1, HQ.out.2, H3.out.ok.nl, H3.out.ok.left⟩
        clear c1 c2 c3 c10 c12 z1 z2 z3 z10 z12 q0 q1 q2 hw4
        have c10 := h4.cell 10 (v := .bool y.setted) rfl
        have z10 := blk_frozen h4.at_ 10
        have H4 := hid h4
        have F4 := hid (F3.out.trans (hf4.mono (fun _ _ e => .inl e) : Fr (L2.foot L t g) w3 w4))
        clear hf4 hr4 h4
        go_wp2_with fail
        go_end0
        rw [HR3.out]
        exact ⟨rfl, F4.out.setCell (p := ⟨g, 10, none⟩) (fun _ => .inl rfl) _, H4.out.set (z' := { y with lc := a0, lp := a1, pb := a2, setted := true }) rfl rfl rfl ⟨HQ.out.1, HQ.out.2, H3.out.ok.nl, H3.out.ok.left⟩⟩
  · have heb : (ec != 0) = true := by simpa using hec
    have HR3 := hid (show R = { y with bad := true } by rw [HR2.out, if_pos (.inl hec)])
    go_wp2_with fail
    go_end0
    exact HBF.out HR3.out
end Go.Proofs.Ytjnegcambbeblaa

/- lzma2: pack. -/
namespace Go.Proofs.Ytjnegcambbeblaa
open Go.RowKit

/-- a packed chunk is on. -/
structure L2On {S : Type} (L : LL) (t : Sour S) (g gp ga gr : Nat) (w : World) (z : L2 S) (rd : RD (AhS (S × Nat))) : Prop where
  at_ : w.heap[g]? = some (.cells (z.cells L (.iface t.ty t.val) (.pointer (some ⟨gp, 0, none⟩))) 145)
  on : LOn L (lim t gp) ga gr w z.c rd
  ng : ¬ LFt L (lim t gp) ga gr g
  ok : z.Ok L
theorem L2.empty_ok {S : Type} {L : LL} {z : L2 S} (h : z.Ok L) : z.empty.Ok L := ⟨h.lclp, h.pb, h.nl, h.left⟩
theorem L2.setting_ok {S : Type} (t : Sour S) {L : LL} {z : L2 S} (h : z.Ok L) : (z.setting t.nx).Ok L := by
  have hb := L2.byte_by t z
  unfold L2.setting
  by_cases hc : (bySet (z.byte t.nx).1).2 ≠ 0 ∨ 4 < (bySet (z.byte t.nx).1).1.lc + (bySet (z.byte t.nx).1).1.lp
  · rw [if_pos hc]; exact ⟨h.lclp, h.pb, h.nl, h.left⟩
  · rw [if_neg hc]
    have h1 : (bySet (z.byte t.nx).1).2 = 0 := by
      by_cases e : (bySet (z.byte t.nx).1).2 = 0
      · exact e
      · exact absurd (.inl e) hc
    have h2 : ¬ 4 < (bySet (z.byte t.nx).1).1.lc + (bySet (z.byte t.nx).1).1.lp := fun e => hc (.inr e)
    obtain ⟨l0, l1, l2, l3, l4, l5⟩ := bySet_lt hb.1 hb.2 h1
    exact ⟨by show (bySet _).1.lc.toNat + (bySet _).1.lp.toNat ≤ 4; omega, by show (bySet _).1.pb.toNat ≤ 4; omega, h.nl, h.left⟩
theorem and31 {k : Int} (h0 : 0 ≤ k) (h1 : k < 256) : bits .and .i64 k 31 = k % 32 := by
  obtain ⟨n, rfl⟩ := Int.eq_ofNat_of_zero_le h0
  have e := i64_and_nat n 31 (by omega) (by omega)
  rw [show ((31 : Nat) : Int) = 31 from rfl] at e
  show bits BinOp.and IntKind.i64 ((n : Nat) : Int) 31 = ((n : Nat) : Int) % 32
  rw [e, show (31 : Nat) = 2 ^ 5 - 1 from rfl, Nat.and_two_pow_sub_one_eq_mod]
  rfl
theorem L2At.src_ {S : Type} {L : LL} {t : Sour S} {g : Nat} {pv sp rp : Value} {w : World} {z : L2 S} (h : L2At L t g pv sp rp w z) {s : S} (e : z.s = s) : t.I w s := by rw [← e]; exact h.src
def PackPost {S : Type} (L : LL) (t : Sour S) (g : Nat) (pv sp rp : Value) (z : L2 S) (w : World) (e : Ending) (w' : World) : Prop :=
  e = .returned (.tuple #[]) ∧ Fr (L2.foot L t g) w w' ∧
    ((z.mode = none ∧ z.bad = true ∧ L2At L t g pv sp rp w' z) ∨
     (∃ rd gp ga gr, z.mode = some rd ∧ L2On L t g gp ga gr w' z rd ∧ w.heap.size ≤ gp ∧ gp < w'.heap.size ∧ w.heap.size ≤ ga ∧ ga < w'.heap.size ∧ w.heap.size ≤ gr ∧ gr < w'.heap.size))
set_option maxRecDepth 100000 in
set_option maxHeartbeats 800000 in
theorem l2pack_any {S : Type} (L : LL) (t : Sour S) (g : Nat) (pv sp rp : Value) (k : Int) (z : L2 S) (w : World) (h : L2At L t g pv sp rp w z) (hk0 : 128 ≤ k) (hk1 : k < 256) (hm : z.mode = none) (hb : z.bad = false) (hlt : ∀ i, t.foot i → i < w.heap.size) :
    Calls Try.prog 122 #[.pointer (some ⟨g, 0, none⟩), .int .i64 k] w (PackPost L t g pv sp rp (z.pack t.nx k) w) := by
  obtain ⟨R, hR⟩ : ∃ R, R = z.pack t.nx k := ⟨_, rfl⟩
  rw [← hR]
  unfold L2.pack at hR
  obtain ⟨how, hhow⟩ : ∃ how, how = k / 32 - 4 := ⟨_, rfl⟩
  have hh0 : 0 ≤ how := by omega
  have hh3 : how ≤ 3 := by omega
  have hw0 : IntKind.i64.wrap (k / 32) = k / 32 := by rw [IntKind.wrap_i64]; omega
  have hw1 : IntKind.i64.wrap (k / 32 - 4) = how := by rw [hhow, IntKind.wrap_i64]; omega
  rw [← hhow] at hR
  obtain ⟨y, hy⟩ : ∃ y, y = z.st0 how := ⟨_, rfl⟩
  rw [← hy] at hR
  have H := hid h
  have HY := hid hy
  have HR := hid hR
  have HMZ := hid hm
  have HBZ := hid hb
  have HLT := hid hlt
  have HAND := hid (and31 (by omega) hk1)
  clear h hy hR hm hb hlt
  go_enter Try.func122, Try.ntmps122
  go_upto_if 11 with fail
  rw [← hhow]
  have HHOW := hid hhow
  clear hhow hw0 hw1
  go_cut [] (fun wx => Fr (L2.foot L t g) w wx ∧ L2At L t g pv sp rp wx y)
  case first =>
    by_cases hk : how = 3
    · subst hk
      have HE := hid (show y = z.empty by rw [HY.out]; exact if_pos rfl)
      go_wp2_with fail
      refine (l2empty_any L t g pv sp rp z w H.out).mono ?_
      rintro e w1 ⟨rfl, hf1, h1⟩
      have HF1 := hid hf1
      have H1 := hid h1
      clear hf1 h1
      go_wp2_with fail
      go_meet
      rw [HE.out]
      exact ⟨HF1.out, H1.out⟩
    · have HE := hid (show y = z by rw [HY.out]; exact if_neg hk)
      have hkb : (how == 3) = false := by simpa using hk
      go_wp2_with fail
      go_meet
      rw [HE.out]
      exact ⟨Fr.refl _ _, H.out⟩
  case rest =>
    obtain ⟨hf1, h1⟩ := hcut
    obtain ⟨w1, hw1⟩ : ∃ w1, w1 = wc := ⟨_, rfl⟩
    rw [← hw1] at hf1 h1 ⊢
    have C1 := hid (l2pair_any L t g pv sp rp y w1 h1)
    have hpb := L2.pair_by t y
    obtain ⟨a, ha⟩ : ∃ a, a = y.pair t.nx := ⟨_, rfl⟩
    have hR := HR.out
    rw [← ha] at C1 hpb hR
    have HYM := hid (show a.2.mode = none by rw [ha]; show y.mode = none; rw [HY.out]; unfold L2.st0; split <;> exact HMZ.out)
    obtain ⟨l, y1⟩ := a
    dsimp only at C1 hpb hR HYM
    have hpb2 := L2.pair_by t y1
    have C2 := hid (fun w1 (h1 : L2At L t g pv sp rp w1 y1) => l2pair_any L t g pv sp rp y1 w1 h1)
    obtain ⟨b, hb⟩ : ∃ b, b = y1.pair t.nx := ⟨_, rfl⟩
    rw [← hb] at C2 hpb2 hR
    have HYM2 := hid (show b.2.mode = none by rw [hb]; exact HYM.out)
    obtain ⟨q, y2⟩ := b
    dsimp only at C2 hpb2 hR HYM2
    have HR := hid hR
    have HF1 := hid hf1
    have hl1 : (l : Int) ≤ 65536 := by omega
    have hl0 : (1 : Int) ≤ (l : Int) := by omega
    have hm0 : 0 ≤ k % 32 := by omega
    have hm1 : k % 32 < 32 := by omega
    have hw2 : IntKind.i64.wrap (k % 32 * 65536) = k % 32 * 65536 := by rw [IntKind.wrap_i64]; omega
    obtain ⟨lf, hlf⟩ : ∃ lf : Nat, lf = (k % 32 * 65536 + (l : Int)).toNat := ⟨_, rfl⟩
    have hlfi : (lf : Int) = k % 32 * 65536 + (l : Int) := by omega
    have hw3 : IntKind.i64.wrap (k % 32 * 65536 + (l : Int)) = (lf : Int) := by rw [hlfi, IntKind.wrap_i64]; omega
    have HAND' := HAND.out
    have HLF := hid hlf
    have HLFI := hid (show lf ≤ 2097152 by omega)
    clear hw1 hf1 h1 ha hb hlf hlfi hR
    go_wp2_with fail
    refine C1.out.mono ?_
    rintro e w2 ⟨rfl, hf2, h2⟩
    have HF2 := hid (HF1.out.trans hf2)
    have H2 := hid h2
    clear hf2 h2
    go_wp2_with fail
    refine (C2.out _ H2.out).mono ?_
    rintro e w3 ⟨rfl, hf3, h3⟩
    have HF3 := hid (HF2.out.trans hf3)
    have H3 := hid h3
    clear hf3 h3 hw2 hw3
    -- the new setting
    obtain ⟨u, hu⟩ : ∃ u, u = y2.st2 t.nx how := ⟨_, rfl⟩
    have hR := HR.out
    rw [← hu, ← HLF.out] at hR
    have HR := hid hR
    have HU := hid hu
    clear hR hu
    go_upto_if 23 with fail
    go_cut [] (fun wx => Fr (L2.foot L t g) w3 wx ∧ L2At L t g pv sp rp wx u)
    case first =>
      by_cases hk : 2 ≤ how
      · have HE := hid (show u = y2.setting t.nx by rw [HU.out]; exact if_pos hk)
        have hkb : decide (2 ≤ how) = true := decide_eq_true hk
        go_wp2_with fail
        refine (l2setting_any L t g pv sp rp y2 w3 H3.out).mono ?_
        rintro e w4 ⟨rfl, hf4, h4⟩
        have HF4 := hid hf4
        have H4 := hid h4
        clear hf4 h4
        go_wp2_with fail
        go_meet
        rw [HE.out]
        exact ⟨HF4.out, H4.out⟩
      · have HE := hid (show u = y2 by rw [HU.out]; exact if_neg hk)
        have hkb : decide (2 ≤ how) = false := decide_eq_false hk
        go_wp2_with fail
        go_meet
        rw [HE.out]
        exact ⟨Fr.refl _ _, H3.out⟩
    case rest =>
      obtain ⟨hf4, h4⟩ := hcut
      obtain ⟨w4, hw4⟩ : ∃ w4, w4 = wc := ⟨_, rfl⟩
      rw [← hw4] at hf4 h4 ⊢
      have HUM := hid (show u.mode = none by
        rw [HU.out]; unfold L2.st2; split
        · unfold L2.setting
          split
          · exact HYM2.out
          · exact HYM2.out
        · exact HYM2.out)
      have HF4 := hid (HF3.out.trans hf4)
      have H4 := hid h4
      have c9 := h4.cell 9 (v := .bool u.stated) rfl
      have z9 := blk_frozen h4.at_ 9
      clear hw4 hf4 h4
      -- stated
      obtain ⟨v, hv⟩ : ∃ v, v = u.st3 how := ⟨_, rfl⟩
      have hR := HR.out
      rw [← hv] at hR
      have HR := hid hR
      have HV := hid hv
      clear hR hv
      go_upto_if 27 with fail
      go_cut [] (fun wx => Fr (L2.foot L t g) w4 wx ∧ L2At L t g pv sp rp wx v)
      case first =>
        by_cases hk : 1 ≤ how
        · have HE := hid (show v = { u with stated := true } by rw [HV.out]; exact if_pos hk)
          have hkb : decide (1 ≤ how) = true := decide_eq_true hk
          go_wp2_with fail
          go_meet
          rw [HE.out]
          exact ⟨(Fr.refl _ _).setCell (p := ⟨g, 9, none⟩) (fun _ => .inl rfl) _, H4.out.set (z' := { u with stated := true }) rfl rfl rfl ⟨H4.out.ok.lclp, H4.out.ok.pb, H4.out.ok.nl, H4.out.ok.left⟩⟩
        · have HE := hid (show v = u by rw [HV.out]; exact if_neg hk)
          have hkb : decide (1 ≤ how) = false := decide_eq_false hk
          go_wp2_with fail
          go_meet
          rw [HE.out]
          exact ⟨Fr.refl _ _, H4.out⟩
      case rest =>
        obtain ⟨hf5, h5⟩ := hcut
        obtain ⟨w5, hw5⟩ : ∃ w5, w5 = wc := ⟨_, rfl⟩
        rw [← hw5] at hf5 h5 ⊢
        have HVM := hid (show v.mode = none by rw [HV.out]; unfold L2.st3; split <;> exact HUM.out)
        have HF5 := hid (HF4.out.trans hf5)
        have H5 := hid h5
        clear c9 z9 hw5
        have c8 := h5.cell 8 (v := .bool v.emptied) rfl
        have c9 := h5.cell 9 (v := .bool v.stated) rfl
        have c10 := h5.cell 10 (v := .bool v.setted) rfl
        have c12 := h5.cell 12 (v := .bool v.bad) rfl
        have z12 := blk_frozen h5.at_ 12
        obtain ⟨f8, e8⟩ : ∃ f, f = v.emptied := ⟨_, rfl⟩
        obtain ⟨f9, e9⟩ : ∃ f, f = v.stated := ⟨_, rfl⟩
        obtain ⟨f10, e10⟩ : ∃ f, f = v.setted := ⟨_, rfl⟩
        obtain ⟨f12, e12⟩ : ∃ f, f = v.bad := ⟨_, rfl⟩
        rw [← e8] at c8
        rw [← e9] at c9
        rw [← e10] at c10
        rw [← e12] at c12
        have HJ := hid (show ∀ b, b = (f12 || (!f8 || (!f10 || !f9))) → Fr (L2.foot L t g) w5 (w5.setCell ⟨g, 12, none⟩ (.bool b)) ∧ L2At L t g pv sp rp (w5.setCell ⟨g, 12, none⟩ (.bool b)) v.judge ∧ v.judge.bad = b from fun b hb => by
          have hjb : v.judge.bad = b := by rw [hb, e8, e9, e10, e12]; rfl
          refine ⟨(Fr.refl _ _).setCell (p := ⟨g, 12, none⟩) (fun _ => .inl rfl) _, ?_, hjb⟩
          refine h5.set (z' := v.judge) (i := 12) (v := .bool b) ?_ rfl rfl ⟨h5.ok.lclp, h5.ok.pb, h5.ok.nl, h5.ok.left⟩
          rw [← hjb]
          rfl)
        clear hf5 h5 e8 e9 e10 e12
        go_upto_region 9 with fail
        go_cut [] (fun wx => Fr (L2.foot L t g) w5 wx ∧ L2At L t g pv sp rp wx v.judge)
        case first =>
          cases f12 with
          | true =>
            go_wp2_with fail
            go_meet
            exact ⟨(HJ.out true rfl).1, (HJ.out true rfl).2.1⟩
          | false =>
            cases f8 with
            | false =>
              go_wp2_with fail
              go_meet
              exact ⟨(HJ.out true rfl).1, (HJ.out true rfl).2.1⟩
            | true =>
              cases f10 with
              | false =>
                go_wp2_with fail
                go_meet
                exact ⟨(HJ.out true rfl).1, (HJ.out true rfl).2.1⟩
              | true =>
                cases f9 with
                | false =>
                  go_wp2_with fail
                  go_meet
                  exact ⟨(HJ.out true rfl).1, (HJ.out true rfl).2.1⟩
                | true =>
                  go_wp2_with fail
                  go_meet
                  exact ⟨(HJ.out false rfl).1, (HJ.out false rfl).2.1⟩
        case rest =>
          obtain ⟨hf6, h6⟩ := hcut
          obtain ⟨w6, hw6⟩ : ∃ w6, w6 = wc := ⟨_, rfl⟩
          rw [← hw6] at hf6 h6 ⊢
          clear c8 c9 c10 c12 z12 hw6 HJ
          obtain ⟨j, hj⟩ : ∃ j, j = v.judge := ⟨_, rfl⟩
          have hR := HR.out
          rw [← hj] at hR h6
          have HJM := hid (show j.mode = none by rw [hj]; exact HVM.out)
          have HF6 := hid (HF5.out.trans hf6)
          have H6 := hid h6
          have c12 := h6.cell 12 (v := .bool j.bad) rfl
          obtain ⟨jb, hjb⟩ : ∃ b, b = j.bad := ⟨_, rfl⟩
          rw [← hjb] at c12
          unfold L2.packEnd at hR
          have HJB := hid hjb
          have HR := hid hR
          clear hf6 h6 hj hjb hR
          cases jb with
          | true =>
            have HE := hid (show R = j by rw [HR.out]; exact if_pos HJB.out.symm)
            go_wp2_with fail
            refine bodyPost_ret (results_none rfl _ _ _) rfl ?_
            rw [HE.out]
            exact ⟨rfl, HF6.out, .inl ⟨HJM.out, HJB.out.symm, H6.out⟩⟩
          | false =>
            have HE := hid (show R = j.pack1 t.nx how lf q by rw [HR.out]; exact if_neg (by rw [← HJB.out]; decide))
            obtain ⟨c', hc'⟩ : ∃ c', c' = if 1 ≤ how then j.c.reset j.lc j.lp j.pb else j.c := ⟨_, rfl⟩
            have HC := hid hc'
            have c0 := H6.out.cell 0 (v := .pointer (some ⟨L.gd, 0, none⟩)) rfl
            have c1 := H6.out.cell 1 (v := .int .i64 j.lc) rfl
            have c2 := H6.out.cell 2 (v := .int .i64 j.lp) rfl
            have c3 := H6.out.cell 3 (v := .int .i64 j.pb) rfl
            have c4 := H6.out.cell 4 (v := .int .i64 j.dict) rfl
            clear hc'
            go_upto_if 64 with fail
            go_cut [] (fun wx => Fr (L2.foot L t g) w6 wx ∧ L2At L t g pv sp rp wx { j with c := c' })
            case first =>
              by_cases hk : 1 ≤ how
              · have HE2 := hid (show c' = j.c.reset j.lc j.lp j.pb by rw [HC.out]; exact if_pos hk)
                have hkb : decide (1 ≤ how) = true := decide_eq_true hk
                have CR := hid (fun W (hW : Fr Non w6 W) => lreset_any L sp rp j.c j.lc j.lp j.pb (j.dict : Int) W (H6.out.core.keep hW (fun _ _ => id)) H6.out.ok.set)
                go_wp2_with fail
                go_region_with (first | (go_at_call 57; refine (CR.out _ (by repeat (first | exact Fr.refl _ _ | refine Fr.drewN ?_ _ | refine Fr.drew ?_))).mono ?_; rintro e wm ⟨rfl, hfm, hcm⟩; have HFM := hid hfm; have HCM := hid hcm; clear hfm hcm) | fail)
                all_goals
                  go_wp2_with fail
                  go_meet
                  have h60 := H6.out.keep (show Fr Non w6 _ from (by first | exact (Fr.refl Non w6).drew | exact Fr.refl Non w6)) (fun _ _ => id)
                  rw [HE2.out]
                  exact ⟨Fr.trans (by first | exact (Fr.refl _ _).drew | exact Fr.refl _ _) (HFM.out.mono (fun _ _ e => .inr (.inl e))), h60.coreTo HFM.out HCM.out⟩
              · have HE2 := hid (show c' = j.c by rw [HC.out]; exact if_neg hk)
                have hkb : decide (1 ≤ how) = false := decide_eq_false hk
                go_wp2_with fail
                go_meet
                rw [HE2.out]
                exact ⟨Fr.refl _ _, H6.out⟩
            case rest =>
              obtain ⟨hf7, h7⟩ := hcut
              obtain ⟨w7, hw7⟩ : ∃ w7, w7 = wc := ⟨_, rfl⟩
              rw [← hw7] at hf7 h7 ⊢
              clear c0 c1 c2 c3 c4 c12 hw7
              have c5 := h7.cell 5 (v := .iface t.ty t.val) rfl
              have c6 := h7.cell 6 (v := pv) rfl
              have c7 := h7.cell 7 (v := .int .i64 j.left) rfl
              have z6 := blk_frozen h7.at_ 6
              have z7 := blk_frozen h7.at_ 7
              have HF7 := hid (HF6.out.trans hf7)
              have H7 := hid h7
              obtain ⟨gp, hgp⟩ : ∃ gp, gp = w7.heap.size := ⟨_, rfl⟩
              have HGP := hid hgp
              have c6' := fun o => blk_cell (blk_alloc (o' := o) h7.at_) (j := 6) (v := pv) rfl
              have c7' := fun o => blk_cell (blk_alloc (o' := o) h7.at_) (j := 7) (v := .int .i64 j.left) rfl
              have z6' := fun o => blk_frozen (blk_alloc (o' := o) h7.at_) 6
              have z7' := fun o => blk_frozen (blk_alloc (o' := o) h7.at_) 7
              clear hf7 h7
              go_upto_region 14 with fail
              rw [← hgp]
              obtain ⟨w8, hw8⟩ : ∃ w8, w8 = ((w7.alloc (.cells #[.iface t.ty t.val, .int .i64 q] 186)).setCell ⟨g, 7, none⟩ (.int .i64 lf)).setCell ⟨g, 6, none⟩ (.pointer (some ⟨gp, 0, none⟩)) := ⟨_, rfl⟩
              rw [← hw8]
              obtain ⟨jj, hjj⟩ : ∃ jj : L2 S, jj = { j with c := c', left := lf } := ⟨_, rfl⟩
              have hal : L2At L t g pv sp rp (w7.alloc (.cells #[.iface t.ty t.val, .int .i64 q] 186)) { j with c := c' } := H7.out.keep ((Fr.refl Non _).alloc _) (fun _ _ => id)
              have h8 : L2At L t g (.pointer (some ⟨gp, 0, none⟩)) sp rp w8 jj := by
                rw [hw8, hjj]
                refine L2At.set (pv := pv) (z := { j with c := c', left := lf }) ?_ (i := 6) (v := .pointer (some ⟨gp, 0, none⟩)) rfl rfl rfl ⟨H7.out.ok.lclp, H7.out.ok.pb, H7.out.ok.nl, HLFI.out⟩
                exact hal.set (z' := { j with c := c', left := lf }) (i := 7) (v := .int .i64 lf) rfl rfl rfl ⟨H7.out.ok.lclp, H7.out.ok.pb, H7.out.ok.nl, HLFI.out⟩
              have hfg : Fr (fun k => k = g) w7 w8 := by rw [hw8]; exact (((Fr.refl _ _).alloc _).setOne _ _).setOne _ _
              have hs8 : w8.heap.size = gp + 1 := by rw [hw8, hgp]; simp
              have hgl : g < gp := by rw [hgp]; exact blk_lt H7.out.at_
              have hli : LimIs t gp w8 (j.s, q) := by
                refine ⟨?_, h8.src_ (by rw [hjj]), fun e => by have := HLT.out gp e; have := HF7.out.size; omega, by have := hpb2.2; exact this⟩
                rw [hw8]
                refine blk_set_ne (blk_set_ne ?_ (by show gp ≠ g; omega)) (by show gp ≠ g; omega)
                rw [hgp]
                exact blk_new _ _
              have c0 := h8.cell 0 (v := .pointer (some ⟨L.gd, 0, none⟩)) rfl
              have c6 := h8.cell 6 (v := .pointer (some ⟨gp, 0, none⟩)) rfl
              have HF8 := hid (HF7.out.trans (hfg.mono (fun _ _ e => .inl e) : Fr (L2.foot L t g) w7 w8))
              have H8 := hid h8
              have HLI := hid hli
              have HS8 := hid hs8
              have HGL := hid hgl
              have HJJ := hid hjj
              have hs17 := HF7.out.size
              have HLTP := hid (show ∀ i, (lim t gp).foot i → i < w8.heap.size from fun i hi => by
                rcases hi with e | e
                · omega
                · have := HLT.out i e; omega)
              have HAPP := hid (show ∀ i, L.foot i → ¬ (lim t gp).foot i from fun i hi e => by
                rcases e with e | e
                · have h9 := H7.out.core.lt i hi
                  have e' : i = gp := e
                  have := HGP.out; omega
                · exact H7.out.ap i hi e)
              have CB := hid (show ∀ W, Fr Non w8 W → Calls Try.prog 21 #[.pointer (some ⟨L.gd, 0, none⟩), .iface 143 (.pointer (some ⟨gp, 0, none⟩))] W (LBeginPost L (lim t gp) jj.c (j.s, q) W) from fun W (hW : Fr Non w8 W) => lbegin_any L (lim t gp) sp rp jj.c (j.s, q) W (H8.out.core.keep hW (fun _ _ => id)) (show (lim t gp).I W (j.s, q) from HLI.out.keep hW (fun _ _ => id)) (fun i hi => Nat.lt_of_lt_of_le (HLTP.out i hi) hW.size) HAPP.out)
              clear c5 c7 z6 z7 c6' c7' z6' z7' hw8 hjj hal h8 hfg hs8 hgl hli hgp hs17
              go_region_with (first | (go_at_call 21; refine (CB.out _ (by repeat (first | exact Fr.refl _ _ | refine Fr.drewN ?_ _ | refine Fr.drew ?_))).mono ?_; rintro e wm ⟨ga, gr, rfl, hfm, hon, hga0, hga1, hgr0, hgr1⟩; have HFM := hid hfm; have HON := hid hon; have HGA := hid (And.intro hga0 (And.intro hga1 (And.intro hgr0 hgr1))); clear hfm hon hga0 hga1 hgr0 hgr1) | fail)
              all_goals
                go_wp2_with fail
                go_end0
                have hga := HGA.out
                have hsz := Fr.size (show Fr Non w8 _ from (by first | exact (Fr.refl Non w8).drew | exact Fr.refl Non w8))
                have h80 := H8.out.keep (show Fr Non w8 _ from (by first | exact (Fr.refl Non w8).drew | exact Fr.refl Non w8)) (fun _ _ => id)
                have hsgd := H8.out.core.lt L.gd (.inl rfl)
                have hs8 := HS8.out
                have hg9 := HGL.out
                have hsm := HFM.out.size
                have hww7 := HF7.out.size
                have hgp7 := HGP.out
                have hng : ¬ LFt L (lim t gp) ga gr g := by
                  rintro (e | e | e | e | e)
                  · exact H8.out.ng e
                  · have e' : g = gr := e; omega
                  · have e' : g = ga := e; omega
                  · have e' : g = gp := e; omega
                  · exact H8.out.nt e
                have hfm9 := Fr.trans (show Fr (fun k => k = L.gd ∨ (lim t gp).foot k) w8 _ from (by first | exact (Fr.refl _ w8).drew | exact Fr.refl _ w8)) HFM.out
                refine ⟨rfl, HF8.out.then hfm9 (fun i hi e => ?_), .inr ⟨RD.new (anx (lnx t.nx)) ⟨(j.s, q), 0, false⟩, gp, ga, gr, by rw [HE.out]; rfl, ?_, by omega, by omega, by omega, by omega, by omega, by omega⟩⟩
                · rcases e with e | e | e
                  · exact .inr (.inl (by rw [show i = L.gd from e]; exact .inl rfl))
                  · have e' : i = gp := e; omega
                  · exact .inr (.inr e)
                · rw [HE.out]
                  have hjc : (j.pack1 t.nx how lf q).c = jj.c := by rw [HJJ.out, HC.out]; rfl
                  refine ⟨?_, by rw [hjc]; exact HON.out, hng, ⟨H7.out.ok.lclp, H7.out.ok.pb, H7.out.ok.nl, HLFI.out⟩⟩
                  have e1 := hfm9.blk H8.out.at_ (fun e => e.elim (fun e => H8.out.ng (by rw [e]; exact .inl rfl)) (fun e => hng (.inr (.inr (.inr e)))))
                  rw [HJJ.out] at e1
                  exact e1
end Go.Proofs.Ytjnegcambbeblaa
