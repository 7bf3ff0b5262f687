/- Texts of this proof, one behind the other. -/
import Derived.Test.YtjnegcambbeblaaMg05
import Derived.Test.YtjnegcambbeblaaMg04
import Derived.Defers
import Derived.Test.YtjnegcambbeblaaMg02
import Derived.Test.YtjnegcambbeblaaMg07
import Derived.Test.YtjnegcambbeblaaMg01

/- lzma: Close, called and deferred. -/
namespace Go.Proofs.Ytjnegcambbeblaa
open Go.RowKit

theorem MS.free_ok {m : MS} (h : m.Ok) (n : Nat) : (m.free n).Ok := ⟨by have := h.now; show m.now - n ≤ m.most; omega, h.most, by have := h.peak; show m.now - n ≤ m.peak; omega⟩
/-- a decoder as it lies, and its window; what Close needs. -/
structure LRaw (L : LL) (lv sp rp : Value) (s : LS) (a : Option Addr) (n next count : Nat) (m : MS) (w : World) : Prop where
  at_ : w.heap[L.gd]? = some (.cells (s.cells L lv sp rp) 115)
  win : w.heap[L.gw]? = some (.cells #[.slice a n n, .int .i64 next, .int .i64 count, .pointer (some ⟨L.gm, 0, none⟩)] 159)
  met : MAt w L.gm m
  ok : m.Ok
  lim : n ≤ 1048576
  tk : s.taken ≤ 1048576
  dw : L.gd ≠ L.gw
  md : L.gm ≠ L.gd
  mw : L.gm ≠ L.gw
def LClosed (L : LL) (sp rp : Value) (s : LS) (n : Nat) (m : MS) (w w' : World) : Prop :=
  Fr (fun k => k = L.gd ∨ k = L.gw ∨ k = L.gm) w w' ∧ LRaw L (.slice none 0 0) sp rp { s with taken := 0, bad := true } none 0 0 0 ((m.free s.taken).free n) w'
set_option maxRecDepth 100000 in
set_option maxHeartbeats 800000 in
theorem lclose_raw (L : LL) (lv sp rp : Value) (s : LS) (a : Option Addr) (n next count : Nat) (m : MS) (w : World) (h : LRaw L lv sp rp s a n next count m w) :
    Calls Try.prog 28 #[.pointer (some ⟨L.gd, 0, none⟩)] w fun e w' => e = .returned (.tuple #[]) ∧ LClosed L sp rp s n m w w' := by
  have c4 := blk_cell h.at_ (j := 4) (v := .pointer (some ⟨L.gm, 0, none⟩)) (by rw [cellsL_head _ _ _ _ _ (by decide)]; rfl)
  have c5 := blk_cell h.at_ (j := 5) (v := .int .i64 s.taken) (by rw [cellsL_head _ _ _ _ _ (by decide)]; rfl)
  have H := hid h
  clear h
  go_enter Try.func28, Try.ntmps28
  go_upto_region 0 with fail
  go_cut [] (fun wx => Fr (fun k => k = L.gm) w wx ∧ MAt wx L.gm (m.free s.taken))
  case first =>
    go_region_with (first | (go_at_call 56; refine (free_m L.gm m s.taken _ (by exact H.out.met) H.out.ok (by have := H.out.tk; omega)).mono ?_; rintro e w1 ⟨rfl, hf1, hm1⟩; have HF1 := hid hf1; have HM1 := hid hm1; clear hf1 hm1) | fail)
    all_goals
      go_wp2_with fail
      go_meet
      exact ⟨by first | exact HF1.out | exact ((Fr.refl _ _).drew).trans HF1.out, HM1.out⟩
  case rest =>
  obtain ⟨hf1, hm1⟩ := hcut
  have hg1 := hf1.blk H.out.at_ (fun e => H.out.md e.symm)
  have c6 := blk_cell hg1 (j := 6) (v := .pointer (some ⟨L.gw, 0, none⟩)) (by rw [cellsL_head _ _ _ _ _ (by decide)]; rfl)
  have hw1 := hf1.blk H.out.win (fun e => H.out.mw e.symm)
  clear c4 c5
  have HF1 := hid hf1
  have HM1 := hid hm1
  have HG1 := hid hg1
  have HW1 := hid hw1
  clear hf1 hm1 hg1 hw1
  go_wp2_with fail
  refine (wclose_raw L.gw L.gm n next count a (m.free s.taken) _ HW1.out HM1.out (MS.free_ok H.out.ok _) H.out.lim (fun e => H.out.mw e.symm)).mono ?_
  rintro e w2 ⟨rfl, hf2, hm2, hw2⟩
  have hg2 := hf2.blk HG1.out (fun e => e.elim (fun e => H.out.dw e) (fun e => H.out.md e.symm))
  have z5 := blk_frozen hg2 5
  have z56 := blk_frozen hg2 1856
  have z65 := blk_frozen hg2 1865
  have c5 := blk_cell hg2 (j := 5) (v := .int .i64 s.taken) (by rw [cellsL_head _ _ _ _ _ (by decide)]; rfl)
  have c56 := blk_cell hg2 (j := 1856) (v := lv) (by rw [show (1856 : Nat) = 1856 + 0 from rfl, cellsL_tail]; rfl)
  have c65 := blk_cell hg2 (j := 1865) (v := .bool s.bad) (by rw [show (1865 : Nat) = 1856 + 9 from rfl, cellsL_tail]; rfl)
  have HF2 := hid hf2
  have HM2 := hid hm2
  have HW2 := hid hw2
  have HG2 := hid hg2
  clear hf2 hm2 hw2 hg2 c6
  go_wp2_with fail
  go_end0
  refine ⟨rfl, ?_, ?_⟩
  · exact Fr.setCell (p := ⟨L.gd, 1865, none⟩) (Fr.setCell (p := ⟨L.gd, 1856, none⟩) (Fr.setCell (p := ⟨L.gd, 5, none⟩) ((HF1.out.mono (fun _ _ e => .inr (.inr e))).trans (HF2.out.mono (fun _ _ e => e.elim (fun e => .inr (.inl e)) (fun e => .inr (.inr e))))) (fun _ => .inl rfl) _) (fun _ => .inl rfl) _) (fun _ => .inl rfl) _
  · refine ⟨?_, blk_set_ne (blk_set_ne (blk_set_ne HW2.out (fun e => H.out.dw e.symm)) (fun e => H.out.dw e.symm)) (fun e => H.out.dw e.symm), blk_set_ne (blk_set_ne (blk_set_ne HM2.out H.out.md) H.out.md) H.out.md, MS.free_ok (MS.free_ok H.out.ok _) _, by decide, by show 0 ≤ _; decide, H.out.dw, H.out.md, H.out.mw⟩
    have e := blk_set (i := 1865) (v := .bool true) (blk_set (i := 1856) (v := .slice none 0 0) (blk_set (i := 5) (v := .int .i64 0) HG2.out))
    rw [cellsL_setH L lv sp rp sp rp s { s with taken := 0 } (i := 5) (v := .int .i64 0) (by decide) rfl rfl rfl] at e
    rw [show (1856 : Nat) = 1856 + 0 from rfl, cellsL_setT L lv (.slice none 0 0) sp rp { s with taken := 0 } { s with taken := 0 } (i := 0) (v := .slice none 0 0) rfl rfl rfl] at e
    rw [show (1865 : Nat) = 1856 + 9 from rfl, cellsL_setT L (.slice none 0 0) (.slice none 0 0) sp rp { s with taken := 0 } { s with taken := 0, bad := true } (i := 9) (v := .bool true) rfl rfl rfl] at e
    exact e
set_option maxRecDepth 100000 in
set_option maxHeartbeats 800000 in
theorem lcloseD_raw (L : LL) (lv sp rp : Value) (s : LS) (a : Option Addr) (n next count : Nat) (m : MS) (u : FrameMode) (w : World) (h : LRaw L lv sp rp s a n next count m w) :
    CallsD Try.prog 28 #[.pointer (some ⟨L.gd, 0, none⟩)] u w fun e u' w' => u' = u ∧ e = .returned (.tuple #[]) ∧ LClosed L sp rp s n m w w' := by
  have c4 := blk_cell h.at_ (j := 4) (v := .pointer (some ⟨L.gm, 0, none⟩)) (by rw [cellsL_head _ _ _ _ _ (by decide)]; rfl)
  have c5 := blk_cell h.at_ (j := 5) (v := .int .i64 s.taken) (by rw [cellsL_head _ _ _ _ _ (by decide)]; rfl)
  have H := hid h
  clear h
  go_enter_d Try.func28, Try.ntmps28
  go_upto_region 0 with fail
  go_cut [] (fun wx => Fr (fun k => k = L.gm) w wx ∧ MAt wx L.gm (m.free s.taken))
  case first =>
    go_region_with (first | (go_at_call 56; refine (free_m L.gm m s.taken _ (by exact H.out.met) H.out.ok (by have := H.out.tk; omega)).mono ?_; rintro e w1 ⟨rfl, hf1, hm1⟩; have HF1 := hid hf1; have HM1 := hid hm1; clear hf1 hm1) | fail)
    all_goals
      go_wp2_with fail
      go_meet
      exact ⟨by first | exact HF1.out | exact ((Fr.refl _ _).drew).trans HF1.out, HM1.out⟩
  case rest =>
  obtain ⟨hf1, hm1⟩ := hcut
  have hg1 := hf1.blk H.out.at_ (fun e => H.out.md e.symm)
  have c6 := blk_cell hg1 (j := 6) (v := .pointer (some ⟨L.gw, 0, none⟩)) (by rw [cellsL_head _ _ _ _ _ (by decide)]; rfl)
  have hw1 := hf1.blk H.out.win (fun e => H.out.mw e.symm)
  clear c4 c5
  have HF1 := hid hf1
  have HM1 := hid hm1
  have HG1 := hid hg1
  have HW1 := hid hw1
  clear hf1 hm1 hg1 hw1
  go_wp2_with fail
  refine (wclose_raw L.gw L.gm n next count a (m.free s.taken) _ HW1.out HM1.out (MS.free_ok H.out.ok _) H.out.lim (fun e => H.out.mw e.symm)).mono ?_
  rintro e w2 ⟨rfl, hf2, hm2, hw2⟩
  have hg2 := hf2.blk HG1.out (fun e => e.elim (fun e => H.out.dw e) (fun e => H.out.md e.symm))
  have z5 := blk_frozen hg2 5
  have z56 := blk_frozen hg2 1856
  have z65 := blk_frozen hg2 1865
  have c5 := blk_cell hg2 (j := 5) (v := .int .i64 s.taken) (by rw [cellsL_head _ _ _ _ _ (by decide)]; rfl)
  have c56 := blk_cell hg2 (j := 1856) (v := lv) (by rw [show (1856 : Nat) = 1856 + 0 from rfl, cellsL_tail]; rfl)
  have c65 := blk_cell hg2 (j := 1865) (v := .bool s.bad) (by rw [show (1865 : Nat) = 1856 + 9 from rfl, cellsL_tail]; rfl)
  have HF2 := hid hf2
  have HM2 := hid hm2
  have HW2 := hid hw2
  have HG2 := hid hg2
  clear hf2 hm2 hw2 hg2 c6
  go_wp2_with fail
  go_end0
  refine ⟨rfl, ?_, ?_⟩
  · exact Fr.setCell (p := ⟨L.gd, 1865, none⟩) (Fr.setCell (p := ⟨L.gd, 1856, none⟩) (Fr.setCell (p := ⟨L.gd, 5, none⟩) ((HF1.out.mono (fun _ _ e => .inr (.inr e))).trans (HF2.out.mono (fun _ _ e => e.elim (fun e => .inr (.inl e)) (fun e => .inr (.inr e))))) (fun _ => .inl rfl) _) (fun _ => .inl rfl) _) (fun _ => .inl rfl) _
  · refine ⟨?_, blk_set_ne (blk_set_ne (blk_set_ne HW2.out (fun e => H.out.dw e.symm)) (fun e => H.out.dw e.symm)) (fun e => H.out.dw e.symm), blk_set_ne (blk_set_ne (blk_set_ne HM2.out H.out.md) H.out.md) H.out.md, MS.free_ok (MS.free_ok H.out.ok _) _, by decide, by show 0 ≤ _; decide, H.out.dw, H.out.md, H.out.mw⟩
    have e := blk_set (i := 1865) (v := .bool true) (blk_set (i := 1856) (v := .slice none 0 0) (blk_set (i := 5) (v := .int .i64 0) HG2.out))
    rw [cellsL_setH L lv sp rp sp rp s { s with taken := 0 } (i := 5) (v := .int .i64 0) (by decide) rfl rfl rfl] at e
    rw [show (1856 : Nat) = 1856 + 0 from rfl, cellsL_setT L lv (.slice none 0 0) sp rp { s with taken := 0 } { s with taken := 0 } (i := 0) (v := .slice none 0 0) rfl rfl rfl] at e
    rw [show (1865 : Nat) = 1856 + 9 from rfl, cellsL_setT L (.slice none 0 0) (.slice none 0 0) sp rp { s with taken := 0 } { s with taken := 0, bad := true } (i := 9) (v := .bool true) rfl rfl rfl] at e
    exact e
/-- a decoder that is whole, as it lies. -/
theorem LIs.raw {L : LL} {sp rp : Value} {w : World} {s : LS} {m : MS} (h : LIs L sp rp w s) (hm : MAt w L.gm m) (hok : m.Ok) (ht : s.taken ≤ 1048576) : ∃ next, LRaw L L.lit sp rp s (some ⟨L.gn, 0, none⟩) L.n next (min s.H.length L.n) m w := by
  obtain ⟨⟨nx, ri, h1, h2⟩, h3, h4⟩ := h.win
  exact ⟨nx, h.at_, h1.st, hm, hok, h3, ht, h.ap.dw, h.ap.md, h.ap.mw⟩
end Go.Proofs.Ytjnegcambbeblaa

/- lzma.New. -/
namespace Go.Proofs.Ytjnegcambbeblaa
open Go.RowKit

def LS.zero (p : Lset) (taken : Nat) : LS := ⟨p.lc.toNat, p.lp.toNat, p.pb.toNat, p.dict.toNat, taken, fun _ => 0, 0, fun _ => 0, 0, 0, false, false, []⟩
def LS.new (p : Lset) (taken : Nat) : LS := (LS.zero p taken).reset p.lc.toNat p.lp.toNat p.pb.toNat
structure Lset.Light (p : Lset) : Prop where
  may : p.May
  li : p.lc + p.lp ≤ 6
def Lset.nl (p : Lset) : Nat := 768 * 2 ^ (p.lc + p.lp).toNat
theorem Lset.Light.nl_le {p : Lset} (h : p.Light) : p.nl ≤ 49152 := by
  have : 2 ^ (p.lc + p.lp).toNat ≤ 2 ^ 6 := Nat.pow_le_pow_right (by decide) (by have := h.li; omega)
  unfold Lset.nl
  omega
theorem Lset.Light.set {p : Lset} (h : p.Light) (L : LL) (hl : L.nl = p.nl) : SetOk L p.lc.toNat p.lp.toNat p.pb.toNat := by
  have m := h.may
  refine ⟨by have := m.lc1; omega, by have := m.lp1; omega, by have := m.pb1; omega, ?_⟩
  rw [hl]
  unfold Lset.nl
  rw [show (p.lc + p.lp).toNat = p.lc.toNat + p.lp.toNat by have := m.lc0; have := m.lp0; omega]
  exact Nat.le_refl _
/-- how much memory is asked for. -/
def Lset.need (p : Lset) : Nat := 2 * p.probs
def LNewPost (gm : Nat) (m : MS) (p : Lset) (size : Int) (w : World) (e : Ending) (w' : World) : Prop :=
  (∃ c m', (¬ ((m.mem p.need).1 = true ∧ ((m.mem p.need).2.mem (wsize (min p.dict size))).1 = true)) ∧ e = .returned (.tuple #[.pointer none, .int .i64 c]) ∧ Fr (fun k => k = gm) w w' ∧ MAt w' gm m' ∧
     (((m.mem p.need).1 = false ∧ m' = (m.mem p.need).2 ∧ c = m'.code) ∨ ((m.mem p.need).1 = true ∧ m' = ((m.mem p.need).2.mem (wsize (min p.dict size))).2.free p.need ∧ c = m'.code))) ∨
  ((m.mem p.need).1 = true ∧ ((m.mem p.need).2.mem (wsize (min p.dict size))).1 = true ∧ ∃ L : LL, e = .returned (.tuple #[.pointer (some ⟨L.gd, 0, none⟩), .int .i64 0]) ∧ Fr (fun k => k = gm) w w' ∧ MAt w' gm ((m.mem p.need).2.mem (wsize (min p.dict size))).2 ∧
     LIs L (.pointer none) (.pointer none) w' (LS.new p p.need) ∧ L.gm = gm ∧ L.n = wsize (min p.dict size) ∧ L.nl = p.nl ∧ ∀ k, L.foot k → w.heap.size ≤ k ∧ k < w'.heap.size)
set_option maxRecDepth 1000000 in
theorem lz_zero : (Try.prog.info? 115).map (fun i => (i.zero.map (fun z => z.cells.toList))) = some (some ([.int .i64 0, .int .i64 0, .int .i64 0, .int .i64 0, .pointer none, .int .i64 0, .pointer none, .pointer none, .pointer none] ++ List.replicate 1847 (.int .u16 0) ++ [.slice none 0 0, .int .i64 0, .int .u32 0, .int .u32 0, .int .u32 0, .int .u32 0, .int .i64 0, .int .i64 0, .bool false, .bool false])) := by kernel_rfl
theorem lz_places : (match Try.prog.underlying 115 with | some (.struct fs) => fs.toList.mapM (fun f => (Try.prog.info? f.type).map fun i => (f.offset, i.size)) | _ => none) = some [(0, 4), (4, 1), (5, 1), (6, 1), (7, 1), (8, 1), (9, 1847), (1856, 1), (1857, 1), (1858, 4), (1862, 1), (1863, 1), (1864, 1), (1865, 1)] := by kernel_rfl
def lzZ (n : Nat) (hd : Array Value) (lv : Value) : Array Value := (hd ++ arr .u16 n (fun _ => 0)) ++ #[lv, .int .i64 0, .int .u32 0, .int .u32 0, .int .u32 0, .int .u32 0, .int .i64 0, .int .i64 0, .bool false, .bool false]
theorem arr_rep (n : Nat) (c : Int) : arr .u16 n (fun _ => c) = (List.replicate n (Value.int .u16 c)).toArray := by
  unfold arr
  apply Array.ext_getElem?
  intro i
  by_cases hi : i < n
  · simp [hi]
  · rw [Array.getElem?_eq_none (by simp; omega), Array.getElem?_eq_none (by simp; omega)]
theorem lzZ_zero (n : Nat) : (([.int .i64 0, .int .i64 0, .int .i64 0, .int .i64 0, .pointer none, .int .i64 0, .pointer none, .pointer none, .pointer none] ++ List.replicate n (.int .u16 0) ++ [.slice none 0 0, .int .i64 0, .int .u32 0, .int .u32 0, .int .u32 0, .int .u32 0, .int .i64 0, .int .i64 0, .bool false, .bool false] : List Value)).toArray = lzZ n #[.int .i64 0, .int .i64 0, .int .i64 0, .int .i64 0, .pointer none, .int .i64 0, .pointer none, .pointer none, .pointer none] (.slice none 0 0) := by
  unfold lzZ
  rw [arr_rep]
  simp
theorem lzZ_size (n : Nat) (hd : Array Value) (lv : Value) (h : hd.size = 9) : (lzZ n hd lv).size = n + 19 := by simp [lzZ, arr_size, h]; omega
theorem lzZ_setH (n : Nat) (hd : Array Value) (lv : Value) (h : hd.size = 9) (i : Nat) (v : Value) (hi : i < 9) : (lzZ n hd lv).setIfInBounds i v = lzZ n (hd.setIfInBounds i v) lv := by
  unfold lzZ
  rw [Array.setIfInBounds_append_left (by simp [arr_size]; omega), Array.setIfInBounds_append_left (by omega)]
theorem lzZ_setL (n : Nat) (hd : Array Value) (lv lv' : Value) (h : hd.size = 9) : (lzZ n hd lv).setIfInBounds (9 + n) lv' = lzZ n hd lv' := by
  unfold lzZ
  rw [Array.setIfInBounds_append_right (by simp [arr_size, h])]
  have e : 9 + n - (hd ++ arr .u16 n (fun _ => 0)).size = 0 := by simp [arr_size, h]
  rw [e]
  rfl
theorem fill_step (pl : Nat → Option (Nat × Nat)) (cells : Array Value) (i off size : Nat) (v : Value) (rest : List (Nat × Value)) (hp : pl i = some (off, size)) (hs : v.cells.size = size) (hf : off + size ≤ cells.size) :
    Instr.fill pl cells ((i, v) :: rest) = Instr.fill pl (v.cells.zipIdx.foldl (fun cs (x : Value × Nat) => cs.setIfInBounds (off + x.2) x.1) cells) rest := by
  rw [Instr.fill, hp]
  dsimp only
  rw [if_neg (by rw [hs]; simp; omega)]
theorem fold4 {β : Type} (f : β → Value × Nat → β) (z : β) (x0 x1 x2 x3 : Value) : (#[x0, x1, x2, x3].zipIdx).foldl f z = f (f (f (f z (x0, 0)) (x1, 1)) (x2, 2)) (x3, 3) := by simp
theorem fold1 {β : Type} (f : β → Value × Nat → β) (z : β) (x0 : Value) : (#[x0].zipIdx).foldl f z = f z (x0, 0) := by simp
theorem lz_fill (n : Nat) (a b c d : Int) (gm gw gl nl taken : Nat) (pl : Nat → Option (Nat × Nat)) (p0 : pl 0 = some (0, 4)) (p1 : pl 1 = some (4, 1)) (p2 : pl 2 = some (5, 1)) (p3 : pl 3 = some (6, 1)) (p7 : pl 7 = some (9 + n, 1)) :
    Instr.fill pl (lzZ n #[.int .i64 0, .int .i64 0, .int .i64 0, .int .i64 0, .pointer none, .int .i64 0, .pointer none, .pointer none, .pointer none] (.slice none 0 0)) [(0, .agg #[.int .i64 a, .int .i64 b, .int .i64 c, .int .i64 d]), (1, .pointer (some ⟨gm, 0, none⟩)), (2, .int .i64 taken), (3, .pointer (some ⟨gw, 0, none⟩)), (7, .slice (some ⟨gl, 0, none⟩) nl nl)] = some (lzZ n #[.int .i64 a, .int .i64 b, .int .i64 c, .int .i64 d, .pointer (some ⟨gm, 0, none⟩), .int .i64 taken, .pointer (some ⟨gw, 0, none⟩), .pointer none, .pointer none] (.slice (some ⟨gl, 0, none⟩) nl nl)) := by
  rw [fill_step pl _ 0 0 4 _ _ p0 rfl (by rw [lzZ_size _ _ _ rfl]; omega)]
  have f0 : (Value.agg #[.int .i64 a, .int .i64 b, .int .i64 c, .int .i64 d]).cells.zipIdx.foldl (fun cs (x : Value × Nat) => cs.setIfInBounds (0 + x.2) x.1) (lzZ n #[.int .i64 0, .int .i64 0, .int .i64 0, .int .i64 0, .pointer none, .int .i64 0, .pointer none, .pointer none, .pointer none] (.slice none 0 0)) = lzZ n #[.int .i64 a, .int .i64 b, .int .i64 c, .int .i64 d, .pointer none, .int .i64 0, .pointer none, .pointer none, .pointer none] (.slice none 0 0) := by
    refine (fold4 _ _ _ _ _ _).trans ?_
    show ((((lzZ n #[.int .i64 0, .int .i64 0, .int .i64 0, .int .i64 0, .pointer none, .int .i64 0, .pointer none, .pointer none, .pointer none] (.slice none 0 0)).setIfInBounds 0 (.int .i64 a)).setIfInBounds 1 (.int .i64 b)).setIfInBounds 2 (.int .i64 c)).setIfInBounds 3 (.int .i64 d) = _
    rw [lzZ_setH _ _ _ rfl 0 _ (by decide), lzZ_setH _ _ _ rfl 1 _ (by decide), lzZ_setH _ _ _ rfl 2 _ (by decide), lzZ_setH _ _ _ rfl 3 _ (by decide)]
    rfl
  rw [f0, fill_step pl _ 1 4 1 _ _ p1 rfl (by rw [lzZ_size _ _ _ rfl]; omega)]
  have f1 : (Value.pointer (some ⟨gm, 0, none⟩)).cells.zipIdx.foldl (fun cs (x : Value × Nat) => cs.setIfInBounds (4 + x.2) x.1) (lzZ n #[.int .i64 a, .int .i64 b, .int .i64 c, .int .i64 d, .pointer none, .int .i64 0, .pointer none, .pointer none, .pointer none] (.slice none 0 0)) = lzZ n #[.int .i64 a, .int .i64 b, .int .i64 c, .int .i64 d, .pointer (some ⟨gm, 0, none⟩), .int .i64 0, .pointer none, .pointer none, .pointer none] (.slice none 0 0) := by
    refine (fold1 _ _ _).trans ?_
    show (lzZ n #[.int .i64 a, .int .i64 b, .int .i64 c, .int .i64 d, .pointer none, .int .i64 0, .pointer none, .pointer none, .pointer none] (.slice none 0 0)).setIfInBounds 4 (.pointer (some ⟨gm, 0, none⟩)) = _
    rw [lzZ_setH _ _ _ rfl 4 _ (by decide)]
    rfl
  rw [f1, fill_step pl _ 2 5 1 _ _ p2 rfl (by rw [lzZ_size _ _ _ rfl]; omega)]
  have f2 : (Value.int .i64 taken).cells.zipIdx.foldl (fun cs (x : Value × Nat) => cs.setIfInBounds (5 + x.2) x.1) (lzZ n #[.int .i64 a, .int .i64 b, .int .i64 c, .int .i64 d, .pointer (some ⟨gm, 0, none⟩), .int .i64 0, .pointer none, .pointer none, .pointer none] (.slice none 0 0)) = lzZ n #[.int .i64 a, .int .i64 b, .int .i64 c, .int .i64 d, .pointer (some ⟨gm, 0, none⟩), .int .i64 taken, .pointer none, .pointer none, .pointer none] (.slice none 0 0) := by
    refine (fold1 _ _ _).trans ?_
    show (lzZ n #[.int .i64 a, .int .i64 b, .int .i64 c, .int .i64 d, .pointer (some ⟨gm, 0, none⟩), .int .i64 0, .pointer none, .pointer none, .pointer none] (.slice none 0 0)).setIfInBounds 5 (.int .i64 taken) = _
    rw [lzZ_setH _ _ _ rfl 5 _ (by decide)]
    rfl
  rw [f2, fill_step pl _ 3 6 1 _ _ p3 rfl (by rw [lzZ_size _ _ _ rfl]; omega)]
  have f3 : (Value.pointer (some ⟨gw, 0, none⟩)).cells.zipIdx.foldl (fun cs (x : Value × Nat) => cs.setIfInBounds (6 + x.2) x.1) (lzZ n #[.int .i64 a, .int .i64 b, .int .i64 c, .int .i64 d, .pointer (some ⟨gm, 0, none⟩), .int .i64 taken, .pointer none, .pointer none, .pointer none] (.slice none 0 0)) = lzZ n #[.int .i64 a, .int .i64 b, .int .i64 c, .int .i64 d, .pointer (some ⟨gm, 0, none⟩), .int .i64 taken, .pointer (some ⟨gw, 0, none⟩), .pointer none, .pointer none] (.slice none 0 0) := by
    refine (fold1 _ _ _).trans ?_
    show (lzZ n #[.int .i64 a, .int .i64 b, .int .i64 c, .int .i64 d, .pointer (some ⟨gm, 0, none⟩), .int .i64 taken, .pointer none, .pointer none, .pointer none] (.slice none 0 0)).setIfInBounds 6 (.pointer (some ⟨gw, 0, none⟩)) = _
    rw [lzZ_setH _ _ _ rfl 6 _ (by decide)]
    rfl
  rw [f3, fill_step pl _ 7 (9 + n) 1 _ _ p7 rfl (by rw [lzZ_size _ _ _ rfl]; omega)]
  have f7 : (Value.slice (some ⟨gl, 0, none⟩) nl nl).cells.zipIdx.foldl (fun cs (x : Value × Nat) => cs.setIfInBounds (9 + n + x.2) x.1) (lzZ n #[.int .i64 a, .int .i64 b, .int .i64 c, .int .i64 d, .pointer (some ⟨gm, 0, none⟩), .int .i64 taken, .pointer (some ⟨gw, 0, none⟩), .pointer none, .pointer none] (.slice none 0 0)) = lzZ n #[.int .i64 a, .int .i64 b, .int .i64 c, .int .i64 d, .pointer (some ⟨gm, 0, none⟩), .int .i64 taken, .pointer (some ⟨gw, 0, none⟩), .pointer none, .pointer none] (.slice (some ⟨gl, 0, none⟩) nl nl) := by
    refine (fold1 _ _ _).trans ?_
    show (lzZ n #[.int .i64 a, .int .i64 b, .int .i64 c, .int .i64 d, .pointer (some ⟨gm, 0, none⟩), .int .i64 taken, .pointer (some ⟨gw, 0, none⟩), .pointer none, .pointer none] (.slice none 0 0)).setIfInBounds (9 + n) (.slice (some ⟨gl, 0, none⟩) nl nl) = _
    rw [lzZ_setL _ _ _ _ rfl]
  rw [f7]
  rfl
set_option maxRecDepth 1000000 in
theorem lz_built (a b c d : Int) (gm gw gl nl taken : Nat) (r : Operand → Value) (t1 t2 t3 t4 t5 : Nat) (h1 : r (.tmp t1) = .agg #[.int .i64 a, .int .i64 b, .int .i64 c, .int .i64 d]) (h2 : r (.tmp t2) = .pointer (some ⟨gm, 0, none⟩)) (h3 : r (.tmp t3) = .int .i64 taken) (h4 : r (.tmp t4) = .pointer (some ⟨gw, 0, none⟩)) (h5 : r (.tmp t5) = (.slice (some ⟨gl, 0, none⟩) nl nl)) :
    Try.prog.built 115 ((#[(0, Operand.tmp t1), (1, Operand.tmp t2), (2, Operand.tmp t3), (3, Operand.tmp t4), (7, Operand.tmp t5)].map fun (i, x) => (i, r x)).toList) = some (lzZ 1847 #[.int .i64 a, .int .i64 b, .int .i64 c, .int .i64 d, .pointer (some ⟨gm, 0, none⟩), .int .i64 taken, .pointer (some ⟨gw, 0, none⟩), .pointer none, .pointer none] (.slice (some ⟨gl, 0, none⟩) nl nl)) := by
  have : Try.prog.built 115 [(0, .agg #[.int .i64 a, .int .i64 b, .int .i64 c, .int .i64 d]), (1, .pointer (some ⟨gm, 0, none⟩)), (2, .int .i64 taken), (3, .pointer (some ⟨gw, 0, none⟩)), (7, .slice (some ⟨gl, 0, none⟩) nl nl)] = some (lzZ 1847 #[.int .i64 a, .int .i64 b, .int .i64 c, .int .i64 d, .pointer (some ⟨gm, 0, none⟩), .int .i64 taken, .pointer (some ⟨gw, 0, none⟩), .pointer none, .pointer none] (.slice (some ⟨gl, 0, none⟩) nl nl)) := by
    have hz := lz_zero
    have hp := lz_places
    unfold Program.built
    cases hi : Try.prog.info? 115 with
    | none => rw [hi] at hz; cases hz
    | some it =>
      rw [hi] at hz
      cases hzz : it.zero with
      | none => rw [Option.map_some, hzz] at hz; injection hz with hz; cases hz
      | some z =>
        rw [Option.map_some, hzz] at hz
        injection hz with hz
        injection hz with hz
        have hze : z.cells = (z.cells.toList).toArray := by simp
        have hzc : z.cells = lzZ 1847 #[.int .i64 0, .int .i64 0, .int .i64 0, .int .i64 0, .pointer none, .int .i64 0, .pointer none, .pointer none, .pointer none] (.slice none 0 0) := hze.trans ((congrArg List.toArray hz).trans (lzZ_zero 1847))
        cases hu : Try.prog.underlying 115 with
        | none => rw [hu] at hp; cases hp
        | some ud =>
          rw [hu] at hp
          cases ud with
          | struct fs =>
            dsimp only at hp ⊢
            rw [hzz, hp]
            dsimp only
            rw [hzc]
            exact lz_fill 1847 a b c d gm gw gl nl taken _ rfl rfl rfl rfl rfl
          | _ => cases hp
  simpa [h1, h2, h3, h4, h5] using this
theorem lz_box (w : World) (cs : Array Value) : (Instr.box 115 (.agg cs)).run Try.prog w = .ok (.pointer (some ⟨w.heap.size, 0, none⟩)) (w.alloc (.cells cs 115)) := by
  kernel_rfl
theorem mem_code {m : MS} {n : Nat} (h : (m.mem n).1 = false) : (m.mem n).2.code ≠ 0 := by
  revert h
  unfold MS.mem
  split
  · intro _; assumption
  · split
    · intro _; show 101 ≠ 0; decide
    · intro h; cases h
/-- an operation of a drawn region whose run is known. -/
theorem step_run {P : Program} {ops : Array Oper} {o : Oper} {a : Act} {w : World} {K : Act → World → Prop} {Q : Exit → Act → World → Prop} {E : Prop} (d : Option Tmp) (hgd : o.guard = none) (hd : o.dst = d)
    (v : Value) (w' : World) (hr : (execOp a.eval o).run P w = .ok (.value v) w') (h : K (a.put d v) w') : if Region.wanted o (yielded ops a.tmps) = true then Oper.wp P o a w K Q else E := by
  have hw : Region.wanted o (yielded ops a.tmps) = true := by simp [Region.wanted, hgd]
  rw [if_pos hw]
  show o.upon P a K Q ((execOp a.eval o).run P w)
  rw [hr, Oper.upon_value, hd]
  exact h
theorem shl_nl {p : Lset} (h1 : 0 ≤ p.lc) (h2 : 0 ≤ p.lp) (h3 : p.lc + p.lp ≤ 6) : IntKind.i64.wrap (768 * 2 ^ min (IntKind.u64.wrap (IntKind.i64.wrap (p.lc + p.lp))).toNat 64) = ((p.nl : Nat) : Int) := by
  have e1 : IntKind.i64.wrap (p.lc + p.lp) = p.lc + p.lp := by rw [IntKind.wrap_i64]; omega
  have e2 : IntKind.u64.wrap (p.lc + p.lp) = p.lc + p.lp := by rw [IntKind.wrap_u64]; omega
  rw [e1, e2, show min (p.lc + p.lp).toNat 64 = (p.lc + p.lp).toNat by omega]
  have hp : 2 ^ (p.lc + p.lp).toNat ≤ 64 := by
    have : 2 ^ (p.lc + p.lp).toNat ≤ 2 ^ 6 := Nat.pow_le_pow_right (by decide) (by omega)
    exact this
  have e3 : (768 : Int) * 2 ^ (p.lc + p.lp).toNat = ((768 * 2 ^ (p.lc + p.lp).toNat : Nat) : Int) := by simp
  rw [e3, IntKind.wrap_i64]
  unfold Lset.nl
  omega
set_option maxRecDepth 1000000 in
theorem zero115_list : (Try.zeroCells115 : Array Value).toList = [.int .i64 0, .int .i64 0, .int .i64 0, .int .i64 0, .pointer none, .int .i64 0, .pointer none, .pointer none, .pointer none] ++ List.replicate 1847 (.int .u16 0) ++ [.slice none 0 0, .int .i64 0, .int .u32 0, .int .u32 0, .int .u32 0, .int .u32 0, .int .i64 0, .int .i64 0, .bool false, .bool false] := by kernel_rfl
theorem zero115_eq : (Try.zeroCells115 : Array Value) = lzZ 1847 #[.int .i64 0, .int .i64 0, .int .i64 0, .int .i64 0, .pointer none, .int .i64 0, .pointer none, .pointer none, .pointer none] (.slice none 0 0) := by
  have e : (Try.zeroCells115 : Array Value) = (Try.zeroCells115 : Array Value).toList.toArray := by simp
  exact e.trans ((congrArg List.toArray zero115_list).trans (lzZ_zero 1847))
theorem zero115 (a b c d : Int) (gm gw gl nl taken : Nat) : ((((((((Try.zeroCells115.setIfInBounds 0 (.int .i64 a)).setIfInBounds 1 (.int .i64 b)).setIfInBounds 2 (.int .i64 c)).setIfInBounds 3 (.int .i64 d)).setIfInBounds 4 (.pointer (some ⟨gm, 0, none⟩))).setIfInBounds 5 (.int .i64 ((taken : Nat) : Int))).setIfInBounds 6 (.pointer (some ⟨gw, 0, none⟩))).setIfInBounds 1856 (.slice (some ⟨gl, 0, none⟩) nl nl)) =
    lzZ 1847 #[.int .i64 a, .int .i64 b, .int .i64 c, .int .i64 d, .pointer (some ⟨gm, 0, none⟩), .int .i64 ((taken : Nat) : Int), .pointer (some ⟨gw, 0, none⟩), .pointer none, .pointer none] (.slice (some ⟨gl, 0, none⟩) nl nl) := by
  rw [zero115_eq, lzZ_setH _ _ _ rfl 0 _ (by decide), lzZ_setH _ _ _ rfl 1 _ (by decide), lzZ_setH _ _ _ rfl 2 _ (by decide), lzZ_setH _ _ _ rfl 3 _ (by decide), lzZ_setH _ _ _ rfl 4 _ (by decide), lzZ_setH _ _ _ rfl 5 _ (by decide), lzZ_setH _ _ _ rfl 6 _ (by decide)]
  exact lzZ_setL 1847 _ _ _ rfl
theorem zero_cells (p : Lset) (taken : Nat) (L : LL) (lv : Value) (h1 : 0 ≤ p.lc) (h2 : 0 ≤ p.lp) (h3 : 0 ≤ p.pb) (h4 : 0 ≤ p.dict) :
    (LS.zero p taken).cells L lv (.pointer none) (.pointer none) = lzZ 1847 #[.int .i64 p.lc, .int .i64 p.lp, .int .i64 p.pb, .int .i64 p.dict, .pointer (some ⟨L.gm, 0, none⟩), .int .i64 ((taken : Nat) : Int), .pointer (some ⟨L.gw, 0, none⟩), .pointer none, .pointer none] lv := by
  show (#[.int .i64 ((p.lc.toNat : Nat) : Int), .int .i64 ((p.lp.toNat : Nat) : Int), .int .i64 ((p.pb.toNat : Nat) : Int), .int .i64 ((p.dict.toNat : Nat) : Int), .pointer (some ⟨L.gm, 0, none⟩), .int .i64 ((taken : Nat) : Int), .pointer (some ⟨L.gw, 0, none⟩), .pointer none, .pointer none] ++ arr .u16 1847 (fun _ => 0)) ++ _ = _
  rw [Int.toNat_of_nonneg h1, Int.toNat_of_nonneg h2, Int.toNat_of_nonneg h3, Int.toNat_of_nonneg h4]
  rfl
theorem lmake_u16 (n : Nat) (hn : n ≤ 1048576) (w : World) : (Instr.makeSlice 82 (.int .i64 n) (.int .i64 n)).run Try.prog w = .ok (.slice (some ⟨w.heap.size, 0, none⟩) n n) (w.alloc (.cells (arr .u16 n (fun _ => 0)) 40)) := make_u16 n hn w
set_option maxRecDepth 100000 in
set_option maxHeartbeats 4000000 in
theorem lnew_any (gm : Nat) (m : MS) (p : Lset) (size : Int) (w : World) (h : MAt w gm m) (hok : m.Ok) (hp : p.Light) (hs : size ≤ 1048576) (hs0 : -9223372036854775808 ≤ size) :
    Calls Try.prog 20 #[p.val, .int .i64 size, .pointer (some ⟨gm, 0, none⟩)] w (LNewPost gm m p size w) := by
  have hm : p.may = true := Lset.may_iff.2 hp.may
  have hnl := hp.nl_le
  have hprob : p.probs = 1847 + p.nl := by unfold Lset.probs Lset.nl; rw [if_pos hm]
  have hpb : (p.probs : Int) ≤ 60000 := by omega
  have hpb0 : (0 : Int) ≤ (p.probs : Int) := by omega
  have hneed : (2 : Int) * (p.probs : Int) = ((p.need : Nat) : Int) := by unfold Lset.need; simp
  have HM := hid hm
  have HP := hid hp
  have HNEED := hid hneed
  have H := hid h
  have HO := hid hok
  have HPR := hid hprob
  have HNL := hid hnl
  obtain ⟨hm1, hm2, hm3, hm4, hm5, hm6, hm7, hm8⟩ := hp.may
  have hli := hp.li
  clear hm hp hneed h hok hprob hnl hm6
  have HV := hid (show p.val = .agg #[.int .i64 p.lc, .int .i64 p.lp, .int .i64 p.pb, .int .i64 p.dict] from rfl)
  rw [HV.out]
  go_enter Try.func20, Try.ntmps20
  go_wp2_with fail
  refine (lmay_any p _).mono ?_
  rintro e w1 ⟨rfl, hf1⟩
  rw [HM.out]
  have hb1 := hf1.blk (blk_new w (.cells #[.int .i64 p.lc, .int .i64 p.lp, .int .i64 p.pb, .int .i64 p.dict] 23)) id
  have c0 := blk_cell hb1 (j := 0) (v := .int .i64 p.lc) rfl
  have c1 := blk_cell hb1 (j := 1) (v := .int .i64 p.lp) rfl
  have c2 := blk_cell hb1 (j := 2) (v := .int .i64 p.pb) rfl
  have c3 := blk_cell hb1 (j := 3) (v := .int .i64 p.dict) rfl
  have F1 := hid (((Fr.refl Non w).alloc (.cells #[.int .i64 p.lc, .int .i64 p.lp, .int .i64 p.pb, .int .i64 p.dict] 23)).trans hf1)
  have HB1 := hid hb1
  clear hf1 hb1
  go_wp2_with fail
  refine (lprobs_any p _).mono ?_
  rintro e w2 ⟨rfl, hf2⟩
  have HB2 := hid (hf2.blk HB1.out id)
  have F2 := hid (F1.out.trans hf2)
  clear c0 c1 c2 c3 hf2
  go_upto_region 4 with fail
  rw [HNEED.out]
  go_wp2_with fail
  refine (mem_m gm m p.need _ (by exact F2.out.blk H.out id) HO.out (by have := HNEED.out; omega)).mono ?_
  rintro e w3 ⟨rfl, hf3, hm3'⟩
  have hlt : gm < w.heap.size := blk_lt H.out
  have HLT := hid hlt
  have F3 := hid (show Fr (fun k => k = gm) w w3 from (F2.out.any).trans hf3)
  have HB3 := hid (hf3.blk HB2.out (fun e => by have : w.heap.size = gm := e; omega))
  have M3 := hid hm3'
  clear hf3 hm3' hlt
  cases hc : (m.mem p.need).1 with
  | false =>
    have HC := hid hc
    clear hc
    go_wp2_with fail
    refine (mcode_m gm _ _ M3.out).mono ?_
    rintro e w4 ⟨rfl, rfl⟩
    go_wp2_with fail
    go_ret2
    exact .inl ⟨_, _, (fun e => by rw [HC.out] at e; cases e.1), rfl, F3.out, M3.out, .inl ⟨HC.out, rfl, rfl⟩⟩
  | true =>
    have HC := hid hc
    clear hc
    have c3 := blk_cell HB3.out (j := 3) (v := .int .i64 p.dict) rfl
    have hm1ok : (m.mem p.need).2.Ok := MS.mem_ok HO.out _
    have HM1 := hid hm1ok
    have KEY := hid (show ∀ v : Int, v = min p.dict size → Calls Try.prog 55 #[.int .i64 v, .pointer (some ⟨gm, 0, none⟩)] w3 (WNewPost gm (m.mem p.need).2 (min p.dict size) w3) from fun v hv => by
      subst hv
      exact wnew_any gm _ _ w3 M3.out HM1.out (by omega))
    clear hm1ok
    go_wp2_with fail
    all_goals
      refine (KEY.out _ (by omega)).mono ?_
      rintro e w4 ⟨hf4, hm4', hcase⟩
      have M4 := hid hm4'
      have F4 := hid (F3.out.trans hf4)
      have HB4 := hid (hf4.blk HB3.out (fun e => by have : w.heap.size = gm := e; have := HLT.out; omega))
      have s3 := F3.out.size
      clear hf4 hm4' c3
      rcases hcase with ⟨hc4, rfl⟩ | ⟨hc4, gw, gn, rfl, hgw, hgn, hwin⟩
      · have HC4 := hid hc4
        have q1 : (((((m.mem p.need).2.mem (wsize (min p.dict size))).2.code : Nat) : Int) != 0) = true := by
          have e := mem_code HC4.out
          simp; omega
        have M5ok := hid (MS.mem_ok HM1.out (wsize (min p.dict size)))
        clear hc4
        go_wp2_with fail
        refine (free_m gm _ p.need _ (by exact M4.out) M5ok.out (by have := HNEED.out; omega)).mono ?_
        rintro e w5 ⟨rfl, hf5, hm5'⟩
        have F5 := hid (F4.out.trans hf5)
        have M5 := hid hm5'
        clear hf5 hm5'
        go_wp2_with fail
        go_ret2
        exact .inl ⟨_, _, (fun e => by rw [HC4.out] at e; cases e.2), rfl, F5.out, M5.out, .inr ⟨HC.out, rfl, rfl⟩⟩
      · have HC4 := hid hc4
        have hlt4 : gw < w4.heap.size ∧ gn < w4.heap.size := ⟨hwin.lt.1, hwin.lt.2.1⟩
        have hne4 : gw ≠ gn := hwin.lt.2.2
        have HWIN := hid hwin
        have c0 := blk_cell HB4.out (j := 0) (v := .int .i64 p.lc) rfl
        have c1 := blk_cell HB4.out (j := 1) (v := .int .i64 p.lp) rfl
        have c2 := blk_cell HB4.out (j := 2) (v := .int .i64 p.pb) rfl
        have c3 := blk_cell HB4.out (j := 3) (v := .int .i64 p.dict) rfl
        clear hc4 hwin
        go_upto_region 10 with fail
        have hsh : IntKind.i64.wrap (768 * 2 ^ min (IntKind.u64.wrap (IntKind.i64.wrap (p.lc + p.lp))).toNat 64) = ((p.nl : Nat) : Int) := shl_nl hm1 hm3 hli
        have hmk : ∀ w : World, (Instr.makeSlice 82 (.int .i64 ((p.nl : Nat) : Int)) (.int .i64 ((p.nl : Nat) : Int))).run Try.prog w = .ok (.slice (some ⟨w.heap.size, 0, none⟩) p.nl p.nl) (w.alloc (.cells (arr .u16 p.nl (fun _ => 0)) 40)) := fun w => lmake_u16 p.nl (by have := HNL.out; omega) w
        go_region_held3 (fun wx => wx.cell? ⟨w.heap.size, 0, none⟩ = some (.int .i64 p.lc) ∧ wx.cell? ⟨w.heap.size, 1, none⟩ = some (.int .i64 p.lp) ∧ wx.cell? ⟨w.heap.size, 2, none⟩ = some (.int .i64 p.pb) ∧ wx.cell? ⟨w.heap.size, 3, none⟩ = some (.int .i64 p.dict)) (exact ⟨Fr.cell (S := Non) (by repeat (first | exact Fr.refl _ _ | refine Fr.drewN ?_ _ | refine Fr.drew ?_ | refine Fr.alloc ?_ _)) c0 (fun e => e), Fr.cell (S := Non) (by repeat (first | exact Fr.refl _ _ | refine Fr.drewN ?_ _ | refine Fr.drew ?_ | refine Fr.alloc ?_ _)) c1 (fun e => e), Fr.cell (S := Non) (by repeat (first | exact Fr.refl _ _ | refine Fr.drewN ?_ _ | refine Fr.drew ?_ | refine Fr.alloc ?_ _)) c2 (fun e => e), Fr.cell (S := Non) (by repeat (first | exact Fr.refl _ _ | refine Fr.drewN ?_ _ | refine Fr.drew ?_ | refine Fr.alloc ?_ _)) c3 (fun e => e)⟩) (fail)
        all_goals
          clear hsh hmk c0 c1 c2 c3
          rw [zero115 p.lc p.lp p.pb p.dict gm gw w4.heap.size p.nl p.need]
          obtain ⟨w5, hw5⟩ : ∃ w5, w5 = ((w4.alloc (.cells (arr .u16 p.nl (fun _ => 0)) 40)).alloc (.cells (lzZ 1847 #[.int .i64 p.lc, .int .i64 p.lp, .int .i64 p.pb, .int .i64 p.dict, .pointer (some ⟨gm, 0, none⟩), .int .i64 ((p.need : Nat) : Int), .pointer (some ⟨gw, 0, none⟩), .pointer none, .pointer none] (.slice (some ⟨w4.heap.size, 0, none⟩) p.nl p.nl)) 115)).drew := ⟨_, rfl⟩
          rw [← hw5]
          have hf5 : Fr Non w4 w5 := by rw [hw5]; exact (((Fr.refl _ _).alloc _).alloc _).drew
          obtain ⟨L, hL⟩ : ∃ L : LL, L = ⟨w4.heap.size + 1, w4.heap.size, gw, gn, gm, wsize (min p.dict size), p.nl⟩ := ⟨_, rfl⟩
          have hmem : LMem L (.pointer none) (.pointer none) w5 (LS.zero p p.need) := by
            have hg : gm < w4.heap.size := blk_lt M4.out
            have hg2 := HLT.out
            refine ⟨?_, ?_, ?_, ?_, ?_⟩
            · rw [zero_cells p p.need L _ hm1 hm3 (by omega) (by omega), hL, hw5]
              have hb := blk_new (w4.alloc (.cells (arr .u16 p.nl (fun _ => 0)) 40)) (.cells (lzZ 1847 #[.int .i64 p.lc, .int .i64 p.lp, .int .i64 p.pb, .int .i64 p.dict, .pointer (some ⟨gm, 0, none⟩), .int .i64 ((p.need : Nat) : Int), .pointer (some ⟨gw, 0, none⟩), .pointer none, .pointer none] (.slice (some ⟨w4.heap.size, 0, none⟩) p.nl p.nl)) 115)
              have hz : (w4.alloc (.cells (arr .u16 p.nl (fun _ => 0)) 40)).heap.size = w4.heap.size + 1 := by simp
              rw [hz] at hb
              exact blk_drew hb
            · rw [hL, hw5]
              exact blk_drew (blk_alloc (blk_new _ _))
            · rw [hL]
              exact HWIN.out.keep hf5 id id
            · rw [hL]
              exact ⟨by show w4.heap.size + 1 ≠ w4.heap.size; omega, by show w4.heap.size + 1 ≠ gw; omega, by show w4.heap.size + 1 ≠ gn; omega, by show w4.heap.size ≠ gw; omega, by show w4.heap.size ≠ gn; omega, hne4, by show gm ≠ w4.heap.size + 1; omega, by show gm ≠ w4.heap.size; omega, by show gm ≠ gw; omega, by show gm ≠ gn; omega⟩
            · rw [hL]; exact HNL.out
          have hset : SetOk L p.lc.toNat p.lp.toNat p.pb.toNat := Lset.Light.set HP.out L (by rw [hL])
          have hLd : L.gd = w4.heap.size + 1 := by rw [hL]
          have hLf : ∀ k, L.foot k → w.heap.size ≤ k ∧ k < w5.heap.size ∧ k ≠ gm := by
            have h2 := HLT.out
            have h5 : w5.heap.size = w4.heap.size + 1 + 1 := by rw [hw5]; simp
            rintro k (e | e | e | e)
            · have : k = w4.heap.size + 1 := by rw [e, hL]
              omega
            · have : k = w4.heap.size := by rw [e, hL]
              omega
            · have : k = gw := by rw [e, hL]
              omega
            · have : k = gn := by rw [e, hL]
              omega
          have hLx : L.gm = gm ∧ L.n = wsize (min p.dict size) ∧ L.nl = p.nl := by rw [hL]; exact ⟨rfl, rfl, rfl⟩
          have HLX := hid hLx
          have HLF := hid hLf
          have HSET := hid hset
          have HMEM := hid hmem
          have F5 := hid (F4.out.trans hf5.any)
          have M5 := hid (hf5.blk M4.out id)
          have HB5 := hid (hf5.blk HB4.out id)
          rw [← hLd]
          clear hL hw5 hf5 hmem hset hLd hLf hLx
          go_wp2_with (refine wpList_load_row rfl 23 _ rfl w.heap.size rfl 23 #[.int .i64 p.lc, .int .i64 p.lp, .int .i64 p.pb, .int .i64 p.dict] (0, 0) _ (by exact HB5.out) Try.underlying23 rfl (by kernel_rfl) ?_)
          have hrs := lreset_raw L (.pointer none) (.pointer none) (LS.zero p p.need) p.lc.toNat p.lp.toNat p.pb.toNat p.dict w5 HMEM.out ⟨(fun x hx => by cases hx), by show p.dict.toNat ≤ _; omega, by show 0 ≤ 273; decide⟩ HSET.out
          rw [Int.toNat_of_nonneg hm1, Int.toNat_of_nonneg hm3, Int.toNat_of_nonneg hm5] at hrs
          refine hrs.mono ?_
          clear hrs
          rintro e w6 ⟨rfl, hf6, hl6⟩
          have hM6 : MAt w6 gm ((m.mem p.need).2.mem (wsize (min p.dict size))).2 := hf6.blk M5.out (fun e => (HLF.out _ e).2.2 rfl)
          have F6 := hid (F5.out.then hf6 (fun k hk e => by have := (HLF.out _ e).1; omega))
          have M6 := hid hM6
          have L6 := hid hl6
          have s6 := hf6.size
          clear hf6 hl6 hM6
          go_wp2_with fail
          go_ret2
          exact .inr ⟨HC.out, HC4.out, L, rfl, F6.out, M6.out, L6.out, HLX.out.1, HLX.out.2.1, HLX.out.2.2, fun k hk => ⟨(HLF.out k hk).1, by have := (HLF.out k hk).2.1; omega⟩⟩
end Go.Proofs.Ytjnegcambbeblaa

/- lzma: how a decoder runs, plain; small helps for Unpack. -/
namespace Go.Proofs.Ytjnegcambbeblaa
open Go.RowKit

theorem feedNew_q (w : World) (n : Nat) (f : Nat → Int) (hf : ∀ i, i < n → 0 ≤ f i ∧ f i < 256) (hn : n ≤ 1048576) (e : Ending) (w' : World) (h : NewFeedPost w n f e w') :
    ∃ g a' c', e = .returned (.pointer (some ⟨g, 0, none⟩)) ∧ Fr Non w w' ∧ (feed g a' n c' f hf).I w' 0 ∧ ∀ k, (feed g a' n c' f hf).foot k → w.heap.size ≤ k ∧ k < w'.heap.size := by
  obtain ⟨g, a', c', h1, h2, h3, h4, h5⟩ := h
  exact ⟨g, a', c', h1, h2, ⟨Nat.zero_le _, hn, h3, h4⟩, h5⟩
def lenV : Value → Nat
  | .slice _ n _ => n
  | _ => 0
theorem Own.lenV {w : World} {base : Nat} {k : IntKind} {e : TypeId} {v : Value} {xs : List Int} (h : Own w base k e v xs) : Go.Proofs.Ytjnegcambbeblaa.lenV v = xs.length := by
  obtain ⟨a, c, rfl, _⟩ := h.row
  rfl
theorem Own.low {w : World} {base b2 : Nat} {k : IntKind} {e : TypeId} {v : Value} {xs : List Int} (h : Own w base k e v xs) (hb : b2 ≤ base) : Own w b2 k e v xs := by
  obtain ⟨h1, h2⟩ := h
  refine ⟨h1, ?_⟩
  rcases h2 with h2 | ⟨g, cap, cur, hv, hg, r⟩
  · exact .inl h2
  · exact .inr ⟨g, cap, cur, hv, by omega, r⟩
theorem Try.info_u8q : (Try.prog.info? 5).map (fun i => (i.zero, i.size, i.bytes)) = some (some (.int .u8 0), 1, 1) := by kernel_rfl

/-! ### a decoder's run -/
def lrun {T : Type} (nx : T → Int × Bool × T) (L : LL) : Nat → LS → RD T → LS × RD T
  | 0, s, d => (s, d)
  | k + 1, s, d => (lnext nx L (lrun nx L k s d).1 (lrun nx L k s d).2).2
/-- the k-th byte, and whether it is there. -/
def lbyte {T : Type} (nx : T → Int × Bool × T) (L : LL) (s : LS) (d : RD T) (k : Nat) : Int := (lnext nx L (lrun nx L k s d).1 (lrun nx L k s d).2).1.1
def lok {T : Type} (nx : T → Int × Bool × T) (L : LL) (s : LS) (d : RD T) (k : Nat) : Bool := (lnext nx L (lrun nx L k s d).1 (lrun nx L k s d).2).1.2
def lbytes {T : Type} (nx : T → Int × Bool × T) (L : LL) (s : LS) (d : RD T) (k : Nat) : List Int := (List.range k).map (lbyte nx L s d)
theorem lbytes_snoc {T : Type} (nx : T → Int × Bool × T) (L : LL) (s : LS) (d : RD T) (k : Nat) : lbytes nx L s d (k + 1) = lbytes nx L s d k ++ [lbyte nx L s d k] := by
  unfold lbytes; rw [List.range_succ, List.map_append]; rfl
theorem lbytes_len {T : Type} (nx : T → Int × Bool × T) (L : LL) (s : LS) (d : RD T) (k : Nat) : (lbytes nx L s d k).length = k := by simp [lbytes]
theorem lrun_fit {T : Type} (nx : T → Int × Bool × T) (L : LL) (s : LS) (d : RD T) (h : s.Fit L) : ∀ k, (lrun nx L k s d).1.Fit L
  | 0 => h
  | k + 1 => lnext_fit nx L _ _ (lrun_fit nx L s d h k)
theorem lrun_place {T : Type} (nx : T → Int × Bool × T) (L : LL) (s : LS) (d : RD T) : ∀ k, (lrun nx L k s d).1.place ≤ s.place + k
  | 0 => Nat.le_refl _
  | k + 1 => by
    have h1 := lnext_place nx L (lrun nx L k s d).1 (lrun nx L k s d).2
    have h2 := lrun_place nx L s d k
    show (lnext nx L (lrun nx L k s d).1 (lrun nx L k s d).2).2.1.place ≤ _
    omega
theorem lnext_same {T : Type} (nx : T → Int × Bool × T) (L : LL) (s : LS) (d : RD T) : (lnext nx L s d).2.1.taken = s.taken ∧ (lnext nx L s d).2.1.dict = s.dict := by
  have e := lpacket_same nx L s d
  have h2 : ∀ (s : LS) (d : RD T), (lnext2 L s d).2.1.taken = s.taken ∧ (lnext2 L s d).2.1.dict = s.dict := by
    intro s d
    unfold lnext2
    split <;> exact ⟨rfl, rfl⟩
  unfold lnext
  split
  · exact ⟨rfl, rfl⟩
  · split
    · split
      · exact ⟨e.taken, e.dict⟩
      · exact ⟨(h2 _ _).1.trans e.taken, (h2 _ _).2.trans e.dict⟩
    · exact h2 _ _
theorem lrun_taken {T : Type} (nx : T → Int × Bool × T) (L : LL) (s : LS) (d : RD T) : ∀ k, (lrun nx L k s d).1.taken = s.taken
  | 0 => rfl
  | k + 1 => (lnext_same nx L _ _).1.trans (lrun_taken nx L s d k)
theorem lfinish_taken {S : Type} (nx : S → Int × Bool × S) (L : LL) (s : LS) (d : RD (AhS S)) : (lfinish nx L s d).2.1.taken = s.taken := by
  have e := lpacket_same (anx nx) L s (lover nx s d).2
  unfold lfinish
  split
  · rfl
  · split
    · rfl
    · split
      · exact e.taken
      · exact e.taken
/-- a decoder's ring alone counts. -/
def LL.of (n : Nat) : LL := ⟨0, 0, 0, 0, 0, n, 0⟩
theorem lnext_of {T : Type} (nx : T → Int × Bool × T) (L : LL) (s : LS) (d : RD T) : lnext nx L s d = lnext nx (LL.of L.n) s d := rfl
theorem lrun_of {T : Type} (nx : T → Int × Bool × T) (L : LL) (s : LS) (d : RD T) : ∀ k, lrun nx L k s d = lrun nx (LL.of L.n) k s d
  | 0 => rfl
  | k + 1 => by
    show (lnext nx L _ _).2 = (lnext nx (LL.of L.n) _ _).2
    rw [lrun_of nx L s d k, lnext_of]
theorem lbyte_of {T : Type} (nx : T → Int × Bool × T) (L : LL) (s : LS) (d : RD T) (k : Nat) : lbyte nx L s d k = lbyte nx (LL.of L.n) s d k := by
  unfold lbyte
  rw [lrun_of, lnext_of]
theorem lok_of {T : Type} (nx : T → Int × Bool × T) (L : LL) (s : LS) (d : RD T) (k : Nat) : lok nx L s d k = lok nx (LL.of L.n) s d k := by
  unfold lok
  rw [lrun_of, lnext_of]
theorem lfinish_of {S : Type} (nx : S → Int × Bool × S) (L : LL) (s : LS) (d : RD (AhS S)) : lfinish nx L s d = lfinish nx (LL.of L.n) s d := rfl
/-- a new decoder over a source. -/
def lstart (p : Lset) : LS := LS.new p p.need
/-- what a stream is unpacked to: its bytes, or nothing. -/
def lunpack {S : Type} (nx : S → Int × Bool × S) (s0 : S) (p : Lset) (N size : Nat) : Option (List Int) :=
  if (List.range size).all (lok (anx nx) (LL.of N) (lstart p) (RD.new (anx nx) ⟨s0, 0, false⟩)) = true ∧
     (lfinish nx (LL.of N) (lrun (anx nx) (LL.of N) size (lstart p) (RD.new (anx nx) ⟨s0, 0, false⟩)).1 (lrun (anx nx) (LL.of N) size (lstart p) (RD.new (anx nx) ⟨s0, 0, false⟩)).2).1 = true
  then some (lbytes (anx nx) (LL.of N) (lstart p) (RD.new (anx nx) ⟨s0, 0, false⟩) size) else none
theorem lstart_fit (p : Lset) (L : LL) : (lstart p).Fit L := fun h => absurd rfl h
theorem lstart_place (p : Lset) : (lstart p).place = 0 := rfl
theorem lstart_taken (p : Lset) : (lstart p).taken = p.need := rfl
set_option maxRecDepth 100000 in
theorem clip_any (a : Option Addr) (n c : Nat) (w : World) (hc : n ≤ c) (hz : a = none → c = 0) (hn : n ≤ 1048576) :
    Calls Try.prog 52 #[.slice a n c] w fun e w' => e = .returned (.slice a n n) ∧ w = w' := by
  cases a with
  | none =>
    have : c = 0 := hz rfl
    subst this
    have : n = 0 := by omega
    subst this
    go_enter Try.func52, Try.ntmps52
    go_wp2_with fail
    go_ret
    exact ⟨rfl, rfl⟩
  | some ad =>
    have h1 : (n : Int) ≤ (c : Int) := by omega
    have h0 : (0 : Int) ≤ (n : Int) := by omega
    clear hz
    go_enter Try.func52, Try.ntmps52
    go_wp2_with fail
    go_ret
    exact ⟨rfl, rfl⟩
end Go.Proofs.Ytjnegcambbeblaa

/- lzma: Unpack, of a setting that may be and is not too great, where the meter's memory is enough. -/
namespace Go.Proofs.Ytjnegcambbeblaa
open Go.RowKit

theorem meter_no_u8 (m : MS) (j : Nat) (x : Int) : m.cells[j]? ≠ some (.int .u8 x) := by
  unfold MS.cells
  intro e
  rcases j with _ | _ | _ | _ | _ | _ | _ | _ | _ | _ | _ | _ | j <;> simp at e
/-- a row of bytes is no meter. -/
theorem RowIn.meter {lo n g : Nat} {w w' : World} {a : Option Addr} {f : Nat → Int} {m : MS} (h : RowIn lo .u8 w a n f) (hm : MAt w g m) (hf : Fr (fun k => k = g) w w') : RowIn lo .u8 w' a n f := by
  rcases h with h | ⟨b, off, e, hb, hc⟩
  · exact .inl h
  · refine .inr ⟨b, off, e, hb, fun i hi => hf.cell (hc i hi) fun e1 => ?_⟩
    have e2 : b = g := e1
    have h1 := hc i hi
    rw [e2, cell_of_row w g _ m.cells _ (0, 0) hm] at h1
    exact meter_no_u8 m _ _ h1
/-- a row of bytes that lies from a block on. -/
def RowO (w : World) (base : Nat) (v : Value) (xs : List Int) : Prop :=
  ∃ a c, v = .slice a xs.length c ∧ xs.length ≤ c ∧ (a = none → c = 0) ∧ RowIn w.heap.size .u8 w a xs.length (fun i => xs.getD i 0) ∧ ∀ ad, a = some ad → base ≤ ad.block
theorem Own.rowO {w : World} {base : Nat} {e : TypeId} {v : Value} {xs : List Int} (h : Own w base .u8 e v xs) : RowO w base v xs := by
  obtain ⟨a, c, h1, h2, h3, h4⟩ := h.row
  refine ⟨a, c, h1, h2, fun e => ?_, h4, fun ad e => (h.block ad.block (by rw [h1, e]; rfl)).1⟩
  have h5 := h.2
  rcases h5 with ⟨h6, h7⟩ | ⟨g, cap, cur, hv, hg, r⟩
  · rw [h1] at h6; injection h6
  · rw [h1, e] at hv; injection hv with e1 e2 e3; cases e1
theorem Own.clip {w : World} {base : Nat} {e : TypeId} {a : Option Addr} {n c : Nat} {xs : List Int} (h : Own w base .u8 e (.slice a n c) xs) : RowO w base (.slice a n n) xs := by
  obtain ⟨a', c', h1, h2, h3, h4, h5⟩ := h.rowO
  injection h1 with e1 e2 e3
  subst e1
  refine ⟨a, n, by rw [e2], by omega, fun e => ?_, h4, h5⟩
  have := h3 e
  omega
theorem RowO.fr {w w' : World} {base : Nat} {v : Value} {xs : List Int} {S : Nat → Prop} (h : RowO w base v xs) (hf : Fr S w w') (hs : ∀ k, base ≤ k → k < w.heap.size → ¬ S k) : RowO w' base v xs := by
  obtain ⟨a, c, h1, h2, h3, h4, h5⟩ := h
  refine ⟨a, c, h1, h2, h3, ?_, h5⟩
  rcases h4 with h4 | ⟨b, off, e, hb, hc⟩
  · exact .inl h4
  · exact .inr ⟨b, off, e, Nat.lt_of_lt_of_le hb hf.size, fun i hi => hf.cell (hc i hi) (hs b (h5 _ e) hb)⟩
theorem RowO.low {w : World} {base b2 : Nat} {v : Value} {xs : List Int} (h : RowO w base v xs) (hb : b2 ≤ base) : RowO w b2 v xs := by
  obtain ⟨a, c, h1, h2, h3, h4, h5⟩ := h
  exact ⟨a, c, h1, h2, h3, h4, fun ad e => Nat.le_trans hb (h5 ad e)⟩
/-- the meter behind an Unpack. -/
def lmet (m : MS) (p : Lset) (N : Nat) : MS := ((((m.mem p.need).2.mem N).2).free p.need).free N
def LUnPost (gm : Nat) (R : Option (List Int)) (m' : MS) (w : World) (e : Ending) (w' : World) : Prop :=
  Fr (fun k => k = gm) w w' ∧ MAt w' gm m' ∧ m'.Ok ∧
    ((R = none ∧ e = .returned (.tuple #[.slice none 0 0, .int .i64 12])) ∨ (∃ xs v, R = some xs ∧ e = .returned (.tuple #[v, .int .i64 0]) ∧ RowO w' w.heap.size v xs))
theorem lcloseD_on {S : Type} {L : LL} {t : Sour S} {ga gr : Nat} {w : World} {s : LS} {d : RD (AhS S)} {m : MS} (h : LOn L t ga gr w s d) (hm : MAt w L.gm m) (hok : m.Ok) (T : Nat) (hT : s.taken = T) (ht : T ≤ 1048576) (u : FrameMode) :
    CallsD Try.prog 28 #[.pointer (some ⟨L.gd, 0, none⟩)] u w fun e u' w' => u' = u ∧ e = .returned (.tuple #[]) ∧ Fr (fun k => k = L.gd ∨ k = L.gw ∨ k = L.gm) w w' ∧ MAt w' L.gm ((m.free T).free L.n) ∧ ((m.free T).free L.n).Ok := by
  subst hT
  obtain ⟨next, hr⟩ := h.is_.raw hm hok ht
  intro c cs hc
  obtain ⟨e, u', w', fr, ⟨h1, h2, h3, h4⟩, h5, h6, h7⟩ := lcloseD_raw L L.lit _ _ s _ L.n next _ m u w hr c cs hc
  exact ⟨e, u', w', fr, ⟨h1, h2, h3, h4.met, h4.ok⟩, h5, h6, h7⟩
/-- the last of a call that defers Close. -/
theorem lun_door {L : LL} {t : Sour Nat} {ga gr gm : Nat} {w wr : World} {s : LS} {d : RD (AhS Nat)} {m : MS} {T N : Nat} {R : Option (List Int)} {v : Value} {q : Int} {m' : MS} {tmps : Array Value} (B : Nat)
    (h : LOn L t ga gr wr s d) (hm : MAt wr gm m) (hok : m.Ok) (hT : s.taken = T) (ht : T ≤ 1048576) (hg : L.gm = gm) (hn : L.n = N) (hm' : (m.free T).free N = m') (hf : Fr (fun k => k = gm) w wr)
    (hlo : ∀ k, L.foot k → w.heap.size < k ∧ k < B) 
    (hres : ∀ W : World, (results Try.f17 tmps).run Try.prog W = .ok (.tuple #[v, .int .i64 q]) W)
    (hR : (R = none ∧ v = .slice none 0 0 ∧ q = 12) ∨ (∃ xs, R = some xs ∧ q = 0 ∧ RowO wr B v xs)) (hBw : w.heap.size ≤ B) (hgl : gm < w.heap.size) :
    Leaves Try.prog Try.f17 tmps (LUnPost gm R m' w) [{ target := Target.fn (Fn.func 28) #[], args := #[.pointer (some ⟨L.gd, 0, none⟩)] }] .returning wr := by
  subst hg hn hm'
  refine leaves_cons (f := 28) (args := #[.pointer (some ⟨L.gd, 0, none⟩)]) (by simp) (by simp [go_sem]) ?_
  refine (lcloseD_on h hm hok T hT ht _).mono ?_
  rintro e u' w'' ⟨rfl, rfl, h3, h4, h5⟩
  refine ⟨.tuple #[v, .int .i64 q], hres _, hf.then h3 (fun k hk e => ?_), h4, h5, ?_⟩
  · rcases e with e | e | e
    · have := hlo L.gd (.inl rfl); omega
    · have := hlo L.gw (.inr (.inr (.inl rfl))); omega
    · exact e
  · rcases hR with ⟨h1, rfl, rfl⟩ | ⟨xs, h1, rfl, ho⟩
    · exact .inl ⟨h1, rfl⟩
    · refine .inr ⟨xs, v, h1, rfl, (ho.fr h3 (fun g h8 _ e => ?_)).low hBw⟩
      rcases e with e | e | e
      · have := hlo L.gd (.inl rfl); omega
      · have := hlo L.gw (.inr (.inr (.inl rfl))); omega
      · omega
set_option maxRecDepth 100000 in
set_option maxHeartbeats 800000 in
theorem lunpack_any (gm : Nat) (m : MS) (p : Lset) (x : Int) (size : Nat) (hx : x.toNat = size) (a : Option Addr) (n c : Nat) (f : Nat → Int) (hf : ∀ i, i < n → 0 ≤ f i ∧ f i < 256) (w : World) (N : Nat) (hN : N = wsize (min p.dict x))
    (h : MAt w gm m) (hok : m.Ok) (hp : p.Light) (hs : x ≤ 5000) (hs0 : -9223372036854775808 ≤ x) (hn : n ≤ 20000) (hnc : n ≤ c) (hnil : a = none → c = 0) (hr : RowIn w.heap.size .u8 w a n f)
    (h1 : (m.mem p.need).1 = true) (h2 : ((m.mem p.need).2.mem N).1 = true) :
    Calls Try.prog 17 #[.slice a n c, p.val, .int .i64 x, .pointer (some ⟨gm, 0, none⟩)] w (LUnPost gm (lunpack (feedNx f n) 0 p N size) (lmet m p N) w) := by
  obtain ⟨R, hR⟩ : ∃ R, R = lunpack (feedNx f n) 0 p N size := ⟨_, rfl⟩
  rw [← hR]
  unfold lunpack at hR
  have hpn : p.need ≤ 200000 := by
    have := hp.nl_le
    have hm : p.may = true := Lset.may_iff.2 hp.may
    have hprob : p.probs = 1847 + p.nl := by unfold Lset.probs Lset.nl; rw [if_pos hm]
    unfold Lset.need
    omega
  have HR := hid hR
  have HX := hid hx
  have HN := hid hN
  have HM := hid h
  have HMO := hid hok
  have HP := hid hp
  have HROW := hid hr
  have HNIL := hid hnil
  have HC := hid hnc
  have HM1 := hid h1
  have HM2 := hid h2
  have Hf := hid hf
  have HPN := hid hpn
  have hgm : gm < w.heap.size := blk_lt h
  have HGM := hid hgm
  have HV := hid (show p.val = .agg #[.int .i64 p.lc, .int .i64 p.lp, .int .i64 p.pb, .int .i64 p.dict] from rfl)
  have hx5 : size ≤ 5000 := by omega
  have HS0 := hid hs0
  have HS := hid hs
  clear hR hx hN h hok hp hr hnil hnc h1 h2 hf hgm hpn hs0 hs
  rw [HV.out]
  go_enter_defers Try.func17, Try.ntmps17
  go_upto_region 1 with fail
  go_wp2_with (refine wpList_load_row rfl 23 _ rfl w.heap.size rfl 23 #[.int .i64 p.lc, .int .i64 p.lp, .int .i64 p.pb, .int .i64 p.dict] (0, 0) _ (by exact blk_new w _) Try.underlying23 rfl (by kernel_rfl) ?_)
  rw [← HV.out]
  have HF0 := hid ((Fr.refl Non w).alloc (.cells #[.int .i64 p.lc, .int .i64 p.lp, .int .i64 p.pb, .int .i64 p.dict] 23))
  refine (lnew_any gm m p x _ (HF0.out.blk HM.out id) HMO.out HP.out (by have := HS.out; omega) HS0.out).mono ?_
  intro e w1 hq
  rcases hq with ⟨_, _, hno, _⟩ | ⟨_, _, L, rfl, hf1, hm1, hl1, hLgm, hLn, hLnl, hLf⟩
  · exact absurd ⟨HM1.out, by rw [← HN.out]; exact HM2.out⟩ hno
  rw [← HN.out] at hm1 hLn
  have HLN := hid hLn
  have HLG := hid hLgm
  have HLF := hid (show ∀ k, L.foot k → w.heap.size < k ∧ k < w1.heap.size from fun k hk => by
    have := hLf k hk
    simp at this
    omega)
  have F1 := hid (show Fr (fun k => k = gm) w w1 from (HF0.out.any).trans hf1)
  have hs1 := F1.out.size
  have M1 := hid hm1
  have L1 := hid hl1
  clear hf1 hm1 hl1 hLgm hLn hLnl hLf
  go_wp2_with fail
  refine (newFeed_any a n c f w1 (by omega) HC.out HNIL.out (by exact (HROW.out.meter HM.out F1.out).mono hs1)).mono ?_
  intro e w2 hq
  obtain ⟨fg, fa, fc, rfl, hf2, hi2, hl2⟩ := feedNew_q _ _ _ Hf.out (by omega) _ _ hq
  obtain ⟨t, ht⟩ : ∃ t, t = feed fg fa n fc f Hf.out := ⟨_, rfl⟩
  have HT := hid (show Value.iface 45 (.pointer (some ⟨fg, 0, none⟩)) = Value.iface t.ty t.val from by rw [ht]; rfl)
  have HTN := hid (show t.nx = feedNx f n from by rw [ht]; rfl)
  rw [← ht] at hi2 hl2
  have HI2 := hid hi2
  have HL2 := hid hl2
  have F2 := hid (F1.out.trans hf2.any)
  have M2 := hid (show MAt w2 gm _ from hf2.blk M1.out id)
  have L2 := hid (L1.out.keep hf2 (fun _ _ e => e))
  have hs2 := hf2.size
  clear hq hf2 hi2 hl2 ht
  go_wp2_with fail
  rw [HT.out]
  refine (lbegin_any L t _ _ _ 0 w2 L2.out HI2.out (fun k hk => (HL2.out k hk).2) (fun k hk e => by have := (HLF.out k hk).2; have := (HL2.out k e).1; omega)).mono ?_
  rintro e w3 ⟨ga, gr, rfl, hf3, hon3, hga0, hga1, hgr0, hgr1⟩
  rw [HTN.out] at hon3
  have hs3 := hf3.size
  have HFT := hid (show ∀ k, LFt L t ga gr k → w.heap.size < k ∧ k < w3.heap.size from by
    have h0 := HLF.out L.gd (.inl rfl)
    rintro k (e | e | e | e)
    · have := HLF.out k e; omega
    · have e' : k = gr := e; omega
    · have e' : k = ga := e; omega
    · have := HL2.out k e
      omega)
  have F3 := hid (F2.out.then hf3 (fun k hk e => by
    rcases e with e | e
    · have := HLF.out L.gd (.inl rfl); omega
    · have := HL2.out k e; have := HLF.out L.gd (.inl rfl); omega))
  have M3 := hid (show MAt w3 gm _ from hf3.blk M2.out (fun e => by
    have := HGM.out
    rcases e with e | e
    · have := HLF.out L.gd (.inl rfl); omega
    · have := HL2.out _ e; have := HLF.out L.gd (.inl rfl); omega))
  have ON3 := hid hon3
  clear hf3 hon3 hga0 hga1 hgr0 hgr1
  obtain ⟨s0, hs0⟩ : ∃ s, s = lstart p := ⟨_, rfl⟩
  obtain ⟨d0, hd0⟩ : ∃ d, d = RD.new (anx (feedNx f n)) ⟨0, 0, false⟩ := ⟨_, rfl⟩
  have HS0E := hid hs0
  have hR := HR.out
  rw [← hs0, ← hd0] at hR
  rw [← hd0] at ON3
  rw [show LS.new p p.need = lstart p from rfl, ← hs0] at ON3
  have HRR := hid hR
  have HFIT := hid (lrun_fit (anx (feedNx f n)) L s0 d0 (by rw [hs0]; exact lstart_fit p L))
  have HPLA := hid (lrun_place (anx (feedNx f n)) L s0 d0)
  have HPL0 := hid (show s0.place = 0 by rw [hs0]; rfl)
  have HTK := hid (show ∀ k, (lrun (anx (feedNx f n)) L k s0 d0).1.taken = p.need from fun k => by rw [lrun_taken, hs0]; rfl)
  have HX2 := hid (show ∀ k : Nat, ((k : Int) < x ↔ k < size) from fun k => by have := HX.out; omega)
  clear hs0 hd0 hR
  go_wp2_with fail
  go_loopw [12] (fun v wr => ∃ k, k ≤ size ∧ (∀ i, i < k → lok (anx (feedNx f n)) L s0 d0 i = true) ∧ LOn L t ga gr wr (lrun (anx (feedNx f n)) L k s0 d0).1 (lrun (anx (feedNx f n)) L k s0 d0).2 ∧ Own wr w3.heap.size .u8 5 v (lbytes (anx (feedNx f n)) L s0 d0 k) ∧ Fr (fun k => k = gm) w wr ∧ MAt wr gm ((m.mem p.need).2.mem N).2 ∧ w3.heap.size ≤ wr.heap.size) (fun v _ => size - lenV v)
  case atStart => exact ⟨0, Nat.zero_le _, (fun i hi => by omega), ON3.out, Own.nil _ _ _ _, F3.out, M3.out, Nat.le_refl _⟩
  case round =>
    obtain ⟨k, hk, hks, hon, hown, hfr, hmt, hwz⟩ := hrel
    have HKS := hid hks
    have HON := hid hon
    have HOW := hid hown
    have HFW := hid hfr
    have HMT := hid hmt
    have hlv := hown.lenV
    rw [lbytes_len] at hlv
    have HLV := hid hlv
    obtain ⟨ra, rc, hva, hrc, hrm, hrw⟩ := hown.rowN (lbytes_len _ _ _ _ _)
    have HZ := hid (show ra = none → rc = 0 from fun e => by
      subst e
      have h2 := hown.2
      rcases h2 with ⟨h3, h4⟩ | ⟨g, cap, cur, hv, hg, r⟩
      · rw [hva] at h3; injection h3
      · rw [hva] at hv; injection hv with e1 e2 e3; cases e1)
    have HSEP := hid (show ∀ b, u12.ownBlock = some b → ¬ LFt L t ga gr b from fun b hb e => by have := (hown.block b hb).1; have := (HFT.out b e).2; omega)
    clear hks hon hown hfr hmt hlv hrm hrw
    subst hva
    have C1 := lnext_any L t ga gr _ _ wr HON.out (by have := HPLA.out k; have := HPL0.out; omega) (HFIT.out k)
    rw [ahead_nx, HTN.out] at C1
    have C1 := hid C1
    by_cases hlt : k < size
    · have hlx : (k : Int) < x := (HX2.out k).2 hlt
      obtain ⟨ok, hok⟩ : ∃ ok, ok = lok (anx (feedNx f n)) L s0 d0 k := ⟨_, rfl⟩
      obtain ⟨b, hb⟩ : ∃ b, b = lbyte (anx (feedNx f n)) L s0 d0 k := ⟨_, rfl⟩
      go_wp2_with fail
      refine C1.out.mono ?_
      rintro e w5 ⟨rfl, hf5, hon5⟩
      rw [show (lnext (anx (feedNx f n)) L (lrun (anx (feedNx f n)) L k s0 d0).1 (lrun (anx (feedNx f n)) L k s0 d0).2).1.2 = ok from hok.symm, show (lnext (anx (feedNx f n)) L (lrun (anx (feedNx f n)) L k s0 d0).1 (lrun (anx (feedNx f n)) L k s0 d0).2).1.1 = b from hb.symm]
      have HF5 := hid hf5
      have ON5 := hid (show LOn L t ga gr w5 (lrun (anx (feedNx f n)) L (k + 1) s0 d0).1 (lrun (anx (feedNx f n)) L (k + 1) s0 d0).2 from hon5)
      have hs5 := hf5.size
      have FW5 := hid (HFW.out.then hf5 (fun i hi e => by have := (HFT.out i e).1; omega))
      have M5 := hid (show MAt w5 gm _ from hf5.blk HMT.out (fun e => by have := (HFT.out _ e).1; have := HGM.out; omega))
      have HO5 := hid (HOW.out.fr HF5.out HSEP.out)
      have HOK := hid hok
      have HB := hid hb
      clear hf5 hon5 hok hb C1
      cases ok with
      | true =>
        go_wp2_with (refine opAppend1 (some 45) rfl rfl (.tmp 42) (.tmp 44) 30 rfl w3.heap.size .u8 5 1 Try.underlying30 Try.info_u8q _ _ rfl (by exact HO5.out.alloc _) ⟨_, 0, none⟩ 1 _ rfl (cell_new1 _ _ _) (by decide) (by rw [lbytes_len]; omega) (by simp; omega) ?_; intro v' w6 hown6 hg6)
        have hs6 := hg6.size
        simp at hs6
        have HL := hid HOW.out.block
        have HF6 := hid (Fr.grown (FW5.out.alloc _) hg6 (fun b hb hlt => by have := (HL.out b hb).1; omega))
        have H6 := hid (ON5.out.keep (Fr.grown ((Fr.refl (fun b => (Value.slice ra k rc).ownBlock = some b) w5).alloc _) hg6 (fun b hb _ => hb)) (fun b hb e => HSEP.out b e hb))
        have M6 := hid (show MAt w6 gm _ from (Fr.grown ((Fr.refl (fun b => (Value.slice ra k rc).ownBlock = some b) w5).alloc _) hg6 (fun b hb _ => hb)).blk M5.out (fun e => by have := (HL.out _ e).1; have := HGM.out; omega))
        rw [HB.out, ← lbytes_snoc] at hown6
        have HO6 := hid hown6
        have hlv6 := hown6.lenV
        rw [lbytes_len] at hlv6
        have HLV6 := hid hlv6
        have HKS' := hid (show ∀ i, i < k + 1 → lok (anx (feedNx f n)) L s0 d0 i = true from fun i hi => by
          by_cases e : i = k
          · rw [e]; exact HOK.out.symm
          · exact HKS.out i (by omega))
        clear hown6 hg6 hlv6
        go_roundw
        case rel => exact ⟨k + 1, by omega, HKS'.out, H6.out, HO6.out, HF6.out, M6.out, by omega⟩
        case measure =>
          rw [HLV.out, HLV6.out]
          omega
      | false =>
        go_wp2_with fail
        have hw03 : w.heap.size ≤ w3.heap.size := by have := HFT.out L.gd (.inl (.inl rfl)); omega
        refine lun_door w3.heap.size ON5.out M5.out (MS.mem_ok (MS.mem_ok HMO.out _) _) (T := p.need) (HTK.out (k + 1)) (by have := HPN.out; omega) HLG.out HLN.out rfl FW5.out (fun j hj => by have := HFT.out j (.inl hj); exact this) (fun W => Eq.trans (results_tmp2 rfl _ _ W) rfl) (.inl ⟨?_, rfl, rfl⟩) hw03 HGM.out
        rw [HRR.out, if_neg]
        intro e
        have e1 := List.all_eq_true.1 e.1 k (List.mem_range.2 hlt)
        rw [← HLN.out, ← lok_of, ← HOK.out] at e1
        cases e1
    · have e : k = size := by omega
      subst e
      have hlx : ¬ (k : Int) < x := fun e => hlt ((HX2.out k).1 e)
      have C2 := hid (lfinish_any L t ga gr _ _ wr HON.out (by have := HPLA.out k; have := HPL0.out; omega))
      rw [HTN.out] at C2
      obtain ⟨F, hF⟩ : ∃ F, F = lfinish (feedNx f n) L (lrun (anx (feedNx f n)) L k s0 d0).1 (lrun (anx (feedNx f n)) L k s0 d0).2 := ⟨_, rfl⟩
      rw [← hF] at C2
      have HFE := hid hF
      have HFT2 := hid (show F.2.1.taken = p.need by rw [hF, lfinish_taken]; exact HTK.out k)
      obtain ⟨fb, fs, fd⟩ := F
      dsimp only at C2 HFT2
      clear hF C1
      go_wp2_with fail
      refine C2.out.mono ?_
      rintro e w5 ⟨rfl, hf5, hon5⟩
      dsimp only at hf5 hon5
      have HF5 := hid hf5
      have ON5 := hid hon5
      have hs5 := hf5.size
      have FW5 := hid (HFW.out.then hf5 (fun i hi e => by have := (HFT.out i e).1; omega))
      have M5 := hid (show MAt w5 gm _ from hf5.blk HMT.out (fun e => by have := (HFT.out _ e).1; have := HGM.out; omega))
      have HO5 := hid (HOW.out.fr HF5.out HSEP.out)
      have hw03 : w.heap.size ≤ w3.heap.size := by have := HFT.out L.gd (.inl (.inl rfl)); omega
      clear hf5 hon5
      dsimp only
      cases fb with
      | true =>
        go_wp2_with fail
        refine (clip_any ra k rc _ hrc HZ.out (by omega)).mono ?_
        rintro e w6 ⟨rfl, rfl⟩
        go_wp2_with fail
        refine lun_door w3.heap.size ON5.out M5.out (MS.mem_ok (MS.mem_ok HMO.out _) _) (T := p.need) HFT2.out (by have := HPN.out; omega) HLG.out HLN.out rfl FW5.out (fun j hj => by have := HFT.out j (.inl hj); exact this) (fun W => Eq.trans (results_tmp2 rfl _ _ W) rfl) (.inr ⟨lbytes (anx (feedNx f n)) L s0 d0 k, ?_, rfl, ?_⟩) hw03 HGM.out
        · rw [HRR.out, if_pos]
          · congr 1
            unfold lbytes
            exact List.map_congr_left (fun i _ => by rw [← HLN.out, ← lbyte_of])
          · refine ⟨List.all_eq_true.2 (fun i hi => ?_), ?_⟩
            · rw [← HLN.out, ← lok_of]
              exact HKS.out i (List.mem_range.1 hi)
            · rw [← HLN.out, ← lrun_of, ← lfinish_of, ← HFE.out]
        · exact HO5.out.clip
      | false =>
        go_wp2_with fail
        refine lun_door w3.heap.size ON5.out M5.out (MS.mem_ok (MS.mem_ok HMO.out _) _) (T := p.need) HFT2.out (by have := HPN.out; omega) HLG.out HLN.out rfl FW5.out (fun j hj => by have := HFT.out j (.inl hj); exact this) (fun W => Eq.trans (results_tmp2 rfl _ _ W) rfl) (.inl ⟨?_, rfl, rfl⟩) hw03 HGM.out
        rw [HRR.out, if_neg]
        intro e
        have e1 := e.2
        rw [← HLN.out, ← lrun_of, ← lfinish_of, ← HFE.out] at e1
        cases e1
end Go.Proofs.Ytjnegcambbeblaa
