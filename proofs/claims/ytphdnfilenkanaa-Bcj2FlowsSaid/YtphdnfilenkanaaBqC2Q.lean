/- bcj2.place, bcj2.Code. -/
import Derived.Test.YtphdnfilenkanaaMg08
import Derived.Laws.ResultCell
namespace Go.Proofs.Ytphdnfilenkanaa
open Go.RowKit

def PlacePost (n : Nat) (F : Nat → Int) (i : Nat) (w : World) (e : Ending) (w' : World) : Prop :=
  (∃ m, w' = w.drewN m) ∧ ∃ P : Int, e = .returned (.tuple #[.int .u32 P, .bool (placeQ n F i).isSome]) ∧ ∀ p, placeQ n F i = some p → P = p
set_option maxRecDepth 100000 in
set_option maxHeartbeats 2000000 in
theorem place_any (a : Option Addr) (n cap : Nat) (F : Nat → Int) (hF : ∀ i, i < n → 0 ≤ F i ∧ F i < 256) (i : Nat) (w : World) (hn : n ≤ 16384) (hi : i < n) (h : RowIn w.heap.size .u8 w a n F) :
    Calls Try.prog 26 #[.slice a n cap, .int .i64 i] w (PlacePost n F i w) := by
  by_cases h4 : i + 4 < n
  · obtain ⟨b, off, rfl, hb, c1⟩ := h.at (i := i + 1) (by omega)
    obtain ⟨b2, off2, e2, _, c2⟩ := h.at (i := i + 2) (by omega)
    obtain ⟨b3, off3, e3, _, c3⟩ := h.at (i := i + 3) (by omega)
    obtain ⟨b4, off4, e4, _, c4⟩ := h.at (i := i + 4) (by omega)
    injection e2 with e2; injection e2 with e2a e2b; subst e2a e2b
    injection e3 with e3; injection e3 with e3a e3b; subst e3a e3b
    injection e4 with e4; injection e4 with e4a e4b; subst e4a e4b
    have h1 := hF (i + 1) (by omega)
    have h2 := hF (i + 2) (by omega)
    have h3 := hF (i + 3) (by omega)
    have h4' := hF (i + 4) (by omega)
    have hwd := word4_or (F (i + 1)) (F (i + 2)) (F (i + 3)) (F (i + 4)) h1 h2 h3 h4'
    have hi0 : (0 : Int) ≤ (i : Int) := by omega
    have hi1 : (i : Int) + 4 < (n : Int) := by omega
    have hi2 : (n : Int) ≤ 16384 := by omega
    have HP := hid (show placeQ n F i = if (F (i + 1) + 256 * F (i + 2) + 65536 * F (i + 3) + 16777216 * F (i + 4) + i + 5) % 4294967296 < n then some ((F (i + 1) + 256 * F (i + 2) + 65536 * F (i + 3) + 16777216 * F (i + 4) + i + 5) % 4294967296) else none from if_pos h4)
    clear h hF h4 hi hn h1 h2 h3 h4' hb
    go_enter Try.func26, Try.ntmps26
    go_wp2_with fail
    go_quiet (fail)
    go_wp2_with fail
    go_ret2
    refine ⟨⟨_, rfl⟩, (F (i + 1) + 256 * F (i + 2) + 65536 * F (i + 3) + 16777216 * F (i + 4) + i + 5) % 4294967296, ?_, ?_⟩
    · show Ending.returned (.tuple #[.int .u32 (((F (i + 1) + 256 * F (i + 2) + 65536 * F (i + 3) + 16777216 * F (i + 4) + i) % 4294967296 + 5) % 4294967296), .bool (decide ((F (i + 1) + 256 * F (i + 2) + 65536 * F (i + 3) + 16777216 * F (i + 4) + i + 5) % 4294967296 < n))]) = _
      rw [HP.out, show ((F (i + 1) + 256 * F (i + 2) + 65536 * F (i + 3) + 16777216 * F (i + 4) + (i : Int)) % 4294967296 + 5) % 4294967296 = (F (i + 1) + 256 * F (i + 2) + 65536 * F (i + 3) + 16777216 * F (i + 4) + i + 5) % 4294967296 from by omega]
      by_cases hlt : (F (i + 1) + 256 * F (i + 2) + 65536 * F (i + 3) + 16777216 * F (i + 4) + (i : Int) + 5) % 4294967296 < n
      · rw [if_pos hlt, decide_eq_true hlt]; rfl
      · rw [if_neg hlt, decide_eq_false hlt]; rfl
    · intro p hp
      rw [HP.out] at hp
      split at hp
      · injection hp
      · cases hp
  · have hi1 : (n : Int) ≤ (i : Int) + 4 := by omega
    have HP := hid (show placeQ n F i = none from if_neg h4)
    have hi2 : (n : Int) ≤ 16384 := by omega
    have hi3 : (i : Int) < (n : Int) := by omega
    clear h hF h4 hi hn
    go_enter Try.func26, Try.ntmps26
    go_wp2_with fail
    go_ret2
    exact ⟨⟨0, rfl⟩, 0, by rw [HP.out]; rfl, fun p hp => by rw [HP.out] at hp; cases hp⟩

/-! ### Code -/
theorem Own.up {w : World} {base b2 : Nat} {k : IntKind} {e : TypeId} {v : Value} {xs : List Int} (h : Own w base k e v xs) (hb : ∀ b, v.ownBlock = some b → b2 ≤ b) : Own w b2 k e v xs := by
  obtain ⟨h1, h2⟩ := h
  refine ⟨h1, ?_⟩
  rcases h2 with h2 | ⟨g, cap, cur, hv, hg, r⟩
  · exact .inl h2
  · exact .inr ⟨g, cap, cur, hv, hb g (by rw [hv]; rfl), r⟩
def CodeQPost (n : Nat) (F : Nat → Int) (w : World) (e : Ending) (w' : World) : Prop :=
  ∃ v0 v1 v2 v3, e = .returned (.agg #[v0, v1, v2, v3]) ∧ Fr Non w w' ∧ Own w' w.heap.size .u8 5 v0 (codeQ n F).m ∧ Own w' w.heap.size .u8 5 v1 (codeQ n F).k ∧ Own w' w.heap.size .u8 5 v2 (codeQ n F).j ∧ Own w' w.heap.size .u8 5 v3 ((codeQ n F).c.gives 5).out
/-- what holds as the coder's loop goes on. -/
structure CMemQ (A : Nat → Prop) (g gr gs : Nat) (n : Nat) (F : Nat → Int) (W wr : World) (s : CQ) (v0 v1 v2 : Value) : Prop where
  cod : CodIs A g wr s.c
  row : wr.heap[gr]? = some (.cells ((#[] ++ arr .u16 258 s.q) ++ #[.int .u8 s.ahead]) 55)
  rows : RowsQ A gs W.heap.size wr v0 v1 v2 (.slice none 0 0) s.m s.k s.j
  ar : A gr
  rr : W.heap.size ≤ gr
  rs : gr ≠ gs
  r0 : ¬ v0.ownBlock = some gr
  r1 : ¬ v1.ownBlock = some gr
  r2 : ¬ v2.ownBlock = some gr
  low : ∀ k, k < W.heap.size → A k
  fr : Fr Non W wr
  sz : W.heap.size ≤ wr.heap.size
theorem CMemQ.push0 {A : Nat → Prop} {g gr gs n : Nat} {F : Nat → Int} {W wr W2 w2 : World} {s : CQ} {v0 v1 v2 v' : Value} {ys : List Int} (h : CMemQ A g gr gs n F W wr s v0 v1 v2) (hgs : W.heap.size ≤ gs) (hW : Fr Non wr W2)
    (ho : Own w2 0 .u8 5 v' (s.m ++ ys)) (hg : W2.grownBy w2 v0.ownBlock) (hv : v'.ownBlock = v0.ownBlock ∨ v'.ownBlock = some W2.heap.size) :
    CMemQ (Since A wr (w2.setCell ⟨gs, 0, none⟩ v')) g gr gs n F W (w2.setCell ⟨gs, 0, none⟩ v') { s with m := s.m ++ ys } v' v1 v2 ∧ w2.cell? ⟨gs, 0, none⟩ = some v0 ∧ w2.frozen? ⟨gs, 0, none⟩ = false := by
  obtain ⟨hr, hf, hs⟩ := h.rows.push0 h.sz hW ho hg hv
  have hb2 := (hW.any.trans (Fr.grew hg)).blk h.rows.str (fun e => (h.rows.a0 gs e).2.2 rfl)
  have hlt : gr < wr.heap.size := blk_lt h.row
  have hw2 := hW.size
  have hrn : ¬ v'.ownBlock = some gr := by
    rcases hv with e | e
    · rw [e]; exact h.r0
    · rw [e]; intro x; injection x with x; omega
  refine ⟨⟨h.cod.gone hf (fun b hb e => ?_), hf.blk h.row (fun e => ?_), hr, .inl h.ar, h.rr, h.rs, hrn, h.r1, h.r2, fun k hk => .inl (h.low k hk), h.fr.then hf (fun b hb e => ?_), by have := h.sz; have := hf.size; omega⟩, blk_cell hb2 rfl, blk_frozen hb2 0⟩
  · rcases e with e | e
    · exact (h.rows.a0 b e).1
    · rw [e]; exact h.rows.asA
  · rcases e with e | e
    · exact h.r0 e
    · exact h.rs e
  · rcases e with e | e
    · have := (h.rows.a0 b e).2.1; omega
    · omega
theorem CMemQ.push1 {A : Nat → Prop} {g gr gs n : Nat} {F : Nat → Int} {W wr W2 w2 : World} {s : CQ} {v0 v1 v2 v' : Value} {ys : List Int} (h : CMemQ A g gr gs n F W wr s v0 v1 v2) (hgs : W.heap.size ≤ gs) (hW : Fr Non wr W2)
    (ho : Own w2 0 .u8 5 v' (s.k ++ ys)) (hg : W2.grownBy w2 v1.ownBlock) (hv : v'.ownBlock = v1.ownBlock ∨ v'.ownBlock = some W2.heap.size) :
    CMemQ (Since A wr (w2.setCell ⟨gs, 1, none⟩ v')) g gr gs n F W (w2.setCell ⟨gs, 1, none⟩ v') { s with k := s.k ++ ys } v0 v' v2 ∧ w2.cell? ⟨gs, 1, none⟩ = some v1 ∧ w2.frozen? ⟨gs, 1, none⟩ = false := by
  obtain ⟨hr, hf, hs⟩ := h.rows.push1 h.sz hW ho hg hv
  have hb2 := (hW.any.trans (Fr.grew hg)).blk h.rows.str (fun e => (h.rows.a1 gs e).2.2 rfl)
  have hlt : gr < wr.heap.size := blk_lt h.row
  have hw2 := hW.size
  have hrn : ¬ v'.ownBlock = some gr := by
    rcases hv with e | e
    · rw [e]; exact h.r1
    · rw [e]; intro x; injection x with x; omega
  refine ⟨⟨h.cod.gone hf (fun b hb e => ?_), hf.blk h.row (fun e => ?_), hr, .inl h.ar, h.rr, h.rs, h.r0, hrn, h.r2, fun k hk => .inl (h.low k hk), h.fr.then hf (fun b hb e => ?_), by have := h.sz; have := hf.size; omega⟩, blk_cell hb2 rfl, blk_frozen hb2 1⟩
  · rcases e with e | e
    · exact (h.rows.a1 b e).1
    · rw [e]; exact h.rows.asA
  · rcases e with e | e
    · exact h.r1 e
    · exact h.rs e
  · rcases e with e | e
    · have := (h.rows.a1 b e).2.1; omega
    · omega
theorem CMemQ.push2 {A : Nat → Prop} {g gr gs n : Nat} {F : Nat → Int} {W wr W2 w2 : World} {s : CQ} {v0 v1 v2 v' : Value} {ys : List Int} (h : CMemQ A g gr gs n F W wr s v0 v1 v2) (hgs : W.heap.size ≤ gs) (hW : Fr Non wr W2)
    (ho : Own w2 0 .u8 5 v' (s.j ++ ys)) (hg : W2.grownBy w2 v2.ownBlock) (hv : v'.ownBlock = v2.ownBlock ∨ v'.ownBlock = some W2.heap.size) :
    CMemQ (Since A wr (w2.setCell ⟨gs, 2, none⟩ v')) g gr gs n F W (w2.setCell ⟨gs, 2, none⟩ v') { s with j := s.j ++ ys } v0 v1 v' ∧ w2.cell? ⟨gs, 2, none⟩ = some v2 ∧ w2.frozen? ⟨gs, 2, none⟩ = false := by
  obtain ⟨hr, hf, hs⟩ := h.rows.push2 h.sz hW ho hg hv
  have hb2 := (hW.any.trans (Fr.grew hg)).blk h.rows.str (fun e => (h.rows.a2 gs e).2.2 rfl)
  have hlt : gr < wr.heap.size := blk_lt h.row
  have hw2 := hW.size
  have hrn : ¬ v'.ownBlock = some gr := by
    rcases hv with e | e
    · rw [e]; exact h.r2
    · rw [e]; intro x; injection x with x; omega
  refine ⟨⟨h.cod.gone hf (fun b hb e => ?_), hf.blk h.row (fun e => ?_), hr, .inl h.ar, h.rr, h.rs, h.r0, h.r1, hrn, fun k hk => .inl (h.low k hk), h.fr.then hf (fun b hb e => ?_), by have := h.sz; have := hf.size; omega⟩, blk_cell hb2 rfl, blk_frozen hb2 2⟩
  · rcases e with e | e
    · exact (h.rows.a2 b e).1
    · rw [e]; exact h.rows.asA
  · rcases e with e | e
    · exact h.r2 e
    · exact h.rs e
  · rcases e with e | e
    · have := (h.rows.a2 b e).2.1; omega
    · omega
theorem CMemQ.re {A : Nat → Prop} {g gr gs n : Nat} {F : Nat → Int} {W wr : World} {s s' : CQ} {v0 v1 v2 : Value} (h : CMemQ A g gr gs n F W wr s v0 v1 v2) (hc : s'.c = s.c) (hq : s'.q = s.q) (ha : s'.ahead = s.ahead) (hm : s'.m = s.m) (hk : s'.k = s.k) (hj : s'.j = s.j) : CMemQ A g gr gs n F W wr s' v0 v1 v2 :=
  ⟨by rw [hc]; exact h.cod, by rw [hq, ha]; exact h.row, by rw [hm, hk, hj]; exact h.rows, h.ar, h.rr, h.rs, h.r0, h.r1, h.r2, h.low, h.fr, h.sz⟩
theorem rowC_cells (q : Nat → Int) (a : Nat) : ((#[] ++ arr .u16 258 q) ++ #[.int .u8 (a : Int)] : Array Value)[0 + 258]? = some (.int .u8 (a : Int)) := by
  rw [Array.getElem?_append_right (by simp [arr_size])]
  simp [arr_size]
theorem rowC_p (q : Nat → Int) (a : Nat) {k : Nat} (hk : k < 258) : ((#[] ++ arr .u16 258 q) ++ #[.int .u8 (a : Int)] : Array Value)[0 + k]? = some (.int .u16 (q k)) := by
  rw [Array.getElem?_append_left (by simp [arr_size]; omega), Array.getElem?_append_right (by simp)]
  simp [arr_get _ _ _ hk]
theorem rowC_set (q : Nat → Int) (a x : Nat) : ((#[] ++ arr .u16 258 q) ++ #[.int .u8 (a : Int)] : Array Value).setIfInBounds (0 + 258) (.int .u8 (x : Int)) = (#[] ++ arr .u16 258 q) ++ #[.int .u8 (x : Int)] := by
  rw [Array.setIfInBounds_append_right (by simp [arr_size])]
  simp [arr_size]
theorem rowC_setp (q : Nat → Int) (a : Nat) (x : Int) {k : Nat} (hk : k < 258) : ((#[] ++ arr .u16 258 q) ++ #[.int .u8 (a : Int)] : Array Value).setIfInBounds (0 + k) (.int .u16 x) = (#[] ++ arr .u16 258 (upd q k x)) ++ #[.int .u8 (a : Int)] := by
  rw [Array.setIfInBounds_append_left (by simp [arr_size]; omega), Array.setIfInBounds_append_right (by simp)]
  simp only [List.size_toArray, List.length_nil, Nat.sub_zero, Nat.zero_add]
  rw [arr_set]
/-- the byte ahead. -/
theorem CMemQ.ahead_ {A : Nat → Prop} {g gr gs n : Nat} {F : Nat → Int} {W wr : World} {s : CQ} {v0 v1 v2 : Value} (h : CMemQ A g gr gs n F W wr s v0 v1 v2) (x : Nat) :
    CMemQ A g gr gs n F W (wr.setCell ⟨gr, 0 + 258, none⟩ (.int .u8 (x : Int))) { s with ahead := x } v0 v1 v2 := by
  have hf : Fr (fun b => b = gr) wr (wr.setCell ⟨gr, 0 + 258, none⟩ (.int .u8 (x : Int))) := (Fr.refl _ _).setOne _ _
  refine ⟨h.cod.set h.ar _, ?_, h.rows.keep hf (fun b hb _ => .inr ⟨by have := h.rr; omega, by rw [hb]; exact h.rs, by rw [hb]; exact h.r0, by rw [hb]; exact h.r1, by rw [hb]; exact h.r2⟩) (fun _ e => e), h.ar, h.rr, h.rs, h.r0, h.r1, h.r2, h.low, h.fr.then hf (fun b hb e => by have := h.rr; omega), by have := h.sz; have := hf.size; omega⟩
  have e := blk_set (i := 0 + 258) (v := .int .u8 (x : Int)) h.row
  rw [rowC_set] at e
  exact e
/-- nothing has turned but how often is drawn. -/
theorem CMemQ.drewN {A : Nat → Prop} {g gr gs n : Nat} {F : Nat → Int} {W wr : World} {s : CQ} {v0 v1 v2 : Value} (h : CMemQ A g gr gs n F W wr s v0 v1 v2) (m : Nat) : CMemQ A g gr gs n F W (wr.drewN m) s v0 v1 v2 :=
  ⟨h.cod.drewN m, h.row, h.rows.keep ((Fr.refl Non _).drewN m) (fun _ e => e.elim) (fun _ e => e), h.ar, h.rr, h.rs, h.r0, h.r1, h.r2, h.low, h.fr.drewN m, h.sz⟩
/-- a bit. -/
theorem CMemQ.bit_ {A : Nat → Prop} {g gr gs n : Nat} {F : Nat → Int} {W wr w' : World} {s : CQ} {v0 v1 v2 : Value} (h : CMemQ A g gr gs n F W wr s v0 v1 v2) {k o : Nat} (hk : k < 258) (ho : o = 0 + k) {b : Nat} {e : Ending}
    (hp : BPost A g gr o ((#[] ++ arr .u16 258 s.q) ++ #[.int .u8 (s.ahead : Int)]) 55 wr (s.c.bit (s.q k) b) e w') :
    e = .returned (.tuple #[]) ∧ CMemQ A g gr gs n F W w' { s with q := upd s.q k (s.c.bit (s.q k) b).1, c := (s.c.bit (s.q k) b).2 } v0 v1 v2 := by
  subst ho
  obtain ⟨he, hf, hc, hb⟩ := hp
  rw [rowC_setp _ _ _ hk] at hb
  refine ⟨he, hc, hb, h.rows.keep hf (fun q hq _ => ?_) (fun _ e => e), h.ar, h.rr, h.rs, h.r0, h.r1, h.r2, h.low, h.fr.then hf (fun q hq e => ?_), by have := h.sz; have := hf.size; omega⟩
  · rcases hq with e | e
    · exact .inl e
    · exact .inr ⟨by have := h.rr; omega, by rw [e]; exact h.rs, by rw [e]; exact h.r0, by rw [e]; exact h.r1, by rw [e]; exact h.r2⟩
  · rcases e with e | e
    · exact e (h.low q hq)
    · have := h.rr; omega
theorem RowIn.cellAt {B : Nat} {k : IntKind} {w : World} {b off n : Nat} {f : Nat → Int} (h : RowIn B k w (some ⟨b, off, none⟩) n f) {i : Nat} (hi : i < n) : w.cell? ⟨b, off + i, none⟩ = some (.int k (f i)) := by
  obtain ⟨b', off', e, _, hc⟩ := h.at hi
  injection e with e
  injection e with e1 e2
  subst e1 e2
  exact hc
theorem rowq_built (r : Operand → Value) : Try.prog.built 55 (((#[] : Array (Nat × Operand)).map fun (i, x) => (i, r x)).toList) = some ((#[] ++ arr .u16 258 (fun _ => 0)) ++ #[.int .u8 0]) := by
  have : Try.prog.built 55 [] = some ((#[] ++ arr .u16 258 (fun _ => 0)) ++ #[.int .u8 0]) := by kernel_rfl
  simpa using this
theorem rowq_box (w : World) (cs : Array Value) : (Instr.box 55 (.agg cs)).run Try.prog w = .ok (.pointer (some ⟨w.heap.size, 0, none⟩)) (w.alloc (.cells cs 55)) := by
  kernel_rfl
set_option maxRecDepth 100000 in
set_option maxHeartbeats 16000000 in
theorem codeQ_any (a : Option Addr) (n cap : Nat) (F : Nat → Int) (hF : ∀ i, i < n → 0 ≤ F i ∧ F i < 256) (w : World) (hn : n ≤ 16384) (h : RowIn w.heap.size .u8 w a n F) :
    Calls Try.prog 13 #[.slice a n cap] w (CodeQPost n F w) := by
  have HF := hid hF
  obtain ⟨W, hW⟩ : ∃ W, W = w.alloc (.cells #[.slice none 0 0, .slice none 0 0, .slice none 0 0, .slice none 0 0] 24) := ⟨_, rfl⟩
  have hwW : Fr Non w W := by rw [hW]; exact (Fr.refl Non w).alloc _
  have hsW : W.heap.size = w.heap.size + 1 := by rw [hW]; simp
  have hbW : W.heap[w.heap.size]? = some (.cells #[.slice none 0 0, .slice none 0 0, .slice none 0 0, .slice none 0 0] 24) := by rw [hW]; exact blk_new w _
  have H := hid (show RowIn W.heap.size .u8 W a n F from (h.fr hwW (fun _ _ e => e)).mono (by omega))
  have HW := hid hW
  have HWW := hid hwW
  have HSW := hid hsW
  have HBW := hid hbW
  clear h hF hW hwW hsW hbW
  go_enter Try.func13, Try.ntmps13
  obtain ⟨gs, hgs⟩ : ∃ gs, gs = w.heap.size + 1 := ⟨_, rfl⟩
  obtain ⟨gr, hgr⟩ : ∃ gr, gr = w.heap.size + 1 + 1 := ⟨_, rfl⟩
  have HGS := hid hgs
  have HGR := hid hgr
  go_wp2_with (first
    | (refine opRun (some 11) rfl rfl (.agg ((#[] ++ arr .u16 258 (fun _ => 0)) ++ #[.int .u8 0])) _ (by unfold execOp; simp only []; rw [run_bind_ok (run_build _ _ _ _ (rowq_built _))]; rfl) ?_)
    | (refine opRun (some 12) rfl rfl (.pointer (some ⟨_, 0, none⟩)) _ (by unfold execOp; simp only []; rw [run_bind_ok (rowq_box _ _)]; rfl) ?_)
    | (go_at_call 23; refine (cnew_any _).mono ?_; rintro e w1 ⟨g, rfl, hg0, hf1, hc1⟩))
  have hpush : ((#[] ++ arr .u16 258 (fun _ => 0)) ++ #[.int .u8 0] : Array Value) = (arr .u16 258 (fun _ => 0)).push (.int .u8 0) := by simp
  rw [← hpush] at hf1 hc1
  clear hpush
  have s1 := hf1.size
  simp at s1
  have hA : ∀ k, k < w.heap.size + 1 + 1 + 1 → (fun k => k < (((w.alloc (.cells #[.slice none 0 0, .slice none 0 0, .slice none 0 0, .slice none 0 0] 24)).alloc (.cells #[.slice none 0 0, .slice none 0 0, .slice none 0 0, .slice none 0 0] 24)).alloc (.cells ((#[] ++ arr .u16 258 (fun _ => 0)) ++ #[.int .u8 0]) 55)).heap.size) k := fun k hk => by simp; omega
  have hbs : w1.heap[gs]? = some (.cells #[.slice none 0 0, .slice none 0 0, .slice none 0 0, .slice none 0 0] 24) := by
    have hx := hf1.blk (blk_alloc (o' := .cells ((#[] ++ arr .u16 258 (fun _ => 0)) ++ #[.int .u8 0]) 55) (blk_new (w.alloc (.cells #[.slice none 0 0, .slice none 0 0, .slice none 0 0, .slice none 0 0] 24)) (.cells #[.slice none 0 0, .slice none 0 0, .slice none 0 0, .slice none 0 0] 24))) id
    rw [show (w.alloc (.cells #[.slice none 0 0, .slice none 0 0, .slice none 0 0, .slice none 0 0] 24)).heap.size = gs from by rw [hgs]; simp] at hx
    exact hx
  have hbr : w1.heap[gr]? = some (.cells ((#[] ++ arr .u16 258 (fun _ => 0)) ++ #[.int .u8 0]) 55) := by
    have hx := hf1.blk (blk_new ((w.alloc (.cells #[.slice none 0 0, .slice none 0 0, .slice none 0 0, .slice none 0 0] 24)).alloc (.cells #[.slice none 0 0, .slice none 0 0, .slice none 0 0, .slice none 0 0] 24)) (.cells ((#[] ++ arr .u16 258 (fun _ => 0)) ++ #[.int .u8 0]) 55)) id
    rw [show ((w.alloc (.cells #[.slice none 0 0, .slice none 0 0, .slice none 0 0, .slice none 0 0] 24)).alloc (.cells #[.slice none 0 0, .slice none 0 0, .slice none 0 0, .slice none 0 0] 24)).heap.size = gr from by rw [hgr]; simp] at hx
    exact hx
  have hsW := HSW.out
  have hfw : Fr Non W w1 := by rw [HW.out]; exact (((Fr.refl Non _).alloc _).alloc _).trans hf1
  have HFW := hid hfw
  have HC1 := hid hc1
  have HAA := hid hA
  have HBS := hid hbs
  rw [← hgr, ← hgs]
  have hne : ¬ g = gr ∧ ¬ g = gs ∧ gr ≠ gs := by
    refine ⟨fun e => ?_, fun e => ?_, by omega⟩
    · have := hc1.not; exact this (by rw [e]; exact hA gr (by omega))
    · have := hc1.not; exact this (by rw [e]; exact hA gs (by omega))
  refine (beginq_any gr 0 #[] #[.int .u8 0] (fun _ => 0) _ _ rfl hbr).mono ?_
  rintro e w2 ⟨rfl, hf2, hb2⟩
  have hcr : CodIs (fun k => k < (((w.alloc (.cells #[.slice none 0 0, .slice none 0 0, .slice none 0 0, .slice none 0 0] 24)).alloc (.cells #[.slice none 0 0, .slice none 0 0, .slice none 0 0, .slice none 0 0] 24)).alloc (.cells ((#[] ++ arr .u16 258 (fun _ => 0)) ++ #[.int .u8 0]) 55)).heap.size) g w2 RC.new := HC1.out.keep hf2 (fun k e => by have : k = gr := e; rw [this]; exact hA gr (by omega))
  have S0 := hid (show ∃ A, CMemQ A g gr gs n F W w2 CQ.new (.slice none 0 0) (.slice none 0 0) (.slice none 0 0) from ⟨_, hcr, hb2,
    ⟨hf2.blk HBS.out (fun e => hne.2.2 (show gs = gr from e).symm), Own.nil _ _ _ _, Own.nil _ _ _ _, Own.nil _ _ _ _, fun b hb => by simp [Value.ownBlock] at hb, fun b hb => by simp [Value.ownBlock] at hb, fun b hb => by simp [Value.ownBlock] at hb, fun b hb => by simp [Value.ownBlock] at hb, fun b hb => by simp [Value.ownBlock] at hb, fun b hb => by simp [Value.ownBlock] at hb, hA gs (by omega)⟩,
    hA gr (by omega), by omega, hne.2.2, by simp [Value.ownBlock], by simp [Value.ownBlock], by simp [Value.ownBlock], fun k hk => hA k (by omega), HFW.out.then hf2 (fun k hk e => by have : k = gr := e; omega), by have := hf2.size; omega⟩)
  have HNE := hid hne
  have HGG := hid hg0
  clear hf1 hc1 hA hbs hbr hfw hf2 hb2 hcr HC1 HAA HBS HFW s1 hgs hgr hne hg0 hsW
  go_wp2_with fail
  go_loopw [6] (fun iv wr => ∃ (s : CQ) (A : Nat → Prop) (v0 v1 v2 : Value), iv = .int .i64 s.i ∧ s.Good F n ∧ s.i ≤ n ∧ CQ.run n F (n - s.i) s = codeQ n F ∧ CMemQ A g gr gs n F W wr s v0 v1 v2) (fun iv _ => n - (intOf iv).toNat)
  case atStart =>
    obtain ⟨A, hm⟩ := S0.out
    exact ⟨CQ.new, A, _, _, _, rfl, CQ.new_good F n, Nat.zero_le _, rfl, hm⟩
  case round =>
    obtain ⟨s, A, v0, v1, v2, rfl, hg, hi, hrun, hm⟩ := hrel
    have HG := hid hg
    have HRUN := hid hrun
    have HM := hid hm
    have hwgs : W.heap.size ≤ gs := by have := HGS.out; have := HSW.out; omega
    have HWGS := hid hwgs
    have hi2 : (s.i : Int) ≤ 16384 := by omega
    have hm0 := hg.m0
    have hk0 := hg.k0
    have hj0 := hg.j0
    have ha := hg.ahead
    have hr := H.out.fr hm.fr (fun _ _ e => e)
    have HR := hid hr
    clear hg hrun hm S0 hwgs hr
    by_cases hlt : s.i < n
    · obtain ⟨b, off, rfl, hb, c0⟩ := HR.out.at hlt
      have hx := HF.out s.i hlt
      obtain ⟨hx0, hx1⟩ := hx
      obtain ⟨x, hx⟩ : ∃ x : Nat, (x : Int) = F s.i := ⟨(F s.i).toNat, by omega⟩
      rw [← hx] at c0 hx0 hx1
      have HX := hid hx
      have HLT := hid hlt
      have k0 := blk_cell HM.out.rows.str (j := 0) (v := v0) rfl
      have z0 := blk_frozen HM.out.rows.str 0
      have ka := fun o => blk_cell (blk_alloc (o' := o) HM.out.rows.str) (j := 0) (v := v0) rfl
      clear hx
      have hlt2 : (s.i : Int) < (n : Int) := by omega
      have hsi0 : (0 : Int) ≤ (s.i : Int) := by omega
      clear hlt
      have HBB := hid hb
      clear hb
      go_wp2_with fail
      go_region_law (refine step_grow1 rfl (.tmp 23) (.tmp 28) 22 rfl .u8 5 1 Try.underlying22 Try.info_u8q v0 s.m rfl _ _ _ rfl (by exact Own.alloc HM.out.rows.o0 _) (by exact cell_new1 _ _ _) (by decide) (by omega) ?_; intro v' w2 hown2 hg2 hb2; obtain ⟨a2, cap2, hv2, _, _, _⟩ := hown2.rowN (n := s.m.length + 1) (by simp); subst hv2; obtain ⟨hm2, k2, z2⟩ := HM.out.push0 HWGS.out ((Fr.refl Non _).drew.alloc _) hown2 hg2 hb2; have HM2 := hid hm2; clear hm2 hown2 hg2 hb2)
      all_goals
        clear k0 z0 ka k2 z2
        have hr3 := H.out.fr HM2.out.fr (fun _ _ e => e)
        have HR3 := hid hr3
        have c3 := hr3.cellAt (i := s.i) HLT.out
        rw [← HX.out] at c3
        have hs3 := HM2.out.sz
        clear hr3 c0
        go_wp2_with fail
        cases hk : whichQ s.ahead (x : Int) with
        | none =>
          have HST := hid (show s.step n F = s.plain F by unfold CQ.step; rw [← HX.out, hk])
          refine (meetq_none gr 0 s.ahead _ _ _ _ hk (by exact HM2.out.row) (by exact rowC_cells _ _) ha hx0 hx1).mono ?_
          rintro e w4 ⟨rfl, rfl⟩
          have M5 := hid ((HM2.out.ahead_ x).re (s' := s.plain F) rfl rfl (by show (F s.i).toNat = x; rw [← HX.out, Int.toNat_natCast]) (by show s.m ++ [F s.i] = s.m ++ [(x : Int)]; rw [HX.out]) rfl rfl)
          clear hk
          go_wp2_with fail
          go_roundw
          case rel => exact ⟨s.step n F, _, _, v1, v2, by rw [HST.out]; exact congrArg (Value.int .i64) (by show (s.i : Int) + 1 = ((s.i + 1 : Nat) : Int); omega), HG.out.step HF.out HLT.out, by rw [HST.out]; exact HLT.out, by rw [← run_step n F (n - s.i) s HLT.out (by have := HLT.out; omega)]; exact HRUN.out, by rw [HST.out]; exact M5.out⟩
          case measure => have := HLT.out; simp [intOf]; omega
        | some k =>
          have hk258 := whichQ_lt ha hk
          refine (meetq_some gr 0 s.ahead _ _ _ _ k hk (by exact HM2.out.row) (by exact rowC_cells _ _) ha hx0 hx1).mono ?_
          rintro e w4 ⟨rfl, rfl⟩
          have HK := hid hk
          clear hk
          by_cases hl : s.i + 1 = n
          · have HST := hid (show s.step n F = s.plain F by unfold CQ.step; rw [← HX.out, HK.out]; exact if_pos hl)
            have M5 := hid ((HM2.out.ahead_ x).re (s' := s.plain F) rfl rfl (by show (F s.i).toNat = x; rw [← HX.out, Int.toNat_natCast]) (by show s.m ++ [F s.i] = s.m ++ [(x : Int)]; rw [HX.out]) rfl rfl)
            have q1 : ((s.i : Int) + 1 == (n : Int)) = true := by simp; omega
            clear hl
            go_wp2_with fail
            go_roundw
            case rel => exact ⟨s.step n F, _, _, v1, v2, by rw [HST.out]; exact congrArg (Value.int .i64) (by show (s.i : Int) + 1 = ((s.i + 1 : Nat) : Int); omega), HG.out.step HF.out HLT.out, by rw [HST.out]; exact HLT.out, by rw [← run_step n F (n - s.i) s HLT.out (by have := HLT.out; omega)]; exact HRUN.out, by rw [HST.out]; exact M5.out⟩
            case measure => have := HLT.out; simp [intOf]; omega
          · have q1 : ((s.i : Int) + 1 == (n : Int)) = false := by simp; omega
            have M4 := hid (HM2.out.ahead_ x)
            have hr4 := H.out.fr M4.out.fr (fun _ _ e => e)
            have HR4 := hid hr4
            have hs4 := M4.out.sz
            have HL := hid hl
            clear hl hr4
            go_wp2_with fail
            refine (place_any _ n cap F HF.out s.i _ hn HLT.out (by exact HR4.out.mono hs4)).mono ?_
            rintro e w5 ⟨⟨m5, rfl⟩, P, rfl, hP⟩
            have hpk := HG.out.pr k hk258
            cases hp : placeQ n F s.i with
            | none =>
              have HST := hid (show s.step n F = s.near F k by unfold CQ.step; rw [← HX.out, HK.out]; show (if s.i + 1 = n then _ else _) = _; rw [if_neg HL.out, hp])
              clear hP
              rw [Option.isSome_none]
              go_wp2_with fail
              refine (cbit_any _ g gr k (3 * s.i) _ _ s.c (s.q k) 0 _ (by exact (M4.out.drewN m5).cod) (by exact M4.out.ar) HG.out.ok (by omega) (by exact (M4.out.drewN m5).row) (by have := rowC_p s.q x hk258; rw [Nat.zero_add] at this; exact this) (by omega) (by omega) (by decide)).mono ?_
              intro e w6 h6
              obtain ⟨rfl, hm6⟩ := (M4.out.drewN m5).bit_ hk258 (Nat.zero_add k).symm h6
              have M6 := hid (hm6.re (s' := s.near F k) rfl rfl (by show (F s.i).toNat = x; rw [← HX.out, Int.toNat_natCast]) (by show s.m ++ [F s.i] = s.m ++ [(x : Int)]; rw [HX.out]) rfl rfl)
              clear h6 hm6 hp
              go_wp2_with fail
              go_roundw
              case rel => exact ⟨s.step n F, _, _, v1, v2, by rw [HST.out]; exact congrArg (Value.int .i64) (by show (s.i : Int) + 1 = ((s.i + 1 : Nat) : Int); omega), HG.out.step HF.out HLT.out, by rw [HST.out]; exact HLT.out, by rw [← run_step n F (n - s.i) s HLT.out (by have := HLT.out; omega)]; exact HRUN.out, by rw [HST.out]; exact M6.out⟩
              case measure => have := HLT.out; simp [intOf]; omega
            | some p =>
              obtain rfl := hP p hp
              obtain ⟨hp4, hp0, hpn⟩ := placeQ_lt hp
              rw [Option.isSome_some]
              go_wp2_with fail
              refine (cbit_any _ g gr k (3 * s.i) _ _ s.c (s.q k) 1 _ (by exact (M4.out.drewN m5).cod) (by exact M4.out.ar) HG.out.ok (by omega) (by exact (M4.out.drewN m5).row) (by have := rowC_p s.q x hk258; rw [Nat.zero_add] at this; exact this) (by omega) (by omega) (by decide)).mono ?_
              intro e w6 h6
              obtain ⟨rfl, hm6⟩ := (M4.out.drewN m5).bit_ hk258 (Nat.zero_add k).symm h6
              have M6 := hid hm6
              have hlt4 : s.i + 4 < n := hp4
              have hx4 := HF.out (s.i + 4) hlt4
              obtain ⟨x4, hx4e⟩ : ∃ x4 : Nat, (x4 : Int) = F (s.i + 4) := ⟨(F (s.i + 4)).toNat, by omega⟩
              have HX4 := hid hx4e
              have hx40 : (0 : Int) ≤ (x4 : Int) := by omega
              have hx41 : (x4 : Int) < 256 := by omega
              have c6 := (H.out.fr hm6.fr (fun _ _ e => e)).cellAt (i := s.i) HLT.out
              rw [← HX.out] at c6
              have c6a : ∀ o, (w6.alloc o).cell? ⟨b, off + s.i, none⟩ = some (.int .u8 (x : Int)) := fun o => ((Fr.refl Non w6).alloc o).cell c6 id
              have hlt5 : (s.i : Int) + 4 < (n : Int) := by omega
              have hpn2 : P < 4294967296 := by omega
              have HWC := hid (show ∀ j y, (wordB P)[j]? = some y → (w6.alloc (.cells #[.int .u8 (P / 16777216 % 256), .int .u8 (P / 65536 % 256), .int .u8 (P / 256 % 256), .int .u8 (P % 256)] 5)).cell? ((⟨w6.heap.size, 0, none⟩ : Addr).add j) = some (.int .u8 y) from by
                intro j y hj
                have hb := blk_new w6 (.cells #[.int .u8 (P / 16777216 % 256), .int .u8 (P / 65536 % 256), .int .u8 (P / 256 % 256), .int .u8 (P % 256)] 5)
                have e : (⟨w6.heap.size, 0, none⟩ : Addr).add j = ⟨w6.heap.size, 0 + j, none⟩ := by unfold Addr.add; split <;> simp_all
                rw [e]
                match j, hj with
                | 0, hj => injection hj with hj; rw [← hj]; exact blk_cell hb rfl
                | 1, hj => injection hj with hj; rw [← hj]; exact blk_cell hb rfl
                | 2, hj => injection hj with hj; rw [← hj]; exact blk_cell hb rfl
                | 3, hj => injection hj with hj; rw [← hj]; exact blk_cell hb rfl
                | j + 4, hj => cases hj)
              have HL4 := hid hlt4
              have HPN := hid hpn2
              clear h6 hm6 hx4 hx4e hpn2 hpn hp4 hlt4 c6
              by_cases hf232 : F s.i = 232
              · have q6 : ((x : Int) == 232) = true := by have := HX.out; simp; omega
                have HST := hid (show s.step n F = s.apart F k P by unfold CQ.step; rw [← HX.out, HK.out]; show (if s.i + 1 = n then _ else _) = _; rw [if_neg HL.out, hp])
                have k6 := blk_cell M6.out.rows.str (j := 1) (v := v1) rfl
                have z6 := blk_frozen M6.out.rows.str 1
                have ka6 := fun o => blk_cell (blk_alloc (o' := o) M6.out.rows.str) (j := 1) (v := v1) rfl
                have HF232 := hid hf232
                clear hf232
                go_wp2_with (refine opGrowN (some 80) rfl rfl (.tmp 78) (.tmp 79) 22 rfl .u8 5 1 Try.underlying22 Try.info_u8q v1 s.k (wordB P) rfl (by exact Own.alloc M6.out.rows.o1 _) ⟨_, 0, none⟩ 4 4 rfl rfl (by simp [wordB]) (by exact HWC.out) (by decide) (by simp [wordB]; omega) ?_; intro v' w8 hown8 hg8 hb8; obtain ⟨a8, cap8, hv8, _, _, _⟩ := hown8.rowN (n := s.k.length + 4) (by simp [wordB]); subst hv8; obtain ⟨hm8, k8, z8⟩ := M6.out.push1 HWGS.out ((Fr.refl Non _).alloc _) hown8 hg8 hb8; have M8 := hid hm8; have k9 := blk_cell (j := 258) hm8.row (by exact rowC_cells _ _); have z9 := blk_frozen hm8.row 258; have c9 := (H.out.fr hm8.fr (fun _ _ e => e)).cellAt (i := s.i + 4) HL4.out; rw [← HX4.out] at c9; clear hm8 hown8 hg8 hb8)
                have M9 := hid ((M8.out.ahead_ x4).re (s' := s.apart F k P) rfl rfl (by show (F (s.i + 4)).toNat = x4; rw [← HX4.out, Int.toNat_natCast]) (by show s.m ++ [F s.i] = s.m ++ [(x : Int)]; rw [HX.out]) (by show (if F s.i = 232 then s.k ++ wordB P else s.k) = _; rw [if_pos HF232.out]) (by show (if F s.i = 232 then s.j else s.j ++ wordB P) = _; rw [if_pos HF232.out]))
                go_roundw
                case rel => exact ⟨s.step n F, _, _, _, v2, by rw [HST.out]; exact congrArg (Value.int .i64) (by show (s.i : Int) + 4 + 1 = ((s.i + 5 : Nat) : Int); omega), HG.out.step HF.out HLT.out, by rw [HST.out]; show s.i + 5 ≤ n; have := HL4.out; omega, by rw [← run_step n F (n - s.i) s HLT.out (by have := HLT.out; omega)]; exact HRUN.out, by rw [HST.out]; exact M9.out⟩
                case measure => have := HLT.out; simp [intOf]; omega
              · have q6 : ((x : Int) == 232) = false := by have := HX.out; simp; omega
                have HST := hid (show s.step n F = s.apart F k P by unfold CQ.step; rw [← HX.out, HK.out]; show (if s.i + 1 = n then _ else _) = _; rw [if_neg HL.out, hp])
                have k6 := blk_cell M6.out.rows.str (j := 2) (v := v2) rfl
                have z6 := blk_frozen M6.out.rows.str 2
                have ka6 := fun o => blk_cell (blk_alloc (o' := o) M6.out.rows.str) (j := 2) (v := v2) rfl
                have HF232 := hid hf232
                clear hf232
                go_wp2_with (refine opGrowN (some 85) rfl rfl (.tmp 83) (.tmp 84) 22 rfl .u8 5 1 Try.underlying22 Try.info_u8q v2 s.j (wordB P) rfl (by exact Own.alloc M6.out.rows.o2 _) ⟨_, 0, none⟩ 4 4 rfl rfl (by simp [wordB]) (by exact HWC.out) (by decide) (by simp [wordB]; omega) ?_; intro v' w8 hown8 hg8 hb8; obtain ⟨a8, cap8, hv8, _, _, _⟩ := hown8.rowN (n := s.j.length + 4) (by simp [wordB]); subst hv8; obtain ⟨hm8, k8, z8⟩ := M6.out.push2 HWGS.out ((Fr.refl Non _).alloc _) hown8 hg8 hb8; have M8 := hid hm8; have k9 := blk_cell (j := 258) hm8.row (by exact rowC_cells _ _); have z9 := blk_frozen hm8.row 258; have c9 := (H.out.fr hm8.fr (fun _ _ e => e)).cellAt (i := s.i + 4) HL4.out; rw [← HX4.out] at c9; clear hm8 hown8 hg8 hb8)
                have M9 := hid ((M8.out.ahead_ x4).re (s' := s.apart F k P) rfl rfl (by show (F (s.i + 4)).toNat = x4; rw [← HX4.out, Int.toNat_natCast]) (by show s.m ++ [F s.i] = s.m ++ [(x : Int)]; rw [HX.out]) (by show (if F s.i = 232 then s.k ++ wordB P else s.k) = _; rw [if_neg HF232.out]) (by show (if F s.i = 232 then s.j else s.j ++ wordB P) = _; rw [if_neg HF232.out]))
                go_roundw
                case rel => exact ⟨s.step n F, _, _, v1, _, by rw [HST.out]; exact congrArg (Value.int .i64) (by show (s.i : Int) + 4 + 1 = ((s.i + 5 : Nat) : Int); omega), HG.out.step HF.out HLT.out, by rw [HST.out]; show s.i + 5 ≤ n; have := HL4.out; omega, by rw [← run_step n F (n - s.i) s HLT.out (by have := HLT.out; omega)]; exact HRUN.out, by rw [HST.out]; exact M9.out⟩
                case measure => have := HLT.out; simp [intOf]; omega
    · have e : s.i = n := by omega
      have hcq : s = codeQ n F := by have h1 := HRUN.out; rw [e, Nat.sub_self] at h1; exact h1
      have HCQ := hid hcq
      clear hcq e
      go_wp2_with fail
      refine (cfinish_any A g s.c _ HM.out.cod (HG.out.ok.fit.mono (by omega))).mono ?_
      rintro e w6 ⟨v3, rfl, ho3, hd3, hf3, _⟩
      obtain ⟨L3, hL3⟩ : ∃ L3, L3 = ((s.c.gives 5).out).length := ⟨_, rfl⟩
      obtain ⟨a30, cap30, hv30, _, _, _⟩ := ho3.rowN (n := L3) hL3.symm
      subst hv30
      clear hL3
      have hrw := HM.out.rows.keep hf3 (fun b hb _ => .inl hb) (fun _ e => e)
      have hlow : ∀ b, b < W.heap.size → A b := HM.out.low
      have hb3 : ∀ b, (Value.slice a30 L3 cap30).ownBlock = some b → W.heap.size ≤ b := fun b hb => by
        have := (hd3 b hb).2
        by_cases hlt : b < W.heap.size
        · exact absurd (hlow b hlt) this
        · omega
      have hg3 : ∀ b, (Value.slice a30 L3 cap30).ownBlock = some b → b ≠ gs := fun b hb e => (hd3 b hb).2 (by rw [e]; exact hrw.asA)
      have hfs : Fr (fun b => b = gs) w6 (w6.setCell ⟨gs, 3, none⟩ (Value.slice a30 L3 cap30)) := (Fr.refl _ _).setOne _ _
      have hst : (w6.setCell ⟨gs, 3, none⟩ (Value.slice a30 L3 cap30)).heap[gs]? = some (.cells #[v0, v1, v2, Value.slice a30 L3 cap30] 24) := blk_set (i := 3) hrw.str
      have hW6 : Fr Non W w6 := HM.out.fr.then hf3 (fun b hb e => e (hlow b hb))
      have hsW := HSW.out
      have hgsn : w.heap.size ≠ gs := by have := HWGS.out; omega
      have hrb : (w6.setCell ⟨gs, 3, none⟩ (Value.slice a30 L3 cap30)).heap[w.heap.size]? = some (.cells #[.slice none 0 0, .slice none 0 0, .slice none 0 0, .slice none 0 0] 24) := hfs.blk (hW6.blk HBW.out id) hgsn
      have k3 := blk_cell hrw.str (j := 3) (v := .slice none 0 0) rfl
      have z3 := blk_frozen hrw.str 3
      have hsr : ∀ k, k ≠ w.heap.size → ((w6.setCell ⟨gs, 3, none⟩ (Value.slice a30 L3 cap30)).setRow w.heap.size #[v0, v1, v2, Value.slice a30 L3 cap30]).heap[k]? = (w6.setCell ⟨gs, 3, none⟩ (Value.slice a30 L3 cap30)).heap[k]? := fun k hk => setRow_other _ _ _ _ hk
      have hfr4 : Fr (fun b => b = w.heap.size) (w6.setCell ⟨gs, 3, none⟩ (Value.slice a30 L3 cap30)) ((w6.setCell ⟨gs, 3, none⟩ (Value.slice a30 L3 cap30)).setRow w.heap.size #[v0, v1, v2, Value.slice a30 L3 cap30]) := ⟨rfl, rfl, rfl, by simp, fun k _ hk => hsr k hk⟩
      have hown : ∀ (v : Value) (xs : List Int), Own w6 0 .u8 5 v xs → (∀ b, v.ownBlock = some b → W.heap.size ≤ b ∧ b ≠ gs) → Own ((w6.setCell ⟨gs, 3, none⟩ (Value.slice a30 L3 cap30)).setRow w.heap.size #[v0, v1, v2, Value.slice a30 L3 cap30]) w.heap.size .u8 5 v xs := fun v xs ho hb =>
        ((ho.fr hfs (fun b e => (hb b e).2)).fr hfr4 (fun b e q => by have := (hb b e).1; omega)).up (fun b e => by have := (hb b e).1; omega)
      have P0 := hown v0 _ hrw.o0 (fun b hb => ⟨(hrw.a0 b hb).2.1, (hrw.a0 b hb).2.2⟩)
      have P1 := hown v1 _ hrw.o1 (fun b hb => ⟨(hrw.a1 b hb).2.1, (hrw.a1 b hb).2.2⟩)
      have P2 := hown v2 _ hrw.o2 (fun b hb => ⟨(hrw.a2 b hb).2.1, (hrw.a2 b hb).2.2⟩)
      have P3 := hown (Value.slice a30 L3 cap30) _ ho3 (fun b hb => ⟨hb3 b hb, hg3 b hb⟩)
      have PF : Fr Non w ((w6.setCell ⟨gs, 3, none⟩ (Value.slice a30 L3 cap30)).setRow w.heap.size #[v0, v1, v2, Value.slice a30 L3 cap30]) := ((HWW.out.trans hW6).then hfs (fun b hb e => by have := HWGS.out; omega)).then hfr4 (fun b hb e => by omega)
      have c1 : v0.oneCell' = true ∧ v1.oneCell' = true ∧ v2.oneCell' = true := by
        obtain ⟨_, _, e0, _⟩ := hrw.o0.row
        obtain ⟨_, _, e1, _⟩ := hrw.o1.row
        obtain ⟨_, _, e2, _⟩ := hrw.o2.row
        subst e0 e1 e2
        exact ⟨rfl, rfl, rfl⟩
      have hall : (#[v0, v1, v2, Value.slice a30 L3 cap30] : Array Value).all (·.oneCell') = true := by simp [c1.1, c1.2.1, c1.2.2, show (Value.slice a30 L3 cap30).oneCell' = true from rfl]
      have HST := hid hst
      have HRB := hid hrb
      have HALL := hid hall
      have HP := hid (And.intro P0 (And.intro P1 (And.intro P2 (And.intro P3 PF))))
      clear hrw hlow hb3 hg3 hfs hst hW6 hsW hgsn hrb hsr hfr4 hown P0 P1 P2 P3 PF c1 hall hd3 hf3 ho3
      go_wp2_with (first
        | (refine wpList_load_row rfl 24 _ rfl gs rfl 24 #[v0, v1, v2, Value.slice a30 L3 cap30] (0, 0) _ (by exact HST.out) Try.underlying24 rfl (by kernel_rfl) ?_)
        | (refine wpList_store_row rfl 24 _ _ rfl w.heap.size #[v0, v1, v2, Value.slice a30 L3 cap30] rfl rfl 24 #[.slice none 0 0, .slice none 0 0, .slice none 0 0, .slice none 0 0] (by exact HRB.out) (by kernel_rfl) rfl (by exact HALL.out) ?_))
      refine bodyPost_ret (v := .agg #[v0, v1, v2, _]) (results_cell_row rfl _ _ w.heap.size 24 #[v0, v1, v2, _] (0, 0) _ rfl (by exact setRow_heap _ _ _ _ _ _ HRB.out) Try.underlying24 rfl (by kernel_rfl)) rfl ?_
      have hcq := HCQ.out
      subst hcq
      exact ⟨v0, v1, v2, _, rfl, HP.out.2.2.2.2, HP.out.1, HP.out.2.1, HP.out.2.2.1, HP.out.2.2.2.1⟩
end Go.Proofs.Ytphdnfilenkanaa
