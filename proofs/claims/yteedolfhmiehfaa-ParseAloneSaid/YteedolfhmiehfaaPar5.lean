/- parse.finder: packet: its contract. -/
import Derived.Test.YteedolfhmiehfaaPar4
import Derived.Laws.CopyRow
import Derived.Laws.ResultCell
import Derived.Laws.Rows
import Derived.Deep.RegionLaw
namespace Go.Proofs.Yteedolfhmiehfaa
open Go.RowKit

/-- one copy of cells, as a step of a region: the block behind it is written out by the prover. -/
theorem step_copy_raw {P : Program} {ops : Array Oper} {o : Oper} {a : Act} {w : World} {K : Act → World → Prop} {Q : Exit → Act → World → Prop} {E : Prop} (hgd : o.guard = none) (d s : Operand) (dT sT : TypeId)
    (ho : o.op = .call { callee := .builtin .copy, args := #[d, s], argTypes := #[dT, sT] }) (elem t : TypeId) (hu : P.underlying dT = some (.slice elem)) (hsz : (P.info? elem).map (·.size) = some 1)
    (g off dLen dCap gs offs sLen sCap : Nat) (hd : a.eval d = .slice (some ⟨g, off, none⟩) dLen dCap) (hs : a.eval s = .slice (some ⟨gs, offs, none⟩) sLen sCap)
    (cur new : Array Value) (hg : w.heap[g]? = some (.cells cur t)) (cs : List Value) (hm : cs.length = Nat.min sLen dLen) (hsrc : ∀ j v, cs[j]? = some v → w.cell? ((⟨gs, offs, none⟩ : Addr).add j) = some v) (hfit : off + cs.length ≤ cur.size)
    (h1 : ∀ v ∈ cs, v.oneCell' = true) (hnew : (cur.toList.take off ++ cs ++ cur.toList.drop (off + cs.length)).toArray = new)
    (h : ∀ w', Fr (fun i => i = g) w w' → w'.heap[g]? = some (.cells new t) → K (a.put o.dst (goInt cs.length)) w') :
    if Region.wanted o (yielded ops a.tmps) = true then Oper.wp P o a w K Q else E := by
  have hw : Region.wanted o (yielded ops a.tmps) = true := by simp [Region.wanted, hgd]
  rw [if_pos hw]
  have hrun := run_copy_row (P := P) w dT sT o.type elem g off dLen dCap ⟨gs, offs, none⟩ sLen sCap cur t cs hu hsz hg hm hsrc hfit h1
  rw [hnew] at hrun
  have hu : K (a.put o.dst (goInt cs.length)) (w.setRow g new) → Oper.wp P o a w K Q := by
    intro hk
    unfold Oper.wp
    simp [execOp, ho, resolve, invoke, builtin, hd, hs, hrun, Result.andThen]
    exact hk
  refine hu (h _ ⟨rfl, rfl, rfl, by simp [World.setRow], fun i _ hi => setRow_other w g i _ hi⟩ (setRow_heap w g _ _ t _ hg))

theorem Try.info_pk : (Try.prog.info? 38).map (·.size) = some 4 := by kernel_rfl
theorem results_cell_tmp_row {P : Program} {fn : Func} {p u : Tmp} {ty : TypeId} (h : fn.results = #[.cell p ty, .tmp u]) (tmps : Array Value) (w : World) (g : Nat) (t : TypeId) (cs : Array Value) (fr : Nat × Nat) (d : TypeDesc)
    (hp : tmps.getD p undef = .pointer (some ⟨g, 0, none⟩)) (hg : w.heap[g]? = some (.cells cs t fr))
    (hu : P.underlying ty = some d) (hd : (match d with | .struct _ | .array _ _ => true | _ => false) = true) (hi : (P.info? ty).map (·.size) = some cs.size) :
    (results fn tmps).run P w = .ok (.tuple #[.agg cs, tmps.getD u undef]) w := by
  have hp' : tmps[p]?.getD undef = .pointer (some ⟨g, 0, none⟩) := by simpa using hp
  rw [results_cell_tmp h]
  simp [hp', asAddr, Result.andThen, run_loadVar_row w g t ty cs fr d hg hu hd hi]
theorem results_tmp_cell_row {P : Program} {fn : Func} {p u : Tmp} {ty : TypeId} (h : fn.results = #[.tmp u, .cell p ty]) (tmps : Array Value) (w : World) (g : Nat) (t : TypeId) (cs : Array Value) (fr : Nat × Nat) (d : TypeDesc)
    (hp : tmps.getD p undef = .pointer (some ⟨g, 0, none⟩)) (hg : w.heap[g]? = some (.cells cs t fr))
    (hu : P.underlying ty = some d) (hd : (match d with | .struct _ | .array _ _ => true | _ => false) = true) (hi : (P.info? ty).map (·.size) = some cs.size) :
    (results fn tmps).run P w = .ok (.tuple #[tmps.getD u undef, .agg cs]) w := by
  have hp' : tmps[p]?.getD undef = .pointer (some ⟨g, 0, none⟩) := by simpa using hp
  simp [results, h, hp', asAddr, Result.andThen, run_loadVar_row w g t ty cs fr d hg hu hd hi]
theorem ret_pk {P : Program} {fn : Func} {p u : Tmp} {ty : TypeId} (h : fn.results = #[.cell p ty, .tmp u]) (tmps : Array Value) (w : World) (g : Nat) (t : TypeId) (cs : Array Value) (fr : Nat × Nat) (d : TypeDesc) (y : Value)
    (hp : tmps.getD p undef = .pointer (some ⟨g, 0, none⟩)) (hy : tmps.getD u undef = y) (hg : w.heap[g]? = some (.cells cs t fr))
    (hu : P.underlying ty = some d) (hd : (match d with | .struct _ | .array _ _ => true | _ => false) = true) (hi : (P.info? ty).map (·.size) = some cs.size) :
    (results fn tmps).run P w = .ok (.tuple #[.agg cs, y]) w := by
  rw [results_cell_tmp_row h tmps w g t cs fr d hp hg hu hd hi, hy]
theorem src_cells {w : World} {g : Nat} {cur : Array Value} {t : TypeId} (hg : w.heap[g]? = some (.cells cur t)) (off : Nat) (cs : List Value) (hcs : ∀ j, j < cs.length → cur[off + j]? = cs[j]?) :
    ∀ j v, cs[j]? = some v → w.cell? ((⟨g, off, none⟩ : Addr).add j) = some v := by
  intro j v hj
  have e : (⟨g, off, none⟩ : Addr).add j = ⟨g, off + j, none⟩ := by unfold Addr.add; split <;> simp_all
  rw [e]
  refine blk_cell hg ?_
  rw [hcs j (List.getElem?_eq_some_iff.1 hj).1, hj]
theorem Try.info_u32 : (Try.prog.info? 23).map (·.size) = some 1 := by kernel_rfl
/-- a packet as a value. -/
def pkV (x : Pk) : Value := .agg #[.int .i64 x.kind, .int .u8 x.byte, .int .i64 x.len, .int .u32 x.dist]
def PacketPost (F : FLay) (r : Nat → Nat) (i : Nat) (w : World) (e : Ending) (w' : World) : Prop :=
  e = .returned (.tuple #[pkV (packetAt F.b F.tb F.dict i r).1, .int .i64 ((packetAt F.b F.tb F.dict i r).2.1 : Nat)]) ∧ Fr F.foot w w' ∧ F.At w' (packetAt F.b F.tb F.dict i r).2.2 i ∧ F.Chain w' i
/-- other blocks, or cells of the finder's own block. -/
theorem FLay.At.next {F : FLay} {w w' : World} {r r' : Nat → Nat} {known : Nat} (h : F.At w r known) (hf : Fr (fun k => k = F.g) w w') (hb : w'.heap[F.g]? = some (.cells (F.cells r' known) 55)) : F.At w' r' known := by
  refine ⟨hb, ?_⟩
  rcases h.row with h | ⟨bb, off, h1, h2, h3, h4, h5⟩
  · exact .inl h
  · exact .inr ⟨bb, off, h1, h2, h3, h4, fun i hi => hf.cell (h5 i hi) h2⟩
theorem FLay.At.fr {F : FLay} {w w' : World} {r : Nat → Nat} {known : Nat} (h : F.At w r known) (hf : Fr Non w w') : F.At w' r known := by
  refine ⟨hf.blk h.blk id, ?_⟩
  rcases h.row with h | ⟨bb, off, h1, h2, h3, h4, h5⟩
  · exact .inl h
  · exact .inr ⟨bb, off, h1, h2, h3, h4, fun i hi => hf.cell (h5 i hi) id⟩
theorem FLay.Chain.fr {F : FLay} {S : Nat → Prop} {w w' : World} {known : Nat} (h : F.Chain w known) (hf : Fr S w w') (h1 : ¬ S F.gl) (h2 : ¬ S F.ga) : F.Chain w' known := ⟨hf.blk h.last h1, hf.blk h.ahead h2⟩
theorem packet_again {F : FLay} {i m E k : Nat} {r : Nat → Nat} (hE : E = (best (F.elders i r) 4).1) (hk : k = (best (F.elders i r) 4).2) (hm : m = wideLen F.b F.tb F.dict i) (h : 2 ≤ E ∧ m ≤ E + 1) :
    packetAt F.b F.tb F.dict i r = (⟨2 + k, E, 0, 0⟩, E, front r k) := by
  subst hE hk hm
  exact if_pos h
theorem packet_match {F : FLay} {i m wh E : Nat} {r : Nat → Nat} (hE : E = (best (F.elders i r) 4).1) (hl : LongRes F i m wh) (h : ¬ (2 ≤ E ∧ m ≤ E + 1)) (h2 : 3 ≤ m ∨ m = 2 ∧ wh < 128) :
    packetAt F.b F.tb F.dict i r = (⟨1, m, wh, 0⟩, m, young r wh) := by
  have hw := hl.2 (by omega)
  have hm := hl.1
  subst hE hw hm
  exact (if_neg h).trans (if_pos h2)
theorem packet_rest {F : FLay} {i m wh E : Nat} {r : Nat → Nat} (hE : E = (best (F.elders i r) 4).1) (hl : LongRes F i m wh) (h : ¬ (2 ≤ E ∧ m ≤ E + 1)) (h2 : ¬ (3 ≤ m ∨ m = 2 ∧ wh < 128)) :
    packetAt F.b F.tb F.dict i r = if 0 < lenAt F.b F.tb F.dict i (r 0) then (⟨6, 0, 0, 0⟩, 1, r) else (⟨0, 0, 0, F.b i⟩, 1, r) := by
  have hm := hl.1
  have h3 : ¬ (3 ≤ m ∨ m = 2 ∧ (wide F.b F.tb F.dict i).2 < 128) := by
    intro h4
    have hw := hl.2 (by omega)
    rw [← hw] at h4
    exact h2 h4
  subst hE hm
  exact (if_neg h).trans (if_neg h3)

theorem FLay.At.of_fr {F : FLay} {w w' : World} {r r' : Nat → Nat} {k k' : Nat} (h : F.At w r k) (hf : Fr F.foot w w') (hb : w'.heap[F.g]? = some (.cells (F.cells r' k') 55)) : F.At w' r' k' := by
  refine ⟨hb, ?_⟩
  rcases h.row with h | ⟨bb, off, h1, h2, h3, h4, h5⟩
  · exact .inl h
  · exact .inr ⟨bb, off, h1, h2, h3, h4, fun i hi => hf.cell (h5 i hi) (fun e => by rcases e with e | e | e <;> simp only at e <;> omega)⟩
/-- the packet is laid down in its own block; what became of the finder. -/
theorem pack_world {F : FLay} {w w2 w3 : World} {r r' : Nat → Nat} {k0 i : Nat} {x0 x1 x2 x3 : Value} (c0 c1 c2 c3 : Value) (ok : F.Ok) (ha : F.At w r k0) (hf : Fr F.foot w w2) (hc : F.Chain w2 i) (hg : F.g < w.heap.size) (hgl : F.gl < w.heap.size) (hga : F.ga < w.heap.size)
    (hres : w2.heap[w.heap.size]? = some (.cells #[x0, x1, x2, x3] 38)) (hf3 : Fr (fun k => k = F.g) w2 w3) (hb3 : w3.heap[F.g]? = some (.cells (F.cells r' i) 55)) :
    ((((w3.setCell ⟨w.heap.size, 0, none⟩ c0).setCell ⟨w.heap.size, 1, none⟩ c1).setCell ⟨w.heap.size, 2, none⟩ c2).setCell ⟨w.heap.size, 3, none⟩ c3).heap[w.heap.size]? = some (.cells #[c0, c1, c2, c3] 38) ∧
    Fr F.foot w ((((w3.setCell ⟨w.heap.size, 0, none⟩ c0).setCell ⟨w.heap.size, 1, none⟩ c1).setCell ⟨w.heap.size, 2, none⟩ c2).setCell ⟨w.heap.size, 3, none⟩ c3) ∧
    F.At ((((w3.setCell ⟨w.heap.size, 0, none⟩ c0).setCell ⟨w.heap.size, 1, none⟩ c1).setCell ⟨w.heap.size, 2, none⟩ c2).setCell ⟨w.heap.size, 3, none⟩ c3) r' i ∧
    F.Chain ((((w3.setCell ⟨w.heap.size, 0, none⟩ c0).setCell ⟨w.heap.size, 1, none⟩ c1).setCell ⟨w.heap.size, 2, none⟩ c2).setCell ⟨w.heap.size, 3, none⟩ c3) i := by
  have hf03 : Fr F.foot w w3 := hf.then hf3 (fun _ _ h => .inl h)
  have hfx : Fr F.foot w ((((w3.setCell ⟨w.heap.size, 0, none⟩ c0).setCell ⟨w.heap.size, 1, none⟩ c1).setCell ⟨w.heap.size, 2, none⟩ c2).setCell ⟨w.heap.size, 3, none⟩ c3) :=
    (((hf03.setNew (Nat.le_refl _) 0 c0).setNew (Nat.le_refl _) 1 c1).setNew (Nat.le_refl _) 2 c2).setNew (Nat.le_refl _) 3 c3
  have hr3 := hf3.blkNe hres (by omega)
  have hc3 := hc.fr hf3 ok.lg ok.ag
  refine ⟨?_, hfx, ha.of_fr hfx ?_, ?_, ?_⟩
  · exact blk_set (blk_set (blk_set (blk_set hr3)))
  · exact blk_set_ne (blk_set_ne (blk_set_ne (blk_set_ne hb3 (by simp only; omega)) (by simp only; omega)) (by simp only; omega)) (by simp only; omega)
  · exact blk_set_ne (blk_set_ne (blk_set_ne (blk_set_ne hc3.last (by simp only; omega)) (by simp only; omega)) (by simp only; omega)) (by simp only; omega)
  · exact blk_set_ne (blk_set_ne (blk_set_ne (blk_set_ne hc3.ahead (by simp only; omega)) (by simp only; omega)) (by simp only; omega)) (by simp only; omega)

set_option maxRecDepth 100000 in
set_option maxHeartbeats 4000000 in
theorem packet_any (F : FLay) (r : Nat → Nat) (k0 i : Nat) (w : World) (ok : F.Ok) (hk0 : k0 ≤ i) (hi : i < F.tb) (hr : ∀ h, h < 4 → r h < 4294967296) (ha : F.At w r k0) (hc : F.Chain w k0) :
    Calls Try.prog 18 #[.pointer (some ⟨F.g, 0, none⟩), .int .i64 i] w (PacketPost F r i w) := by
  have hto := ok.to_
  have hL := ok.len
  have HA := hid ha
  have HC := hid hc
  have HR := hid hr
  have lg := ok.lg
  have ag := ok.ag
  clear ha hc hr
  go_enter Try.func18, Try.ntmps18
  go_wp2_with fail
  refine (elder_q F r k0 i _ ok (by omega) HR.out (HA.out.fr ((Fr.refl _ _).alloc _))).mono ?_
  rintro e w1 ⟨rfl, n1, rfl⟩
  obtain ⟨E, hE⟩ : ∃ E, E = (best (F.elders i r) 4).1 := ⟨_, rfl⟩
  obtain ⟨k, hk⟩ : ∃ k, k = (best (F.elders i r) 4).2 := ⟨_, rfl⟩
  have hEle : E ≤ 273 := by rw [hE]; have := elder_le F.b F.tb F.dict i r 4; unfold FLay.elders; omega
  have hk4 : 0 < E → k < 4 := by rw [hE, hk]; intro h; exact (best_at _ _ h).1
  rw [← hE, ← hk]
  have HE := hid hE
  have HK := hid hk
  clear hE hk
  go_wp2_with fail
  refine (longest_any F r k0 i _ ok hk0 hi (HA.out.fr (((Fr.refl _ _).alloc _).drewN _)) (HC.out.fr (S := Non) (((Fr.refl _ _).alloc _).drewN _) id id)).mono ?_
  rintro e w2 ⟨m, wh, rfl, hlr, hf2, ha2, hc2⟩
  have hmle : m ≤ 273 := by rw [hlr.1]; have := wide_le F.b F.tb F.dict i; have := wideLen_le F.b F.tb F.dict i; omega
  have hsz : w.heap.size < w2.heap.size := by have := hf2.size; simp at this; omega
  have hgw : F.g < w.heap.size := blk_lt HA.out.blk
  have hglw : F.gl < w.heap.size := blk_lt HC.out.last
  have hgaw : F.ga < w.heap.size := blk_lt HC.out.ahead
  have hres : w2.heap[w.heap.size]? = some (.cells #[.int .i64 0, .int .u8 0, .int .i64 0, .int .u32 0] 38) := hf2.blk (by exact blk_drewN (blk_new _ _)) (fun e => by rcases e with e | e | e <;> omega)
  have hfw : Fr F.foot w w2 := Fr.then (((Fr.refl _ w).alloc _).drewN n1) hf2 (fun _ _ h => h)
  have HLR := hid hlr
  have HFW := hid hfw
  have HA2 := hid ha2
  have HC2 := hid hc2
  have HRES := hid hres
  have c3 := blk_cell ha2.blk (j := 3) (v := .int .u32 (r 0)) rfl
  have c4 := blk_cell ha2.blk (j := 4) (v := .int .u32 (r 1)) rfl
  have c5 := blk_cell ha2.blk (j := 5) (v := .int .u32 (r 2)) rfl
  have c6 := blk_cell ha2.blk (j := 6) (v := .int .u32 (r 3)) rfl
  have z3 := blk_frozen ha2.blk 3
  have v0 := blk_cell hres (j := 0) (v := .int .i64 0) rfl
  have v1 := blk_cell hres (j := 1) (v := .int .u8 0) rfl
  have v2 := blk_cell hres (j := 2) (v := .int .i64 0) rfl
  have v3 := blk_cell hres (j := 3) (v := .int .u32 0) rfl
  have y0 := blk_frozen hres 0
  have y1 := blk_frozen hres 1
  have y2 := blk_frozen hres 2
  have y3 := blk_frozen hres 3
  have hne : w.heap.size ≠ F.g := by omega
  clear hlr hf2 ha2 hc2 hres hfw
  by_cases qa : 2 ≤ E ∧ m ≤ E + 1
  · obtain ⟨q1, q2⟩ := qa
    · have hk := hk4 (by omega)
      have g1 : decide ((2 : Int) ≤ (E : Int)) = true := by rw [decide_eq_true_iff]; omega
      have g2 : decide ((m : Int) ≤ (E : Int) + 1) = true := by rw [decide_eq_true_iff]; omega
      have g3 : IntKind.i64.wrap ((E : Int) + 1) = (E : Int) + 1 := by rw [IntKind.wrap_i64]; omega
      have HPK := hid (packet_again (F := F) (i := i) (m := m) (r := r) HE.out HK.out HLR.out.1 ⟨q1, q2⟩)
      have hw1 : IntKind.i64.wrap 1 = 1 := by decide
      have hw2 : IntKind.i64.wrap 2 = 2 := by decide
      have hw3 : IntKind.i64.wrap 3 = 3 := by decide
      have hw4 : IntKind.i64.wrap 4 = 4 := by decide
      rcases elder_step hk with rfl | rfl | rfl | rfl
      · go_upto_region 5 with fail
        go_region_held3 (fun _ => True) (trivial) ((refine step_copy_raw rfl (.tmp 43) (.tmp 48) 75 75 rfl 23 55 Try.underlying75 Try.info_u32 F.g 4 0 3 F.g 3 0 4 rfl rfl (F.cells r i) #[.slice F.av F.L F.c, .int .i64 F.tb, .int .i64 F.dict, .int .u32 (r 0), .int .u32 (r 1), .int .u32 (r 2), .int .u32 (r 3), .slice (some ⟨F.gl, 0, none⟩) 65536 65536, .slice (some ⟨F.ga, 0, none⟩) F.L F.L, .int .i64 i] (by exact HA2.out.blk) [] rfl (src_cells (by exact HA2.out.blk) 3 _ (fun j hj => absurd hj (by simp))) (by show _ ≤ 10; simp) (fun v hv => by simp at hv) rfl ?_; intro w3 hf3 hb3))
        have hres3 := hf3.blkNe (by exact HRES.out) hne
        have HF3 := hid hf3
        have HB3 := hid hb3
        have HRES3 := hid hres3
        have x3 := blk_cell hb3 (j := 3) (v := .int .u32 (r 0)) rfl
        have z3' := blk_frozen hb3 3
        have v0' := blk_cell hres3 (j := 0) (v := .int .i64 0) rfl
        have v1' := blk_cell hres3 (j := 1) (v := .int .u8 0) rfl
        have v2' := blk_cell hres3 (j := 2) (v := .int .i64 0) rfl
        have v3' := blk_cell hres3 (j := 3) (v := .int .u32 0) rfl
        have y0' := blk_frozen hres3 0
        have y1' := blk_frozen hres3 1
        have y2' := blk_frozen hres3 2
        have y3' := blk_frozen hres3 3
        clear hf3 hb3 hres3 v0 v1 v2 v3 y0 y1 y2 y3 c3 c4 c5 c6 z3
        go_wp2_with fail
        (try simp only [Exit.inBlock, Exit.then])
        refine bodyPost_ret (v := .tuple #[pkV ⟨2 + 0, E, 0, 0⟩, .int .i64 E]) (ret_pk rfl _ _ w.heap.size 38 #[.int .i64 ((2 + 0 : Nat) : Int), .int .u8 0, .int .i64 E, .int .u32 0] (0, 0) _ (.int .i64 E) rfl rfl ?_ Try.underlying38 rfl Try.info_pk) rfl ?_
        all_goals have K := pack_world (r' := front r 0) (.int .i64 ((2 + 0 : Nat) : Int)) (.int .u8 0) (.int .i64 E) (.int .u32 0) ok HA.out HFW.out.drew ⟨HC2.out.1, HC2.out.2⟩ hgw hglw hgaw (by exact HRES.out) (HF3.out.setOne 3 (.int .u32 (r 0))) (blk_set HB3.out)
        · exact K.1
        · exact ⟨by rw [HPK.out], by rw [HPK.out]; exact K.2⟩
      · go_upto_region 5 with fail
        go_region_held3 (fun _ => True) (trivial) ((refine step_copy_raw rfl (.tmp 43) (.tmp 48) 75 75 rfl 23 55 Try.underlying75 Try.info_u32 F.g 4 1 3 F.g 3 1 4 rfl rfl (F.cells r i) #[.slice F.av F.L F.c, .int .i64 F.tb, .int .i64 F.dict, .int .u32 (r 0), .int .u32 (r 0), .int .u32 (r 2), .int .u32 (r 3), .slice (some ⟨F.gl, 0, none⟩) 65536 65536, .slice (some ⟨F.ga, 0, none⟩) F.L F.L, .int .i64 i] (by exact HA2.out.blk) [.int .u32 (r 0)] rfl (src_cells (by exact HA2.out.blk) 3 _ (fun j hj => match j, hj with | 0, _ => rfl | q + 1, hj => absurd hj (by simp))) (by show _ ≤ 10; simp) (fun v hv => by simp at hv; subst hv; rfl) rfl ?_; intro w3 hf3 hb3))
        have hres3 := hf3.blkNe (by exact HRES.out) hne
        have HF3 := hid hf3
        have HB3 := hid hb3
        have HRES3 := hid hres3
        have x3 := blk_cell hb3 (j := 3) (v := .int .u32 (r 0)) rfl
        have z3' := blk_frozen hb3 3
        have v0' := blk_cell hres3 (j := 0) (v := .int .i64 0) rfl
        have v1' := blk_cell hres3 (j := 1) (v := .int .u8 0) rfl
        have v2' := blk_cell hres3 (j := 2) (v := .int .i64 0) rfl
        have v3' := blk_cell hres3 (j := 3) (v := .int .u32 0) rfl
        have y0' := blk_frozen hres3 0
        have y1' := blk_frozen hres3 1
        have y2' := blk_frozen hres3 2
        have y3' := blk_frozen hres3 3
        clear hf3 hb3 hres3 v0 v1 v2 v3 y0 y1 y2 y3 c3 c4 c5 c6 z3
        go_wp2_with fail
        (try simp only [Exit.inBlock, Exit.then])
        refine bodyPost_ret (v := .tuple #[pkV ⟨2 + 1, E, 0, 0⟩, .int .i64 E]) (ret_pk rfl _ _ w.heap.size 38 #[.int .i64 ((2 + 1 : Nat) : Int), .int .u8 0, .int .i64 E, .int .u32 0] (0, 0) _ (.int .i64 E) rfl rfl ?_ Try.underlying38 rfl Try.info_pk) rfl ?_
        all_goals have K := pack_world (r' := front r 1) (.int .i64 ((2 + 1 : Nat) : Int)) (.int .u8 0) (.int .i64 E) (.int .u32 0) ok HA.out HFW.out.drew ⟨HC2.out.1, HC2.out.2⟩ hgw hglw hgaw (by exact HRES.out) (HF3.out.setOne 3 (.int .u32 (r 1))) (blk_set HB3.out)
        · exact K.1
        · exact ⟨by rw [HPK.out], by rw [HPK.out]; exact K.2⟩
      · go_upto_region 5 with fail
        go_region_held3 (fun _ => True) (trivial) ((refine step_copy_raw rfl (.tmp 43) (.tmp 48) 75 75 rfl 23 55 Try.underlying75 Try.info_u32 F.g 4 2 3 F.g 3 2 4 rfl rfl (F.cells r i) #[.slice F.av F.L F.c, .int .i64 F.tb, .int .i64 F.dict, .int .u32 (r 0), .int .u32 (r 0), .int .u32 (r 1), .int .u32 (r 3), .slice (some ⟨F.gl, 0, none⟩) 65536 65536, .slice (some ⟨F.ga, 0, none⟩) F.L F.L, .int .i64 i] (by exact HA2.out.blk) [.int .u32 (r 0), .int .u32 (r 1)] rfl (src_cells (by exact HA2.out.blk) 3 _ (fun j hj => match j, hj with | 0, _ => rfl | 1, _ => rfl | q + 2, hj => absurd hj (by simp))) (by show _ ≤ 10; simp) (fun v hv => by simp at hv; rcases hv with rfl | rfl <;> rfl) rfl ?_; intro w3 hf3 hb3))
        have hres3 := hf3.blkNe (by exact HRES.out) hne
        have HF3 := hid hf3
        have HB3 := hid hb3
        have HRES3 := hid hres3
        have x3 := blk_cell hb3 (j := 3) (v := .int .u32 (r 0)) rfl
        have z3' := blk_frozen hb3 3
        have v0' := blk_cell hres3 (j := 0) (v := .int .i64 0) rfl
        have v1' := blk_cell hres3 (j := 1) (v := .int .u8 0) rfl
        have v2' := blk_cell hres3 (j := 2) (v := .int .i64 0) rfl
        have v3' := blk_cell hres3 (j := 3) (v := .int .u32 0) rfl
        have y0' := blk_frozen hres3 0
        have y1' := blk_frozen hres3 1
        have y2' := blk_frozen hres3 2
        have y3' := blk_frozen hres3 3
        clear hf3 hb3 hres3 v0 v1 v2 v3 y0 y1 y2 y3 c3 c4 c5 c6 z3
        go_wp2_with fail
        (try simp only [Exit.inBlock, Exit.then])
        refine bodyPost_ret (v := .tuple #[pkV ⟨2 + 2, E, 0, 0⟩, .int .i64 E]) (ret_pk rfl _ _ w.heap.size 38 #[.int .i64 ((2 + 2 : Nat) : Int), .int .u8 0, .int .i64 E, .int .u32 0] (0, 0) _ (.int .i64 E) rfl rfl ?_ Try.underlying38 rfl Try.info_pk) rfl ?_
        all_goals have K := pack_world (r' := front r 2) (.int .i64 ((2 + 2 : Nat) : Int)) (.int .u8 0) (.int .i64 E) (.int .u32 0) ok HA.out HFW.out.drew ⟨HC2.out.1, HC2.out.2⟩ hgw hglw hgaw (by exact HRES.out) (HF3.out.setOne 3 (.int .u32 (r 2))) (blk_set HB3.out)
        · exact K.1
        · exact ⟨by rw [HPK.out], by rw [HPK.out]; exact K.2⟩
      · go_upto_region 5 with fail
        go_region_held3 (fun _ => True) (trivial) ((refine step_copy_raw rfl (.tmp 43) (.tmp 48) 75 75 rfl 23 55 Try.underlying75 Try.info_u32 F.g 4 3 3 F.g 3 3 4 rfl rfl (F.cells r i) #[.slice F.av F.L F.c, .int .i64 F.tb, .int .i64 F.dict, .int .u32 (r 0), .int .u32 (r 0), .int .u32 (r 1), .int .u32 (r 2), .slice (some ⟨F.gl, 0, none⟩) 65536 65536, .slice (some ⟨F.ga, 0, none⟩) F.L F.L, .int .i64 i] (by exact HA2.out.blk) [.int .u32 (r 0), .int .u32 (r 1), .int .u32 (r 2)] rfl (src_cells (by exact HA2.out.blk) 3 _ (fun j hj => match j, hj with | 0, _ => rfl | 1, _ => rfl | 2, _ => rfl | q + 3, hj => absurd hj (by simp))) (by show _ ≤ 10; simp) (fun v hv => by simp at hv; rcases hv with rfl | rfl | rfl <;> rfl) rfl ?_; intro w3 hf3 hb3))
        have hres3 := hf3.blkNe (by exact HRES.out) hne
        have HF3 := hid hf3
        have HB3 := hid hb3
        have HRES3 := hid hres3
        have x3 := blk_cell hb3 (j := 3) (v := .int .u32 (r 0)) rfl
        have z3' := blk_frozen hb3 3
        have v0' := blk_cell hres3 (j := 0) (v := .int .i64 0) rfl
        have v1' := blk_cell hres3 (j := 1) (v := .int .u8 0) rfl
        have v2' := blk_cell hres3 (j := 2) (v := .int .i64 0) rfl
        have v3' := blk_cell hres3 (j := 3) (v := .int .u32 0) rfl
        have y0' := blk_frozen hres3 0
        have y1' := blk_frozen hres3 1
        have y2' := blk_frozen hres3 2
        have y3' := blk_frozen hres3 3
        clear hf3 hb3 hres3 v0 v1 v2 v3 y0 y1 y2 y3 c3 c4 c5 c6 z3
        go_wp2_with fail
        (try simp only [Exit.inBlock, Exit.then])
        refine bodyPost_ret (v := .tuple #[pkV ⟨2 + 3, E, 0, 0⟩, .int .i64 E]) (ret_pk rfl _ _ w.heap.size 38 #[.int .i64 ((2 + 3 : Nat) : Int), .int .u8 0, .int .i64 E, .int .u32 0] (0, 0) _ (.int .i64 E) rfl rfl ?_ Try.underlying38 rfl Try.info_pk) rfl ?_
        all_goals have K := pack_world (r' := front r 3) (.int .i64 ((2 + 3 : Nat) : Int)) (.int .u8 0) (.int .i64 E) (.int .u32 0) ok HA.out HFW.out.drew ⟨HC2.out.1, HC2.out.2⟩ hgw hglw hgaw (by exact HRES.out) (HF3.out.setOne 3 (.int .u32 (r 3))) (blk_set HB3.out)
        · exact K.1
        · exact ⟨by rw [HPK.out], by rw [HPK.out]; exact K.2⟩
  · by_cases qm : 3 ≤ m ∨ m = 2 ∧ wh < 128
    · have hwi : wh < i := by
        have h1 := (HLR.out.2 (by omega)).symm
        have h2 : 0 < (wide F.b F.tb F.dict i).1 := by have h3 := HLR.out.1; have h4 := wideLen_le F.b F.tb F.dict i; omega
        have h5 := (best_at _ _ h2).1
        have h6 : (wide F.b F.tb F.dict i).2 < min i F.dict := h5
        omega
      have HPK := hid (packet_match (F := F) (i := i) (m := m) (wh := wh) (r := r) HE.out HLR.out qa qm)
      have hww : IntKind.u32.wrap (wh : Int) = (wh : Int) := by rw [IntKind.wrap_u32]; omega
      have hcase : (decide ((2 : Int) ≤ (E : Int)) = false ∨ (decide ((2 : Int) ≤ (E : Int)) = true ∧ decide ((m : Int) ≤ (E : Int) + 1) = false ∧ IntKind.i64.wrap ((E : Int) + 1) = (E : Int) + 1)) ∧ (decide ((3 : Int) ≤ (m : Int)) = true ∨ (decide ((3 : Int) ≤ (m : Int)) = false ∧ ((m : Int) == 2) = true ∧ decide ((wh : Int) < 128) = true)) := by
        refine ⟨?_, ?_⟩
        · by_cases h : 2 ≤ E
          · exact .inr ⟨by rw [decide_eq_true_iff]; omega, by rw [decide_eq_false_iff_not]; omega, by rw [IntKind.wrap_i64]; omega⟩
          · exact .inl (by rw [decide_eq_false_iff_not]; omega)
        · by_cases h : 3 ≤ m
          · exact .inl (by rw [decide_eq_true_iff]; omega)
          · exact .inr ⟨by rw [decide_eq_false_iff_not]; omega, by rw [beq_iff_eq]; omega, by rw [decide_eq_true_iff]; omega⟩
      clear qa qm
      obtain ⟨hc1, hc2⟩ := hcase
      rcases hc1 with g1 | ⟨g1, g2, g3⟩ <;> rcases hc2 with g4 | ⟨g4, g5, g6⟩
      all_goals
        go_upto_region 9 with fail
        go_region_held3 (fun _ => True) (trivial) ((refine step_copy_raw rfl (.tmp 74) (.tmp 78) 75 75 rfl 23 55 Try.underlying75 Try.info_u32 F.g 4 3 3 F.g 3 3 4 rfl rfl (F.cells r i) #[.slice F.av F.L F.c, .int .i64 F.tb, .int .i64 F.dict, .int .u32 (r 0), .int .u32 (r 0), .int .u32 (r 1), .int .u32 (r 2), .slice (some ⟨F.gl, 0, none⟩) 65536 65536, .slice (some ⟨F.ga, 0, none⟩) F.L F.L, .int .i64 i] (by exact HA2.out.blk) [.int .u32 (r 0), .int .u32 (r 1), .int .u32 (r 2)] rfl (src_cells (by exact HA2.out.blk) 3 _ (fun j hj => match j, hj with | 0, _ => rfl | 1, _ => rfl | 2, _ => rfl | q + 3, hj => absurd hj (by simp))) (by show _ ≤ 10; simp) (fun v hv => by simp at hv; rcases hv with rfl | rfl | rfl <;> rfl) rfl ?_; intro w3 hf3 hb3))
        have hres3 := hf3.blkNe (by exact HRES.out) hne
        have HF3 := hid hf3
        have HB3 := hid hb3
        have HRES3 := hid hres3
        have x3 := blk_cell hb3 (j := 3) (v := .int .u32 (r 0)) rfl
        have z3' := blk_frozen hb3 3
        have v0' := blk_cell hres3 (j := 0) (v := .int .i64 0) rfl
        have v1' := blk_cell hres3 (j := 1) (v := .int .u8 0) rfl
        have v2' := blk_cell hres3 (j := 2) (v := .int .i64 0) rfl
        have v3' := blk_cell hres3 (j := 3) (v := .int .u32 0) rfl
        have y0' := blk_frozen hres3 0
        have y1' := blk_frozen hres3 1
        have y2' := blk_frozen hres3 2
        have y3' := blk_frozen hres3 3
        clear hf3 hb3 hres3 v0 v1 v2 v3 y0 y1 y2 y3 c3 c4 c5 c6 z3
        go_wp2_with fail
        (try simp only [Exit.inBlock, Exit.then])
        refine bodyPost_ret (v := .tuple #[pkV ⟨1, m, wh, 0⟩, .int .i64 m]) (ret_pk rfl _ _ w.heap.size 38 #[.int .i64 ((1 : Nat) : Int), .int .u8 0, .int .i64 m, .int .u32 wh] (0, 0) _ (.int .i64 m) rfl rfl ?_ Try.underlying38 rfl Try.info_pk) rfl ?_
        all_goals have K := pack_world (r' := young r wh) (.int .i64 ((1 : Nat) : Int)) (.int .u8 0) (.int .i64 m) (.int .u32 wh) ok HA.out HFW.out.drew ⟨HC2.out.1, HC2.out.2⟩ hgw hglw hgaw (by exact HRES.out) (HF3.out.setOne 3 (.int .u32 wh)) (blk_set HB3.out)
        · exact K.1
        · exact ⟨by rw [HPK.out], by rw [HPK.out]; exact K.2⟩
    · have HPK := hid (packet_rest (F := F) (i := i) (m := m) (wh := wh) (r := r) HE.out HLR.out qa qm)
      have hcase : (decide ((2 : Int) ≤ (E : Int)) = false ∨ (decide ((2 : Int) ≤ (E : Int)) = true ∧ decide ((m : Int) ≤ (E : Int) + 1) = false ∧ IntKind.i64.wrap ((E : Int) + 1) = (E : Int) + 1)) ∧ (decide ((3 : Int) ≤ (m : Int)) = false ∧ (((m : Int) == 2) = false ∨ ((m : Int) == 2) = true ∧ decide ((wh : Int) < 128) = false)) := by
        refine ⟨?_, ?_, ?_⟩
        · by_cases h : 2 ≤ E
          · exact .inr ⟨by rw [decide_eq_true_iff]; omega, by rw [decide_eq_false_iff_not]; omega, by rw [IntKind.wrap_i64]; omega⟩
          · exact .inl (by rw [decide_eq_false_iff_not]; omega)
        · rw [decide_eq_false_iff_not]; omega
        · by_cases h : m = 2
          · exact .inr ⟨by rw [beq_iff_eq]; omega, by rw [decide_eq_false_iff_not]; omega⟩
          · exact .inl (by simp; omega)
      clear qa qm
      obtain ⟨hc1, g4, hc2⟩ := hcase
      obtain ⟨l, hl⟩ : ∃ l, l = lenAt F.b F.tb F.dict i (r 0) := ⟨_, rfl⟩
      have hLen0 : Calls Try.prog 33 #[.pointer (some ⟨F.g, 0, none⟩), .int .i64 i, .int .i64 (r 0)] w2 fun e w' => e = .returned (.int .i64 l) ∧ ∃ m, w' = w2.drewN m := by
        rw [hl]
        exact length_q F r i i (r 0) w2 ok (by omega) (by have := HR.out 0 (by decide); omega) HA2.out
      have HLen := hid hLen0
      rw [← hl] at HPK
      have HL := hid hl
      have hr0 : (r 0 : Int) < 4294967296 := by have := HR.out 0 (by decide); omega
      have hrw : IntKind.i64.wrap (r 0 : Int) = (r 0 : Int) := by rw [IntKind.wrap_i64]; omega
      obtain ⟨bb, off, hav, _, _, _, hcb⟩ := HA2.out.at (i := i) (by omega)
      have cb := hcb i (by omega)
      have c0 := blk_cell HA2.out.blk (j := 0) (v := .slice F.av F.L F.c) rfl
      have hiL : (i : Int) < (F.L : Int) := by omega
      rw [hav] at c0
      have hl0 : l = 0 ∨ (0 : Int) < (l : Int) := by omega
      clear hcb hav hl hLen0
      rcases hc1 with g1 | ⟨g1, g2, g3⟩ <;> rcases hc2 with g5 | ⟨g5, g6⟩
      all_goals
        go_wp2_with fail
        refine HLen.out.mono ?_
        rintro e w3 ⟨rfl, m3, rfl⟩
        clear hr0 hrw
        rcases hl0 with rfl | hl0
        · rw [if_neg (Nat.lt_irrefl 0)] at HPK
          go_wp2_with fail
          (try simp only [Exit.inBlock, Exit.then])
          refine bodyPost_ret (v := .tuple #[pkV ⟨0, 0, 0, F.b i⟩, .int .i64 1]) (ret_pk rfl _ _ w.heap.size 38 #[.int .i64 ((0 : Nat) : Int), .int .u8 (F.b i), .int .i64 ((0 : Nat) : Int), .int .u32 ((0 : Nat) : Int)] (0, 0) _ (.int .i64 1) rfl rfl ?_ Try.underlying38 rfl Try.info_pk) rfl ?_
          all_goals have K := pack_world (r' := r) (w3 := w2.drewN m3) (.int .i64 ((0 : Nat) : Int)) (.int .u8 (F.b i)) (.int .i64 ((0 : Nat) : Int)) (.int .u32 ((0 : Nat) : Int)) ok HA.out HFW.out HC2.out hgw hglw hgaw HRES.out ((Fr.refl _ _).drewN m3) HA2.out.blk
          · exact K.1
          · exact ⟨by rw [HPK.out]; rfl, by rw [HPK.out]; exact K.2⟩
        · rw [if_pos (by omega)] at HPK
          go_wp2_with fail
          (try simp only [Exit.inBlock, Exit.then])
          refine bodyPost_ret (v := .tuple #[pkV ⟨6, 0, 0, 0⟩, .int .i64 1]) (ret_pk rfl _ _ w.heap.size 38 #[.int .i64 ((6 : Nat) : Int), .int .u8 0, .int .i64 ((0 : Nat) : Int), .int .u32 ((0 : Nat) : Int)] (0, 0) _ (.int .i64 1) rfl rfl ?_ Try.underlying38 rfl Try.info_pk) rfl ?_
          all_goals have K := pack_world (r' := r) (w3 := w2.drewN m3) (.int .i64 ((6 : Nat) : Int)) (.int .u8 0) (.int .i64 ((0 : Nat) : Int)) (.int .u32 ((0 : Nat) : Int)) ok HA.out HFW.out HC2.out hgw hglw hgaw HRES.out ((Fr.refl _ _).drewN m3) HA2.out.blk
          · exact K.1
          · exact ⟨by rw [HPK.out]; rfl, by rw [HPK.out]; exact K.2⟩
end Go.Proofs.Yteedolfhmiehfaa
