/- Texts of this proof, one behind the other. -/
import Derived.Test.YtjnegcambbeblaaMg02
import Derived.Test.YtjnegcambbeblaaMg01
import Derived.Deep.RegionLaw
import Derived.Deep.CutBlock
import Derived.Laws.BitsAllLaws
import Derived.Deep.DeepCutAuto

/- The window: a ring of bytes; its functions, low. -/
namespace Go.Proofs.Ytjnegcambbeblaa
open Go.RowKit

structure WAt (g gr gm n next count : Nat) (ring : Nat → Int) (w : World) : Prop where
  st : w.heap[g]? = some (.cells #[.slice (some ⟨gr, 0, none⟩) n n, .int .i64 next, .int .i64 count, .pointer (some ⟨gm, 0, none⟩)] 159)
  rg : w.heap[gr]? = some (.cells (arr .u8 n ring) 5)
  ne : g ≠ gr
theorem WAt.keep {g gr gm n next count : Nat} {ring : Nat → Int} {w w' : World} (h : WAt g gr gm n next count ring w) {T : Nat → Prop} (hf : Fr T w w') (h1 : ¬ T g) (h2 : ¬ T gr) : WAt g gr gm n next count ring w' := ⟨hf.blk h.st h1, hf.blk h.rg h2, h.ne⟩
def WF (g gr : Nat) : Nat → Prop := fun k => k = g ∨ k = gr
def WPutPost (g gr gm n : Nat) (next count : Nat) (ring : Nat → Int) (w : World) (e : Ending) (w' : World) : Prop := e = .returned (.tuple #[]) ∧ Fr (WF g gr) w w' ∧ WAt g gr gm n next count ring w'
set_option maxRecDepth 100000 in
set_option maxHeartbeats 1000000 in
theorem wput_raw (g gr gm n next count : Nat) (ring : Nat → Int) (b : Int) (w : World) (h : WAt g gr gm n next count ring w) (hn : n ≤ 1048576) (hlt : next < n) (hc : count ≤ n) (hb : 0 ≤ b ∧ b < 256) (nx ct : Nat) (hnx : nx = if next + 1 = n then 0 else next + 1) (hct : ct = min (count + 1) n) :
    Calls Try.prog 94 #[.pointer (some ⟨g, 0, none⟩), .int .u8 b] w (WPutPost g gr gm n nx ct (upd ring next b) w) := by
  obtain ⟨hb0, hb1⟩ := hb
  have hx0 : (0 : Int) ≤ (next : Int) := by omega
  have hx1 : (next : Int) < (n : Int) := by omega
  have hn0 : ((n : Int) == 0) = false := by simp; omega
  have hnb : (n : Int) ≤ 1048576 := by omega
  have hcb : (count : Int) ≤ 1048576 := by omega
  have hc0 : (0 : Int) ≤ (count : Int) := by omega
  have hkn : next < n := hlt
  have k0 := blk_cell h.st (j := 0) (v := .slice (some ⟨gr, 0, none⟩) n n) rfl
  have k1 := blk_cell h.st (j := 1) (v := .int .i64 next) rfl
  have r1 := blk_cell h.rg (j := next) (v := .int .u8 (ring next)) (arr_get _ _ _ hlt)
  have z1 := blk_frozen h.rg next
  have H := hid h
  have HC := hid hc
  have HN := hid hn
  have HNX := hid hnx
  have HCT := hid hct
  clear h hlt hc hn hnx hct
  go_enter Try.func94, Try.ntmps94
  go_upto_region 1 with fail
  go_cut [] (fun wx => Fr (WF g gr) w wx ∧ WAt g gr gm n next count (upd ring next b) wx)
  case first =>
    go_region
    go_wp2_with fail
    go_meet
    have hf : Fr (WF g gr) w (w.setCell ⟨gr, next, none⟩ (.int .u8 b)) := Fr.setCell (p := ⟨gr, next, none⟩) (Fr.refl _ _) (fun _ => .inr rfl) _
    exact ⟨hf.drew, blk_drew (blk_set_ne H.out.st H.out.ne), by have e := blk_set (i := next) (v := .int .u8 b) H.out.rg; rw [arr_set] at e; exact e, H.out.ne⟩
  case rest =>
  obtain ⟨hf1, h1⟩ := hcut
  clear k0 k1 r1 z1
  have k0 := blk_cell h1.st (j := 0) (v := .slice (some ⟨gr, 0, none⟩) n n) rfl
  have k1 := blk_cell h1.st (j := 1) (v := .int .i64 next) rfl
  have z1 := blk_frozen h1.st 1
  have HF1 := hid hf1
  have H1 := hid h1
  clear hf1 h1
  go_upto_region 3 with fail
  obtain ⟨w2, hw2⟩ : ∃ w2, w2 = wc.setCell ⟨g, 1, none⟩ (.int .i64 ((next : Int) + 1)) := ⟨_, rfl⟩
  rw [← hw2]
  have hf2 : Fr (WF g gr) w w2 := by rw [hw2]; exact Fr.setCell (p := ⟨g, 1, none⟩) HF1.out (fun _ => .inl rfl) _
  have hs2 : w2.heap[g]? = some (.cells #[.slice (some ⟨gr, 0, none⟩) n n, .int .i64 ((next : Int) + 1), .int .i64 count, .pointer (some ⟨gm, 0, none⟩)] 159) := by rw [hw2]; exact blk_set (i := 1) H1.out.st
  have hr2 : w2.heap[gr]? = some (.cells (arr .u8 n (upd ring next b)) 5) := by rw [hw2]; exact blk_set_ne H1.out.rg (fun e => H1.out.ne e.symm)
  clear hw2 k0 k1 z1
  have k0 := blk_cell hs2 (j := 0) (v := .slice (some ⟨gr, 0, none⟩) n n) rfl
  have k1 := blk_cell hs2 (j := 1) (v := .int .i64 ((next : Int) + 1)) rfl
  have z1 := blk_frozen hs2 1
  have HF2 := hid hf2
  have HS2 := hid hs2
  have HR2 := hid hr2
  clear hf2 hs2 hr2
  have fin : ∀ (w3 : World) (c : Int), Fr (WF g gr) w w3 → WAt g gr gm n nx count (upd ring next b) w3 → c = (ct : Int) → WPutPost g gr gm n nx ct (upd ring next b) w (.returned (.tuple #[])) ((w3.setCell ⟨g, 2, none⟩ (.int .i64 c)).drew) := by
    intro w3 c hf3 h3 hc
    subst hc
    exact ⟨rfl, (Fr.setCell (p := ⟨g, 2, none⟩) hf3 (fun _ => .inl rfl) _).drew, blk_drew (blk_set (i := 2) h3.st), blk_drew (blk_set_ne h3.rg (fun e => h3.ne e.symm)), h3.ne⟩
  have FIN := hid fin
  clear fin
  by_cases hq : next + 1 = n
  · have q1 : ((next : Int) + 1 == (n : Int)) = true := by simp; omega
    have HX := hid (show nx = 0 by rw [HNX.out, if_pos hq])
    clear hq
    go_wp2_with fail
    go_quiet (fail)
    go_upto_region 5 with fail
    obtain ⟨w3, hw3⟩ : ∃ w3, w3 = (w2.drewN nq).setCell ⟨g, 1, none⟩ (.int .i64 0) := ⟨_, rfl⟩
    rw [← hw3]
    have hf3 : Fr (WF g gr) w w3 := by rw [hw3]; exact Fr.setCell (p := ⟨g, 1, none⟩) (HF2.out.drewN _) (fun _ => .inl rfl) _
    have h3 : WAt g gr gm n nx count (upd ring next b) w3 := by rw [hw3, HX.out]; exact ⟨blk_set (i := 1) (blk_drewN HS2.out), blk_set_ne (blk_drewN HR2.out) (fun e => H1.out.ne e.symm), H1.out.ne⟩
    clear hw3
    clear k0 k1 z1
    have k0 := blk_cell h3.st (j := 0) (v := .slice (some ⟨gr, 0, none⟩) n n) rfl
    have k2 := blk_cell h3.st (j := 2) (v := .int .i64 count) rfl
    have z2 := blk_frozen h3.st 2
    have HF3 := hid hf3
    have H3 := hid h3
    clear hf3 h3
    by_cases hq2 : count + 1 ≤ n
    · have q2 : (count : Int) + 1 ≤ (n : Int) := by omega
      have HY := hid (show ((count : Int) + 1) = (ct : Int) by have := HCT.out; omega)
      clear hq2
      go_region
      go_wp2_with fail
      go_end0
      exact FIN.out _ _ HF3.out H3.out HY.out
    · have q2 : (n : Int) < (count : Int) + 1 := by omega
      have HY := hid (show (n : Int) = (ct : Int) by have := HCT.out; omega)
      clear hq2
      go_region
      go_wp2_with fail
      go_end0
      exact FIN.out _ _ HF3.out H3.out HY.out
  · have q1 : ((next : Int) + 1 == (n : Int)) = false := by simp; omega
    have HX := hid (show nx = next + 1 by rw [HNX.out, if_neg hq])
    clear hq
    go_wp2_with fail
    go_quiet (fail)
    go_upto_region 5 with fail
    obtain ⟨w3, hw3⟩ : ∃ w3, w3 = w2.drewN nq := ⟨_, rfl⟩
    rw [← hw3]
    have hf3 : Fr (WF g gr) w w3 := by rw [hw3]; exact HF2.out.drewN _
    have h3 : WAt g gr gm n nx count (upd ring next b) w3 := by rw [hw3, HX.out]; exact ⟨blk_drewN HS2.out, blk_drewN HR2.out, H1.out.ne⟩
    clear hw3
    clear k0 k1 z1
    have k0 := blk_cell h3.st (j := 0) (v := .slice (some ⟨gr, 0, none⟩) n n) rfl
    have k2 := blk_cell h3.st (j := 2) (v := .int .i64 count) rfl
    have z2 := blk_frozen h3.st 2
    have HF3 := hid hf3
    have H3 := hid h3
    clear hf3 h3
    by_cases hq2 : count + 1 ≤ n
    · have q2 : (count : Int) + 1 ≤ (n : Int) := by omega
      have HY := hid (show ((count : Int) + 1) = (ct : Int) by have := HCT.out; omega)
      clear hq2
      go_region
      go_wp2_with fail
      go_end0
      exact FIN.out _ _ HF3.out H3.out HY.out
    · have q2 : (n : Int) < (count : Int) + 1 := by omega
      have HY := hid (show (n : Int) = (ct : Int) by have := HCT.out; omega)
      clear hq2
      go_region
      go_wp2_with fail
      go_end0
      exact FIN.out _ _ HF3.out H3.out HY.out
end Go.Proofs.Ytjnegcambbeblaa

/- append of one integer to a row of the call's own: where the row lies then. -/
namespace Go.Proofs.Ytjnegcambbeblaa
open Go.RowKit

theorem run_grow1 {P : Program} {w : World} (t ty : TypeId) (k : IntKind) (e : TypeId) (bytes : Nat) (ht : P.underlying t = some (.slice e)) (hinfo : (P.info? e).map (fun i => (i.zero, i.size, i.bytes)) = some (some (.int k 0), 1, bytes))
    (v : Value) (xs : List Int) (hown : Own w 0 k e v xs) (ad : Addr) (c : Nat) (y : Int) (hcell : w.cell? ad = some (.int k y))
    (hb1 : 1 ≤ bytes) (hbytes : (xs.length + 1) * bytes ≤ 140737488355328) :
    ∃ v' w', (Builtin.append_ #[t, t] ty #[v, .slice (some ad) 1 c]).run P w = .ok v' w' ∧ Own w' 0 k e v' (xs ++ [y]) ∧ w.grownBy w' v.ownBlock ∧ (v'.ownBlock = v.ownBlock ∨ v'.ownBlock = some w.heap.size) := by
  obtain ⟨i, hi, hz0, hz1, hz2⟩ := info_parts hinfo
  have hm : xs.length + 1 ≤ (xs.length + 1) * bytes := Nat.le_mul_of_pos_right _ hb1
  have hnews : ∀ j u, [Value.int k y][j]? = some u → w.cell? (ad.add j) = some u := by
    intro j u hj
    match j, hj with
    | 0, hj => simp at hj; subst hj; simpa [Addr.add] using hcell
  have h1 : ∀ u ∈ [Value.int k y], u.oneCell' = true := by
    intro u hu
    simp at hu
    subst hu
    rfl
  obtain ⟨v', w', hr, h2, h3, _⟩ := run_append_own (P := P) w 0 t ty e i (.int k 0) 1 bytes ht hi hz0 hz1 hz2 rfl (by decide) v xs.length _ hown ad 1 c [.int k y] rfl hnews h1 (by unfold maxLen; omega) hbytes (Nat.zero_le _)
  refine ⟨v', w', hr, ?_, h3, ?_⟩
  · unfold Own
    simpa using h2
  · rcases hown.2 with ⟨rfl, hn⟩ | ⟨g, cap, cur, rfl, hbg, hg, hnc, hcm, hcs, htake⟩
    · have hr' := run_append_nil (P := P) w t ty e i (.int k 0) ht hi hz0 ad 1 c [.int k y] (by rw [hz1]; rfl) hnews (by decide) (by decide) (by rw [hz2]; have := Nat.le_mul_of_pos_left bytes (show 0 < xs.length + 1 by omega); omega)
      rw [hr] at hr'
      injection hr' with e1 e2
      right; rw [e1]; rfl
    · by_cases hroom : xs.length + 1 ≤ cap
      · have hr' := run_append_room (P := P) w t ty e i ht hi g xs.length cap cur hg ad 1 c [.int k y] (by rw [hz1]; rfl) hnews h1 hroom (by rw [hz1, hcs]; simp; omega)
        rw [hr] at hr'
        injection hr' with e1 e2
        left; rw [e1]; rfl
      · have hr' := run_append_grow (P := P) w t ty e i (.int k 0) ht hi hz0 ⟨g, 0, none⟩ xs.length cap (xs.map (Value.int k)) (by rw [hz1]; simp) (hown.cells (g := g) rfl) ad 1 c [.int k y] (by rw [hz1]; rfl) hnews (by omega) (by omega) (growslice_fits (by omega) (by rw [hz2]; exact hbytes))
        rw [hr] at hr'
        injection hr' with e1 e2
        right; rw [e1]; rfl

theorem opGrow1 {P : Program} {w : World} {ops : Array Oper} {rest : List Oper} {o : Oper} {a : Act} {Q : Exit → Act → World → Prop} (d : Option Tmp) (hgd : o.guard = none) (hd : o.dst = d) (s x : Operand) (t : TypeId)
    (ho : o.op = .call { callee := .builtin .append, args := #[s, x], argTypes := #[t, t] })
    (k : IntKind) (e : TypeId) (bytes : Nat) (ht : P.underlying t = some (.slice e)) (hinfo : (P.info? e).map (fun i => (i.zero, i.size, i.bytes)) = some (some (.int k 0), 1, bytes))
    (v : Value) (xs : List Int) (hs : a.eval s = v) (hown : Own w 0 k e v xs)
    (ad : Addr) (c : Nat) (y : Int) (hx : a.eval x = .slice (some ad) 1 c) (hcell : w.cell? ad = some (.int k y))
    (hb1 : 1 ≤ bytes) (hbytes : (xs.length + 1) * bytes ≤ 140737488355328)
    (h : ∀ v' w', Own w' 0 k e v' (xs ++ [y]) → w.grownBy w' v.ownBlock → (v'.ownBlock = v.ownBlock ∨ v'.ownBlock = some w.heap.size) → wpList P ops Q rest (a.put d v') w') : wpList P ops Q (o :: rest) a w := by
  obtain ⟨v', w', hr, h2, h3, h4⟩ := run_grow1 (P := P) (w := w) t o.type k e bytes ht hinfo v xs hown ad c y hcell hb1 hbytes
  refine wpList_plain hgd fun K hK => ?_
  unfold Oper.wp execOp
  simp only [ho, resolve, invoke, builtin, Sem.run_bind, Sem.run_pure, Result.andThen_ok, List.map_toArray, List.map_cons, List.map_nil, hs, hx, hr]
  refine hK _ _ ?_
  rw [hd]
  exact h v' w' h2 h3 h4

theorem step_grow1 {P : Program} {ops : Array Oper} {o : Oper} {a : Act} {w : World} {K : Act → World → Prop} {Q : Exit → Act → World → Prop} {E : Prop} (hgd : o.guard = none) (s x : Operand) (t : TypeId)
    (ho : o.op = .call { callee := .builtin .append, args := #[s, x], argTypes := #[t, t] })
    (k : IntKind) (e : TypeId) (bytes : Nat) (ht : P.underlying t = some (.slice e)) (hinfo : (P.info? e).map (fun i => (i.zero, i.size, i.bytes)) = some (some (.int k 0), 1, bytes))
    (v : Value) (xs : List Int) (hs : a.eval s = v) (ad : Addr) (c : Nat) (y : Int) (hx : a.eval x = .slice (some ad) 1 c) (hown : Own w 0 k e v xs) (hcell : w.cell? ad = some (.int k y))
    (hb1 : 1 ≤ bytes) (hbytes : (xs.length + 1) * bytes ≤ 140737488355328)
    (h : ∀ v' w', Own w' 0 k e v' (xs ++ [y]) → w.grownBy w' v.ownBlock → (v'.ownBlock = v.ownBlock ∨ v'.ownBlock = some w.heap.size) → K (a.put o.dst v') w') :
    if Region.wanted o (yielded ops a.tmps) = true then Oper.wp P o a w K Q else E := by
  have hw : Region.wanted o (yielded ops a.tmps) = true := by simp [Region.wanted, hgd]
  rw [if_pos hw]
  obtain ⟨v', w', hr, h2, h3, h4⟩ := run_grow1 (P := P) (w := w) t o.type k e bytes ht hinfo v xs hown ad c y hcell hb1 hbytes
  unfold Oper.wp execOp
  simp only [ho, resolve, invoke, builtin, Sem.run_bind, Sem.run_pure, Result.andThen_ok, List.map_toArray, List.map_cons, List.map_nil, hs, hx, hr]
  exact h v' w' h2 h3 h4
/-- what grew has its row where it was, or anew. -/
theorem Fr.grew {w w' : World} {v : Value} (h : w.grownBy w' v.ownBlock) : Fr (fun k => v.ownBlock = some k) w w' := (Fr.refl _ w).grown h (fun _ e _ => e)
end Go.Proofs.Ytjnegcambbeblaa

/- a range coder, in plain numbers. -/
namespace Go.Proofs.Ytjnegcambbeblaa
open Go.RowKit

/-- a coder: low, range, the byte that waits, how many bytes 255 wait behind it, the bytes given. -/
structure RC where
  low : Int
  rng : Int
  waits : Int
  more : Nat
  out : List Int
def RC.moves (c : RC) : Prop := c.low < 4278190080 ∨ 4294967296 ≤ c.low
instance (c : RC) : Decidable c.moves := by unfold RC.moves; infer_instance
def RC.carry (c : RC) : Int := c.low / 4294967296
def RC.give (c : RC) : RC :=
  if c.moves then ⟨c.low % 16777216 * 256, c.rng, c.low / 16777216 % 256, 0, c.out ++ (c.waits + c.carry) % 256 :: List.replicate c.more ((255 + c.carry) % 256)⟩
  else ⟨c.low % 16777216 * 256, c.rng, c.waits, c.more + 1, c.out⟩
/-- to even out, at most so many times. -/
def RC.lev : Nat → RC → RC
  | 0, c => c
  | n + 1, c => if c.rng < 16777216 then RC.lev n ((⟨c.low, c.rng * 256, c.waits, c.more, c.out⟩ : RC).give) else c
def RC.level (c : RC) : RC := c.lev 3
/-- a part of the range: from a on, r wide. -/
def RC.part (c : RC) (a r : Int) : RC := (⟨c.low + a, r, c.waits, c.more, c.out⟩ : RC).level
def RC.bit (c : RC) (p : Int) (b : Nat) : Int × RC :=
  if b = 0 then (p + (2048 - p) / 32, c.part 0 (c.rng / 2048 * p)) else (p - p / 32, c.part (c.rng / 2048 * p) (c.rng - c.rng / 2048 * p))
theorem give_rng (c : RC) : c.give.rng = c.rng := by unfold RC.give; split <;> rfl
/-- what a coder's numbers are, ahead of a byte given. -/
structure RC.Fit (c : RC) (N : Nat) : Prop where
  low0 : 0 ≤ c.low
  low1 : c.low < 17179869184
  waits0 : 0 ≤ c.waits
  waits1 : c.waits < 256
  size : c.out.length + c.more ≤ N
theorem RC.Fit.mono {c : RC} {N M : Nat} (h : c.Fit N) (hm : N ≤ M) : c.Fit M := ⟨h.low0, h.low1, h.waits0, h.waits1, Nat.le_trans h.size hm⟩
theorem RC.Fit.give {c : RC} {N : Nat} (h : c.Fit N) : c.give.Fit (N + 1) ∧ c.give.low < 4294967296 := by
  obtain ⟨h1, h2, h3, h4, h5⟩ := h
  unfold RC.give
  by_cases hm : c.moves
  · rw [if_pos hm]
    refine ⟨⟨?_, ?_, ?_, ?_, ?_⟩, ?_⟩ <;> dsimp only <;> (try simp only [List.length_append, List.length_cons, List.length_replicate]) <;> omega
  · rw [if_neg hm]
    refine ⟨⟨?_, ?_, ?_, ?_, ?_⟩, ?_⟩ <;> dsimp only <;> omega
theorem give_size (c : RC) : c.give.out.length + c.give.more = c.out.length + c.more + 1 := by
  unfold RC.give
  by_cases hm : c.moves
  · rw [if_pos hm]; simp; omega
  · rw [if_neg hm]; simp; omega
theorem lev_stop (n : Nat) (c : RC) (h : 16777216 ≤ c.rng) : c.lev n = c := by
  cases n with
  | zero => rfl
  | succ n => exact if_neg (by omega)
theorem RC.Fit.lev (n : Nat) : ∀ (c : RC) (N : Nat), c.Fit N → (c.lev n).Fit (N + n) := by
  induction n with
  | zero => intro c N h; exact h
  | succ n ih =>
    intro c N h
    unfold RC.lev
    by_cases hr : c.rng < 16777216
    · rw [if_pos hr]
      have h2 : (⟨c.low, c.rng * 256, c.waits, c.more, c.out⟩ : RC).Fit N := ⟨h.1, h.2, h.3, h.4, h.5⟩
      exact (ih _ _ h2.give.1).mono (by omega)
    · rw [if_neg hr]; exact h.mono (by omega)
/-- a coder whose range is even. -/
structure RC.Ok (c : RC) (N : Nat) : Prop where
  low0 : 0 ≤ c.low
  rng0 : 16777216 ≤ c.rng
  rng1 : c.rng < 4294967296
  top : c.low + c.rng ≤ 8589934592
  waits0 : 0 ≤ c.waits
  waits1 : c.waits < 256
  full : c.waits = 255 → c.low + c.rng ≤ 4294967296
  size : c.out.length + c.more ≤ N
theorem RC.Ok.fit {c : RC} {N : Nat} (h : c.Ok N) : c.Fit N := ⟨h.low0, by have := h.top; have := h.rng0; omega, h.waits0, h.waits1, h.size⟩
theorem RC.Ok.mono {c : RC} {N M : Nat} (h : c.Ok N) (hm : N ≤ M) : c.Ok M := ⟨h.1, h.2, h.3, h.4, h.5, h.6, h.7, Nat.le_trans h.8 hm⟩
theorem lev_ok (n : Nat) : ∀ (c : RC) (N : Nat), 0 ≤ c.low → 16777216 ≤ c.rng * 256 ^ n → c.rng < 4294967296 → c.low + c.rng ≤ 8589934592 → 0 ≤ c.waits → c.waits < 256 → (c.waits = 255 → c.low + c.rng ≤ 4294967296) → c.out.length + c.more ≤ N → 1 ≤ c.rng →
    (c.lev n).Ok (N + n) := by
  induction n with
  | zero => intro c N h1 h2 h3 h4 h5 h6 h7 h8 _; exact ⟨h1, by show 16777216 ≤ c.rng; simpa using h2, h3, h4, h5, h6, h7, h8⟩
  | succ n ih =>
    intro c N h1 h2 h3 h4 h5 h6 h7 h8 h9
    unfold RC.lev
    by_cases hr : c.rng < 16777216
    · rw [if_pos hr]
      have hf : (⟨c.low, c.rng * 256, c.waits, c.more, c.out⟩ : RC).Fit N := ⟨h1, by show c.low < _; omega, h5, h6, h8⟩
      obtain ⟨⟨g1, g2, g3, g4, g5⟩, g6⟩ := hf.give
      refine (ih _ (N + 1) g1 ?_ ?_ ?_ g3 g4 ?_ g5 ?_).mono (by omega)
      · rw [give_rng]
        have e : c.rng * 256 * 256 ^ n = c.rng * 256 ^ (n + 1) := by rw [Int.pow_succ, Int.mul_assoc, Int.mul_comm 256]
        show 16777216 ≤ c.rng * 256 * 256 ^ n
        rw [e]; exact h2
      · rw [give_rng]; show c.rng * 256 < _; omega
      · rw [give_rng]; show _ + c.rng * 256 ≤ _; omega
      · rw [give_rng]
        show _ → _ + c.rng * 256 ≤ _
        unfold RC.give
        by_cases hm : (⟨c.low, c.rng * 256, c.waits, c.more, c.out⟩ : RC).moves
        · rw [if_pos hm]
          have hm' : c.low < 4278190080 ∨ 4294967296 ≤ c.low := hm
          dsimp only
          omega
        · rw [if_neg hm]
          have hm' : ¬ (c.low < 4278190080 ∨ 4294967296 ≤ c.low) := hm
          dsimp only
          intro hw
          have := h7 hw
          omega
      · rw [give_rng]; show 1 ≤ c.rng * 256; omega
    · rw [if_neg hr]; exact ⟨h1, by omega, h3, h4, h5, h6, h7, by omega⟩
theorem RC.Ok.part {c : RC} {N : Nat} (h : c.Ok N) {a r : Int} (ha : 0 ≤ a) (hr : 1 ≤ r) (har : a + r ≤ c.rng) : (c.part a r).Ok (N + 3) := by
  obtain ⟨h1, h2, h3, h4, h5, h6, h7, h8⟩ := h
  refine lev_ok 3 _ N ?_ ?_ ?_ ?_ h5 h6 ?_ h8 hr
  · show 0 ≤ c.low + a; omega
  · show 16777216 ≤ r * 16777216; omega
  · show r < _; omega
  · show c.low + a + r ≤ _; omega
  · intro hw; have := h7 hw; show c.low + a + r ≤ _; omega
theorem bound_pos (r p : Int) (h0 : 16777216 ≤ r) (hp : 31 ≤ p) : 253952 ≤ r / 2048 * p := by
  have h1 : 8192 * 31 ≤ r / 2048 * p := Int.mul_le_mul (by omega) hp (by omega) (by omega)
  omega
theorem bound_gap (r p : Int) (h0 : 16777216 ≤ r) (hp : p ≤ 2017) : r / 2048 * p + 253952 ≤ r := by
  have h1 : r / 2048 * p ≤ r / 2048 * 2017 := Int.mul_le_mul_of_nonneg_left hp (by omega)
  omega
theorem RC.Ok.bit {c : RC} {N : Nat} (h : c.Ok N) {p : Int} (h0 : 31 ≤ p) (h1 : p ≤ 2017) (b : Nat) : (c.bit p b).2.Ok (N + 3) := by
  have b1 := bound_pos c.rng p h.rng0 h0
  have b2 := bound_gap c.rng p h.rng0 h1
  unfold RC.bit
  by_cases hb : b = 0
  · rw [if_pos hb]; exact h.part (by omega) (by show 1 ≤ c.rng / 2048 * p; omega) (by omega)
  · rw [if_neg hb]; exact h.part (by show 0 ≤ c.rng / 2048 * p; omega) (by omega) (by omega)
theorem bit_prob' (c : RC) {p : Int} (h0 : 31 ≤ p) (h1 : p ≤ 2017) (b : Nat) : 31 ≤ (c.bit p b).1 ∧ (c.bit p b).1 ≤ 2017 := by
  unfold RC.bit
  by_cases hb : b = 0
  · rw [if_pos hb]; dsimp only; omega
  · rw [if_neg hb]; dsimp only; omega
end Go.Proofs.Ytjnegcambbeblaa

/- The range coder: its state, give. -/
namespace Go.Proofs.Ytjnegcambbeblaa
open Go.RowKit

def Out (A : Nat → Prop) : Nat → Prop := fun k => ¬ A k
theorem low_and (x : Int) (h0 : 0 ≤ x) (h1 : x < 17179869184) : IntKind.u64.wrap (bits BinOp.and IntKind.u64 x 16777215 * 256) = x % 16777216 * 256 := by
  rw [u64_and x _ h0 (by omega) (by decide) (by decide)]
  obtain ⟨a, rfl⟩ := Int.eq_ofNat_of_zero_le h0
  show IntKind.u64.wrap (((a &&& 16777215 : Nat) : Int) * 256) = _
  rw [show (16777215 : Nat) = 2 ^ 24 - 1 by decide, Nat.and_two_pow_sub_one_eq_mod, IntKind.wrap_u64]
  omega
end Go.Proofs.Ytjnegcambbeblaa

/- The range coder: level, Bit. -/
namespace Go.Proofs.Ytjnegcambbeblaa
open Go.RowKit

def rngIn (g : Nat) (w : World) : Nat := match w.cell? ⟨g, 1, none⟩ with | some (.int _ r) => 16777216 - r.toNat | _ => 0
end Go.Proofs.Ytjnegcambbeblaa

/- The range coder: Bit. -/
namespace Go.Proofs.Ytjnegcambbeblaa
open Go.RowKit

theorem bit_zero (c : RC) (p : Int) : c.bit p 0 = (p + (2048 - p) / 32, (⟨c.low, c.rng / 2048 * p, c.waits, c.more, c.out⟩ : RC).level) := by
  unfold RC.bit RC.part
  rw [if_pos rfl, Int.add_zero]
theorem bit_one (c : RC) (p : Int) : c.bit p 1 = (p - p / 32, (⟨c.low + c.rng / 2048 * p, c.rng - c.rng / 2048 * p, c.waits, c.more, c.out⟩ : RC).level) := rfl

end Go.Proofs.Ytjnegcambbeblaa

/- The range coder: Tree. -/
namespace Go.Proofs.Ytjnegcambbeblaa
open Go.RowKit

/-- k bits more of a tree, m so far. -/
def RC.treeGo : Nat → RC → (Nat → Int) → Nat → Nat → (Nat → Int) × RC
  | 0, c, q, _, _ => (q, c)
  | k + 1, c, q, m, v => RC.treeGo k (c.bit (q m) (v / 2 ^ k % 2)).2 (upd q m (c.bit (q m) (v / 2 ^ k % 2)).1) (2 * m + v / 2 ^ k % 2) v
def RC.tree (B : Nat) (c : RC) (q : Nat → Int) (v : Nat) : (Nat → Int) × RC := RC.treeGo B c q 1 v
/-- k bits more of a reverse tree, the next one the i-th. -/
def RC.revGo : Nat → Nat → RC → (Nat → Int) → Nat → Nat → (Nat → Int) × RC
  | 0, _, c, q, _, _ => (q, c)
  | k + 1, i, c, q, m, v => RC.revGo k (i + 1) (c.bit (q m) (v / 2 ^ i % 2)).2 (upd q m (c.bit (q m) (v / 2 ^ i % 2)).1) (2 * m + v / 2 ^ i % 2) v
def RC.rev (B : Nat) (c : RC) (q : Nat → Int) (v : Nat) : (Nat → Int) × RC := RC.revGo B 0 c q 1 v
def RC.str1 (c : RC) (b : Nat) : RC := c.part (if b = 1 then c.rng / 2 else 0) (c.rng / 2)
def RC.strGo : Nat → RC → Nat → RC
  | 0, c, _ => c
  | k + 1, c, v => RC.strGo k (c.str1 (v / 2 ^ k % 2)) v
theorem nat_and_one (x : Nat) (h : x < 4294967296) : bits .and .u32 (x : Int) 1 = ((x % 2 : Nat) : Int) := by
  rw [u32_and _ _ (by omega) (by omega) (by decide) (by decide)]
  show ((x &&& 1 : Nat) : Int) = _
  rw [Nat.and_one_is_mod]
theorem bit_of (v k : Nat) (h : v < 4294967296) : bits .and .u32 ((v : Int) / 2 ^ k) 1 = ((v / 2 ^ k % 2 : Nat) : Int) := by
  have e : ((v : Int) / 2 ^ k) = ((v / 2 ^ k : Nat) : Int) := by simp
  have := Nat.div_le_self v (2 ^ k)
  rw [e, nat_and_one _ (by omega)]
theorem or_bit32 (m b : Nat) (hb : b ≤ 1) (hm : m < 1073741824) : bits .or .u32 ((m : Int) * 2) (b : Int) = ((2 * m + b : Nat) : Int) := by
  rw [u32_or _ _ (by omega) (by omega) (by omega) (by omega)]
  have e : ((m : Int) * 2).toNat = m * 2 ^ 1 := by omega
  rw [e]
  simp only [Int.toNat_natCast]
  rw [nat_or_low _ _ 1 (by omega)]
  omega

end Go.Proofs.Ytjnegcambbeblaa

/- a range coder's bytes, as one great number. -/
namespace Go.Proofs.Ytjnegcambbeblaa
open Go.RowKit

def valL (l : List Int) : Int := l.foldl (fun a x => a * 256 + x) 0
theorem valL_snoc (l : List Int) (x : Int) : valL (l ++ [x]) = valL l * 256 + x := by unfold valL; rw [List.foldl_append]; rfl
theorem pow_pos256 (m : Nat) : 1 ≤ (256 : Int) ^ m := by
  induction m with
  | zero => decide
  | succ m ih => rw [Int.pow_succ]; omega
theorem valL_rep (l : List Int) (m : Nat) : valL (l ++ List.replicate m 255) = valL l * 256 ^ m + (256 ^ m - 1) ∧ valL (l ++ List.replicate m 0) = valL l * 256 ^ m := by
  induction m with
  | zero => simp
  | succ m ih =>
    rw [List.replicate_succ', List.replicate_succ', ← List.append_assoc, ← List.append_assoc, valL_snoc, valL_snoc, ih.1, ih.2, Int.pow_succ, ← Int.mul_assoc]
    omega
theorem valL_append (l k : List Int) : valL (l ++ k) = valL l * 256 ^ k.length + valL k := by
  have aux : ∀ (k : List Int) (a : Int), k.foldl (fun a x => a * 256 + x) a = a * 256 ^ k.length + k.foldl (fun a x => a * 256 + x) 0 := by
    intro k
    induction k with
    | nil => intro a; simp
    | cons x k ih =>
      intro a
      simp only [List.foldl_cons, List.length_cons]
      rw [ih (a * 256 + x), ih (0 * 256 + x), Int.pow_succ, Int.add_mul, Int.add_mul, Int.mul_assoc, Int.mul_comm (256 ^ k.length)]
      omega
  unfold valL
  rw [List.foldl_append, aux]
/-- all that a coder has told so far. -/
def RC.val (c : RC) : Int := ((valL c.out * 256 + c.waits) * 256 ^ c.more + (256 ^ c.more - 1)) * 4294967296 + c.low
def RC.len (c : RC) : Nat := c.out.length + c.more + 5
def RC.bytes (c : RC) : Prop := ∀ x, x ∈ c.out → 0 ≤ x ∧ x < 256
theorem give_len (c : RC) : c.give.len = c.len + 1 := by
  have := give_size c
  unfold RC.len; omega
theorem give_bytes {c : RC} (h : c.bytes) : c.give.bytes := by
  unfold RC.give
  by_cases hm : c.moves
  · rw [if_pos hm]
    intro x hx
    simp only [List.mem_append, List.mem_cons, List.mem_replicate] at hx
    rcases hx with hx | hx | hx
    · exact h x hx
    · omega
    · omega
  · rw [if_neg hm]; exact h
theorem give_val (c : RC) (h0 : 0 ≤ c.low) (h1 : c.low < 8589934592) (hw0 : 0 ≤ c.waits) (hw1 : c.waits < 256) (hw : c.waits = 255 → c.low < 4294967296) : c.give.val = 256 * c.val := by
  obtain ⟨X, hX⟩ : ∃ X, X = valL c.out * 256 + c.waits := ⟨_, rfl⟩
  obtain ⟨P, hP⟩ : ∃ P : Int, P = 256 ^ c.more := ⟨_, rfl⟩
  have hv : c.val = (X * P + (P - 1)) * 4294967296 + c.low := by unfold RC.val; rw [hX, hP]
  rw [hv]
  clear hv
  unfold RC.give
  by_cases hm : c.moves
  · rw [if_pos hm]
    have hm' : c.low < 4278190080 ∨ 4294967296 ≤ c.low := hm
    have hcons : ∀ (a : Int) (l : List Int), c.out ++ a :: l = (c.out ++ [a]) ++ l := by simp
    unfold RC.val
    dsimp only
    rw [hcons]
    unfold RC.carry
    by_cases hc : c.low < 4294967296
    · have e0 : c.low / 4294967296 = 0 := by omega
      have e1 : (c.waits + 0) % 256 = c.waits := by omega
      rw [e0, e1, show ((255 : Int) + 0) % 256 = 255 by decide, (valL_rep _ _).1, valL_snoc, ← hX, ← hP]
      generalize X * P = Y
      simp only [Int.pow_zero, Int.mul_one]
      omega
    · have e0 : c.low / 4294967296 = 1 := by omega
      have e1 : (c.waits + 1) % 256 = c.waits + 1 := by omega
      have e2 : (X + 1) * P = X * P + P := by rw [Int.add_mul, Int.one_mul]
      rw [e0, e1, show ((255 : Int) + 1) % 256 = 0 by decide, (valL_rep _ _).2, valL_snoc, show valL c.out * 256 + (c.waits + 1) = X + 1 by omega, ← hP, e2]
      generalize X * P = Y
      simp only [Int.pow_zero, Int.mul_one]
      omega
  · rw [if_neg hm]
    have hm' : ¬ (c.low < 4278190080 ∨ 4294967296 ≤ c.low) := hm
    have e2 : X * (P * 256) = X * P * 256 := by rw [Int.mul_assoc]
    unfold RC.val
    dsimp only
    rw [Int.pow_succ, ← hX, ← hP, e2]
    generalize X * P = Y
    omega
theorem part_val (c : RC) (a r : Int) : (⟨c.low + a, r, c.waits, c.more, c.out⟩ : RC).val = c.val + a := by unfold RC.val; dsimp only; omega
theorem rng_val (c : RC) (r : Int) : (⟨c.low, r, c.waits, c.more, c.out⟩ : RC).val = c.val := rfl
/-- evening out: k bytes more, both numbers that much greater. -/
theorem lev_val (n : Nat) : ∀ (c : RC), 0 ≤ c.low → 16777216 ≤ c.rng * 256 ^ n → c.rng < 4294967296 → c.low + c.rng ≤ 8589934592 → 0 ≤ c.waits → c.waits < 256 → (c.waits = 255 → c.low + c.rng ≤ 4294967296) → 1 ≤ c.rng → c.bytes →
    ∃ k, (c.lev n).val = 256 ^ k * c.val ∧ (c.lev n).rng = 256 ^ k * c.rng ∧ (c.lev n).len = c.len + k ∧ (c.lev n).bytes := by
  induction n with
  | zero => intro c _ _ _ _ _ _ _ _ h; exact ⟨0, by simp [RC.lev], by simp [RC.lev], rfl, h⟩
  | succ n ih =>
    intro c h1 h2 h3 h4 h5 h6 h7 h8 h9
    unfold RC.lev
    by_cases hr : c.rng < 16777216
    · rw [if_pos hr]
      have hf : (⟨c.low, c.rng * 256, c.waits, c.more, c.out⟩ : RC).Fit (c.out.length + c.more) := ⟨h1, by show c.low < _; omega, h5, h6, Nat.le_refl _⟩
      obtain ⟨⟨g1, g2, g3, g4, g5⟩, g6⟩ := hf.give
      have hlow : (⟨c.low, c.rng * 256, c.waits, c.more, c.out⟩ : RC).give.low = c.low % 16777216 * 256 := by unfold RC.give; split <;> rfl
      have a1 : 16777216 ≤ (⟨c.low, c.rng * 256, c.waits, c.more, c.out⟩ : RC).give.rng * 256 ^ n := by
        rw [give_rng]
        have e : c.rng * 256 * 256 ^ n = c.rng * 256 ^ (n + 1) := by rw [Int.pow_succ, Int.mul_assoc, Int.mul_comm 256]
        show 16777216 ≤ c.rng * 256 * 256 ^ n
        rw [e]; exact h2
      have a2 : (⟨c.low, c.rng * 256, c.waits, c.more, c.out⟩ : RC).give.rng < 4294967296 := by rw [give_rng]; show c.rng * 256 < _; omega
      have a3 : (⟨c.low, c.rng * 256, c.waits, c.more, c.out⟩ : RC).give.low + (⟨c.low, c.rng * 256, c.waits, c.more, c.out⟩ : RC).give.rng ≤ 8589934592 := by rw [give_rng, hlow]; show _ + c.rng * 256 ≤ _; omega
      have a4 : (⟨c.low, c.rng * 256, c.waits, c.more, c.out⟩ : RC).give.waits = 255 → (⟨c.low, c.rng * 256, c.waits, c.more, c.out⟩ : RC).give.low + (⟨c.low, c.rng * 256, c.waits, c.more, c.out⟩ : RC).give.rng ≤ 4294967296 := by
        rw [give_rng, hlow]
        show _ → _ + c.rng * 256 ≤ _
        unfold RC.give
        by_cases hm : (⟨c.low, c.rng * 256, c.waits, c.more, c.out⟩ : RC).moves
        · rw [if_pos hm]
          have hm' : c.low < 4278190080 ∨ 4294967296 ≤ c.low := hm
          dsimp only
          omega
        · rw [if_neg hm]
          have hm' : ¬ (c.low < 4278190080 ∨ 4294967296 ≤ c.low) := hm
          dsimp only
          intro hw
          have := h7 hw
          omega
      have a5 : 1 ≤ (⟨c.low, c.rng * 256, c.waits, c.more, c.out⟩ : RC).give.rng := by rw [give_rng]; show 1 ≤ c.rng * 256; omega
      obtain ⟨k, k1, k2, k3, k4⟩ := ih (⟨c.low, c.rng * 256, c.waits, c.more, c.out⟩ : RC).give g1 a1 a2 a3 g3 g4 a4 a5 (give_bytes (c := ⟨c.low, c.rng * 256, c.waits, c.more, c.out⟩) h9)
      refine ⟨k + 1, ?_, ?_, ?_, k4⟩
      · rw [k1, give_val ⟨c.low, c.rng * 256, c.waits, c.more, c.out⟩ h1 (by show c.low < _; omega) h5 h6 (fun e => by have := h7 e; show c.low < _; omega), Int.pow_succ, Int.mul_assoc]
        rfl
      · rw [k2, give_rng, Int.pow_succ, Int.mul_assoc, Int.mul_comm 256 c.rng]
      · rw [k3, give_len]; show c.len + 1 + k = _; omega
    · rw [if_neg hr]; exact ⟨0, by simp, by simp, rfl, h9⟩
theorem RC.Ok.part_val {c : RC} {N : Nat} (h : c.Ok N) (hb : c.bytes) {a r : Int} (ha : 0 ≤ a) (hr : 1 ≤ r) (har : a + r ≤ c.rng) :
    ∃ k, (c.part a r).val = 256 ^ k * (c.val + a) ∧ (c.part a r).rng = 256 ^ k * r ∧ (c.part a r).len = c.len + k ∧ (c.part a r).bytes := by
  obtain ⟨h1, h2, h3, h4, h5, h6, h7, h8⟩ := h
  have := lev_val 3 (⟨c.low + a, r, c.waits, c.more, c.out⟩ : RC) (by show 0 ≤ c.low + a; omega) (by show 16777216 ≤ r * 16777216; omega) (by show r < _; omega) (by show c.low + a + r ≤ _; omega) h5 h6 (fun hw => by have := h7 hw; show c.low + a + r ≤ _; omega) hr hb
  rw [Go.Proofs.Ytjnegcambbeblaa.part_val] at this
  exact this
end Go.Proofs.Ytjnegcambbeblaa

/- a range coder's steps, and its end. -/
namespace Go.Proofs.Ytjnegcambbeblaa
open Go.RowKit

/-- c' told k bytes more, within c's range. -/
structure Reach (c c' : RC) (k : Nat) : Prop where
  low : 256 ^ k * c.val ≤ c'.val
  high : c'.val + c'.rng ≤ 256 ^ k * (c.val + c.rng)
  len : c'.len = c.len + k
  bytes : c.bytes → c'.bytes
theorem Reach.refl (c : RC) : Reach c c 0 := ⟨by simp, by simp, rfl, id⟩
theorem Reach.trans {a b c : RC} {j k : Nat} (h : Reach a b j) (g : Reach b c k) : Reach a c (j + k) := by
  have hp := pow_pos256 k
  refine ⟨?_, ?_, by rw [g.len, h.len]; omega, fun e => g.bytes (h.bytes e)⟩
  · have h1 := Int.mul_le_mul_of_nonneg_left h.low (show (0:Int) ≤ 256 ^ k by omega)
    have h2 := g.low
    rw [Nat.add_comm, Int.pow_add, Int.mul_assoc]
    omega
  · have h1 := Int.mul_le_mul_of_nonneg_left h.high (show (0:Int) ≤ 256 ^ k by omega)
    have h2 := g.high
    rw [Nat.add_comm, Int.pow_add, Int.mul_assoc]
    omega
theorem RC.Ok.reach_part {c : RC} {N : Nat} (h : c.Ok N) (hb : c.bytes) {a r : Int} (ha : 0 ≤ a) (hr : 1 ≤ r) (har : a + r ≤ c.rng) : ∃ k, Reach c (c.part a r) k := by
  obtain ⟨k, h1, h2, h3, h4⟩ := h.part_val hb ha hr har
  have hp := pow_pos256 k
  refine ⟨k, ?_, ?_, h3, fun _ => h4⟩
  · rw [h1]; exact Int.mul_le_mul_of_nonneg_left (by omega) (by omega)
  · rw [h1, h2, ← Int.mul_add]; exact Int.mul_le_mul_of_nonneg_left (by omega) (by omega)
theorem RC.Ok.reach_bit {c : RC} {N : Nat} (h : c.Ok N) (hb : c.bytes) {p : Int} (h0 : 31 ≤ p) (h1 : p ≤ 2017) (b : Nat) : ∃ k, Reach c (c.bit p b).2 k := by
  have b1 := bound_pos c.rng p h.rng0 h0
  have b2 := bound_gap c.rng p h.rng0 h1
  unfold RC.bit
  by_cases hb0 : b = 0
  · rw [if_pos hb0]; exact h.reach_part hb (by omega) (by show 1 ≤ c.rng / 2048 * p; omega) (by omega)
  · rw [if_neg hb0]; exact h.reach_part hb (by show 0 ≤ c.rng / 2048 * p; omega) (by omega) (by omega)
def RC.gives : Nat → RC → RC
  | 0, c => c
  | k + 1, c => RC.gives k c.give
theorem give_low (c : RC) : c.give.low = c.low % 16777216 * 256 := by unfold RC.give; split <;> rfl
structure RC.Fin (c : RC) : Prop where
  low0 : 0 ≤ c.low
  low1 : c.low < 8589934592
  waits0 : 0 ≤ c.waits
  waits1 : c.waits < 256
  full : c.waits = 255 → c.low < 4294967296
  bytes : c.bytes
theorem RC.Fin.give {c : RC} (h : c.Fin) : c.give.Fin ∧ c.give.val = 256 * c.val ∧ c.give.len = c.len + 1 := by
  obtain ⟨h1, h2, h3, h4, h5, h6⟩ := h
  have e := give_low c
  refine ⟨⟨by rw [e]; omega, by rw [e]; omega, ?_, ?_, fun _ => by rw [e]; omega, give_bytes h6⟩, give_val c h1 h2 h3 h4 h5, give_len c⟩
  · unfold RC.give; split <;> dsimp only <;> omega
  · unfold RC.give; split <;> dsimp only <;> omega
theorem RC.Ok.fin {c : RC} {N : Nat} (h : c.Ok N) (hb : c.bytes) : c.Fin := by
  obtain ⟨h1, h2, h3, h4, h5, h6, h7, h8⟩ := h
  exact ⟨h1, by omega, h5, h6, fun e => by have := h7 e; omega, hb⟩
/-- the bytes at the end are the number, as many as were told. -/
theorem gives_out {c : RC} (h : c.Fin) : valL (c.gives 5).out = c.val ∧ (c.gives 5).out.length = c.len ∧ (c.gives 5).bytes := by
  obtain ⟨f1, v1, l1⟩ := h.give
  obtain ⟨f2, v2, l2⟩ := f1.give
  obtain ⟨f3, v3, l3⟩ := f2.give
  obtain ⟨f4, v4, l4⟩ := f3.give
  obtain ⟨f5, v5, l5⟩ := f4.give
  have e1 := give_low c
  have e2 := give_low c.give
  have e3 := give_low c.give.give
  have e4 := give_low c.give.give.give
  have hl : c.give.give.give.give.low = 0 := by omega
  have hm : c.give.give.give.give.moves := .inl (by omega)
  have hg : c.give.give.give.give.give = ⟨c.give.give.give.give.low % 16777216 * 256, c.give.give.give.give.rng, c.give.give.give.give.low / 16777216 % 256, 0, c.give.give.give.give.out ++ (c.give.give.give.give.waits + c.give.give.give.give.carry) % 256 :: List.replicate c.give.give.give.give.more ((255 + c.give.give.give.give.carry) % 256)⟩ := if_pos hm
  have w5 : c.give.give.give.give.give.waits = 0 := by rw [hg, hl]; rfl
  have m5 : c.give.give.give.give.give.more = 0 := by rw [hg]
  have o5 : c.give.give.give.give.give.low = 0 := by rw [hg, hl]; rfl
  show valL c.give.give.give.give.give.out = c.val ∧ c.give.give.give.give.give.out.length = c.len ∧ c.give.give.give.give.give.bytes
  refine ⟨?_, ?_, f5.bytes⟩
  · have : c.give.give.give.give.give.val = ((valL c.give.give.give.give.give.out * 256 + c.give.give.give.give.give.waits) * 256 ^ c.give.give.give.give.give.more + (256 ^ c.give.give.give.give.give.more - 1)) * 4294967296 + c.give.give.give.give.give.low := rfl
    rw [w5, m5, o5] at this
    simp only [Int.pow_zero, Int.mul_one] at this
    omega
  · have : c.give.give.give.give.give.len = c.give.give.give.give.give.out.length + c.give.give.give.give.give.more + 5 := rfl
    rw [m5] at this
    omega
/-- a coder that begins. -/
def RC.new : RC := ⟨0, 4294967295, 0, 0, []⟩
theorem new_ok (N : Nat) : RC.new.Ok N := ⟨by decide, by decide, by decide, by decide, by decide, by decide, by decide, Nat.zero_le _⟩
theorem new_bytes : RC.new.bytes := fun x hx => by simp [RC.new] at hx
theorem new_val : RC.new.val = 0 := by decide
theorem reach_top {c : RC} {k : Nat} (h : Reach RC.new c k) : c.val + c.rng ≤ 256 ^ (c.len - 1) ∧ 0 ≤ c.val := by
  have h1 := h.high
  have h2 := h.low
  have h3 := h.len
  have hp := pow_pos256 k
  rw [new_val] at h1 h2
  have e : c.len - 1 = k + 4 := by have : RC.new.len = 5 := rfl; omega
  have hr : RC.new.rng = 4294967295 := rfl
  rw [hr] at h1
  rw [e, Int.pow_add]
  have : (256 : Int) ^ 4 = 4294967296 := by decide
  rw [this]
  omega
theorem valL_nonneg {l : List Int} (h : ∀ x, x ∈ l → 0 ≤ x ∧ x < 256) : 0 ≤ valL l ∧ valL l < 256 ^ l.length := by
  have aux : ∀ n (l : List Int), l.length = n → (∀ x, x ∈ l → 0 ≤ x ∧ x < 256) → 0 ≤ valL l ∧ valL l < 256 ^ l.length := by
    intro n
    induction n with
    | zero =>
      intro l hl _
      have : l = [] := List.eq_nil_of_length_eq_zero hl
      subst this
      decide
    | succ n ih =>
      intro l hl hb
      obtain ⟨k, x, rfl⟩ : ∃ k x, l = k ++ [x] := by
        have hne : l ≠ [] := by intro e; subst e; simp at hl
        exact ⟨l.dropLast, l.getLast hne, (List.dropLast_concat_getLast hne).symm⟩
      have hk : k.length = n := by simpa using hl
      obtain ⟨h1, h2⟩ := ih k hk (fun y hy => hb y (by simp [hy]))
      have hx := hb x (by simp)
      rw [valL_snoc, List.length_append, List.length_singleton, Int.pow_succ]
      omega
  exact aux _ l rfl h
theorem valL_first {x : Int} {l : List Int} (h : ∀ y, y ∈ x :: l → 0 ≤ y ∧ y < 256) (hv : valL (x :: l) < 256 ^ l.length) : x = 0 := by
  have e : valL (x :: l) = x * 256 ^ l.length + valL l := by
    have := valL_append [x] l
    simpa [valL] using this
  have h1 := (valL_nonneg (l := l) fun y hy => h y (by simp [hy])).1
  have h2 := h x (by simp)
  have hp := pow_pos256 l.length
  rw [e] at hv
  apply Decidable.byContradiction
  intro hne
  have : 1 * 256 ^ l.length ≤ x * 256 ^ l.length := Int.mul_le_mul_of_nonneg_right (by omega) (by omega)
  omega
/-- rows of bytes that are one number, and as long, are one row. -/
theorem valL_inj : ∀ (a b : List Int), a.length = b.length → (∀ x, x ∈ a → 0 ≤ x ∧ x < 256) → (∀ x, x ∈ b → 0 ≤ x ∧ x < 256) → valL a = valL b → a = b := by
  intro a
  induction a with
  | nil => intro b hl _ _ _; exact (List.eq_nil_of_length_eq_zero (by simpa using hl.symm)).symm
  | cons x a ih =>
    intro b hl ha hb hv
    cases b with
    | nil => simp at hl
    | cons y b =>
      have hl' : a.length = b.length := by simpa using hl
      have e1 : valL (x :: a) = x * 256 ^ a.length + valL a := by
        have := valL_append [x] a
        simpa [valL] using this
      have e2 : valL (y :: b) = y * 256 ^ b.length + valL b := by
        have := valL_append [y] b
        simpa [valL] using this
      have n1 := valL_nonneg (l := a) fun z hz => ha z (by simp [hz])
      have n2 := valL_nonneg (l := b) fun z hz => hb z (by simp [hz])
      rw [e1, e2, hl'] at hv
      rw [hl'] at n1
      generalize (256 : Int) ^ b.length = P at *
      have hxy : x = y := by
        apply Decidable.byContradiction
        intro hne
        rcases Int.lt_or_gt_of_ne hne with h | h
        · have : (x + 1) * P ≤ y * P := Int.mul_le_mul_of_nonneg_right (by omega) (by omega)
          rw [Int.add_mul] at this
          omega
        · have : (y + 1) * P ≤ x * P := Int.mul_le_mul_of_nonneg_right (by omega) (by omega)
          rw [Int.add_mul] at this
          omega
      subst hxy
      rw [ih b hl' (fun z hz => ha z (by simp [hz])) (fun z hz => hb z (by simp [hz])) (by omega)]
end Go.Proofs.Ytjnegcambbeblaa

/- The range coder: Straight, Finish, Count, New. -/
namespace Go.Proofs.Ytjnegcambbeblaa
open Go.RowKit

theorem RC.Ok.str1 {c : RC} {N : Nat} (h : c.Ok N) (b : Nat) : (c.str1 b).Ok (N + 3) := by
  have h2 := h.rng0
  refine h.part ?_ (by omega) ?_
  · by_cases hb : b = 1
    · rw [if_pos hb]; omega
    · rw [if_neg hb]; omega
  · by_cases hb : b = 1
    · rw [if_pos hb]; omega
    · rw [if_neg hb]; omega

def newCells : Array Value := #[.int .u64 0, .int .u32 4294967295, .int .u8 0, .int .i64 0, .slice none 0 0]
end Go.Proofs.Ytjnegcambbeblaa

/- a number's bytes, one of which is turned; what a coder's number is below. -/
namespace Go.Proofs.Ytjnegcambbeblaa
open Go.RowKit

def bytesL (l : List Int) : Prop := ∀ x, x ∈ l → 0 ≤ x ∧ x < 256
theorem valL_cons (x : Int) (l : List Int) : valL (x :: l) = x * 256 ^ l.length + valL l := by
  have := valL_append [x] l
  rw [show valL [x] = x by show 0 * 256 + x = x; omega] at this
  exact this
theorem valL_set (l : List Int) (j : Nat) (x : Int) (hj : j < l.length) : valL (l.set j x) = valL l + (x - l.getD j 0) * 256 ^ (l.length - 1 - j) := by
  have e1 : l.set j x = l.take j ++ x :: l.drop (j + 1) := List.set_eq_take_append_cons_drop.trans (if_pos hj)
  have e2 : l = l.take j ++ l.getD j 0 :: l.drop (j + 1) := by
    have := List.take_append_drop j l
    rw [List.drop_eq_getElem_cons hj] at this
    rw [show l.getD j 0 = l[j] by simp [List.getD, hj]]
    exact this.symm
  have e3 : valL l = valL (l.take j ++ l.getD j 0 :: l.drop (j + 1)) := congrArg valL e2
  rw [e1, e3, valL_append, valL_append, valL_cons, valL_cons]
  have el : (l.drop (j + 1)).length = l.length - 1 - j := by rw [List.length_drop]; omega
  rw [List.length_cons, List.length_cons, el, Int.sub_mul]
  generalize valL (l.take j) * 256 ^ (l.length - 1 - j + 1) = a
  generalize valL (l.drop (j + 1)) = b
  generalize l.getD j 0 * 256 ^ (l.length - 1 - j) = c
  generalize x * 256 ^ (l.length - 1 - j) = d
  omega
theorem bytesL_set {l : List Int} (h : bytesL l) (j : Nat) {x : Int} (hx : 0 ≤ x ∧ x < 256) : bytesL (l.set j x) := by
  intro y hy
  rcases List.mem_or_eq_of_mem_set hy with hy | rfl
  · exact h y hy
  · exact hx
theorem bytesL_getD {l : List Int} (h : bytesL l) (j : Nat) : 0 ≤ l.getD j 0 ∧ l.getD j 0 < 256 := by
  by_cases hj : j < l.length
  · rw [show l.getD j 0 = l[j] by simp [List.getD, hj]]; exact h _ (List.getElem_mem hj)
  · rw [show l.getD j 0 = 0 by simp [List.getD, hj]]; omega
theorem bytesL_snoc {l : List Int} (h : bytesL l) : bytesL (l ++ [0]) := by
  intro y hy
  simp at hy
  rcases hy with hy | rfl
  · exact h y hy
  · omega
/-- one byte of a sum. -/
theorem add_step {l : List Int} {n : Nat} {x T : Int} (hn : n + 1 ≤ l.length) (hT : valL l + x * 256 ^ (l.length - (n + 1)) = T) :
    valL (l.set n ((x + l.getD n 0) % 256)) + (x + l.getD n 0) / 256 * 256 ^ (l.length - n) = T := by
  rw [valL_set l n _ (by omega), ← hT]
  have e : l.length - n = (l.length - 1 - n) + 1 := by omega
  have e2 : l.length - (n + 1) = l.length - 1 - n := by omega
  rw [e, e2, Int.pow_succ]
  generalize (256 : Int) ^ (l.length - 1 - n) = P
  generalize l.getD n 0 = b
  have h1 : ((x + b) % 256 - b) * P = (x + b) % 256 * P - b * P := Int.sub_mul _ _ _
  have h2 : (x + b) / 256 * (P * 256) = (x + b) / 256 * 256 * P := by rw [Int.mul_comm P, Int.mul_assoc]
  have h3 : x * P = (x + b - b) * P := by rw [show x + b - b = x by omega]
  have h4 : (x + b - b) * P = ((x + b) % 256 + (x + b) / 256 * 256) * P - b * P := by
    rw [show (x + b) % 256 + (x + b) / 256 * 256 = x + b by omega, Int.sub_mul]
  rw [h1, h2, h3, h4, Int.add_mul]
  omega
theorem add_done {l : List Int} (h : bytesL l) {x T : Int} (hx : 0 ≤ x) (hT : valL l + x * 256 ^ l.length = T) (hlt : T < 256 ^ l.length) : x = 0 := by
  have h1 := (valL_nonneg h).1
  have h2 := pow_pos256 l.length
  by_cases h0 : x = 0
  · exact h0
  · have : 1 * (256 : Int) ^ l.length ≤ x * 256 ^ l.length := Int.mul_le_mul_of_nonneg_right (by omega) (by omega)
    omega
theorem RC.Ok.below {c : RC} {N : Nat} (h : c.Ok N) (hb : c.bytes) : c.val + c.rng ≤ 256 ^ c.len ∧ 0 ≤ c.val := by
  obtain ⟨h1, h2, h3, h4, h5, h6, h7, h8⟩ := h
  obtain ⟨v0, v1⟩ := valL_nonneg hb
  have ep : (256 : Int) ^ c.len = (256 : Int) ^ c.out.length * 256 * 256 ^ c.more * 4294967296 := by
    unfold RC.len
    rw [Int.pow_add, Int.pow_add, show (256 : Int) ^ 5 = 256 * 4294967296 by decide]
    generalize (256 : Int) ^ c.out.length = a
    generalize (256 : Int) ^ c.more = b
    rw [← Int.mul_assoc, Int.mul_assoc a b 256, Int.mul_comm b 256, ← Int.mul_assoc a 256 b]
  have hp := pow_pos256 c.more
  unfold RC.val
  rw [ep]
  generalize (256 : Int) ^ c.out.length = a at *
  generalize valL c.out = v at *
  generalize (256 : Int) ^ c.more = P at *
  obtain ⟨X, hX⟩ : ∃ X, X = v * 256 + c.waits := ⟨_, rfl⟩
  rw [← hX]
  have hX0 : 0 ≤ X := by omega
  have hXP : 0 ≤ X * P := Int.mul_nonneg hX0 (by omega)
  refine ⟨?_, by omega⟩
  by_cases hw : c.waits = 255
  · have h7' := h7 hw
    have hX1 : X + 1 ≤ a * 256 := by omega
    have := Int.mul_le_mul_of_nonneg_right hX1 (show 0 ≤ P by omega)
    rw [Int.add_mul, Int.one_mul] at this
    generalize X * P = Y at *
    generalize a * 256 * P = Z at *
    omega
  · have hX1 : X + 2 ≤ a * 256 := by omega
    have := Int.mul_le_mul_of_nonneg_right hX1 (show 0 ≤ P by omega)
    rw [Int.add_mul] at this
    generalize X * P = Y at *
    generalize a * 256 * P = Z at *
    omega
/-- how many bytes more, the range tells. -/
theorem lev_once {r : Int} {j k : Nat} (h0 : 16777216 ≤ 256 ^ j * r) (h1 : 256 ^ j * r < 4294967296) (g0 : 16777216 ≤ 256 ^ k * r) (g1 : 256 ^ k * r < 4294967296) : j = k := by
  have aux : ∀ (a d : Nat), 16777216 ≤ 256 ^ a * r → 256 ^ (a + (d + 1)) * r < 4294967296 → False := by
    intro a d ha hd
    have e : (256 : Int) ^ (a + (d + 1)) * r = 256 ^ d * (256 * (256 ^ a * r)) := by
      rw [Int.pow_add, Int.pow_succ]
      generalize (256 : Int) ^ a = A
      generalize (256 : Int) ^ d = D
      rw [Int.mul_comm A, Int.mul_assoc, Int.mul_assoc]
    rw [e] at hd
    have hp := pow_pos256 d
    have : 1 * (256 * (256 ^ a * r)) ≤ 256 ^ d * (256 * (256 ^ a * r)) := Int.mul_le_mul_of_nonneg_right hp (by omega)
    omega
  rcases Nat.lt_trichotomy j k with hlt | h | hlt
  · obtain ⟨d, rfl⟩ := Nat.exists_eq_add_of_lt hlt
    exact (aux j d h0 (by rw [← Nat.add_assoc]; exact g1)).elim
  · exact h
  · obtain ⟨d, rfl⟩ := Nat.exists_eq_add_of_lt hlt
    exact (aux k d g0 (by rw [← Nat.add_assoc]; exact h1)).elim
end Go.Proofs.Ytjnegcambbeblaa

/- The document's coder (05): add, level. -/
namespace Go.Proofs.Ytjnegcambbeblaa
open Go.RowKit

theorem Own.setAt {w : World} {base : Nat} {k : IntKind} {e : TypeId} {v : Value} {xs : List Int} (h : Own w base k e v xs) {g : Nat} (hg : v.ownBlock = some g) (j : Nat) (x : Int) : Own (w.setCell ⟨g, j, none⟩ (.int k x)) base k e v (xs.set j x) := by
  obtain ⟨h1, h2⟩ := h
  refine ⟨by simp, ?_⟩
  rcases h2 with ⟨rfl, _⟩ | ⟨g', cap, cur, rfl, hb, hh, hn, hc, hs, ht⟩
  · simp [Value.ownBlock] at hg
  · have e : g' = g := by simpa [Value.ownBlock] using hg
    subst e
    refine .inr ⟨g', cap, cur.setIfInBounds j (.int k x), by rw [List.length_set], hb, blk_set hh, by rw [List.length_set]; exact hn, hc, by rw [Array.size_setIfInBounds]; exact hs, ?_⟩
    rw [List.length_set, Array.toList_setIfInBounds, List.take_set, ht, List.map_set]
theorem Own.cellAt {w : World} {base : Nat} {k : IntKind} {e : TypeId} {g n cap : Nat} {xs : List Int} (h : Own w base k e (.slice (some ⟨g, 0, none⟩) n cap) xs) {i : Nat} (hi : i < xs.length) :
    w.cell? ⟨g, i, none⟩ = some (.int k (xs.getD i 0)) ∧ w.frozen? ⟨g, i, none⟩ = false := by
  obtain ⟨h1, h2⟩ := h
  rcases h2 with ⟨h0, _⟩ | ⟨g', cap', cur, h0, hb, hh, hn, hc, hs, ht⟩
  · cases h0
  · have e : g' = g := by
      have := congrArg Value.ownBlock h0
      simpa [Value.ownBlock] using this.symm
    subst e
    refine ⟨blk_cell hh ?_, blk_frozen hh i⟩
    have e1 := map_getD k xs hi
    rw [← ht, List.getElem?_take_of_lt (by omega)] at e1
    simpa using e1
/-- the document's coder lies at block g; blocks of A are none of its. -/
structure EncV (A : Nat → Prop) (g : Nat) (w : World) (v : Value) (B : List Int) (r : Int) : Prop where
  at_ : w.heap[g]? = some (.cells #[v, .int .u64 r] 90)
  own : Own w 0 .u8 5 v B
  sep : ∀ k, v.ownBlock = some k → k ≠ g ∧ ¬ A k
  old : ∀ k, A k → k < w.heap.size
  not : ¬ A g
def EncIs (A : Nat → Prop) (g : Nat) (w : World) (V : Int) (L : Nat) (r : Int) : Prop := ∃ v B, EncV A g w v B r ∧ bytesL B ∧ B.length = L ∧ valL B = V
def EPost (A : Nat → Prop) (g : Nat) (w : World) (V : Int) (L : Nat) (r : Int) (e : Ending) (w' : World) : Prop := e = .returned (.tuple #[]) ∧ Fr (Out A) w w' ∧ EncIs A g w' V L r
theorem EncV.keep {A : Nat → Prop} {g : Nat} {w w' : World} {v : Value} {B : List Int} {r : Int} (h : EncV A g w v B r) {T : Nat → Prop} (hf : Fr T w w') (hg : ¬ T g) (ht : ∀ k, v.ownBlock = some k → ¬ T k) : EncV A g w' v B r :=
  ⟨hf.blk h.at_ hg, h.own.fr hf ht, h.sep, fun k hk => Nat.lt_of_lt_of_le (h.old k hk) hf.size, h.not⟩
theorem EncIs.keep {A : Nat → Prop} {g : Nat} {w w' : World} {V : Int} {L : Nat} {r : Int} (h : EncIs A g w V L r) {T : Nat → Prop} (hf : Fr T w w') (ht : ∀ k, k < w.heap.size → T k → A k) : EncIs A g w' V L r := by
  obtain ⟨v, B, hv, q⟩ := h
  have hf' : Fr (fun k => T k ∧ k < w.heap.size) w w' := hf.mono fun k hk e => ⟨e, hk⟩
  exact ⟨v, B, hv.keep hf' (fun e => hv.not (ht _ e.2 e.1)) (fun k hk e => (hv.sep k hk).2 (ht _ e.2 e.1)), q⟩
theorem EncIs.any {A : Nat → Prop} {g : Nat} {w w' : World} {V : Int} {L : Nat} {r : Int} (h : EncIs A g w V L r) (hf : Fr Non w w') : EncIs A g w' V L r := h.keep hf fun _ _ e => e.elim
/-- what is new is none of the coder's. -/
theorem EncIs.more {A : Nat → Prop} {g : Nat} {w w' : World} {V : Int} {L : Nat} {r : Int} (h : EncIs A g w V L r) {T : Nat → Prop} (hf : Fr T w w') (ht : ∀ k, k < w.heap.size → T k → A k) : EncIs (fun k => A k ∨ (w.heap.size ≤ k ∧ k < w'.heap.size)) g w' V L r := by
  obtain ⟨v, B, hv, q⟩ := h
  have hf' : Fr (fun k => T k ∧ k < w.heap.size) w w' := hf.mono fun k hk e => ⟨e, hk⟩
  have hk := hv.keep hf' (fun e => hv.not (ht _ e.2 e.1)) (fun k hk e => (hv.sep k hk).2 (ht _ e.2 e.1))
  refine ⟨v, B, ⟨hk.at_, hk.own, fun k e => ⟨(hv.sep k e).1, fun q => ?_⟩, fun k q => ?_, fun q => ?_⟩, q⟩
  · rcases q with q | q
    · exact (hv.sep k e).2 q
    · have := (hv.own.block k e).2; omega
  · rcases q with q | q
    · exact hk.old k q
    · exact q.2
  · rcases q with q | q
    · exact hv.not q
    · have := blk_lt hv.at_; omega
theorem EncIs.not {A : Nat → Prop} {g : Nat} {w : World} {V : Int} {L : Nat} {r : Int} (h : EncIs A g w V L r) : ¬ A g := by
  obtain ⟨v, B, hv, q⟩ := h
  exact hv.not
theorem enc_rng {A : Nat → Prop} {g : Nat} {w : World} {V : Int} {L : Nat} {r : Int} (h : EncIs A g w V L r) (x : Int) : EncIs A g (w.setCell ⟨g, 1, none⟩ (.int .u64 x)) V L x := by
  obtain ⟨v, B, hv, q⟩ := h
  exact ⟨v, B, ⟨blk_set (i := 1) hv.at_, hv.own.fr (S := fun k => k = g) ((Fr.refl _ _).setOne _ _) (fun k hk e => (hv.sep k hk).1 e), hv.sep, fun k hk => by have := hv.old k hk; simpa using this, hv.not⟩, q⟩
theorem EncV.setRng {A : Nat → Prop} {g : Nat} {w : World} {v : Value} {B : List Int} {r : Int} (hv : EncV A g w v B r) (x : Int) : EncV A g (w.setCell ⟨g, 1, none⟩ (.int .u64 x)) v B x :=
  ⟨blk_set (i := 1) hv.at_, hv.own.fr (S := fun k => k = g) ((Fr.refl _ _).setOne _ _) (fun k hk e => (hv.sep k hk).1 e), hv.sep, fun k hk => by have := hv.old k hk; simpa using this, hv.not⟩
theorem EncV.setAt {A : Nat → Prop} {g gb n cap : Nat} {w : World} {B : List Int} {r : Int} (h : EncV A g w (.slice (some ⟨gb, 0, none⟩) n cap) B r) (j : Nat) (x : Int) :
    EncV A g (w.setCell ⟨gb, j, none⟩ (.int .u8 x)) (.slice (some ⟨gb, 0, none⟩) n cap) (B.set j x) r := by
  have hs := h.sep gb rfl
  exact ⟨blk_set_ne h.at_ (fun e => hs.1 e.symm), h.own.setAt rfl j x, h.sep, fun k hk => by have := h.old k hk; simpa using this, h.not⟩

set_option maxRecDepth 100000 in
set_option maxHeartbeats 2000000 in
theorem eadd_any (A : Nat → Prop) (g : Nat) (V : Int) (L : Nat) (r x : Int) (w : World) (h : EncIs A g w V L r) (hL : 0 < L) (hL2 : L ≤ 1073741824) (hx0 : 0 ≤ x) (hx1 : x < 72057594037927936) (hlt : V + x < 256 ^ L) :
    Calls Try.prog 134 #[.pointer (some ⟨g, 0, none⟩), .int .u64 x] w (EPost A g w (V + x) L r) := by
  obtain ⟨v, B, hv, hby, hlen, hval⟩ := h
  obtain ⟨gb, cap, rfl⟩ : ∃ gb cap, v = .slice (some ⟨gb, 0, none⟩) L cap := by
    rcases hv.own.2 with ⟨_, h0⟩ | ⟨gb, cap, cur, rfl, _⟩
    · omega
    · exact ⟨gb, cap, by rw [hlen]⟩
  have HV := hid hv
  have Hby := hid hby
  have Hlt := hid hlt
  have HT0 := hid hval
  clear hv hby hlt hval
  go_enter Try.func134, Try.ntmps134
  have c0 := blk_cell HV.out.at_ (j := 0) (v := .slice (some ⟨gb, 0, none⟩) L cap) rfl
  go_wp2_with fail
  go_loopw [1, 4] (fun xv iv wr => ∃ (n : Nat) (y : Int) (B1 : List Int), n ≤ L ∧ iv = .int .i64 ((n : Int) - 1) ∧ xv = .int .u64 y ∧ 0 ≤ y ∧ y < 72057594037927936 ∧ EncV A g wr (.slice (some ⟨gb, 0, none⟩) L cap) B1 r ∧ bytesL B1 ∧ B1.length = L ∧ valL B1 + y * 256 ^ (L - n) = V + x ∧ Fr (Out A) w wr)
    (fun _ iv _ => (intOf iv + 1).toNat)
  case atStart =>
    exact ⟨L, x, B, Nat.le_refl _, rfl, rfl, hx0, hx1, HV.out, Hby.out, hlen, by rw [HT0.out, Nat.sub_self]; simp, Fr.refl _ _⟩
  case round =>
    obtain ⟨n, y, B1, hn, rfl, rfl, hy0, hy1, hv1, hb1, hl1, ht1, hf1⟩ := hrel
    by_cases hn0 : n = 0
    · subst hn0
      have hy : y = 0 := add_done (T := V + x) hb1 hy0 (by rw [hl1]; simpa using ht1) (by rw [hl1]; exact Hlt.out)
      subst hy
      have HE := hid (show EncIs A g wr (V + x) L r from ⟨_, B1, hv1, hb1, hl1, by rw [← ht1]; simp⟩)
      have HF1 := hid hf1
      clear hv1 hb1 ht1 hf1
      go_wp2_with fail
      go_end0
      exact ⟨rfl, HF1.out, HE.out⟩
    · obtain ⟨m, rfl⟩ := Nat.exists_eq_succ_of_ne_zero hn0
      by_cases hy : y = 0
      · subst hy
        have HE := hid (show EncIs A g wr (V + x) L r from ⟨_, B1, hv1, hb1, hl1, by rw [← ht1]; simp⟩)
        have HF1 := hid hf1
        clear hv1 hb1 ht1 hf1
        go_wp2_with fail
        go_end0
        exact ⟨rfl, HF1.out, HE.out⟩
      · have hyp : (0 : Int) < y := by omega
        have hbm := bytesL_getD hb1 m
        have c0 := blk_cell hv1.at_ (j := 0) (v := .slice (some ⟨gb, 0, none⟩) L cap) rfl
        obtain ⟨cm, fm⟩ := hv1.own.cellAt (i := m) (by omega)
        have HV1 := hid hv1
        have HB1 := hid hb1
        have HT1 := hid ht1
        have HF1 := hid hf1
        have hmi : ((m + 1 : Nat) : Int) - 1 = (m : Int) := by omega
        rw [show ((m.succ : Nat) : Int) - 1 = (m : Int) by omega]
        obtain ⟨b, hb⟩ : ∃ b, b = B1.getD m 0 := ⟨_, rfl⟩
        rw [← hb] at cm hbm
        have HBE := hid hb
        clear hv1 hb1 ht1 hf1 hb
        go_wp2_with fail
        refine ⟨⟨m, (y + b) / 256, B1.set m ((y + b) % 256), by omega, rfl, rfl, by omega, by omega, HV1.out.setAt m _, bytesL_set HB1.out m (by omega), by rw [List.length_set]; exact hl1, ?_, HF1.out.trans (Fr.setCell (p := ⟨gb, m, none⟩) (Fr.refl _ _) (fun _ => (HV1.out.sep gb rfl).2) _)⟩, by simp [intOf] <;> omega⟩
        have := add_step (l := B1) (n := m) (x := y) (T := V + x) (by omega) (by rw [hl1]; exact HT1.out)
        rw [← HBE.out, hl1] at this
        exact this

theorem enc_app {A : Nat → Prop} {g : Nat} {w W w2 : World} {v v2 : Value} {B xs : List Int} {r : Int} (h : EncV A g w v B r) (hf : Fr Non w W) (hg : W.grownBy w2 v.ownBlock) (ho : Own w2 0 .u8 5 v2 xs)
    (hb : v2.ownBlock = v.ownBlock ∨ v2.ownBlock = some W.heap.size) :
    EncV A g (w2.setCell ⟨g, 0, none⟩ v2) v2 xs r ∧ Fr (Out A) w (w2.setCell ⟨g, 0, none⟩ v2) := by
  have hgw := blk_lt h.at_
  have hne : v.ownBlock ≠ some g := fun e => (h.sep g e).1 rfl
  have hsz := hf.size
  have h1 : W.heap[g]? = some (.cells #[v, .int .u64 r] 90) := hf.blk h.at_ id
  have h2 := (Fr.grew hg).blk h1 hne
  have hs2 : ∀ k, v2.ownBlock = some k → k ≠ g ∧ ¬ A k := by
    intro k hk
    rcases hb with e | e
    · exact h.sep k (by rw [← e]; exact hk)
    · rw [e] at hk
      injection hk with hk
      subst hk
      exact ⟨by omega, fun q => by have := h.old _ q; omega⟩
  have hfr : Fr (Out A) w (w2.setCell ⟨g, 0, none⟩ v2) := by
    refine Fr.setCell (p := ⟨g, 0, none⟩) (Fr.then (hf.any (S := Out A)) (Fr.grew hg) fun i _ e => (h.sep i e).2) (fun _ => h.not) _
  refine ⟨⟨?_, ?_, hs2, ?_, h.not⟩, hfr⟩
  · exact blk_set (i := 0) h2
  · exact ho.fr (S := fun k => k = g) ((Fr.refl _ _).setOne _ _) (fun k hk e => (hs2 k hk).1 e)
  · intro k hk; exact Nat.lt_of_lt_of_le (h.old k hk) hfr.size
def rng64 (g : Nat) (w : World) : Nat := match w.cell? ⟨g, 1, none⟩ with | some (.int _ r) => 16777216 - r.toNat | _ => 0
theorem rng64_eq {A : Nat → Prop} {g : Nat} {w : World} {v : Value} {B : List Int} {r : Int} (h : EncV A g w v B r) : rng64 g w = 16777216 - r.toNat := by
  unfold rng64
  rw [blk_cell h.at_ (j := 1) (v := .int .u64 r) rfl]
def LevPost (A : Nat → Prop) (g : Nat) (w : World) (V : Int) (L : Nat) (r : Int) (e : Ending) (w' : World) : Prop :=
  e = .returned (.tuple #[]) ∧ Fr (Out A) w w' ∧ ∃ k : Nat, EncIs A g w' (256 ^ k * V) (L + k) (256 ^ k * r) ∧ 16777216 ≤ 256 ^ k * r ∧ 256 ^ k * r < 4294967296
theorem pow_few {k : Nat} {r : Int} (hr : 1 ≤ r) (h : 256 ^ k * r < 16777216) : k < 3 := by
  refine Nat.lt_of_not_le fun hk => ?_
  obtain ⟨d, rfl⟩ := Nat.exists_eq_add_of_le hk
  have hp := pow_pos256 d
  rw [Int.pow_add, show (256 : Int) ^ 3 = 16777216 by decide, Int.mul_assoc] at h
  have : 1 * 1 ≤ 256 ^ d * r := Int.mul_le_mul hp hr (by omega) (by omega)
  omega

set_option maxRecDepth 100000 in
set_option maxHeartbeats 2000000 in
theorem elevel_any (A : Nat → Prop) (g : Nat) (V : Int) (L : Nat) (r : Int) (w : World) (h : EncIs A g w V L r) (hL2 : L ≤ 1073741820) (h1 : 1 ≤ r) (h2 : r < 4294967296) :
    Calls Try.prog 133 #[.pointer (some ⟨g, 0, none⟩)] w (LevPost A g w V L r) := by
  have H := hid h
  clear h
  go_enter Try.func133, Try.ntmps133
  go_wp2_with fail
  go_loopw [] (fun wr => ∃ k : Nat, k ≤ 3 ∧ Fr (Out A) w wr ∧ EncIs A g wr (256 ^ k * V) (L + k) (256 ^ k * r) ∧ 256 ^ k * r < 4294967296) (fun wr => rng64 g wr)
  case atStart => exact ⟨0, by omega, Fr.refl _ _, by simpa using H.out, by simpa using h2⟩
  case round =>
    obtain ⟨k, hk, hfr, ⟨v, B, hv, hby, hlen, hval⟩, hlt⟩ := hrel
    obtain ⟨x, hx⟩ : ∃ x, x = 256 ^ k * r := ⟨_, rfl⟩
    rw [← hx] at hlt hv
    have k0 := blk_cell hv.at_ (j := 0) (v := v) rfl
    have k1 := blk_cell hv.at_ (j := 1) (v := .int .u64 x) rfl
    have g1 := blk_frozen hv.at_ 1
    have HV := hid hv
    have HFR := hid hfr
    have HBY := hid hby
    have HVAL := hid hval
    have HX := hid hx
    have hx0 : 1 * 1 ≤ x := by rw [hx]; exact Int.mul_le_mul (pow_pos256 k) h1 (by omega) (by have := pow_pos256 k; omega)
    clear hv hfr hby hval hx
    by_cases hlt2 : x < 16777216
    · have hk2 : k < 3 := pow_few h1 (by rw [← HX.out]; exact hlt2)
      have HV2 := hid (HV.out.setRng (x * 256))
      have cn := cell_new1 (wr.setCell ⟨g, 1, none⟩ (.int .u64 (x * 256))) (.int .u8 0) 5
      rw [show (wr.setCell ⟨g, 1, none⟩ (.int .u64 (x * 256))).heap.size = wr.heap.size by simp] at cn
      have HCN := hid cn
      clear cn
      go_upto_region 2 with fail
      go_wp2_with (refine opGrow1 (some 21) rfl rfl (.tmp 19) (.tmp 20) 30 rfl .u8 5 1 Try.underlying30 Try.info_u8 v B rfl (by exact Own.alloc HV2.out.own _) _ _ _ rfl (by exact HCN.out) (by decide) (by omega) ?_; intro v3 w3 hown3 hg3 hb3; obtain ⟨a3, cap3, hv3, _, _, _⟩ := hown3.rowN (n := L + k + 1) (by simp [hlen]); subst hv3; obtain ⟨hc3, hf3⟩ := enc_app HV2.out ((Fr.refl Non _).alloc _) hg3 hown3 hb3; have g4 : w3.frozen? ⟨g, 0, none⟩ = false := blk_frozen ((Fr.grew hg3).blk (by exact blk_alloc HV2.out.at_) (fun e => (HV2.out.sep g e).1 rfl)) 0; have k5 : w3.cell? ⟨g, 0, none⟩ = some v := blk_cell ((Fr.grew hg3).blk (by exact blk_alloc HV2.out.at_) (fun e => (HV2.out.sep g e).1 rfl)) rfl; have HC3 := hid hc3; have HF3 := hid hf3; clear hown3 hg3 hb3 hc3 hf3)
      obtain ⟨v4, hv4⟩ : ∃ v4, v4 = Value.slice a3 (L + k + 1) cap3 := ⟨_, rfl⟩
      rw [← hv4] at HC3 HF3 ⊢
      go_roundw
      case rel =>
        have e4 : (256 : Int) ^ (k + 1) * r = x * 256 := by rw [HX.out, Int.pow_succ, Int.mul_assoc, Int.mul_comm 256 r, Int.mul_assoc]
        refine ⟨k + 1, by omega, HFR.out.trans ((Fr.setCell (p := ⟨g, 1, none⟩) (Fr.refl _ _) (fun _ => HV.out.not) _).trans HF3.out), ⟨v4, B ++ [0], ?_, bytesL_snoc HBY.out, by rw [List.length_append, hlen]; rfl, ?_⟩, by rw [e4]; omega⟩
        · rw [e4]; exact HC3.out
        · rw [valL_snoc, HVAL.out, Int.pow_succ]
          generalize (256 : Int) ^ k = P
          have e : P * 256 * V = P * V * 256 := by rw [Int.mul_assoc, Int.mul_comm 256 V, ← Int.mul_assoc]
          omega
      case measure =>
        rw [rng64_eq HC3.out, rng64_eq HV.out]
        omega
    · have HE := hid (show EncIs A g wr (256 ^ k * V) (L + k) x from ⟨v, B, HV.out, HBY.out, hlen, HVAL.out⟩)
      go_wp2_with fail
      go_end0
      exact ⟨rfl, HFR.out, k, by rw [← HX.out]; exact HE.out, by rw [← HX.out]; omega, by rw [← HX.out]; exact hlt⟩
end Go.Proofs.Ytjnegcambbeblaa
