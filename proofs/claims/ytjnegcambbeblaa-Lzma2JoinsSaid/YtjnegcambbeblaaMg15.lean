/- Texts of this proof, one behind the other. -/
import Derived.Test.YtjnegcambbeblaaMg14
import Derived.Test.YtjnegcambbeblaaMg13

/- lzma2, plain: two streams one behind the other. -/
namespace Go.Proofs.Ytjnegcambbeblaa
open Go.RowKit

theorem judge_bad {S : Type} (y : L2 S) (h : y.emptied = false) : y.judge.bad = true := by
  show (y.bad || (!y.emptied || (!y.setted || !y.stated))) = true
  rw [h]
  simp
theorem pre_em {S : Type} (nx : S → Int × Bool × S) (how : Int) (y : L2 S) : (L2.st3 how (L2.st2 nx how y)).emptied = y.emptied := by
  have h2 : (L2.st2 nx how y).emptied = y.emptied := by
    unfold L2.st2
    split
    · unfold L2.setting
      split <;> rfl
    · rfl
  rw [← h2]
  unfold L2.st3
  split <;> rfl
/-- a chunk that is good, where nothing was emptied yet, empties. -/
theorem chunk1_first {S : Type} (nx : S → Int × Bool × S) (k : Int) (z : L2 S) (hem : z.emptied = false) (hb : (z.chunk1 nx k).bad = false) (he : (z.chunk1 nx k).ended = false) : k = 1 ∨ (128 ≤ k ∧ k / 32 - 4 = 3) := by
  unfold L2.chunk1 at hb he
  by_cases h0 : z.bad = true
  · rw [if_pos h0, h0] at hb; cases hb
  · rw [if_neg h0] at hb he
    by_cases h1 : k = 0
    · rw [if_pos h1] at he; cases he
    · rw [if_neg h1] at hb he
      by_cases h2 : k ≤ 2
      · rw [if_pos h2] at hb
        by_cases h3 : k = 1
        · exact .inl h3
        · exfalso
          have e : (z.plain nx k).bad = ((z.pair nx).2.bad || !z.emptied) := by
            unfold L2.plain
            rw [if_neg h3]
            rfl
          rw [e, hem] at hb
          simp at hb
      · rw [if_neg h2] at hb he
        by_cases h3 : 128 ≤ k
        · rw [if_pos h3] at hb
          refine .inr ⟨h3, ?_⟩
          by_cases h4 : k / 32 - 4 = 3
          · exact h4
          · exfalso
            unfold L2.pack at hb
            have e0 : z.st0 (k / 32 - 4) = z := if_neg h4
            rw [e0] at hb
            have e1 := judge_bad (L2.st3 (k / 32 - 4) (L2.st2 nx (k / 32 - 4) ((z.pair nx).2.pair nx).2)) ((pre_em nx _ _).trans hem)
            unfold L2.packEnd at hb
            rw [if_pos e1, e1] at hb
            cases hb
        · rw [if_neg h3] at hb; cases hb
theorem chunk1_good {S : Type} (nx : S → Int × Bool × S) (k : Int) (z : L2 S) (hb : z.bad = false) (h : k = 1 ∨ (128 ≤ k ∧ k / 32 - 4 = 3)) : z.chunk1 nx k = if k = 1 then z.plain nx k else z.pack nx k := by
  unfold L2.chunk1
  rw [if_neg (show ¬ z.bad = true by rw [hb]; decide), if_neg (show ¬ k = 0 by omega)]
  rcases h with rfl | ⟨h1, h2⟩
  · rw [if_pos (show (1 : Int) ≤ 2 by decide), if_pos rfl]
  · rw [if_neg (show ¬ k ≤ 2 by omega), if_pos h1, if_neg (show ¬ k = 1 by omega)]
theorem chunk1_of_empty {S : Type} (nx : S → Int × Bool × S) (k : Int) (z : L2 S) (hb : z.bad = false) (h : k = 1 ∨ (128 ≤ k ∧ k / 32 - 4 = 3)) : z.chunk1 nx k = z.empty.chunk1 nx k := by
  rw [chunk1_good nx k z hb h, chunk1_good nx k z.empty hb h]
  by_cases h1 : k = 1
  · subst h1
    rw [if_pos rfl, if_pos rfl]
    rfl
  · rw [if_neg h1, if_neg h1]
    have h2 : k / 32 - 4 = 3 := by omega
    have e : z.st0 (k / 32 - 4) = z.empty.st0 (k / 32 - 4) := by
      unfold L2.st0
      rw [if_pos h2, if_pos h2]
      rfl
    unfold L2.pack
    rw [e]
theorem W.first {na nb : Nat → Int × Bool × Nat} {off B : Nat} (hs : Shf na nb off B) (hby : ∀ s, 0 ≤ (na s).1) (L : LL) {p : Nat} {z z' : L2 Nat} (hG : z.Good L) (hG' : z'.Good L) (hz : Clear p z) (hz' : Clear p z') (hm : z.mode = none) (hem : z.emptied = false) (hl : z.left = 0) (hl' : z'.left = 0) (hk' : z'.closed = true) (hsrc : z'.src = z.src + off) (hn : (z.next na L).1.2 = true) (hB : (z.next na L).2.fin ≤ B) :
    (z'.next nb L).1 = (z.next na L).1 ∧ W false off B (z.next na L).2 (z'.next nb L).2 := by
  have ho := L2.next_open na L z hn
  have hk : z.closed = true := by unfold L2.closed; rw [hm]
  have hno : ¬ (z.bad = true ∨ z.ended = true) := by rw [hz.bad, hz.ended]; simp
  have hno' : ¬ (z'.bad = true ∨ z'.ended = true) := by rw [hz'.bad, hz'.ended]; simp
  have hy : z.open_ na = (!(z.chunk na).bad && !(z.chunk na).ended, z.chunk na) := by
    unfold L2.open_
    rw [if_neg hno, if_pos hl, if_pos hk]
  have hy' : z'.open_ nb = (!(z'.chunk nb).bad && !(z'.chunk nb).ended, z'.chunk nb) := by
    unfold L2.open_
    rw [if_neg hno', if_pos hl', if_pos hk']
  obtain ⟨o1, o2⟩ := open_clear na z ho
  have en := L2.next_of_open L (Prod.ext ho rfl : z.open_ na = (true, (z.open_ na).2))
  rw [en] at hn hB ⊢
  have hr := open_ok L hG (fun rd h => by rw [hm] at h; cases h) ho hn
  obtain ⟨f1, _⟩ := take_fin hs.up L hr hn
  have ey : (z.open_ na).2 = z.chunk na := congrArg Prod.snd hy
  rw [ey] at o1 o2 hn hB hr f1 ⊢
  have hb1 : (z.idle.byte na).2.bad = false := by
    cases hq : (z.idle.byte na).2.bad
    · rfl
    · unfold L2.chunk L2.chunk1 at o1
      rw [if_pos hq] at o1
      exact absurd (hq.symm.trans o1) (by decide)
  obtain ⟨_, q⟩ := byte_ok hs.up hb1
  have hk3 := chunk1_first na _ _ (show (z.idle.byte na).2.emptied = false from hem) o1 o2
  have e1 : z.chunk na = (z.idle.byte na).2.empty.chunk1 na (z.idle.byte na).1 := chunk1_of_empty na _ _ hb1 hk3
  have hs1 : (z.idle.byte na).2.empty.s = z.src + 1 := by
    show (z.idle.byte na).2.s = _
    rw [q]
    rfl
  have hf : z.src + 1 ≤ (z.chunk na).fin := by
    have := chunk1_fin hs.up hby (z := (z.idle.byte na).2.empty) rfl (z.idle.byte na).1 (by rw [← e1]; exact o1) (by rw [← e1]; exact o2) (by rw [← e1]; exact hr)
    rw [← e1, hs1] at this
    exact this
  have qb := byte_to hs (z' := z'.idle) (s := z.src) hsrc (by omega)
  have hb2 : (z'.idle.byte nb).2.bad = false := by rw [qb]; exact hz'.bad
  have ek : (z'.idle.byte nb).1 = (z.idle.byte na).1 := by rw [qb]; rfl
  have e2 : z'.chunk nb = (z'.idle.byte nb).2.empty.chunk1 nb (z.idle.byte na).1 := by
    rw [← ek]
    exact chunk1_of_empty nb _ _ hb2 (by rw [ek]; exact hk3)
  have hw : WN off (z.idle.byte na).2.empty (z'.idle.byte nb).2.empty := by
    refine ⟨⟨rfl, rfl, ?_, ?_, ?_, ?_, ?_, hl'.trans hl.symm, rfl, rfl, rfl, hz'.ended.trans hz.ended.symm, hb2.trans hb1.symm⟩, rfl, rfl, ?_⟩
    · show z'.c.left = z.c.left
      rw [L2.closed_left hG' hk', L2.closed_left hG hk]
    · exact hz'.cbad.trans hz.cbad.symm
    · exact hz'.cend.trans hz.cend.symm
    · exact hz'.taken.trans hz.taken.symm
    · exact hz'.dict.trans hz.dict.symm
    · rw [hs1]
      show (z'.idle.byte nb).2.s = _
      rw [qb]
  have hW : W false off B (z.chunk na) (z'.chunk nb) := by
    rw [e1] at o1 o2 hr f1 ⊢
    rw [e2]
    refine (hw.chunk1 hs hby (fun h => ?_) _ o1 o2 hr (Nat.le_trans f1 ?_)).1
    · rcases h with h | h
      · cases h
      · cases h
    · rw [← e1]
      exact hB
  have ho' : z'.open_ nb = (true, z'.chunk nb) := by
    rw [hy', hW.c.bad, hW.c.ended, o1, o2]
    rfl
  rw [L2.next_of_open L ho']
  exact hW.take hs L hn hB
theorem feed_up (f : Nat → Int) (n : Nat) : ∀ s, (feedNx f n s).2.1 = true → (feedNx f n s).2.2 = s + 1 := by
  intro s h
  unfold feedNx at h ⊢
  split
  · rfl
  · rename_i h0; rw [if_neg h0] at h; cases h
theorem feed_by (f : Nat → Int) (n : Nat) : ∀ s, 0 ≤ (feedNx f n s).1 := by
  intro s
  unfold feedNx
  split
  · show 0 ≤ f s % 256
    omega
  · exact Int.le_refl 0
theorem feed_lt (f : Nat → Int) (n s : Nat) : (feedNx f n s).2.1 = decide (s < n) := by
  unfold feedNx
  split
  · rename_i h; simp [h]
  · rename_i h; simp [h]
theorem feed_go {f : Nat → Int} {n s : Nat} (h : s < n) : feedNx f n s = (f s % 256, true, s + 1) := if_pos h
theorem shf_feed {f h : Nat → Int} {n N off B : Nat} (hB : B ≤ n) (hN : off + B ≤ N) (hh : ∀ s, s < B → h (s + off) = f s) : Shf (feedNx f n) (feedNx h N) off B where
  go s hs := by
    rw [feed_go (by omega), feed_go (by omega), hh s hs, show s + off + 1 = s + 1 + off by omega]
  up := feed_up f n
/-- what two streams tell, their chunks tell one behind the other. -/
theorem l2joins {f g h : Nat → Int} {n m k l p : Nat} {xs ys : List Int} (h1 : ∀ s, s < n - 1 → h s = f s) (h2 : ∀ s, s < m → h (s + (n - 1)) = g s) (hd : (k + l : Int) ≤ (set2 p).dict)
    (hx : l2unpack (feedNx f n) 0 p (wsize (min (set2 p).dict (k : Nat))) k = some xs) (hy : l2unpack (feedNx g m) 0 p (wsize (min (set2 p).dict (l : Nat))) l = some ys) :
    l2unpack (feedNx h (n - 1 + m)) 0 p (wsize (min (set2 p).dict ((k + l : Nat) : Int))) (k + l) = some (xs ++ ys) := by
  obtain ⟨lx, zn, tx, fx⟩ := l2unpack_some hx
  obtain ⟨ly, zm, ty, fy⟩ := l2unpack_some hy
  obtain ⟨L, hL⟩ : ∃ L, L = LL.of (wsize (min (set2 p).dict ((k + l : Nat) : Int))) := ⟨_, rfl⟩
  have hLn : k ≤ L.n ∧ l ≤ L.n := by
    have e : L.n = wsize (min (set2 p).dict ((k + l : Nat) : Int)) := by rw [hL]; rfl
    unfold wsize at e
    omega
  have tx' : Tells (feedNx f n) L (l2start p 0) xs zn := tells_ring xs (by
    show 0 + xs.length ≤ wsize (min (set2 p).dict (k : Nat))
    unfold wsize
    omega) (by
    show 0 + xs.length ≤ L.n
    omega) tx
  have ty' : Tells (feedNx g m) L (l2start p 0) ys zm := tells_ring ys (by
    show 0 + ys.length ≤ wsize (min (set2 p).dict (l : Nat))
    unfold wsize
    omega) (by
    show 0 + ys.length ≤ L.n
    omega) ty
  clear tx ty hx hy
  have hI : (l2start p (0 : Nat)).Inv L := l2start_inv p 0 L
  have hR : (l2start p (0 : Nat)).RdOk := fun rd e => by cases e
  -- the one
  have cn := tells_clear L xs (start_clear p (0 : Nat)) tx'
  obtain ⟨_, _, okn⟩ := tells_fin (feed_up f n) (feed_by f n) L xs hI hR tx'
  obtain ⟨a1, a2, a3, a4, a5⟩ := finish_shape _ cn.ended fx
  rw [feed_lt] at a4
  have a4' : zn.src < n := of_decide_eq_true a4
  rw [feed_up f n _ (by rw [feed_lt]; exact a4), feed_lt] at a5
  have a5' : ¬ zn.src + 1 < n := of_decide_eq_false a5
  have hfn : zn.fin = zn.src := ((W.self okn (Nat.le_refl _)).idle a1 a2).2.2
  have S1 : Shf (feedNx f n) (feedNx h (n - 1 + m)) 0 (n - 1) := shf_feed (by omega) (by omega) h1
  obtain ⟨zn', t1, w1⟩ := (W.self hR (B := n - 1) (Nat.zero_le _)).tells S1 (feed_by f n) L xs hI tx' (by omega)
  obtain ⟨i1, i2, _⟩ := w1.idle a1 a2
  have is : zn'.src = n - 1 := by
    have e : zn'.src = zn.src + 0 := i1.s
    omega
  have cn' := tells_clear L xs (start_clear p (0 : Nat)) t1
  obtain ⟨_, In', _⟩ := tells_fin (feed_up h (n - 1 + m)) (feed_by h (n - 1 + m)) L xs hI hR t1
  have ln' : zn'.left = 0 := w1.c.left.trans a1
  -- the other
  have cm := tells_clear L ys (start_clear p (0 : Nat)) ty'
  obtain ⟨_, _, okm⟩ := tells_fin (feed_up g m) (feed_by g m) L ys hI hR ty'
  obtain ⟨b1, b2, b3, b4, b5⟩ := finish_shape _ cm.ended fy
  rw [feed_lt] at b4
  have b4' : zm.src < m := of_decide_eq_true b4
  rw [feed_up g m _ (by rw [feed_lt]; exact b4), feed_lt] at b5
  have b5' : ¬ zm.src + 1 < m := of_decide_eq_false b5
  have hfm : zm.fin = zm.src := ((W.self okm (Nat.le_refl _)).idle b1 b2).2.2
  have S2 : Shf (feedNx g m) (feedNx h (n - 1 + m)) (n - 1) m := shf_feed (Nat.le_refl _) (Nat.le_refl _) h2
  have key : ∃ zm', Tells (feedNx h (n - 1 + m)) L zn' ys zm' ∧ zm'.closed = true ∧ zm'.src = zm.src + (n - 1) ∧ zm'.left = 0 := by
    cases ys with
    | nil =>
      have e : zm = l2start p 0 := ty'
      have e0 : zm.src = 0 := by rw [e]; rfl
      exact ⟨zn', rfl, i2, by omega, ln'⟩
    | cons y ys =>
      obtain ⟨c1, c2⟩ := ty'
      have hn := congrArg Prod.snd c1
      obtain ⟨d1, d2⟩ := next_fin (feed_up g m) (feed_by g m) L hI.good hR hn
      have hI' := L2.next_inv (feedNx g m) L hI
      obtain ⟨d3, _⟩ := tells_fin (feed_up g m) (feed_by g m) L ys hI' d2 c2
      obtain ⟨g1, g2⟩ := W.first S2 (feed_by g m) L (z := l2start p 0) (z' := zn') hI.good In'.good (start_clear p 0) cn' rfl rfl rfl ln' i2 (by rw [is]; show n - 1 = 0 + (n - 1); omega) hn (by omega)
      obtain ⟨zm', t2, w2⟩ := g2.tells S2 (feed_by g m) L ys hI' c2 (by omega)
      obtain ⟨j1, j2, _⟩ := w2.idle b1 b2
      exact ⟨zm', ⟨g1.trans c1, t2⟩, j2, j1.s, w2.c.left.trans b1⟩
  obtain ⟨zm', t2, j2, js, jl⟩ := key
  have tt := t1.append t2
  have cm' := tells_clear L (xs ++ ys) (start_clear p (0 : Nat)) tt
  have hlen : k + l = (xs ++ ys).length := by rw [List.length_append]; omega
  have hfin : zm'.finish (feedNx h (n - 1 + m)) = true := by
    refine finish_of _ cm'.ended cm'.bad jl j2 ?_ ?_ ?_
    · rw [js, feed_go (by omega), h2 _ b4']
      rw [feed_go b4'] at b3
      exact b3
    · rw [js, feed_go (by omega)]
    · rw [js, feed_up h (n - 1 + m) _ (by rw [feed_lt]; exact decide_eq_true (by omega)), feed_lt]
      show decide (zm.src + (n - 1) + 1 < n - 1 + m) = false
      exact decide_eq_false (by omega)
  rw [hL] at tt
  rw [hlen] at tt ⊢
  rw [l2unpack_tells tt, if_pos hfin]
end Go.Proofs.Ytjnegcambbeblaa

/- Lzma2Joins' walk. -/
namespace Go.Proofs.Ytjnegcambbeblaa
open Go.RowKit

theorem rowIn_take {B : Nat} {w : World} {a : Option Addr} {n m : Nat} {f : Nat → Int} (h : RowIn B .u8 w a n f) (hm : m ≤ n) : RowIn B .u8 w a m f := by
  by_cases h0 : m = 0
  · exact .inl h0
  · rcases h with e | ⟨b, o, h1, h2, h3⟩
    · omega
    · exact .inr ⟨b, o, h1, h2, fun i hi => h3 i (by omega)⟩
/-- the joined stream's bytes. -/
def joinL (f g : Nat → Int) (q m : Nat) : List Int := (List.range q).map f ++ (List.range m).map g
theorem joinL_len (f g : Nat → Int) (q m : Nat) : (joinL f g q m).length = q + m := by simp [joinL]
theorem joinL_lo (f g : Nat → Int) (q m s : Nat) (h : s < q) : (joinL f g q m).getD s 0 = f s := by
  unfold joinL
  rw [List.getD, List.getElem?_append_left (by simpa using h)]
  simp [h]
theorem joinL_hi (f g : Nat → Int) (q m s : Nat) (h : s < m) : (joinL f g q m).getD (s + q) 0 = g s := by
  unfold joinL
  rw [List.getD, List.getElem?_append_right (by simp)]
  simp [h]
theorem joinL_by (f g : Nat → Int) (q m : Nat) (hf : ∀ i, i < q → 0 ≤ f i ∧ f i < 256) (hg : ∀ i, i < m → 0 ≤ g i ∧ g i < 256) : ∀ y ∈ joinL f g q m, 0 ≤ y ∧ y < 256 := by
  intro y hy
  rcases List.mem_append.1 hy with h | h
  · obtain ⟨i, hi, rfl⟩ := List.mem_map.1 h
    exact hf i (List.mem_range.1 hi)
  · obtain ⟨i, hi, rfl⟩ := List.mem_map.1 h
    exact hg i (List.mem_range.1 hi)
theorem l2joins4 {f g : Nat → Int} {n q m u v : Nat} {xs ys : List Int} (hq : n = q + 1) (hu : u < 2500) (hv : v < 2500)
    (hx : l2unpack (feedNx f n) 0 4 (wsize (min (set2 4).dict (u : Int))) (u : Int).toNat = some xs) (hy : l2unpack (feedNx g m) 0 4 (wsize (min (set2 4).dict (v : Int))) (v : Int).toNat = some ys) :
    l2unpack (feedNx (fun i => (joinL f g q m).getD i 0) (joinL f g q m).length) 0 4 (wsize (min (set2 4).dict ((u : Int) + (v : Int)))) ((u : Int) + (v : Int)).toNat = some (xs ++ ys) := by
  have hd : (set2 4).dict = 16384 := by decide
  have h := l2joins (f := f) (g := g) (h := fun i => (joinL f g q m).getD i 0) (n := n) (m := m) (k := u) (l := v) (p := 4) (xs := xs) (ys := ys) (fun s hs => joinL_lo f g q m s (by omega)) (fun s hs => by
    rw [show n - 1 = q by omega]
    exact joinL_hi f g q m s hs) (by rw [hd]; omega) hx hy
  rw [show n - 1 + m = (joinL f g q m).length by rw [joinL_len]; omega] at h
  rw [show (u : Int) + (v : Int) = ((u + v : Nat) : Int) by omega]
  exact h
theorem wpList_unguard {P : Program} {ops : Array Oper} {Q : Exit → Act → World → Prop} {a : Act} {w : World} {rest : List Oper} {o : Oper}
    (hw : Region.wanted o (yielded ops a.tmps) = true) (h : wpList P ops Q ({ o with guard := none } :: rest) a w) : wpList P ops Q (o :: rest) a w := by
  unfold wpList at h ⊢
  rw [if_pos hw]
  rw [if_pos (by simp [Region.wanted])] at h
  exact h
/-- append behind a guard that lets it be. -/
theorem opAppendRowG {P : Program} {w : World} {ops : Array Oper} {rest : List Oper} {o : Oper} {a : Act} {Q : Exit → Act → World → Prop} (d : Option Tmp) (hw : Region.wanted o (yielded ops a.tmps) = true) (hd : o.dst = d) (s x : Operand) (t : TypeId)
    (ho : o.op = .call { callee := .builtin .append, args := #[s, x], argTypes := #[t, t] })
    (base : Nat) (k : IntKind) (e : TypeId) (bytes : Nat) (ht : P.underlying t = some (.slice e)) (hinfo : (P.info? e).map (fun i => (i.zero, i.size, i.bytes)) = some (some (.int k 0), 1, bytes))
    (v : Value) (xs : List Int) (hs : a.eval s = v) (hown : Own w base k e v xs)
    (B : Nat) (ao : Option Addr) (m c : Nat) (f : Nat → Int) (hx : a.eval x = .slice ao m c) (hnil : ao = none → c = 0) (hmc : m ≤ c) (hrow : RowIn B k w ao m f)
    (hb1 : 1 ≤ bytes) (hbytes : (xs.length + m) * bytes ≤ 140737488355328) (hbase : base ≤ w.heap.size)
    (h : ∀ v' w', Own w' base k e v' (xs ++ (List.range m).map f) → w.grownBy w' v.ownBlock → wpList P ops Q rest (a.put d v') w') : wpList P ops Q (o :: rest) a w :=
  wpList_unguard hw (opAppendRow (o := { o with guard := none }) d rfl hd s x t ho base k e bytes ht hinfo v xs hs hown B ao m c f hx hnil hmc hrow hb1 hbytes hbase h)
set_option maxRecDepth 100000 in
set_option maxHeartbeats 4000000 in
theorem lzma2Joins_walk (a : Option Addr) (n cap : Nat) (f : Nat → Int) (b : Option Addr) (m capb : Nat) (g : Nat → Int) (z : P16) (w : World) (hz : z.wf)
    (hnc : n ≤ cap) (hcm : cap ≤ 9223372036854775807) (hnil : a = none → cap = 0) (hr : RowIn w.heap.size .u8 w a n f) (hf : ∀ i, i < n → 0 ≤ f i ∧ f i < 256)
    (hmc : m ≤ capb) (hcmb : capb ≤ 9223372036854775807) (hnilb : b = none → capb = 0) (hrb : RowIn w.heap.size .u8 w b m g) (hg : ∀ i, i < m → 0 ≤ g i ∧ g i < 256) :
    Calls Try.prog 9 #[.slice a n cap, .slice b m capb, z.val] w fun e w' => e = .returned (.bool true) ∧ Fr Non w w' := by
  obtain ⟨x, y⟩ := z
  obtain ⟨⟨x0, x1⟩, y0, y1⟩ := hz
  dsimp only at x0 x1 y0 y1
  obtain ⟨u, hu⟩ : ∃ u : Nat, u = (x % 2500).toNat := ⟨_, rfl⟩
  obtain ⟨v, hv⟩ : ∃ v : Nat, v = (y % 2500).toNat := ⟨_, rfl⟩
  have hxu : x % 2500 = (u : Int) := by omega
  have hyv : y % 2500 = (v : Int) := by omega
  have hu5 : (u : Int) < 2500 := by omega
  have hv5 : (v : Int) < 2500 := by omega
  have HR := hid hr
  have HF := hid hf
  have HC := hid (And.intro hnc hnil)
  have HRB := hid hrb
  have HG := hid hg
  have HCB := hid (And.intro hmc hnilb)
  have hn1 : (n : Int) ≤ 9223372036854775807 := by omega
  have hm1 : (m : Int) ≤ 9223372036854775807 := by omega
  clear hr hf hnc hnil hrb hg hmc hnilb hu hv
  show Calls Try.prog 9 #[.slice a n cap, .slice b m capb, .agg #[.int .u16 x, .int .u16 y]] w _
  go_enter Try.func9, Try.ntmps9
  go_wp2_with fail
  refine (awake11_any _).mono ?_
  rintro e w1 ⟨rfl, hf1⟩
  have hb := hf1.blk (blk_new w (.cells #[.int .u16 x, .int .u16 y] 65)) id
  have c0 := blk_cell hb (j := 0) (v := .int .u16 x) rfl
  have c1 := blk_cell hb (j := 1) (v := .int .u16 y) rfl
  have F1 := hid (((Fr.refl Non w).alloc _).trans hf1)
  clear hf1 hb
  by_cases hbig : (4096 : Int) < (n : Int)
  · go_wp2_with fail
    go_ret
    exact ⟨rfl, F1.out⟩
  · by_cases hbig2 : (4096 : Int) < (m : Int)
    · go_wp2_with fail
      go_ret
      exact ⟨rfl, F1.out⟩
    · have hn4 : (n : Int) ≤ 4096 := by omega
      have hm4 : (m : Int) ≤ 4096 := by omega
      go_wp2_with fail
      refine (much_any _).mono ?_
      rintro e wm ⟨gm, rfl, hgm, hfm, hmm⟩
      have F2 := hid (F1.out.trans hfm)
      have HMM := hid hmm
      have HGM := hid (Nat.le_trans F1.out.size hgm)
      clear hfm hmm hgm
      go_wp2_with fail
      refine (l2unpack_all 4 (by decide) u a n cap f HF.out gm w _ F2.out HGM.out HMM.out (by omega) (by omega) (by omega) HC.out.1 HC.out.2 (F2.out.size |> fun h => (HR.out.fr F2.out (fun _ _ e => e)).mono h)).mono ?_
      rintro e w2 ⟨va, qa, rfl, hf2, hqa⟩
      have HQA := hid hqa
      have F3 := hid hf2
      clear hqa hf2
      go_wp2_with fail
      refine (much_any _).mono ?_
      rintro e wk ⟨gk, rfl, hgk, hfk, hmk⟩
      have F4 := hid (F3.out.trans hfk)
      have HFK := hid hfk
      have HMK := hid hmk
      have HGK := hid hgk
      clear hfk hmk hgk
      go_wp2_with fail
      refine (l2unpack_all 4 (by decide) v b m capb g HG.out gk w2 _ HFK.out HGK.out HMK.out (by omega) (by omega) (by omega) HCB.out.1 HCB.out.2 (F4.out.size |> fun h => (HRB.out.fr F4.out (fun _ _ e => e)).mono h)).mono ?_
      rintro e w4 ⟨vb, qb, rfl, hf4, hqb⟩
      have HQB := hid hqb
      have HF24 := hid hf4
      have F5 := hid (F3.out.trans hf4)
      clear hqb hf4
      rcases HQA.out with ⟨h40, _⟩ | ⟨_, _, rfl⟩ | ⟨_, rfl, xs, hx, hox⟩
      · omega
      · go_wp2_with fail
        go_ret
        exact ⟨rfl, F5.out⟩
      · rcases HQB.out with ⟨h40, _⟩ | ⟨_, _, rfl⟩ | ⟨_, rfl, ys, hy, hoy⟩
        · omega
        · go_wp2_with fail
          go_ret
          exact ⟨rfl, F5.out⟩
        · have HX := hid hx
          have HY := hid hy
          have HOX := hid (hox.fr HF24.out (fun _ _ _ e => e))
          have HOY := hid hoy
          have hxl := (l2unpack_some hx).1
          have hyl := (l2unpack_some hy).1
          rw [show ((u : Int)).toNat = u from rfl] at hxl
          rw [show ((v : Int)).toNat = v from rfl] at hyl
          have HXL := hid hxl
          have HYL := hid hyl
          clear hx hy hox hoy hxl hyl
          by_cases hn0 : n = 0
          · subst hn0
            go_wp2_with fail
            go_ret
            exact ⟨rfl, F5.out⟩
          · obtain ⟨q, hq⟩ : ∃ q, n = q + 1 := ⟨n - 1, by omega⟩
            have hnq : (n : Int) - 1 = (q : Int) := by omega
            have hneq : ((n : Int) == 0) = false := by simp; omega
            have hq0 : (0 : Int) ≤ (q : Int) := by omega
            have hqc : (q : Int) ≤ (cap : Int) := by have := HC.out.1; omega
            have hq4 : (q : Int) ≤ 4096 := by omega
            have HN := hid hq
            clear hq hn0
            go_wp2_with (first
              | (refine opAppendRow (some 65) rfl rfl (.tmp 59) (.tmp 64) 30 rfl w4.heap.size .u8 5 1 Try.underlying30 Try.info_u8q (.slice (some ⟨w4.heap.size, 0, none⟩) 0 0) [] rfl (Own.empty w4 _ .u8 5 (Nat.le_refl _)) w.heap.size a q cap f rfl HC.out.2 (by omega) (by exact (rowIn_take HR.out (by have := HN.out; omega)).fr ((F5.out).alloc _) (fun _ _ => id)) (by decide) (by simp; omega) (by simp) ?_; intro v5 w5 hown5 hg5; rw [List.nil_append] at hown5; have HO5 := hid hown5; have HF5 := hid (clone_fr hg5); clear hown5 hg5)
              | (refine opAppendRow (some 67) rfl rfl (.tmp 65) (.tmp 66) 30 rfl w4.heap.size .u8 5 1 Try.underlying30 Try.info_u8q _ _ rfl (by exact HO5.out) w.heap.size b m capb g rfl HCB.out.2 HCB.out.1 (by exact HRB.out.fr (F5.out.trans HF5.out) (fun _ _ => id)) (by decide) (by simp; omega) HF5.out.size ?_; intro v6 w6 hown6 hg6))
            have HF6 := hid (Fr.grown HF5.out hg6 (fun b hb hlt => by have := (HO5.out.block b hb).1; omega))
            have HO6 := hid (show Own w6 w4.heap.size .u8 5 v6 (joinL f g q m) from hown6)
            clear hown6 hg6
            refine (much_any _).mono ?_
            rintro e w7 ⟨gj, rfl, hgj, hfj, hmj⟩
            have HF7 := hid (HF6.out.trans hfj)
            have HO7 := hid (HO6.out.rowO.fr hfj (fun _ _ _ e => e))
            have HM7 := hid hmj
            have HG7 := hid (Nat.le_trans HF6.out.size hgj)
            clear hfj hmj hgj
            go_wp2_with fail
            refine (l2un_row 4 (by decide) ((u : Int) + (v : Int)) v6 _ (joinL_by f g q m (fun i hi => HF.out i (by have := HN.out; omega)) HG.out) gj w4 w7 w4.heap.size HF7.out HG7.out HM7.out (by omega) (by omega) (by rw [joinL_len]; omega) HO7.out).mono ?_
            rintro e w8 ⟨hf8, h8⟩
            rw [l2joins4 HN.out (by omega) (by omega) HX.out HY.out] at h8
            have h9 : ∃ v, e = .returned (.tuple #[v, .int .i64 0]) ∧ RowO w8 w4.heap.size v (xs ++ ys) := by
              rcases h8 with ⟨h, _⟩ | ⟨xs, v, h1, h2, h3⟩
              · cases h
              · injection h1 with h1
                subst h1
                exact ⟨v, h2, h3⟩
            clear h8
            obtain ⟨v8, rfl, ho8⟩ := h9
            have F8 := hid (F5.out.trans hf8)
            have HOX8 := hid (HOX.out.fr hf8 (fun _ _ _ e => e))
            have HOY8 := hid (HOY.out.fr hf8 (fun _ _ _ e => e))
            obtain ⟨az, cz, hvz, _, _, hrz, _⟩ := ho8
            obtain ⟨ax, cx, hvx, hcx, hnx, hrx, _⟩ := HOX8.out
            obtain ⟨ay, cy, hvy, hcy, hny, hry, _⟩ := HOY8.out
            subst hvx hvy
            obtain ⟨nx, hnx0⟩ : ∃ k, k = xs.length := ⟨_, rfl⟩
            obtain ⟨ny, hny0⟩ : ∃ k, k = ys.length := ⟨_, rfl⟩
            obtain ⟨nz, hnz0⟩ : ∃ k, k = (xs ++ ys).length := ⟨_, rfl⟩
            rw [← hnz0] at hvz hrz
            subst hvz
            rw [← hnx0] at hcx hrx ⊢
            rw [← hny0] at hcy hry ⊢
            have HRX := hid hrx
            have HRY := hid hry
            have HRZ := hid hrz
            have HNX := hid hnx0
            have HNY := hid hny0
            have HNZ := hid hnz0
            have HCX := hid (And.intro hcx hnx)
            have HCY := hid (And.intro hcy hny)
            have hnx3 : (nx : Int) ≤ 2500 := by have := HXL.out; omega
            have hny3 : (ny : Int) ≤ 2500 := by have := HYL.out; omega
            clear hrx hry hrz hcx hcy hnx hny hf8 hnx0 hny0 hnz0
            go_wp2_with (first
              | (refine opAppendRowG (some 81) rfl rfl (.tmp 79) (.tmp 80) 30 rfl w8.heap.size .u8 5 1 Try.underlying30 Try.info_u8q (.slice (some ⟨w8.heap.size, 0, none⟩) 0 0) [] rfl (Own.empty w8 _ .u8 5 (Nat.le_refl _)) w8.heap.size ax nx cx _ rfl HCX.out.2 HCX.out.1 (by exact HRX.out.fr ((Fr.refl Non _).alloc _) (fun _ _ => id)) (by decide) (by simp; omega) (by simp) ?_; intro v9 w9 hown9 hg9; rw [List.nil_append, HNX.out, range_getD] at hown9; have HO9 := hid hown9; have HF9 := hid (clone_fr hg9); clear hown9 hg9)
              | (refine opAppendRowG (some 83) rfl rfl (.tmp 81) (.tmp 82) 30 rfl w8.heap.size .u8 5 1 Try.underlying30 Try.info_u8q _ _ rfl (by exact HO9.out) w8.heap.size ay ny cy _ rfl HCY.out.2 HCY.out.1 (by exact HRY.out.fr HF9.out (fun _ _ => id)) (by decide) (by have := HNX.out; omega) HF9.out.size ?_; intro v10 w10 hown10 hg10; rw [HNY.out, range_getD] at hown10))
            have HF10 := hid (Fr.grown HF9.out hg10 (fun b hb hlt => by have := (HO9.out.block b hb).1; omega))
            have HO10 := hid hown10
            clear hown10 hg10
            obtain ⟨aj, cj, hvs, _, _, hrs, _⟩ := HO10.out.rowO
            rw [← HNZ.out] at hvs hrs
            subst hvs
            have HRS := hid hrs
            clear hrs
            refine (bytes_yes az aj nz cz cj _ _ _ (by have h := HNZ.out; rw [List.length_append] at h; have := HXL.out; have := HYL.out; omega) w10.heap.size ((HRZ.out.fr HF10.out (fun _ _ e => e)).mono HF10.out.size) HRS.out (fun i hi => rfl)).mono ?_
            rintro e wz ⟨rfl, hfz⟩
            have HFZ := hid ((F8.out.trans HF10.out).trans hfz)
            clear hfz
            go_wp2_with fail
            go_ret
            exact ⟨rfl, HFZ.out⟩
end Go.Proofs.Ytjnegcambbeblaa
