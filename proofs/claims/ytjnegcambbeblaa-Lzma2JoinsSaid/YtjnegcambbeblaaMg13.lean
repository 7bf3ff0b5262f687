/- Texts of this proof, one behind the other. -/
import Derived.Test.YtjnegcambbeblaaMg12
import Derived.Test.YtjnegcambbeblaaMg08

/- lzma2: Unpack of any property; Lzma2Sizes' walk. -/
namespace Go.Proofs.Ytjnegcambbeblaa
open Go.RowKit

set_option maxRecDepth 100000 in
set_option maxHeartbeats 800000 in
theorem l2unpack_bad (p : Nat) (hp : 40 < p) (hp2 : p < 256) (v : Value) (x : Int) (gm : Nat) (w : World) :
    Calls Try.prog 38 #[v, .int .u8 p, .int .i64 x, .pointer (some ⟨gm, 0, none⟩)] w fun e w' => e = .returned (.tuple #[.slice none 0 0, .int .i64 11]) ∧ w = w' := by
  have CN := hid (l2new_bad gm p x w hp hp2)
  clear hp hp2
  go_enter_defers Try.func38, Try.ntmps38
  go_wp2_with fail
  refine CN.out.mono ?_
  rintro e w1 ⟨rfl, rfl⟩
  go_wp2_with fail
  exact ⟨.tuple #[.slice none 0 0, .int .i64 11], Eq.trans (results_tmp2 rfl _ _ _) rfl, rfl, rfl⟩
/-- Unpack of any property: what the ending is. -/
def L2APost (p : Nat) (R : Option (List Int)) (W : World) (e : Ending) (w' : World) : Prop :=
  ∃ v q, e = .returned (.tuple #[v, .int .i64 q]) ∧ Fr Non W w' ∧ ((40 < p ∧ q = 11) ∨ (p ≤ 40 ∧ R = none ∧ q = 12) ∨ (p ≤ 40 ∧ q = 0 ∧ ∃ xs, R = some xs ∧ RowO w' W.heap.size v xs))
theorem l2unpack_all (p : Nat) (hp : p < 256) (x : Int) (a : Option Addr) (n c : Nat) (f : Nat → Int) (hf : ∀ i, i < n → 0 ≤ f i ∧ f i < 256) (gm : Nat) (W w : World)
    (hW : Fr Non W w) (hgW : W.heap.size ≤ gm) (h : MAt w gm MUCH) (hs : x ≤ 5000) (hs0 : -9223372036854775808 ≤ x) (hn : n ≤ 20000) (hnc : n ≤ c) (hnil : a = none → c = 0) (hr : RowIn w.heap.size .u8 w a n f) :
    Calls Try.prog 38 #[.slice a n c, .int .u8 p, .int .i64 x, .pointer (some ⟨gm, 0, none⟩)] w (L2APost p (l2unpack (feedNx f n) 0 p (wsize (min (set2 p).dict x)) x.toNat) W) := by
  by_cases h40 : p ≤ 40
  · refine (l2unpack_much p h40 x _ rfl a n c f hf gm W w _ rfl hW hgW h hs hs0 hn hnc hnil hr).mono ?_
    rintro e w' ⟨h1, h2 | ⟨xs, v, h5, h6, h7⟩⟩
    · exact ⟨_, _, h2.2, h1, .inr (.inl ⟨h40, h2.1, rfl⟩)⟩
    · exact ⟨_, _, h6, h1, .inr (.inr ⟨h40, rfl, xs, h5, h7⟩)⟩
  · refine (l2unpack_bad p (by omega) hp _ x gm w).mono ?_
    rintro e w' ⟨h1, rfl⟩
    exact ⟨_, _, h1, hW, .inl ⟨by omega, rfl⟩⟩
set_option maxRecDepth 100000 in
set_option maxHeartbeats 800000 in
theorem lzma2Sizes_walk (a : Option Addr) (n cap : Nat) (f : Nat → Int) (p : Nat) (z : P16) (w : World) (hz : z.wf) (hp : p < 256) (hnc : n ≤ cap) (hcm : cap ≤ 9223372036854775807) (hnil : a = none → cap = 0) (hr : RowIn w.heap.size .u8 w a n f) (hf : ∀ i, i < n → 0 ≤ f i ∧ f i < 256) :
    Calls Try.prog 10 #[.slice a n cap, .int .u8 p, z.val] w fun e w' => e = .returned (.bool true) ∧ Fr Non w w' := by
  obtain ⟨x, y⟩ := z
  obtain ⟨⟨x0, x1⟩, y0, y1⟩ := hz
  dsimp only at x0 x1 y0 y1
  obtain ⟨u, hu⟩ : ∃ u : Nat, u = (x % 5000).toNat := ⟨_, rfl⟩
  obtain ⟨v, hv⟩ : ∃ v : Nat, v = (y % 5000).toNat := ⟨_, rfl⟩
  have hxu : x % 5000 = (u : Int) := by omega
  have hyv : y % 5000 = (v : Int) := by omega
  have hu5 : (u : Int) < 5000 := by omega
  have hv5 : (v : Int) < 5000 := by omega
  have HR := hid hr
  have HF := hid hf
  have HC := hid (And.intro hnc hnil)
  have hn1 : (n : Int) ≤ 9223372036854775807 := by omega
  clear hr hf hnc hnil hu hv
  show Calls Try.prog 10 #[.slice a n cap, .int .u8 p, .agg #[.int .u16 x, .int .u16 y]] w _
  go_enter Try.func10, Try.ntmps10
  go_wp2_with fail
  refine (awake11_any _).mono ?_
  rintro e w1 ⟨rfl, hf1⟩
  have hb := hf1.blk (blk_new w (.cells #[.int .u16 x, .int .u16 y] 65)) id
  have c0 := blk_cell hb (j := 0) (v := .int .u16 x) rfl
  have c1 := blk_cell hb (j := 1) (v := .int .u16 y) rfl
  have F1 := hid (((Fr.refl Non w).alloc _).trans hf1)
  clear hf1 hb
  by_cases hbig : (8192 : Int) < (n : Int)
  · go_wp2_with fail
    go_ret
    exact ⟨rfl, F1.out⟩
  · by_cases heq : u = v
    · subst heq
      go_wp2_with fail
      go_ret
      exact ⟨rfl, F1.out⟩
    · have hne : ((u : Int) == (v : Int)) = false := by simp; omega
      have HNE := hid heq
      clear heq
      go_wp2_with fail
      refine (much_any _).mono ?_
      rintro e wm ⟨gm, rfl, hgm, hfm, hmm⟩
      have F2 := hid (F1.out.trans hfm)
      have HMM := hid hmm
      have HGM := hid (Nat.le_trans F1.out.size hgm)
      clear hfm hmm hgm
      go_wp2_with fail
      refine (l2unpack_all p hp u a n cap f HF.out gm w _ F2.out HGM.out HMM.out (by omega) (by omega) (by omega) HC.out.1 HC.out.2 (F2.out.size |> fun h => (HR.out.fr F2.out (fun _ _ e => e)).mono h)).mono ?_
      rintro e w2 ⟨va, qa, rfl, hf2, hqa⟩
      have HQA := hid hqa
      have F3 := hid hf2
      clear hqa hf2
      go_wp2_with fail
      refine (much_any _).mono ?_
      rintro e wk ⟨gk, rfl, hgk, hfk, hmk⟩
      have F4 := hid (F3.out.trans hfk)
      have HMK := hid hmk
      have HGK := hid (Nat.le_trans F3.out.size hgk)
      clear hfk hmk hgk
      go_wp2_with fail
      refine (l2unpack_all p hp v a n cap f HF.out gk w _ F4.out HGK.out HMK.out (by omega) (by omega) (by omega) HC.out.1 HC.out.2 (F4.out.size |> fun h => (HR.out.fr F4.out (fun _ _ e => e)).mono h)).mono ?_
      rintro e w4 ⟨vb, qb, rfl, hf4, hqb⟩
      have HQB := hid hqb
      have F5 := hid hf4
      clear hqb hf4
      rcases HQA.out with ⟨_, rfl⟩ | ⟨_, _, rfl⟩ | ⟨h40, rfl, xs, hx, _⟩
      · go_wp2_with fail
        go_ret
        exact ⟨rfl, F5.out⟩
      · go_wp2_with fail
        go_ret
        exact ⟨rfl, F5.out⟩
      · have hno : l2unpack (feedNx f n) 0 p (wsize (min (set2 p).dict (v : Int))) (v : Int).toNat = none := l2one (feedNx f n) 0 p u v h40 HNE.out hx
        have hq12 : qb = 12 := by
          rcases HQB.out with ⟨h1, _⟩ | ⟨_, _, h1⟩ | ⟨_, _, ys, h1, _⟩
          · omega
          · exact h1
          · rw [hno] at h1; cases h1
        subst hq12
        clear hno hx h40
        go_wp2_with fail
        go_ret
        exact ⟨rfl, F5.out⟩
end Go.Proofs.Ytjnegcambbeblaa

/- lzma2, plain: what a run tells; plain chunks. -/
namespace Go.Proofs.Ytjnegcambbeblaa
open Go.RowKit

/-- a run that tells these bytes. -/
def Tells {S : Type} (nx : S → Int × Bool × S) (L : LL) : L2 S → List Int → L2 S → Prop
  | z, [], z' => z' = z
  | z, x :: xs, z' => (z.next nx L).1 = (x, true) ∧ Tells nx L (z.next nx L).2 xs z'
theorem Tells.append {S : Type} {nx : S → Int × Bool × S} {L : LL} : ∀ {xs ys : List Int} {z z1 z2 : L2 S}, Tells nx L z xs z1 → Tells nx L z1 ys z2 → Tells nx L z (xs ++ ys) z2
  | [], _, _, _, _, h1, h2 => by
    have e : _ = _ := h1
    rw [← e]; exact h2
  | _ :: _, _, _, _, _, h1, h2 => ⟨h1.1, Tells.append h1.2 h2⟩
theorem l2run_head {S : Type} (nx : S → Int × Bool × S) (L : LL) (z : L2 S) : ∀ k, l2run nx L z (k + 1) = l2run nx L (z.next nx L).2 k
  | 0 => rfl
  | k + 1 => by
    show ((l2run nx L z (k + 1)).next nx L).2 = ((l2run nx L (z.next nx L).2 k).next nx L).2
    rw [l2run_head nx L z k]
theorem Tells.run {S : Type} {nx : S → Int × Bool × S} {L : LL} : ∀ {xs : List Int} {z z' : L2 S}, Tells nx L z xs z' → l2run nx L z xs.length = z' ∧ (∀ i, i < xs.length → l2has nx L z i = true ∧ l2at nx L z i = xs.getD i 0)
  | [], _, _, h => ⟨h.symm, fun i hi => by cases hi⟩
  | x :: xs, z, z', h => by
    obtain ⟨h1, h2⟩ := h
    obtain ⟨h3, h4⟩ := Tells.run h2
    refine ⟨by rw [List.length_cons, l2run_head]; exact h3, fun i hi => ?_⟩
    cases i with
    | zero => exact ⟨congrArg Prod.snd h1, congrArg Prod.fst h1⟩
    | succ i =>
      have h5 := h4 i (by simpa using hi)
      unfold l2has l2at at h5 ⊢
      rw [l2run_head]
      exact ⟨h5.1, by rw [h5.2]; rfl⟩
theorem tells_of {S : Type} {nx : S → Int × Bool × S} {L : LL} : ∀ (k : Nat) (z : L2 S), (∀ i, i < k → l2has nx L z i = true) → Tells nx L z (l2bytes nx L z k) (l2run nx L z k)
  | 0, z, _ => rfl
  | k + 1, z, h => by
    have h0 := h 0 (by omega)
    have ih := tells_of (nx := nx) (L := L) k (z.next nx L).2 (fun i hi => by
      have := h (i + 1) (by omega)
      unfold l2has at this ⊢
      rw [l2run_head] at this
      exact this)
    have e : l2bytes nx L z (k + 1) = l2at nx L z 0 :: l2bytes nx L (z.next nx L).2 k := by
      unfold l2bytes
      rw [List.range_succ_eq_map, List.map_cons, List.map_map]
      congr 1
      refine List.map_congr_left (fun i _ => ?_)
      show l2at nx L z (i + 1) = _
      unfold l2at
      rw [l2run_head]
    rw [e, l2run_head]
    exact ⟨Prod.ext rfl h0, ih⟩
/-- what Unpack says, by a run that tells. -/
theorem l2unpack_tells {S : Type} {nx : S → Int × Bool × S} {s0 : S} {p N : Nat} {xs : List Int} {z' : L2 S} (h : Tells nx (LL.of N) (l2start p s0) xs z') :
    l2unpack nx s0 p N xs.length = if z'.finish nx = true then some xs else none := by
  obtain ⟨h1, h2⟩ := h.run
  unfold l2unpack
  rw [h1]
  have hall : (List.range xs.length).all (l2has nx (LL.of N) (l2start p s0)) = true := List.all_eq_true.2 (fun i hi => (h2 i (List.mem_range.1 hi)).1)
  have hb : l2bytes nx (LL.of N) (l2start p s0) xs.length = xs := by
    unfold l2bytes
    apply List.ext_getElem
    · simp
    · intro i h3 h4
      rw [List.getElem_map, List.getElem_range, (h2 i h4).2]
      simp [List.getD, h4]
  rw [hb]
  by_cases hf : z'.finish nx = true
  · rw [if_pos ⟨hall, hf⟩, if_pos hf]
  · rw [if_neg (fun e => hf e.2), if_neg hf]
theorem l2unpack_some {S : Type} {nx : S → Int × Bool × S} {s0 : S} {p N k : Nat} {xs : List Int} (h : l2unpack nx s0 p N k = some xs) : xs.length = k ∧ ∃ z', Tells nx (LL.of N) (l2start p s0) xs z' ∧ z'.finish nx = true := by
  unfold l2unpack at h
  split at h
  · rename_i hh
    injection h with h
    subst h
    exact ⟨l2bytes_len _ _ _ _, _, tells_of k _ (fun i hi => List.all_eq_true.1 hh.1 i (List.mem_range.2 hi)), hh.2⟩
  · cases h
/-- what a source has left. -/
def Feeds {S : Type} (nx : S → Int × Bool × S) : S → List Int → Prop
  | s, [] => (nx s).2.1 = false
  | s, x :: r => (nx s).1 = x ∧ (nx s).2.1 = true ∧ Feeds nx (nx s).2.2 r
structure Pl {S : Type} (z : L2 S) (l : Nat) (em : Bool) : Prop where
  mode : z.mode = none
  bad : z.bad = false
  ended : z.ended = false
  left : z.left = l
  em : z.emptied = em
theorem L2.take_none {S : Type} (nx : S → Int × Bool × S) (L : LL) (y : L2 S) (hm : y.mode = none) (hb : (y.byte nx).2.bad = false) : y.take nx L = (((y.byte nx).1, true), { (y.byte nx).2 with c := lputS y.c (y.byte nx).1 }) := by
  unfold L2.take
  split
  · rw [if_neg (by rw [hb]; decide)]
  · rename_i rd h
    rw [hm] at h; cases h
theorem L2.next_of_open {S : Type} {nx : S → Int × Bool × S} (L : LL) {z y : L2 S} (ho : z.open_ nx = (true, y)) : z.next nx L = ({ y with left := y.left - 1 } : L2 S).take nx L := by
  unfold L2.next
  rw [ho, if_pos rfl]
theorem Pl.step {S : Type} {nx : S → Int × Bool × S} (L : LL) {z : L2 S} {r : Nat} {em : Bool} {x : Int} {rest : List Int} (h : Pl z (r + 1) em) (hf : Feeds nx z.s (x :: rest)) :
    (z.next nx L).1 = (x, true) ∧ Pl (z.next nx L).2 r em ∧ Feeds nx (z.next nx L).2.s rest := by
  obtain ⟨f1, f2, f3⟩ := hf
  have ho : z.open_ nx = (true, z) := by
    unfold L2.open_
    rw [if_neg (by rw [h.bad, h.ended]; simp), if_neg (by rw [h.left]; omega)]
  have hb : (({ z with left := z.left - 1 } : L2 S).byte nx).2.bad = false := by
    show (z.bad || !(nx z.s).2.1) = false
    rw [h.bad, f2]; rfl
  have hn : z.next nx L = _ := (L2.next_of_open L ho).trans (L2.take_none nx L _ h.mode hb)
  rw [hn]
  refine ⟨by show ((nx z.s).1, true) = _; rw [f1], ⟨h.mode, hb, h.ended, ?_, h.em⟩, f3⟩
  show z.left - 1 = r
  rw [h.left]; rfl
theorem Pl.tells {S : Type} {nx : S → Int × Bool × S} (L : LL) {em : Bool} {rest : List Int} : ∀ (xs : List Int) {z : L2 S}, Pl z xs.length em → Feeds nx z.s (xs ++ rest) → ∃ z', Tells nx L z xs z' ∧ Pl z' 0 em ∧ Feeds nx z'.s rest
  | [], z, h, hf => ⟨z, rfl, h, hf⟩
  | x :: xs, z, h, hf => by
    obtain ⟨h1, h2, h3⟩ := Pl.step L (r := xs.length) h hf
    obtain ⟨z', h4, h5, h6⟩ := Pl.tells L xs h2 h3
    exact ⟨z', ⟨h1, h4⟩, h5, h6⟩
/-- the head of a plain chunk. -/
theorem Pl.head {S : Type} {nx : S → Int × Bool × S} {z : L2 S} {em : Bool} {k hi lo : Int} {rest : List Int} {n : Nat} (h : Pl z 0 em) (hf : Feeds nx z.s (k :: hi :: lo :: rest)) (hk : k = 1 ∨ (k = 2 ∧ em = true)) (hn : (hi * 256 + lo + 1).toNat = n) :
    ∃ y, z.open_ nx = (true, y) ∧ Pl y n true ∧ Feeds nx y.s rest := by
  obtain ⟨f1, f2, g1, g2, e1, e2, e3⟩ := hf
  have hid : z.idle = z := by
    unfold L2.idle L2.src
    rw [h.mode]
    cases z
    cases h.mode
    rfl
  have hcl : z.closed = true := by
    unfold L2.closed
    rw [h.mode]
  have hbt : z.byte nx = ((nx z.s).1, { z with s := (nx z.s).2.2, bad := false }) := by
    unfold L2.byte
    rw [f2, h.bad]
    rfl
  obtain ⟨y, hy⟩ : ∃ y, y = z.chunk nx := ⟨_, rfl⟩
  have hy2 : y = L2.plain nx k ({ z with s := (nx z.s).2.2, bad := false } : L2 S) := by
    rw [hy]
    unfold L2.chunk
    rw [hid, hbt]
    dsimp only
    rw [f1]
    unfold L2.chunk1
    rw [if_neg (fun e => by cases e), if_neg (by omega), if_pos (by omega)]
  have hP : Pl y n true ∧ Feeds nx y.s rest := by
    rw [hy2]
    rcases hk with rfl | ⟨rfl, hem⟩
    · unfold L2.plain
      rw [if_pos rfl]
      unfold L2.pair L2.byte L2.empty
      dsimp only
      rw [g1, g2, e1, e2]
      exact ⟨⟨h.mode, rfl, h.ended, hn, rfl⟩, e3⟩
    · unfold L2.plain
      rw [if_neg (by decide)]
      unfold L2.pair L2.byte
      dsimp only
      rw [g1, g2, e1, e2, h.em, hem]
      exact ⟨⟨h.mode, rfl, h.ended, hn, rfl⟩, e3⟩
  refine ⟨y, ?_, hP⟩
  unfold L2.open_
  rw [if_neg (by rw [h.bad, h.ended]; simp), if_pos h.left, if_pos hcl, ← hy, hP.1.bad, hP.1.ended]
  rfl
theorem Pl.chunk {S : Type} {nx : S → Int × Bool × S} (L : LL) {z : L2 S} {em : Bool} {k hi lo : Int} {xs rest : List Int} (h : Pl z 0 em) (hx : xs ≠ []) (hf : Feeds nx z.s (k :: hi :: lo :: (xs ++ rest))) (hk : k = 1 ∨ (k = 2 ∧ em = true)) (hn : (hi * 256 + lo + 1).toNat = xs.length) :
    ∃ z', Tells nx L z xs z' ∧ Pl z' 0 true ∧ Feeds nx z'.s rest := by
  obtain ⟨y, ho, hP, hF⟩ := h.head hf hk hn
  obtain ⟨z', h1, h2, h3⟩ := Pl.tells L xs hP hF
  match xs, hx, h1 with
  | x :: xs, _, h1 =>
    refine ⟨z', ⟨?_, ?_⟩, h2, h3⟩
    · rw [← h1.1, L2.next_of_open L ho]
      have ho2 : y.open_ nx = (true, y) := by
        unfold L2.open_
        rw [if_neg (by rw [hP.bad, hP.ended]; simp), if_neg (by rw [hP.left]; simp)]
      rw [L2.next_of_open L ho2]
    · have ho2 : y.open_ nx = (true, y) := by
        unfold L2.open_
        rw [if_neg (by rw [hP.bad, hP.ended]; simp), if_neg (by rw [hP.left]; simp)]
      rw [L2.next_of_open L ho, ← L2.next_of_open L ho2]
      exact h1.2
/-- plain chunks, each with its head. -/
def encC : Bool → List (List Int) → List Int
  | _, [] => []
  | first, c :: cs => (if first then 1 else 2) :: (((c.length - 1) / 256 : Nat) : Int) :: (((c.length - 1) % 256 : Nat) : Int) :: (c ++ encC false cs)
theorem Pl.chunks {S : Type} {nx : S → Int × Bool × S} (L : LL) {rest : List Int} : ∀ (cs : List (List Int)) (first : Bool) {z : L2 S} {em : Bool}, Pl z 0 em → (first = false → em = true) → (∀ c ∈ cs, c ≠ []) → Feeds nx z.s (encC first cs ++ rest) →
    ∃ z' em', Tells nx L z cs.flatten z' ∧ Pl z' 0 em' ∧ Feeds nx z'.s rest
  | [], _, z, em, h, _, _, hf => ⟨z, em, rfl, h, hf⟩
  | c :: cs, first, z, em, h, hem, hne, hf => by
    have hc : c ≠ [] := hne c (List.mem_cons_self ..)
    have hl : 1 ≤ c.length := by
      cases c with
      | nil => exact absurd rfl hc
      | cons _ _ => simp
    have hf' : Feeds nx z.s ((if first then 1 else 2) :: (((c.length - 1) / 256 : Nat) : Int) :: (((c.length - 1) % 256 : Nat) : Int) :: (c ++ (encC false cs ++ rest))) := by
      rw [← List.append_assoc]
      exact hf
    obtain ⟨z1, h1, h2, h3⟩ := Pl.chunk L h hc hf' (by cases first with | true => exact .inl rfl | false => exact .inr ⟨rfl, hem rfl⟩) (by omega)
    obtain ⟨z', em', h4, h5, h6⟩ := Pl.chunks L cs false h2 (fun _ => rfl) (fun c hc => hne c (List.mem_cons_of_mem _ hc)) h3
    exact ⟨z', em', by rw [List.flatten_cons]; exact h1.append h4, h5, h6⟩
/-- the ends. -/
theorem Pl.finish {S : Type} {nx : S → Int × Bool × S} {z : L2 S} {em : Bool} {rest : List Int} (h : Pl z 0 em) (hf : Feeds nx z.s rest) : (rest = [0] → z.finish nx = true) ∧ (rest = [] → z.finish nx = false) ∧ (rest = [0, 0] → z.finish nx = false) := by
  have hid : z.idle = z := by
    unfold L2.idle L2.src
    rw [h.mode]
    cases z
    cases h.mode
    rfl
  have hcl : z.closed = true := by
    unfold L2.closed
    rw [h.mode]
  have ho : z.open_ nx = (!(z.chunk nx).bad && !(z.chunk nx).ended, z.chunk nx) := by
    unfold L2.open_
    rw [if_neg (by rw [h.bad, h.ended]; simp), if_pos h.left, if_pos hcl]
  have hch : z.chunk nx = (z.byte nx).2.chunk1 nx (z.byte nx).1 := by
    unfold L2.chunk
    rw [hid]
  have hend : (nx z.s).1 = 0 → (nx z.s).2.1 = true → z.finish nx = !(nx (nx z.s).2.2).2.1 := by
    intro f1 f2
    have hbt : z.byte nx = ((nx z.s).1, { z with s := (nx z.s).2.2, bad := false }) := by
      unfold L2.byte
      rw [f2, h.bad]
      rfl
    have hc2 : z.chunk nx = { z with s := (nx z.s).2.2, bad := false, ended := true } := by
      rw [hch, hbt]
      dsimp only
      rw [f1]
      unfold L2.chunk1
      rw [if_neg (fun e => by cases e), if_pos rfl]
    unfold L2.finish
    rw [if_pos h.left, ho, hc2]
    have hs : L2.src ({ z with s := (nx z.s).2.2, bad := false, ended := true } : L2 S) = (nx z.s).2.2 := by
      unfold L2.src
      rw [show ({ z with s := (nx z.s).2.2, bad := false, ended := true } : L2 S).mode = none from h.mode]
    dsimp only
    rw [hs]
    rfl
  refine ⟨?_, ?_, ?_⟩
  · rintro rfl
    obtain ⟨f1, f2, f3⟩ := hf
    have f4 : (nx (nx z.s).2.2).2.1 = false := f3
    rw [hend f1 f2, f4]
    rfl
  · rintro rfl
    have f1 : (nx z.s).2.1 = false := hf
    have hbt : (z.byte nx).2.bad = true := by
      show (z.bad || !(nx z.s).2.1) = true
      rw [f1]; simp
    have hc2 : z.chunk nx = (z.byte nx).2 := by
      rw [hch]
      unfold L2.chunk1
      rw [if_pos hbt]
    unfold L2.finish
    rw [if_pos h.left, ho, hc2, hbt]
    simp
  · rintro rfl
    obtain ⟨f1, f2, f3, f4, _⟩ := hf
    rw [hend f1 f2, f4]
    rfl
end Go.Proofs.Ytjnegcambbeblaa

/- Lzma2Plain's walk. -/
namespace Go.Proofs.Ytjnegcambbeblaa
open Go.RowKit

theorem Feeds.of (f : Nat → Int) (n : Nat) (hb : ∀ i, i < n → 0 ≤ f i ∧ f i < 256) : ∀ (xs : List Int) (s : Nat), s + xs.length = n → (∀ i, i < xs.length → f (s + i) = xs.getD i 0) → Feeds (feedNx f n) s xs
  | [], s, hn, _ => by
    show (feedNx f n s).2.1 = false
    unfold feedNx
    rw [if_neg (by simp at hn; omega)]
  | x :: xs, s, hn, hf => by
    have hs : s < n := by simp at hn; omega
    have e : feedNx f n s = (f s, true, s + 1) := by
      unfold feedNx
      rw [if_pos hs, show f s % 256 = f s by have := hb s hs; omega]
    refine ⟨?_, ?_, ?_⟩
    · rw [e]; exact hf 0 (by simp)
    · rw [e]
    · rw [e]
      refine Feeds.of f n hb xs (s + 1) (by simp at hn; omega) (fun i hi => ?_)
      have := hf (i + 1) (by simpa using hi)
      rw [show s + 1 + i = s + (i + 1) by omega, this]
      rfl
theorem l2plain_law (p N : Nat) (cs : List (List Int)) (hne : ∀ c ∈ cs, c ≠ []) (tail : List Int) (f : Nat → Int) (n : Nat) (hb : ∀ i, i < n → 0 ≤ f i ∧ f i < 256) (hn : n = (encC true cs ++ tail).length) (hf : ∀ i, i < n → f i = (encC true cs ++ tail).getD i 0) :
    (tail = [0] → l2unpack (feedNx f n) 0 p N cs.flatten.length = some cs.flatten) ∧ (tail = [] → l2unpack (feedNx f n) 0 p N cs.flatten.length = none) ∧ (tail = [0, 0] → l2unpack (feedNx f n) 0 p N cs.flatten.length = none) := by
  have hF : Feeds (feedNx f n) (l2start p 0).s (encC true cs ++ tail) := Feeds.of f n hb _ 0 (by omega) (fun i hi => by rw [Nat.zero_add]; exact hf i (by omega))
  have hP : Pl (l2start p 0) 0 false := ⟨rfl, rfl, rfl, rfl, rfl⟩
  obtain ⟨z', em, h1, h2, h3⟩ := Pl.chunks (LL.of N) cs true hP (fun e => by cases e) hne hF
  have h4 := l2unpack_tells h1
  obtain ⟨e1, e2, e3⟩ := h2.finish h3
  rw [h4]
  exact ⟨fun h => by rw [if_pos (e1 h)], fun h => by rw [if_neg (by rw [e2 h]; decide)], fun h => by rw [if_neg (by rw [e3 h]; decide)]⟩
theorem encC_snoc (first : Bool) (cs : List (List Int)) (c : List Int) : encC first (cs ++ [c]) = encC first cs ++ ((if first && cs.isEmpty then 1 else 2) :: (((c.length - 1) / 256 : Nat) : Int) :: (((c.length - 1) % 256 : Nat) : Int) :: c) := by
  induction cs generalizing first with
  | nil => cases first <;> simp [encC]
  | cons d cs ih =>
    show (if first then (1 : Int) else 2) :: _ :: _ :: (d ++ encC false (cs ++ [c])) = _
    rw [ih false]
    simp [encC]
theorem encC_len (first : Bool) (cs : List (List Int)) : (encC first cs).length = 3 * cs.length + cs.flatten.length := by
  induction cs generalizing first with
  | nil => rfl
  | cons d cs ih =>
    show (_ :: _ :: _ :: (d ++ encC false cs)).length = _
    simp [ih]
    omega
theorem ne_len (cs : List (List Int)) (h : ∀ c ∈ cs, c ≠ []) : cs.length ≤ cs.flatten.length := by
  induction cs with
  | nil => simp
  | cons d cs ih =>
    have h1 := ih (fun c hc => h c (List.mem_cons_of_mem _ hc))
    have h2 : 1 ≤ d.length := by
      have := h d (List.mem_cons_self ..)
      cases d with
      | nil => exact absurd rfl this
      | cons _ _ => simp
    rw [List.flatten_cons, List.length_append, List.length_cons]
    omega
theorem flat_ge {cs : List (List Int)} {c : List Int} (h : c ∈ cs) : c.length ≤ cs.flatten.length := by
  induction cs with
  | nil => cases h
  | cons d cs ih =>
    rw [List.flatten_cons, List.length_append]
    rcases List.mem_cons.1 h with rfl | h
    · omega
    · have := ih h; omega
theorem encC_by (first : Bool) (cs : List (List Int)) (h : ∀ c ∈ cs, c.length ≤ 65536 ∧ ∀ x ∈ c, 0 ≤ x ∧ x < 256) : ∀ x ∈ encC first cs, 0 ≤ x ∧ x < 256 := by
  induction cs generalizing first with
  | nil => intro x hx; cases hx
  | cons d cs ih =>
    intro x hx
    have hd := h d (List.mem_cons_self ..)
    have hx' : x ∈ (if first then (1 : Int) else 2) :: (((d.length - 1) / 256 : Nat) : Int) :: (((d.length - 1) % 256 : Nat) : Int) :: (d ++ encC false cs) := hx
    rcases List.mem_cons.1 hx' with rfl | hx'
    · cases first <;> decide
    · rcases List.mem_cons.1 hx' with rfl | hx'
      · omega
      · rcases List.mem_cons.1 hx' with rfl | hx'
        · omega
        · rcases List.mem_append.1 hx' with h1 | h1
          · exact hd.2 x h1
          · exact ih false (fun c hc => h c (List.mem_cons_of_mem _ hc)) x h1
theorem getD_el (xs : List Int) (i : Nat) (hi : i < xs.length) : xs.getD i 0 = xs[i] := by simp [List.getD, hi]
theorem range_getD (xs : List Int) : (List.range xs.length).map (fun i => xs.getD i 0) = xs := by
  apply List.ext_getElem
  · simp
  · intro i h1 h2
    rw [List.getElem_map, List.getElem_range, getD_el xs i h2]
/-- Unpack of a row of numbers, by much memory. -/
theorem l2un_row (p : Nat) (hp : p ≤ 40) (x : Int) (v : Value) (xs : List Int) (hx : ∀ y ∈ xs, 0 ≤ y ∧ y < 256) (gm : Nat) (W w : World) (B : Nat) (hW : Fr Non W w) (hgW : W.heap.size ≤ gm) (h : MAt w gm MUCH) (hs : x ≤ 5000) (hs0 : -9223372036854775808 ≤ x) (hn : xs.length ≤ 20000) (hr : RowO w B v xs) :
    Calls Try.prog 38 #[v, .int .u8 p, .int .i64 x, .pointer (some ⟨gm, 0, none⟩)] w (L2MPost (l2unpack (feedNx (fun i => xs.getD i 0) xs.length) 0 p (wsize (min (set2 p).dict x)) x.toNat) W) := by
  obtain ⟨a, c, rfl, h2, h3, h4, _⟩ := hr
  exact l2unpack_much p hp x _ rfl a xs.length c _ (fun i hi => by
    rw [getD_el xs i hi]
    exact hx _ (List.getElem_mem hi)) gm W w _ rfl hW hgW h hs hs0 hn h2 h3 h4
set_option maxRecDepth 100000 in
set_option maxHeartbeats 800000 in
theorem lzma2Plain_walk (a : Option Addr) (n cap : Nat) (f : Nat → Int) (ac : Option Addr) (nc capc : Nat) (fc : Nat → Int) (w : World) (hnc : n ≤ cap) (hcm : cap ≤ 9223372036854775807) (hnil : a = none → cap = 0) (hr : RowIn w.heap.size .u8 w a n f) (hf : ∀ i, i < n → 0 ≤ f i ∧ f i < 256)
    (hncc : nc ≤ capc) (hcmc : capc ≤ 9223372036854775807) (hrc : RowIn w.heap.size .u8 w ac nc fc) (hfc : ∀ i, i < nc → 0 ≤ fc i ∧ fc i < 256) :
    Calls Try.prog 8 #[.slice a n cap, .slice ac nc capc] w fun e w' => e = .returned (.bool true) ∧ Fr Non w w' := by
  have HR := hid hr
  have HF := hid hf
  have HC := hid (And.intro hnc hnil)
  have HRC := hid hrc
  have HFC := hid hfc
  have hn1 : (n : Int) ≤ 9223372036854775807 := by omega
  have hnc1 : (nc : Int) ≤ 9223372036854775807 := by omega
  clear hr hf hnc hnil hrc hfc hncc
  go_enter Try.func8, Try.ntmps8
  go_wp2_with fail
  refine (awake11_any _).mono ?_
  rintro e w1 ⟨rfl, hf1⟩
  have F1 := hid hf1
  clear hf1
  by_cases hbig : (3000 : Int) < (n : Int)
  · go_wp2_with fail
    go_ret
    exact ⟨rfl, F1.out⟩
  · have hn3 : (n : Int) ≤ 3000 := by omega
    have HN3 := hid (show n ≤ 3000 by omega)
    go_wp2_with fail
    go_loopw [5, 6, 7] (fun v u i wr => ∃ (cs : List (List Int)) (ra : Option Addr) (j rc : Nat), j ≤ n ∧ (∀ c ∈ cs, c ≠ []) ∧ cs.flatten = (List.range j).map f ∧ i = .int .i64 cs.length ∧ u = .slice ra (n - j) rc ∧ n - j ≤ rc ∧ (rc : Int) ≤ 9223372036854775807 ∧ (ra = none → rc = 0) ∧ RowIn w.heap.size .u8 w ra (n - j) (fun i => f (j + i)) ∧ Own wr w.heap.size .u8 5 v (encC true cs) ∧ Fr Non w wr) (fun v u i _ => lenV u)
    case atStart => exact ⟨[], a, 0, cap, Nat.zero_le _, (fun c hc => by cases hc), rfl, rfl, rfl, HC.out.1, by omega, HC.out.2, by
      have e : (fun i => f (0 + i)) = f := by funext i; rw [Nat.zero_add]
      rw [e, Nat.sub_zero]
      exact HR.out, Own.nil _ _ _ _, F1.out⟩
    case round =>
      obtain ⟨cs, ra, j, rc, hj, hne, hfl, rfl, rfl, hrc1, hrc2, hrn, hrow, hown, hfr⟩ := hrel
      have HNE := hid hne
      have HFL := hid hfl
      have HROW := hid hrow
      have HOW := hid hown
      have HFR := hid hfr
      have hlen := congrArg List.length hfl
      rw [List.length_map, List.length_range] at hlen
      have HLEN := hid hlen
      have hcsl := ne_len cs hne
      rw [hlen] at hcsl
      have HCSL := hid hcsl
      have hrc0 := hid hrn
      clear hne hfl hrow hown hfr hlen hcsl hrn
      by_cases hjn : j < n
      · have hpos : (0 : Int) < ((n - j : Nat) : Int) := by omega
        obtain ⟨r, hr⟩ : ∃ r, r = n - j := ⟨_, rfl⟩
        rw [← hr] at hpos hrc1 ⊢
        have HRW := hid (show RowIn w.heap.size .u8 w ra r (fun i => f (j + i)) by rw [hr]; exact HROW.out)
        have HRJ := hid hr
        have hr3 : (r : Int) ≤ 3000 := by have := HN3.out; omega
        clear hr
        go_upto_if 31 with fail
        go_cut [8] (fun v wx => (∃ m : Nat, v = .int .i64 m ∧ 1 ≤ m ∧ m ≤ r) ∧ wx = wr)
        case first =>
          by_cases hic : cs.length < nc
          · have hi1 : (cs.length : Int) < (nc : Int) := by omega
            have hi0 : (0 : Int) ≤ (cs.length : Int) := by omega
            obtain ⟨x, hx⟩ : ∃ x, x = fc cs.length := ⟨_, rfl⟩
            have hxb := HFC.out cs.length hic
            rw [← hx] at hxb
            obtain ⟨x0, x1⟩ := hxb
            rcases HRC.out with h0 | ⟨bc, oc, hac, hbc, hcc⟩
            · omega
            · have hcl : wr.cell? ⟨bc, oc + cs.length, none⟩ = some (.int .u8 x) := by rw [hx]; exact HFR.out.cell (hcc _ hic) id
              subst hac
              clear hcc hbc hx
              have hr3' : (r : Int) ≤ 3000 := hr3
              by_cases hmn : (r : Int) ≤ 1 + x
              · have hmn' : ¬ (1 + x < (r : Int)) := by omega
                go_wp2_with fail
                go_meet
                exact ⟨⟨r, rfl, by omega, Nat.le_refl _⟩, rfl⟩
              · have hmn' : 1 + x < (r : Int) := by omega
                go_wp2_with fail
                go_meet
                exact ⟨⟨(1 + x).toNat, by congr 1; omega, by omega, by omega⟩, rfl⟩
          · have hi1 : ¬ (cs.length : Int) < (nc : Int) := by omega
            go_wp2_with fail
            go_meet
            exact ⟨⟨r, rfl, by omega, Nat.le_refl _⟩, rfl⟩
        case rest =>
          obtain ⟨⟨m, rfl, hm1, hm2⟩, hwc⟩ := hcut
          obtain ⟨w2, hw2⟩ : ∃ w2, w2 = wc := ⟨_, rfl⟩
          rw [← hw2] at hwc ⊢
          subst hwc
          clear hw2
          have hmi1 : (1 : Int) ≤ (m : Int) := by omega
          have hmi2 : (m : Int) ≤ (r : Int) := by omega
          obtain ⟨hd, hhd⟩ : ∃ hd : Int, hd = if cs.isEmpty then 1 else 2 := ⟨_, rfl⟩
          obtain ⟨x, hx⟩ : ∃ x : Int, x = (((m - 1) / 256 : Nat) : Int) := ⟨_, rfl⟩
          obtain ⟨y, hy⟩ : ∃ y : Int, y = (((m - 1) % 256 : Nat) : Int) := ⟨_, rfl⟩
          have HHD := hid hhd
          have HX := hid hx
          have HY := hid hy
          have hmx : IntKind.u8.wrap (((m : Int) - 1) / 256) = x := by rw [IntKind.wrap_u8, hx]; omega
          have hmy : IntKind.u8.wrap (((m : Int) - 1) % 256) = y := by rw [IntKind.wrap_u8, hy]; omega
          have HL5 := hid (show (encC true cs).length ≤ 20000 by rw [encC_len, HLEN.out]; have := HCSL.out; have := HN3.out; omega)
          clear hhd hx hy
          obtain ⟨q, hqe⟩ : ∃ q, q = cs.length := ⟨_, rfl⟩
          rw [← hqe]
          have HQ := hid hqe
          clear hqe
          go_upto_region 13 with fail
          go_cut [5] (fun v wx => Fr Non w wx ∧ Own wx w.heap.size .u8 5 v (encC true cs ++ [hd, x, y]))
          case first =>
            have hq : (cs.length = 0 ∧ hd = 1) ∨ (cs.length = 1 ∧ hd = 2) ∨ (2 ≤ cs.length ∧ hd = 2) := by
              rw [HHD.out]
              match cs with
              | [] => exact .inl ⟨rfl, rfl⟩
              | [_] => exact .inr (.inl ⟨rfl, rfl⟩)
              | _ :: _ :: _ => exact .inr (.inr ⟨by simp, rfl⟩)
            rw [← HQ.out] at hq
            rcases hq with ⟨rfl, rfl⟩ | ⟨rfl, rfl⟩ | ⟨hq2, rfl⟩
            · skip
              go_wp2_with (refine opAppendRow (some 54) rfl rfl (.tmp 40) (.tmp 53) 30 rfl w.heap.size .u8 5 1 Try.underlying30 Try.info_u8q _ _ rfl (by exact HOW.out.alloc _) w2.heap.size.succ (some ⟨_, 0, none⟩) 3 3 (fun i => [1, x, y].getD i 0) rfl (fun e => by cases e) (Nat.le_refl _) (.inr ⟨_, 0, rfl, Nat.lt_succ_self _, fun i hi => by match i, hi with | 0, _ => exact blk_cell (blk_new w2 _) rfl | 1, _ => exact blk_cell (blk_new w2 _) rfl | 2, _ => exact blk_cell (blk_new w2 _) rfl⟩) (by decide) (by have := HL5.out; omega) (by have := HFR.out.size; simp; omega) ?_; intro v3 w3 hown3 hg3)
              have HF3 := hid (Fr.grown (HFR.out.alloc _) hg3 (fun b hb hlt => by have := (HOW.out.block b hb).1; omega))
              have HO3 := hid hown3
              clear hown3 hg3
              go_wp2_with fail
              go_meet
              exact ⟨HF3.out, HO3.out⟩
            · skip
              go_wp2_with (refine opAppendRow (some 54) rfl rfl (.tmp 40) (.tmp 53) 30 rfl w.heap.size .u8 5 1 Try.underlying30 Try.info_u8q _ _ rfl (by exact HOW.out.alloc _) w2.heap.size.succ (some ⟨_, 0, none⟩) 3 3 (fun i => [2, x, y].getD i 0) rfl (fun e => by cases e) (Nat.le_refl _) (.inr ⟨_, 0, rfl, Nat.lt_succ_self _, fun i hi => by match i, hi with | 0, _ => exact blk_cell (blk_new w2 _) rfl | 1, _ => exact blk_cell (blk_new w2 _) rfl | 2, _ => exact blk_cell (blk_new w2 _) rfl⟩) (by decide) (by have := HL5.out; omega) (by have := HFR.out.size; simp; omega) ?_; intro v3 w3 hown3 hg3)
              have HF3 := hid (Fr.grown (HFR.out.alloc _) hg3 (fun b hb hlt => by have := (HOW.out.block b hb).1; omega))
              have HO3 := hid hown3
              clear hown3 hg3
              go_wp2_with fail
              go_meet
              exact ⟨HF3.out, HO3.out⟩
            · have hq3 : (2 : Int) ≤ (q : Int) := by omega
              go_wp2_with (refine opAppendRow (some 54) rfl rfl (.tmp 40) (.tmp 53) 30 rfl w.heap.size .u8 5 1 Try.underlying30 Try.info_u8q _ _ rfl (by exact HOW.out.alloc _) w2.heap.size.succ (some ⟨_, 0, none⟩) 3 3 (fun i => [2, x, y].getD i 0) rfl (fun e => by cases e) (Nat.le_refl _) (.inr ⟨_, 0, rfl, Nat.lt_succ_self _, fun i hi => by match i, hi with | 0, _ => exact blk_cell (blk_new w2 _) rfl | 1, _ => exact blk_cell (blk_new w2 _) rfl | 2, _ => exact blk_cell (blk_new w2 _) rfl⟩) (by decide) (by have := HL5.out; omega) (by have := HFR.out.size; simp; omega) ?_; intro v3 w3 hown3 hg3)
              have HF3 := hid (Fr.grown (HFR.out.alloc _) hg3 (fun b hb hlt => by have := (HOW.out.block b hb).1; omega))
              have HO3 := hid hown3
              clear hown3 hg3
              go_wp2_with fail
              go_meet
              exact ⟨HF3.out, HO3.out⟩
          case rest =>
            obtain ⟨hf3, ho3⟩ := hcut
            obtain ⟨w3, hw3⟩ : ∃ w3, w3 = wc := ⟨_, rfl⟩
            rw [← hw3] at hf3 ho3 ⊢
            have HF3 := hid hf3
            have HO3 := hid ho3
            clear hf3 ho3 hw3
            rcases HRW.out with h0 | ⟨br, or, hra, hbr, hcr⟩
            · omega
            · subst hra
              have HCR := hid hcr
              clear hcr
              have hm0 : (0 : Int) ≤ (m : Int) := by omega
              have hmrc : (m : Int) ≤ (rc : Int) := by omega
              have hnew : encC true (cs ++ [(List.range m).map (fun i => f (j + i))]) = encC true cs ++ [hd, x, y] ++ (List.range m).map (fun i => f (j + i)) := by
                rw [encC_snoc, HHD.out, HX.out, HY.out]
                simp
              have HNEW := hid hnew
              clear hnew
              go_wp2_with (refine opAppendRow (some 59) rfl rfl (.tmp 55) (.tmp 58) 30 rfl w.heap.size .u8 5 1 Try.underlying30 Try.info_u8q _ _ rfl (by exact HO3.out) w.heap.size (some ⟨br, or, none⟩) m rc (fun i => f (j + i)) rfl (fun e => by cases e) (by omega) (.inr ⟨br, or, rfl, hbr, fun i hi => HF3.out.cell (HCR.out i (by omega)) id⟩) (by decide) (by have := HL5.out; simp; omega) HF3.out.size ?_; intro v4 w4 hown4 hg4)
              rw [← HNEW.out] at hown4
              have HF4 := hid (Fr.grown HF3.out hg4 (fun b hb hlt => by have := (HO3.out.block b hb).1; omega))
              have HO4 := hid hown4
              clear hown4 hg4
              have hrj := HRJ.out
              have hmr : m ≤ r := hm2
              refine ⟨⟨cs ++ [(List.range m).map (fun i => f (j + i))], _, j + m, rc - m, by omega, ?_, ?_, ?_, by rw [show n - (j + m) = r - m by omega], by omega, by omega, ?_, ?_, HO4.out, HF4.out⟩, ?_⟩
              · intro c hc
                rcases List.mem_append.1 hc with h1 | h1
                · exact HNE.out c h1
                · rw [List.mem_singleton.1 h1]
                  intro e
                  have := congrArg List.length e
                  simp at this
                  omega
              · rw [List.flatten_append, HFL.out, List.range_add, List.map_append, List.map_map]
                simp
              · have := HQ.out
                have := HCSL.out
                have := HN3.out
                rw [List.length_append, ← HQ.out]
                show Value.int IntKind.i64 (wrap64 ((q : Int) + 1)) = Value.int IntKind.i64 ((q + 1 : Nat) : Int)
                rw [show (q : Int) + 1 = ((q + 1 : Nat) : Int) by omega, w64_nat _ (by omega)]
              · intro e
                split at e <;> cases e
              · by_cases h0 : n - (j + m) = 0
                · exact .inl h0
                · have hne2 : ¬ rc = m := by omega
                  rw [if_neg hne2]
                  exact .inr ⟨br, or + m, rfl, hbr, fun i hi => by
                    have := HCR.out (m + i) (by omega)
                    dsimp only at this
                    rw [← Nat.add_assoc, ← Nat.add_assoc] at this
                    exact this⟩
              · show r - m < r
                omega
      · have hjn' : j = n := by omega
        subst hjn'
        have hpos : ¬ (0 : Int) < ((j - j : Nat) : Int) := by omega
        obtain ⟨len, hlen⟩ : ∃ l, l = (encC true cs).length := ⟨_, rfl⟩
        have hlen2 : len ≤ 20000 := by rw [hlen, encC_len, HLEN.out]; have := HCSL.out; have := HN3.out; omega
        obtain ⟨va, vc, hva, hvc, hvn, hrw, _⟩ := HOW.out.rowO
        rw [← hlen] at hva hvc hrw
        have hby : ∀ (tail : List Int), (∀ x ∈ tail, x = 0) → ∀ y ∈ encC true cs ++ tail, 0 ≤ y ∧ y < 256 := by
          intro tail ht y hy
          rcases List.mem_append.1 hy with h1 | h1
          · refine encC_by true cs (fun c hc => ⟨?_, fun x hx => ?_⟩) y h1
            · have := flat_ge hc
              rw [HLEN.out] at this
              have := HN3.out
              omega
            · have h2 : x ∈ cs.flatten := List.mem_flatten.2 ⟨c, hc, hx⟩
              rw [HFL.out] at h2
              obtain ⟨i, hi, rfl⟩ := List.mem_map.1 h2
              exact HF.out i (List.mem_range.1 hi)
          · rw [ht y h1]; decide
        have HBY := hid hby
        have hlaw : ∀ (tail : List Int) (N : Nat), (∀ x ∈ tail, x = 0) → _ := fun tail N ht => l2plain_law 0 N cs HNE.out tail (fun i => (encC true cs ++ tail).getD i 0) (encC true cs ++ tail).length (fun i hi => by
          rw [getD_el _ i hi]
          exact HBY.out tail ht _ (List.getElem_mem hi)) rfl (fun i _ => rfl)
        have HLAW := hid hlaw
        have HROWC := hid hrw
        have HLENC := hid hlen
        have HOWN := hid HOW.out
        subst hva
        clear hby hlaw hrw hlen
        have HRC0 := hid (show RowO wr w.heap.size (.slice va len vc) (encC true cs) from HOWN.out.rowO)
        have hlj : len ≤ 20000 := hlen2
        have hz1 : ∀ x ∈ [(0 : Int)], x = 0 := fun x hx => List.mem_singleton.1 hx
        have hz2 : ∀ x ∈ [(0 : Int), 0], x = 0 := fun x hx => by rcases List.mem_cons.1 hx with e | e; exact e; exact List.mem_singleton.1 e
        have hlen3 : (encC true cs).length ≤ 15000 := by rw [encC_len, HLEN.out]; have := HCSL.out; have := HN3.out; omega
        have HZ := hid (And.intro hz1 (And.intro hz2 hlen3))
        clear hz1 hz2 hlen3
        have hj0 : ((j : Nat) : Int).toNat = cs.flatten.length := by rw [HLEN.out]; rfl
        have HJ0 := hid hj0
        clear hj0
        go_wp2_with (first
          | (refine opAppendRow (some 66) rfl rfl (.tmp 64) (.tmp 65) 30 rfl wr.heap.size .u8 5 1 Try.underlying30 Try.info_u8q (.slice (some ⟨wr.heap.size, 0, none⟩) 0 0) [] rfl (Own.empty wr _ .u8 5 (Nat.le_refl _)) wr.heap.size va len vc _ rfl hvn hvc (by exact HROWC.out.fr ((Fr.refl Non _).alloc _) (fun _ _ => id)) (by decide) (by simp; omega) (by simp) ?_; intro v5 w5 hown5 hg5; rw [List.nil_append, HLENC.out, range_getD] at hown5; have HO5 := hid hown5; have HF5 := hid (clone_fr hg5); clear hown5 hg5)
          | (refine opAppend1 (some 68) rfl rfl (.tmp 66) (.tmp 67) 30 rfl wr.heap.size .u8 5 1 Try.underlying30 Try.info_u8q _ _ rfl (by exact HO5.out.alloc _) ⟨_, 0, none⟩ 1 _ rfl (cell_new1 _ _ _) (by decide) (by have := HZ.out.2.2; omega) (by have := HF5.out.size; simp; omega) ?_; intro v6 w6 hown6 hg6))
        have HF6 := hid (Fr.grown (HF5.out.alloc _) hg6 (fun b hb hlt => by have := (HO5.out.block b hb).1; omega))
        have HO6 := hid hown6
        clear hown6 hg6
        refine (much_any _).mono ?_
        rintro e w7 ⟨gm, rfl, hgm, hfm, hmm⟩
        have HF7 := hid (HF6.out.trans hfm)
        have HO7 := hid (HO6.out.rowO.fr hfm (fun _ _ _ e => e))
        have HM7 := hid hmm
        have HG7 := hid (Nat.le_trans HF6.out.size hgm)
        clear hfm hmm hgm
        go_wp2_with fail
        refine (l2un_row 0 (by decide) (j : Int) v6 _ (HBY.out [0] HZ.out.1) gm wr w7 wr.heap.size HF7.out HG7.out HM7.out (by omega) (by omega) (by have := HZ.out.2.2; simp; omega) HO7.out).mono ?_
        rintro e w8 ⟨hf8, h8⟩
        rw [HJ0.out, (HLAW.out [0] _ HZ.out.1).1 rfl] at h8
        have h9 : ∃ v, e = .returned (.tuple #[v, .int .i64 0]) ∧ RowO w8 wr.heap.size v cs.flatten := by
          rcases h8 with ⟨h, _⟩ | ⟨xs, v, h1, h2, h3⟩
          · cases h
          · injection h1 with h1
            subst h1
            exact ⟨v, h2, h3⟩
        clear h8
        obtain ⟨v8, rfl, ho8⟩ := h9
        have HF8 := hid hf8
        have HO8 := hid ho8
        clear hf8 ho8
        go_wp2_with fail
        refine (much_any _).mono ?_
        rintro e w9 ⟨gk, rfl, hgm, hfm, hmm⟩
        have HFM9 := hid hfm
        have HG9 := hid hgm
        have HM9 := hid hmm
        clear hfm hmm hgm
        go_wp2_with fail
        refine (l2un_row 0 (by decide) (j : Int) (.slice va len vc) (encC true cs ++ []) (HBY.out [] (fun x hx => by cases hx)) gk w8 w9 w.heap.size HFM9.out HG9.out HM9.out (by omega) (by omega) (by have := HZ.out.2.2; rw [List.append_nil]; omega) (by rw [List.append_nil]; exact HRC0.out.fr (HF8.out.trans HFM9.out) (fun _ _ _ e => e))).mono ?_
        rintro e w10 ⟨hf10, h10⟩
        rw [HJ0.out, (HLAW.out [] _ (fun x hx => by cases hx)).2.1 rfl] at h10
        have h11 : e = .returned (.tuple #[.slice none 0 0, .int .i64 12]) := by
          rcases h10 with ⟨_, h⟩ | ⟨xs, v, h1, h2, h3⟩
          · exact h
          · cases h1
        subst h11
        have HF10 := hid (HF8.out.trans hf10)
        have HO10 := hid (HO8.out.fr hf10 (fun _ _ _ e => e))
        clear hf10 h10
        go_wp2_with (first
          | (refine opAppendRow (some 86) rfl rfl (.tmp 84) (.tmp 85) 30 rfl w10.heap.size .u8 5 1 Try.underlying30 Try.info_u8q (.slice (some ⟨w10.heap.size, 0, none⟩) 0 0) [] rfl (Own.empty w10 _ .u8 5 (Nat.le_refl _)) wr.heap.size va len vc _ rfl hvn hvc (by exact (HROWC.out.fr HF10.out (fun _ _ => id)).fr ((Fr.refl Non _).alloc _) (fun _ _ => id)) (by decide) (by simp; omega) (by simp) ?_; intro v11 w11 hown11 hg11; rw [List.nil_append, HLENC.out, range_getD] at hown11; have HO11 := hid hown11; have HF11 := hid (clone_fr hg11); clear hown11 hg11)
          | (refine opAppendRow (some 88) rfl rfl (.tmp 86) (.tmp 87) 30 rfl w10.heap.size .u8 5 1 Try.underlying30 Try.info_u8q _ _ rfl (by exact HO11.out.alloc _) w11.heap.size.succ (some ⟨_, 0, none⟩) 2 2 (fun _ => 0) rfl (fun e => by cases e) (Nat.le_refl _) (.inr ⟨_, 0, rfl, Nat.lt_succ_self _, fun i hi => by match i, hi with | 0, _ => exact blk_cell (blk_new w11 _) rfl | 1, _ => exact blk_cell (blk_new w11 _) rfl⟩) (by decide) (by have := HZ.out.2.2; omega) (by have := HF11.out.size; simp; omega) ?_; intro v12 w12 hown12 hg12))
        have HF12 := hid (Fr.grown (HF11.out.alloc _) hg12 (fun b hb hlt => by have := (HO11.out.block b hb).1; omega))
        have HO12 := hid (show Own w12 w10.heap.size .u8 5 v12 (encC true cs ++ [0, 0]) from hown12)
        clear hown12 hg12
        refine (much_any _).mono ?_
        rintro e w13 ⟨gn, rfl, hgm, hfm, hmm⟩
        have HF13 := hid (HF12.out.trans hfm)
        have HO13 := hid (HO12.out.rowO.fr hfm (fun _ _ _ e => e))
        have HM13 := hid hmm
        have HG13 := hid (Nat.le_trans HF12.out.size hgm)
        clear hfm hmm hgm
        go_wp2_with fail
        refine (l2un_row 0 (by decide) (j : Int) v12 _ (HBY.out [0, 0] HZ.out.2.1) gn w10 w13 w10.heap.size HF13.out HG13.out HM13.out (by omega) (by omega) (by have := HZ.out.2.2; simp; omega) HO13.out).mono ?_
        rintro e w14 ⟨hf14, h14⟩
        rw [HJ0.out, (HLAW.out [0, 0] _ HZ.out.2.1).2.2 rfl] at h14
        have h15 : e = .returned (.tuple #[.slice none 0 0, .int .i64 12]) := by
          rcases h14 with ⟨_, h⟩ | ⟨xs, v, h1, h2, h3⟩
          · exact h
          · cases h1
        subst h15
        have HF14 := hid (HFR.out.trans (HF10.out.trans hf14))
        have HO14 := hid (HO10.out.fr hf14 (fun _ _ _ e => e))
        clear hf14 h14
        obtain ⟨xa, xc, hxa, _, _, hxr, _⟩ := HO14.out
        rw [HLEN.out] at hxa hxr
        subst hxa
        have HXR := hid hxr
        clear hxr
        go_wp2_with fail
        refine (bytes_yes xa a j xc cap _ f _ (by omega) w14.heap.size HXR.out ((HR.out.fr HF14.out (fun _ _ e => e)).mono HF14.out.size) (fun i hi => ?_)).mono ?_
        · rw [HFL.out]
          simp [hi]
        rintro e wz ⟨rfl, hfz⟩
        have HFZ := hid (HF14.out.trans hfz)
        clear hfz
        go_wp2_with fail
        go_ret
        exact ⟨rfl, HFZ.out⟩
end Go.Proofs.Ytjnegcambbeblaa

/- plain: decoders over two sources, of which the other one answers as the one does wherever that one has a byte: what the one tells without being bad, the other one tells. -/
namespace Go.Proofs.Ytjnegcambbeblaa
open Go.RowKit

structure SimS {A B : Type} (R : A → B → Prop) (na : A → Int × Bool × A) (nb : B → Int × Bool × B) : Prop where
  go : ∀ a b, R a b → (na a).2.1 = true → (nb b).1 = (na a).1 ∧ (nb b).2.1 = true ∧ R (na a).2.2 (nb b).2.2
def Sim1 {A B : Type} (R : A → B → Prop) (d : RD A) (d' : RD B) : Prop := R d.src d'.src ∧ d'.rng = d.rng ∧ d'.code = d.code ∧ d'.bad = d.bad
section
variable {A B : Type} {R : A → B → Prop} {na : A → Int × Bool × A} {nb : B → Int × Bool × B}
theorem next_sim (hs : SimS R na nb) {d : RD A} {d' : RD B} (h : Sim1 R d d') (hb : (d.next na).2.bad = false) : (d'.next nb).1 = (d.next na).1 ∧ Sim1 R (d.next na).2 (d'.next nb).2 := by
  obtain ⟨h1, h2, h3, h4⟩ := h
  unfold RD.next at hb ⊢
  by_cases hd : d.bad = true
  · rw [if_pos hd] at hb
    rw [hd] at hb; cases hb
  · rw [if_neg hd] at hb ⊢
    rw [if_neg (by rw [h4]; exact hd)]
    have ho : (na d.src).2.1 = true := by
      have e : (!(na d.src).2.1) = false := hb
      cases hq : (na d.src).2.1
      · rw [hq] at e; cases e
      · rfl
    obtain ⟨g1, g2, g3⟩ := hs.go _ _ h1 ho
    exact ⟨g1, g3, h2, h3, by show (!(nb d'.src).2.1) = !(na d.src).2.1; rw [g2, ho]⟩
theorem level_sim (hs : SimS R na nb) {d : RD A} {d' : RD B} (h : Sim1 R d d') (hb : (d.level na).bad = false) : Sim1 R (d.level na) (d'.level nb) := by
  have h0 := h
  obtain ⟨h1, h2, h3, h4⟩ := h
  by_cases hr : d.rng < 16777216
  · rw [RD.level_lt na d hr] at hb ⊢
    rw [RD.level_lt nb d' (by rw [h2]; exact hr)]
    obtain ⟨g1, g2, g3, g4, g5⟩ := next_sim hs h0 hb
    exact ⟨g2, by show d'.rng * 256 = d.rng * 256; rw [h2], by show d'.code * 256 % 4294967296 + _ = d.code * 256 % 4294967296 + _; rw [h3, g1], g5⟩
  · rw [RD.level_ge na d hr]
    rw [RD.level_ge nb d' (by rw [h2]; exact hr)]
    exact h0
theorem level_bad (d : RD A) (h : d.bad = true) : (d.level na).bad = true := by
  unfold RD.level RD.next
  rw [if_pos h]
  split
  · exact h
  · exact h
theorem bit_sim (hs : SimS R na nb) {d : RD A} {d' : RD B} (p : Int) (h : Sim1 R d d') (hb : (d.bit na p).2.2.bad = false) : (d'.bit nb p).1 = (d.bit na p).1 ∧ (d'.bit nb p).2.1 = (d.bit na p).2.1 ∧ Sim1 R (d.bit na p).2.2 (d'.bit nb p).2.2 := by
  obtain ⟨h1, h2, h3, h4⟩ := h
  unfold RD.bit at hb ⊢
  by_cases hd : d.bad = true
  · rw [if_pos hd] at hb
    rw [hd] at hb; cases hb
  · rw [if_neg hd] at hb ⊢
    rw [if_neg (by rw [h4]; exact hd)]
    by_cases hc : d.code < d.rng / 2048 * p
    · rw [if_pos hc] at hb ⊢
      rw [if_pos (by rw [h2, h3]; exact hc)]
      refine ⟨rfl, rfl, level_sim hs (d := ⟨d.src, d.rng / 2048 * p, d.code, d.bad⟩) ⟨h1, ?_, h3, h4⟩ hb⟩
      show d'.rng / 2048 * p = d.rng / 2048 * p
      rw [h2]
    · rw [if_neg hc] at hb ⊢
      rw [if_neg (by rw [h2, h3]; exact hc)]
      have hl := level_sim hs (d := ⟨d.src, d.rng - d.rng / 2048 * p, d.code - d.rng / 2048 * p, d.bad⟩) (d' := ⟨d'.src, d'.rng - d'.rng / 2048 * p, d'.code - d'.rng / 2048 * p, d'.bad⟩) ⟨h1, by show d'.rng - d'.rng / 2048 * p = d.rng - d.rng / 2048 * p; rw [h2], by show d'.code - d'.rng / 2048 * p = d.code - d.rng / 2048 * p; rw [h2, h3], h4⟩ hb
      have hb' : (RD.level na ⟨d.src, d.rng - d.rng / 2048 * p, d.code - d.rng / 2048 * p, d.bad⟩).bad = false := hb
      refine ⟨?_, rfl, hl⟩
      rw [if_neg (by rw [hl.2.2.2, hb']; decide), if_neg (by rw [hb']; decide)]
/-- functions of probabilities and a decoder, over the one and the other source. -/
structure N3 (R : A → B → Prop) (FA : (Nat → Int) → RD A → Nat × (Nat → Int) × RD A) (FB : (Nat → Int) → RD B → Nat × (Nat → Int) × RD B) : Prop where
  fol : ∀ P d d', Sim1 R d d' → (FA P d).2.2.bad = false → (FB P d').1 = (FA P d).1 ∧ (FB P d').2.1 = (FA P d).2.1 ∧ Sim1 R (FA P d).2.2 (FB P d').2.2
  stk : ∀ P d, d.bad = true → (FA P d).2.2.bad = true
theorem N3.good {FA : (Nat → Int) → RD A → Nat × (Nat → Int) × RD A} {FB : (Nat → Int) → RD B → Nat × (Nat → Int) × RD B} (h : N3 R FA FB) {P : Nat → Int} {d : RD A} (hb : (FA P d).2.2.bad = false) : d.bad = false := by
  cases hd : d.bad
  · rfl
  · rw [h.stk P d hd] at hb; cases hb
theorem N3.bind {FA : (Nat → Int) → RD A → Nat × (Nat → Int) × RD A} {FB : (Nat → Int) → RD B → Nat × (Nat → Int) × RD B} {GA : Nat → (Nat → Int) → RD A → Nat × (Nat → Int) × RD A} {GB : Nat → (Nat → Int) → RD B → Nat × (Nat → Int) × RD B}
    (h : N3 R FA FB) (k : ∀ x, N3 R (GA x) (GB x)) : N3 R (fun P d => GA (FA P d).1 (FA P d).2.1 (FA P d).2.2) (fun P d => GB (FB P d).1 (FB P d).2.1 (FB P d).2.2) where
  fol P d d' hd hb := by
    have h1 := (k (FA P d).1).good hb
    obtain ⟨g1, g2, g3⟩ := h.fol P d d' hd h1
    try dsimp only at hb ⊢
    rw [g1, g2]
    exact (k (FA P d).1).fol _ _ _ g3 hb
  stk P d hd := (k _).stk _ _ (h.stk P d hd)
theorem N3.pure (x : Nat) : N3 (A := A) (B := B) R (fun P d => (x, P, d)) (fun P d => (x, P, d)) := ⟨fun _ _ _ h _ => ⟨rfl, rfl, h⟩, fun _ _ h => h⟩
theorem N3.map {FA : (Nat → Int) → RD A → Nat × (Nat → Int) × RD A} {FB : (Nat → Int) → RD B → Nat × (Nat → Int) × RD B} (f : Nat → Nat) (h : N3 R FA FB) : N3 R (fun P d => (f (FA P d).1, (FA P d).2)) (fun P d => (f (FB P d).1, (FB P d).2)) :=
  ⟨fun P d d' hd hb => by obtain ⟨g1, g2, g3⟩ := h.fol P d d' hd hb; exact ⟨by dsimp only; rw [g1], g2, g3⟩, h.stk⟩
theorem bit_n (hs : SimS R na nb) (k : Nat) : N3 R (fun P d => lbit na P d k) (fun P d => lbit nb P d k) where
  fol P d d' hd hb := by
    obtain ⟨g1, g2, g3⟩ := bit_sim hs (P k) hd hb
    refine ⟨g1, ?_, g3⟩
    show upd P k (d'.bit nb (P k)).2.1 = upd P k (d.bit na (P k)).2.1
    rw [g2]
  stk P d hd := by
    show (d.bit na (P k)).2.2.bad = true
    rw [bit_bad na d _ hd]; exact hd
theorem treeGo_n (hs : SimS R na nb) : ∀ (k m : Nat), N3 R (fun q d => RD.treeGo na k d q m) (fun q d => RD.treeGo nb k d q m)
  | 0, m => N3.pure m
  | k + 1, m => N3.bind (bit_n hs m) (GA := fun x q d => RD.treeGo na k d q (2 * m + x)) (GB := fun x q d => RD.treeGo nb k d q (2 * m + x)) (fun x => treeGo_n hs k (2 * m + x))
theorem revGo_n (hs : SimS R na nb) : ∀ (k i m out : Nat), N3 R (fun q d => RD.revGo na k i d q m out) (fun q d => RD.revGo nb k i d q m out)
  | 0, _, _, out => N3.pure out
  | k + 1, i, m, out => N3.bind (bit_n hs m) (GA := fun x q d => RD.revGo na k (i + 1) d q (2 * m + x) (out + x * 2 ^ i)) (GB := fun x q d => RD.revGo nb k (i + 1) d q (2 * m + x) (out + x * 2 ^ i)) (fun x => revGo_n hs k (i + 1) (2 * m + x) (out + x * 2 ^ i))
theorem tree_n (hs : SimS R na nb) (k B' : Nat) : N3 R (fun P d => ltree na P d k B') (fun P d => ltree nb P d k B') where
  fol P d d' hd hb := by
    have hb' : (RD.treeGo na B' d (fun j => P (k + j)) 1).2.2.bad = false := hb
    obtain ⟨g1, g2, g3⟩ := (treeGo_n hs B' 1).fol (fun j => P (k + j)) d d' hd hb'
    refine ⟨?_, ?_, g3⟩
    · show (if (RD.treeGo nb B' d' (fun j => P (k + j)) 1).2.2.bad = true then 0 else _) = (if (RD.treeGo na B' d (fun j => P (k + j)) 1).2.2.bad = true then 0 else _)
      rw [g3.2.2.2, g1]
    · show spliceQ P k (2 ^ B') (RD.treeGo nb B' d' (fun j => P (k + j)) 1).2.1 = spliceQ P k (2 ^ B') (RD.treeGo na B' d (fun j => P (k + j)) 1).2.1
      rw [g2]
  stk P d hd := by
    show (RD.treeGo na B' d (fun j => P (k + j)) 1).2.2.bad = true
    rw [treeGo_bad na B' d _ 1 hd]; exact hd
theorem rev_n (hs : SimS R na nb) (k B' : Nat) : N3 R (fun P d => lrev na P d k B') (fun P d => lrev nb P d k B') where
  fol P d d' hd hb := by
    have hb' : (RD.revGo na B' 0 d (fun j => P (k + j)) 1 0).2.2.bad = false := hb
    obtain ⟨g1, g2, g3⟩ := (revGo_n hs B' 0 1 0).fol (fun j => P (k + j)) d d' hd hb'
    refine ⟨?_, ?_, g3⟩
    · show (if (RD.revGo nb B' 0 d' (fun j => P (k + j)) 1 0).2.2.bad = true then 0 else _) = (if (RD.revGo na B' 0 d (fun j => P (k + j)) 1 0).2.2.bad = true then 0 else _)
      rw [g3.2.2.2, g1]
    · show spliceQ P k (2 ^ B') (RD.revGo nb B' 0 d' (fun j => P (k + j)) 1 0).2.1 = spliceQ P k (2 ^ B') (RD.revGo na B' 0 d (fun j => P (k + j)) 1 0).2.1
      rw [g2]
  stk P d hd := by
    show (RD.revGo na B' 0 d (fun j => P (k + j)) 1 0).2.2.bad = true
    rw [revGo_bad na B' 0 d _ 1 0 hd]; exact hd
theorem str1_sim (hs : SimS R na nb) {d : RD A} {d' : RD B} (h : Sim1 R d d') (hb : (d.str1 na).2.bad = false) : (d'.str1 nb).1 = (d.str1 na).1 ∧ Sim1 R (d.str1 na).2 (d'.str1 nb).2 := by
  obtain ⟨h1, h2, h3, h4⟩ := h
  unfold RD.str1 at hb ⊢
  by_cases hc : d.rng / 2 ≤ d.code
  · rw [if_pos hc] at hb ⊢
    rw [if_pos (by rw [h2, h3]; exact hc)]
    exact ⟨rfl, level_sim hs (d := ⟨d.src, d.rng / 2, d.code - d.rng / 2, decide (d.rng / 2 ≤ d.code - d.rng / 2)⟩) ⟨h1, by show d'.rng / 2 = d.rng / 2; rw [h2], by show d'.code - d'.rng / 2 = d.code - d.rng / 2; rw [h2, h3], by show decide _ = decide _; rw [h2, h3]⟩ hb⟩
  · rw [if_neg hc] at hb ⊢
    rw [if_neg (by rw [h2, h3]; exact hc)]
    exact ⟨rfl, level_sim hs (d := ⟨d.src, d.rng / 2, d.code, false⟩) ⟨h1, by show d'.rng / 2 = d.rng / 2; rw [h2], h3, rfl⟩ hb⟩
theorem strGo_sim (hs : SimS R na nb) : ∀ (k : Nat) (d : RD A) (d' : RD B) (out : Nat), Sim1 R d d' → (RD.strGo na k d out).2.bad = false → (RD.strGo nb k d' out).1 = (RD.strGo na k d out).1 ∧ Sim1 R (RD.strGo na k d out).2 (RD.strGo nb k d' out).2
  | 0, d, d', out, h, _ => ⟨rfl, h⟩
  | k + 1, d, d', out, h, hb => by
    have hd : d.bad = false := by
      cases hd : d.bad
      · rfl
      · rw [strGo_bad na _ d out hd] at hb; rw [hd] at hb; cases hb
    rw [strGo_good na k d out hd] at hb ⊢
    rw [strGo_good nb k d' out (by rw [h.2.2.2]; exact hd)]
    have h1 : (d.str1 na).2.bad = false := by
      cases hq : (d.str1 na).2.bad
      · rfl
      · rw [strGo_bad na k _ _ hq] at hb; rw [hq] at hb; cases hb
    obtain ⟨g1, g2⟩ := str1_sim hs h h1
    rw [g1]
    exact strGo_sim hs k _ _ _ g2 hb
theorem str_n (hs : SimS R na nb) (k : Nat) : N3 R (fun P d => ((d.str na k).1, P, (d.str na k).2)) (fun P d => ((d.str nb k).1, P, (d.str nb k).2)) where
  fol P d d' hd hb := by
    have hb' : (RD.strGo na k d 0).2.bad = false := hb
    obtain ⟨g1, g2⟩ := strGo_sim hs k d d' 0 hd hb'
    refine ⟨?_, rfl, g2⟩
    show (if (RD.strGo nb k d' 0).2.bad = true then 0 else _) = (if (RD.strGo na k d 0).2.bad = true then 0 else _)
    rw [g2.2.2.2, g1]
  stk P d hd := by
    show (RD.strGo na k d 0).2.bad = true
    rw [strGo_bad na k d 0 hd]; exact hd
theorem tell_n (hs : SimS R na nb) (b sp : Nat) : N3 R (fun P d => ltell na P d b sp) (fun P d => ltell nb P d b sp) :=
  N3.bind (bit_n hs b)
    (GA := fun x P d => if x = 0 then ltree na P d (b + 2 + 8 * sp) 3 else if (lbit na P d (b + 1)).1 = 0 then (8 + (ltree na (lbit na P d (b + 1)).2.1 (lbit na P d (b + 1)).2.2 (b + 130 + 8 * sp) 3).1, (ltree na (lbit na P d (b + 1)).2.1 (lbit na P d (b + 1)).2.2 (b + 130 + 8 * sp) 3).2) else (16 + (ltree na (lbit na P d (b + 1)).2.1 (lbit na P d (b + 1)).2.2 (b + 258) 8).1, (ltree na (lbit na P d (b + 1)).2.1 (lbit na P d (b + 1)).2.2 (b + 258) 8).2))
    (GB := fun x P d => if x = 0 then ltree nb P d (b + 2 + 8 * sp) 3 else if (lbit nb P d (b + 1)).1 = 0 then (8 + (ltree nb (lbit nb P d (b + 1)).2.1 (lbit nb P d (b + 1)).2.2 (b + 130 + 8 * sp) 3).1, (ltree nb (lbit nb P d (b + 1)).2.1 (lbit nb P d (b + 1)).2.2 (b + 130 + 8 * sp) 3).2) else (16 + (ltree nb (lbit nb P d (b + 1)).2.1 (lbit nb P d (b + 1)).2.2 (b + 258) 8).1, (ltree nb (lbit nb P d (b + 1)).2.1 (lbit nb P d (b + 1)).2.2 (b + 258) 8).2))
    (fun x => by
      by_cases hx : x = 0
      · simp only [if_pos hx]; exact tree_n hs _ _
      · simp only [if_neg hx]
        exact N3.bind (bit_n hs (b + 1))
          (GA := fun y P d => if y = 0 then (8 + (ltree na P d (b + 130 + 8 * sp) 3).1, (ltree na P d (b + 130 + 8 * sp) 3).2) else (16 + (ltree na P d (b + 258) 8).1, (ltree na P d (b + 258) 8).2))
          (GB := fun y P d => if y = 0 then (8 + (ltree nb P d (b + 130 + 8 * sp) 3).1, (ltree nb P d (b + 130 + 8 * sp) 3).2) else (16 + (ltree nb P d (b + 258) 8).1, (ltree nb P d (b + 258) 8).2))
          (fun y => by
            by_cases hy : y = 0
            · simp only [if_pos hy]; exact N3.map (8 + ·) (tree_n hs _ _)
            · simp only [if_neg hy]; exact N3.map (16 + ·) (tree_n hs _ _)))
theorem dist_n (hs : SimS R na nb) (l : Nat) : N3 R (fun P d => ldist na P d l) (fun P d => ldist nb P d l) :=
  N3.bind (tree_n hs (432 + 64 * min l 3) 6) (GA := fun x P d => ldist2 na P d x) (GB := fun x P d => ldist2 nb P d x) (fun x => by
    unfold ldist2
    by_cases h4 : x < 4
    · simp only [if_pos h4]; exact N3.pure x
    · simp only [if_neg h4]
      by_cases h14 : x < 14
      · simp only [if_pos h14]; exact N3.map (slotB x + ·) (rev_n hs _ _)
      · simp only [if_neg h14]
        exact N3.bind (str_n hs (slotN x - 4)) (GA := fun y P d => (slotB x + 16 * y + (lrev na P d 803 4).1, (lrev na P d 803 4).2)) (GB := fun y P d => (slotB x + 16 * y + (lrev nb P d 803 4).1, (lrev nb P d 803 4).2)) (fun y => N3.map (slotB x + 16 * y + ·) (rev_n hs _ _)))
theorem litGo_n (hs : SimS R na nb) (k0 o : Nat) : ∀ (i : Nat) (b : Bool) (m : Nat), N3 R (fun P d => litGo na k0 i b o m P d) (fun P d => litGo nb k0 i b o m P d)
  | 0, b, m => by unfold litGo; exact N3.pure m
  | i + 1, true, m => by
    unfold litGo
    exact N3.bind (bit_n hs (k0 + 256 * (1 + o / 2 ^ i % 2) + m)) (GA := fun x P d => litGo na k0 i (x == o / 2 ^ i % 2) o (2 * m + x) P d) (GB := fun x P d => litGo nb k0 i (x == o / 2 ^ i % 2) o (2 * m + x) P d) (fun x => litGo_n hs k0 o i _ _)
  | i + 1, false, m => by
    unfold litGo
    exact N3.bind (bit_n hs (k0 + m)) (GA := fun x P d => litGo na k0 i false o (2 * m + x) P d) (GB := fun x P d => litGo nb k0 i false o (2 * m + x) P d) (fun x => litGo_n hs k0 o i _ _)
/-! ### packets -/
/-- what a function that turns a decoder's state does over the one source and the other. -/
def Fol3 {V : Type} (R : A → B → Prop) (r : V × LS × RD A) (r' : V × LS × RD B) : Prop := r.2.2.bad = false → r'.1 = r.1 ∧ r'.2.1 = r.2.1 ∧ Sim1 R r.2.2 r'.2.2
theorem fresh_sim (hs : SimS R na nb) (s : LS) (sp : Nat) {d : RD A} {d' : RD B} (h : Sim1 R d d') : Fol3 R (lfresh na s d sp) (lfresh nb s d' sp) := by
  intro hb
  have hN := N3.bind (tell_n hs 819 sp) (GA := fun l P d => ldist na P d l) (GB := fun l P d => ldist nb P d l) (fun l => dist_n hs l)
  have hb' : (ldist na (ltell na s.P d 819 sp).2.1 (ltell na s.P d 819 sp).2.2 (ltell na s.P d 819 sp).1).2.2.bad = false := hb
  obtain ⟨g1, g2, g3⟩ := hN.fol s.P d d' h hb'
  try dsimp only at g1 g2 g3
  obtain ⟨k1, k2, k3⟩ := (tell_n hs 819 sp).fol s.P d d' h ((dist_n hs _).good hb')
  unfold lfresh
  try dsimp only
  rw [g1, g2, g3.2.2.2, k1]
  rw [k1] at g3
  exact ⟨rfl, rfl, g3⟩
theorem fresh_stk (hs : SimS R na nb) (s : LS) (sp : Nat) (d : RD A) (h : d.bad = true) : (lfresh na s d sp).2.2.bad = true :=
  (dist_n hs _).stk _ _ ((tell_n hs 819 sp).stk s.P d h)
theorem pick_sim (hs : SimS R na nb) (P : Nat → Int) (st sp : Nat) {d : RD A} {d' : RD B} (h : Sim1 R d d') (hb : (lagPick na P d st sp).2.2.bad = false) : (lagPick nb P d' st sp).1 = (lagPick na P d st sp).1 ∧ (lagPick nb P d' st sp).2.1 = (lagPick na P d st sp).2.1 ∧ Sim1 R (lagPick na P d st sp).2.2 (lagPick nb P d' st sp).2.2 := by
  have B0 := bit_n hs (204 + st)
  have h0 : (lbit na P d (204 + st)).2.2.bad = false := by
    unfold lagPick at hb
    split at hb
    · exact (bit_n hs _).good hb
    · split at hb
      · exact (bit_n hs _).good hb
      · exact (bit_n hs _).good ((bit_n hs _).good hb)
  obtain ⟨g1, g2, g3⟩ := B0.fol P d d' h h0
  try dsimp only at g1 g2 g3
  unfold lagPick at hb ⊢
  rw [g1, g2]
  by_cases hx : (lbit na P d (204 + st)).1 = 0
  · rw [if_pos hx] at hb ⊢
    rw [if_pos hx]
    obtain ⟨k1, k2, k3⟩ := (bit_n hs (240 + 16 * st + sp)).fol _ _ _ g3 hb
    try dsimp only at k1 k2 k3 ⊢
    rw [k1, k2]
    exact ⟨rfl, rfl, k3⟩
  · rw [if_neg hx] at hb ⊢
    rw [if_neg hx]
    have h1 : (lbit na (lbit na P d (204 + st)).2.1 (lbit na P d (204 + st)).2.2 (216 + st)).2.2.bad = false := by
      split at hb
      · exact hb
      · exact (bit_n hs _).good hb
    obtain ⟨k1, k2, k3⟩ := (bit_n hs (216 + st)).fol _ _ _ g3 h1
    try dsimp only at k1 k2 k3
    rw [k1, k2]
    by_cases hy : (lbit na (lbit na P d (204 + st)).2.1 (lbit na P d (204 + st)).2.2 (216 + st)).1 = 0
    · rw [if_pos hy, if_pos hy]
      exact ⟨rfl, k2, k3⟩
    · rw [if_neg hy] at hb ⊢
      rw [if_neg hy]
      obtain ⟨m1, m2, m3⟩ := (bit_n hs (228 + st)).fol _ _ _ k3 hb
      try dsimp only at m1 m2 m3 ⊢
      rw [m1, m2]
      exact ⟨rfl, rfl, m3⟩
theorem pick_stk (hs : SimS R na nb) (P : Nat → Int) (st sp : Nat) (d : RD A) (h : d.bad = true) : (lagPick na P d st sp).2.2.bad = true := by
  unfold lagPick
  split
  · exact (bit_n hs _).stk _ _ ((bit_n hs _).stk _ _ h)
  · split
    · exact (bit_n hs _).stk _ _ ((bit_n hs _).stk _ _ h)
    · exact (bit_n hs _).stk _ _ ((bit_n hs _).stk _ _ ((bit_n hs _).stk _ _ h))
theorem lagEnd_sim (hs : SimS R na nb) (s : LS) (sp : Nat) {d : RD A} {d' : RD B} (h : Sim1 R d d') : Fol3 R (lagEnd na s d sp) (lagEnd nb s d' sp) := by
  intro hb
  obtain ⟨g1, g2, g3⟩ := (tell_n hs 1333 sp).fol s.P d d' h hb
  try dsimp only at g1 g2 g3
  unfold lagEnd
  rw [g1, g2]
  exact ⟨rfl, rfl, g3⟩
theorem again_sim (hs : SimS R na nb) (s : LS) (sp : Nat) {d : RD A} {d' : RD B} (h : Sim1 R d d') : Fol3 R (lagain na s d sp) (lagain nb s d' sp) := by
  intro hb
  have h0 : (lagPick na s.P d s.st sp).2.2.bad = false := by
    unfold lagain at hb
    split at hb
    · exact hb
    · exact (tell_n hs 1333 sp).good hb
  obtain ⟨g1, g2, g3⟩ := pick_sim hs s.P s.st sp h h0
  unfold lagain at hb ⊢
  rw [g1, g2]
  cases hk : (lagPick na s.P d s.st sp).1 with
  | none => exact ⟨rfl, rfl, g3⟩
  | some k =>
    rw [hk] at hb
    exact lagEnd_sim hs _ sp g3 hb
theorem again_stk (hs : SimS R na nb) (s : LS) (sp : Nat) (d : RD A) (h : d.bad = true) : (lagain na s d sp).2.2.bad = true := by
  unfold lagain
  split
  · exact pick_stk hs _ _ _ _ h
  · exact (tell_n hs 1333 sp).stk _ _ (pick_stk hs _ _ _ _ h)
theorem lpEnd_bad {S : Type} (L : LL) (s : LS) (d : RD S) (h : d.bad = true) : (lpEnd L s d).bad = true := by
  unfold lpEnd
  rw [if_pos (by rw [h]; simp)]
  show (s.bad || d.bad) = true
  rw [h]; simp
theorem lpEnd_eq (L : LL) (s : LS) (d : RD A) (d' : RD B) (h : d'.bad = d.bad) : lpEnd L s d' = lpEnd L s d := by
  unfold lpEnd
  rw [h]
theorem llit_n (hs : SimS R na nb) (L : LL) (s : LS) (P : Nat → Int) {d : RD A} {d' : RD B} (h : Sim1 R d d') (hb : (llit na L { s with P := P } d).2.2.bad = false) :
    (llit nb L { s with P := P } d').1 = (llit na L { s with P := P } d).1 ∧ (llit nb L { s with P := P } d').2.1 = (llit na L { s with P := P } d).2.1 ∧ Sim1 R (llit na L { s with P := P } d).2.2 (llit nb L { s with P := P } d').2.2 :=
  (litGo_n hs (1847 + s.row L) (backH s.H L.n (s.rep 0)).toNat 8 (decide (7 ≤ s.st)) 1).fol P d d' h hb
theorem bad_not {b : Bool} (h1 : b = false) (h2 : b = true) : False := by rw [h1] at h2; cases h2
/-- a packet that leaves a decoder that is not bad. -/
theorem packet_sim (hs : SimS R na nb) (L : LL) (s : LS) {d : RD A} {d' : RD B} (h : Sim1 R d d') (hb : (lpacket na L s d).2.2.bad = false) :
    (lpacket nb L s d').1 = (lpacket na L s d).1 ∧ (lpacket nb L s d').2.1 = (lpacket na L s d).2.1 ∧ Sim1 R (lpacket na L s d).2.2 (lpacket nb L s d').2.2 := by
  have h0 : (lbit na s.P d (16 * s.st + s.place % 2 ^ s.pb)).2.2.bad = false := by
    unfold lpacket at hb
    try dsimp only at hb
    split at hb
    · exact (litGo_n hs (1847 + s.row L) (backH s.H L.n (s.rep 0)).toNat 8 (decide (7 ≤ s.st)) 1).good hb
    · split at hb
      · cases hq : (lbit na s.P d (16 * s.st + s.place % 2 ^ s.pb)).2.2.bad
        · rfl
        · exact (bad_not hb (fresh_stk hs _ _ _ ((bit_n hs (192 + s.st)).stk _ _ hq))).elim
      · split at hb
        · exact (bit_n hs _).good hb
        · cases hq : (lbit na s.P d (16 * s.st + s.place % 2 ^ s.pb)).2.2.bad
          · rfl
          · exact (bad_not hb (again_stk hs _ _ _ ((bit_n hs (192 + s.st)).stk _ _ hq))).elim
  obtain ⟨g1, g2, g3⟩ := (bit_n hs (16 * s.st + s.place % 2 ^ s.pb)).fol s.P d d' h h0
  try dsimp only at g1 g2 g3
  unfold lpacket at hb ⊢
  try dsimp only at hb ⊢
  rw [g1, g2]
  by_cases hx : (lbit na s.P d (16 * s.st + s.place % 2 ^ s.pb)).1 = 0
  · rw [if_pos hx] at hb ⊢
    rw [if_pos hx]
    obtain ⟨k1, k2, k3⟩ := llit_n hs L s _ g3 hb
    try dsimp only
    rw [k1, k2, k3.2.2.2]
    exact ⟨rfl, rfl, k3⟩
  · rw [if_neg hx] at hb ⊢
    rw [if_neg hx]
    have h1 : (lbit na (lbit na s.P d (16 * s.st + s.place % 2 ^ s.pb)).2.1 (lbit na s.P d (16 * s.st + s.place % 2 ^ s.pb)).2.2 (192 + s.st)).2.2.bad = false := by
      cases hq : (lbit na (lbit na s.P d (16 * s.st + s.place % 2 ^ s.pb)).2.1 (lbit na s.P d (16 * s.st + s.place % 2 ^ s.pb)).2.2 (192 + s.st)).2.2.bad
      · rfl
      · split at hb
        · exact (bad_not hb (fresh_stk hs _ _ _ hq)).elim
        · split at hb
          · exact absurd (hq.symm.trans hb) (by decide)
          · exact (bad_not hb (again_stk hs _ _ _ hq)).elim
    obtain ⟨k1, k2, k3⟩ := (bit_n hs (192 + s.st)).fol _ _ _ g3 h1
    try dsimp only at k1 k2 k3
    rw [k1, k2]
    by_cases hy : (lbit na (lbit na s.P d (16 * s.st + s.place % 2 ^ s.pb)).2.1 (lbit na s.P d (16 * s.st + s.place % 2 ^ s.pb)).2.2 (192 + s.st)).1 = 0
    · rw [if_pos hy] at hb ⊢
      rw [if_pos hy]
      obtain ⟨m1, m2, m3⟩ := fresh_sim hs { s with P := (lbit na (lbit na s.P d (16 * s.st + s.place % 2 ^ s.pb)).2.1 (lbit na s.P d (16 * s.st + s.place % 2 ^ s.pb)).2.2 (192 + s.st)).2.1 } (s.place % 2 ^ s.pb) k3 hb
      refine ⟨rfl, ?_, m3⟩
      try dsimp only
      rw [m1, m2]
      exact lpEnd_eq L _ _ _ m3.2.2.2
    · rw [if_neg hy] at hb ⊢
      rw [if_neg hy]
      by_cases hc : min s.H.length L.n = 0
      · rw [if_pos hc] at hb ⊢
        rw [if_pos hc]
        refine ⟨rfl, ?_, k3⟩
        dsimp only
        exact lpEnd_eq L _ _ _ k3.2.2.2
      · rw [if_neg hc] at hb ⊢
        rw [if_neg hc]
        obtain ⟨m1, m2, m3⟩ := again_sim hs { s with P := (lbit na (lbit na s.P d (16 * s.st + s.place % 2 ^ s.pb)).2.1 (lbit na s.P d (16 * s.st + s.place % 2 ^ s.pb)).2.2 (192 + s.st)).2.1 } (s.place % 2 ^ s.pb) k3 hb
        refine ⟨rfl, ?_, m3⟩
        try dsimp only
        rw [m1, m2]
        exact lpEnd_eq L _ _ _ m3.2.2.2
end
end Go.Proofs.Ytjnegcambbeblaa
