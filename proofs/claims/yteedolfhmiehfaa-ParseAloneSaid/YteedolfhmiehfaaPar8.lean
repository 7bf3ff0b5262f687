/- parse.Find: its contract. -/
import Derived.Test.YteedolfhmiehfaaPar7
import Derived.Test.YteedolfhmiehfaaCloneB
import Derived.Laws.MakeOwn
namespace Go.Proofs.Yteedolfhmiehfaa
open Go.RowKit

theorem Try.info_int : (Try.prog.info? 3).map (fun i => (i.zero, i.size, i.bytes)) = some (some (.int .i64 0), 1, 8) := by kernel_rfl
theorem make_int (n : Nat) (hn : n ≤ 1048576) (w : World) : (Instr.makeSlice 53 (.int .i64 n) (.int .i64 n)).run Try.prog w = .ok (.slice (some ⟨w.heap.size, 0, none⟩) n n) (w.alloc (.cells (arr .i64 n (fun _ => 0)) 3)) := by
  obtain ⟨i, hi, hz0, hz1, hz2⟩ := info_parts Try.info_int
  have h := run_make (P := Try.prog) w 53 3 i (.int .i64 0) Try.underlying53 hi hz0 .i64 .i64 n n (by omega) (by omega) (by rw [hz2]; omega) (by omega)
  simp only [Int.toNat_natCast, hz1, arr_made] at h
  exact h

theorem blk3 (w : World) (x y z : Obj) : (((w.alloc x).alloc y).alloc z).heap[w.heap.size]? = some x ∧ (((w.alloc x).alloc y).alloc z).heap[w.heap.size + 1]? = some y ∧ (((w.alloc x).alloc y).alloc z).heap[w.heap.size + 1 + 1]? = some z := by
  refine ⟨blk_alloc (blk_alloc (blk_new _ _)), ?_, ?_⟩
  · have := blk_new (w.alloc x) y
    simp only [World.size_alloc] at this
    exact blk_alloc this
  · have := blk_new ((w.alloc x).alloc y) z
    simp only [World.size_alloc] at this
    exact this
/-- what the finder is when it begins. -/
def StartRel (n tb D : Nat) (f : Nat → Int) (r : Nat → Nat) (w wc : World) (v : Value) (wx : World) : Prop :=
  ∃ F : FLay, v = .pointer (some ⟨F.g, 0, none⟩) ∧ F.L = n ∧ F.b = f ∧ F.tb = tb ∧ F.dict = D ∧ F.Ok ∧ F.At wx r 0 ∧ F.Chain wx 0 ∧ RW w r wx (.slice none 0 0) [] ∧ (∀ k, F.foot k → wc.heap.size ≤ k ∧ k < wx.heap.size) ∧ ∀ ad, F.av = some ad → ad.block < wx.heap.size
theorem start_gen {n tb D c5 gl ga g : Nat} {f : Nat → Int} {r : Nat → Nat} {w wc wx : World} {a5 : Option Addr} (hn : n ≤ 1048576) (htb : tb ≤ n) (hD : D ≤ 9223372036854775807) (hf : ∀ i, i < n → 0 ≤ f i ∧ f i < 256)
    (hst : RW w r wc (.slice none 0 0) []) (hx : Fr Non wc wx) (hr5 : RowIn wx.heap.size .u8 wx a5 n f) (hb5 : ∀ ad, a5 = some ad → ad.block ≠ g ∧ ad.block ≠ gl ∧ ad.block ≠ ga ∧ ad.block < wx.heap.size)
    (hc : gl ≠ g ∧ ga ≠ g ∧ gl ≠ ga ∧ wc.heap.size ≤ g ∧ wc.heap.size ≤ gl ∧ wc.heap.size ≤ ga) (hl : wx.heap[gl]? = some (.cells (arr .i64 65536 fun _ => 0) 3)) (ha : wx.heap[ga]? = some (.cells (arr .i64 n fun _ => 0) 3))
    (hg : wx.heap[g]? = some (.cells #[.slice a5 n c5, .int .i64 tb, .int .i64 D, .int .u32 (r 0), .int .u32 (r 1), .int .u32 (r 2), .int .u32 (r 3), .slice (some ⟨gl, 0, none⟩) 65536 65536, .slice (some ⟨ga, 0, none⟩) n n, .int .i64 0] 55)) :
    StartRel n tb D f r w wc (.pointer (some ⟨g, 0, none⟩)) wx := by
  have sx := blk_lt hg
  have sl := blk_lt hl
  have sa := blk_lt ha
  obtain ⟨h1, h2, h3, h4, h5, h6⟩ := hc
  refine ⟨⟨g, gl, ga, a5, n, c5, tb, D, f⟩, rfl, rfl, rfl, rfl, rfl, ⟨h1, h2, h3, htb, hn, hD, hf⟩, ⟨hg, ?_⟩, ⟨?_, ?_⟩, ?_, ?_, fun ad e => (hb5 ad e).2.2.2⟩
  · rcases hr5 with h | ⟨b, off, q1, q2, q3⟩
    · exact .inl h
    · have := hb5 _ q1
      exact .inr ⟨b, off, q1, this.1, this.2.1, this.2.2.1, q3⟩
  · refine hl.trans ?_
    congr 2
  · refine ha.trans ?_
    congr 2
  · exact ⟨hst.fr.trans hx, hx.blk hst.b9 id, hx.blk hst.b11 id, PkOwn.nil _ _⟩
  · intro k hk
    have hk' : k = g ∨ k = gl ∨ k = ga := hk
    omega
theorem blk2 (w : World) (x y : Obj) : ((w.alloc x).alloc y).heap[w.heap.size]? = some x ∧ ((w.alloc x).alloc y).heap[w.heap.size + 1]? = some y := by
  refine ⟨blk_alloc (blk_new _ _), ?_⟩
  have := blk_new (w.alloc x) y
  simp only [World.size_alloc] at this
  exact this
theorem start_A {n tb D c5 : Nat} {f : Nat → Int} {r : Nat → Nat} {w wc w5 : World} {a5 : Option Addr} (hn : n ≤ 1048576) (htb : tb ≤ n) (hD : D ≤ 9223372036854775807) (hf : ∀ i, i < n → 0 ≤ f i ∧ f i < 256)
    (hst : RW w r wc (.slice none 0 0) []) (h5 : Fr Non wc.drew w5) (hr5 : RowIn w5.heap.size .u8 w5 a5 n f) (hb5 : ∀ ad, a5 = some ad → wc.drew.heap.size ≤ ad.block ∧ ad.block < w5.heap.size) :
    StartRel n tb D f r w wc (.pointer (some ⟨w5.heap.size + 1 + 1, 0, none⟩)) (((w5.alloc (.cells (arr .i64 65536 fun _ => 0) 3)).alloc (.cells (arr .i64 n fun _ => 0) 3)).alloc (.cells #[.slice a5 n c5, .int .i64 tb, .int .i64 D, .int .u32 (r 0), .int .u32 (r 1), .int .u32 (r 2), .int .u32 (r 3), .slice (some ⟨w5.heap.size, 0, none⟩) 65536 65536, .slice (some ⟨w5.heap.size + 1, 0, none⟩) n n, .int .i64 0] 55)) := by
  have s5 := h5.size
  simp only [World.size_drew] at s5 hb5
  refine start_gen hn htb hD hf hst (((((((Fr.refl _ wc).drew.trans h5)).alloc _).alloc _).alloc _)) ((hr5.fr (((((Fr.refl Non w5).alloc _).alloc _).alloc _)) (fun _ _ => id)).mono (by simp only [World.size_alloc]; omega)) (fun ad e => by have := hb5 ad e; simp only [World.size_alloc]; omega) (by omega) (blk3 w5 _ _ _).1 (blk3 w5 _ _ _).2.1 (blk3 w5 _ _ _).2.2
theorem start_B {n tb D c5 : Nat} {f : Nat → Int} {r : Nat → Nat} {w wc w5 : World} {a5 : Option Addr} (hn : n ≤ 1048576) (htb : tb ≤ n) (hD : D ≤ 9223372036854775807) (hf : ∀ i, i < n → 0 ≤ f i ∧ f i < 256)
    (hst : RW w r wc (.slice none 0 0) []) (h5 : Fr Non wc.drew w5) (hr5 : RowIn w5.heap.size .u8 w5 a5 n f) (hb5 : ∀ ad, a5 = some ad → wc.drew.heap.size ≤ ad.block ∧ ad.block < w5.heap.size) :
    StartRel n tb D f r w wc (.pointer (some ⟨w5.heap.size + 1 + 1, 0, none⟩)) (((w5.alloc (.cells (arr .i64 n fun _ => 0) 3)).alloc (.cells (arr .i64 65536 fun _ => 0) 3)).alloc (.cells #[.slice a5 n c5, .int .i64 tb, .int .i64 D, .int .u32 (r 0), .int .u32 (r 1), .int .u32 (r 2), .int .u32 (r 3), .slice (some ⟨w5.heap.size + 1, 0, none⟩) 65536 65536, .slice (some ⟨w5.heap.size, 0, none⟩) n n, .int .i64 0] 55)) := by
  have s5 := h5.size
  simp only [World.size_drew] at s5 hb5
  refine start_gen hn htb hD hf hst (((((((Fr.refl _ wc).drew.trans h5)).alloc _).alloc _).alloc _)) ((hr5.fr (((((Fr.refl Non w5).alloc _).alloc _).alloc _)) (fun _ _ => id)).mono (by simp only [World.size_alloc]; omega)) (fun ad e => by have := hb5 ad e; simp only [World.size_alloc]; omega) (by omega) (blk3 w5 _ _ _).2.1 (blk3 w5 _ _ _).1 (blk3 w5 _ _ _).2.2
theorem start_C {n tb D c5 : Nat} {f : Nat → Int} {r : Nat → Nat} {w wc w5 : World} {a5 : Option Addr} (hn : n ≤ 1048576) (htb : tb ≤ n) (hD : D ≤ 9223372036854775807) (hf : ∀ i, i < n → 0 ≤ f i ∧ f i < 256)
    (hst : RW w r wc (.slice none 0 0) []) (h5 : Fr Non (wc.alloc (.cells (arr .i64 65536 fun _ => 0) 3)).drew w5) (hr5 : RowIn w5.heap.size .u8 w5 a5 n f) (hb5 : ∀ ad, a5 = some ad → (wc.alloc (.cells (arr .i64 65536 fun _ => 0) 3)).drew.heap.size ≤ ad.block ∧ ad.block < w5.heap.size) :
    StartRel n tb D f r w wc (.pointer (some ⟨w5.heap.size + 1, 0, none⟩)) ((w5.alloc (.cells (arr .i64 n fun _ => 0) 3)).alloc (.cells #[.slice a5 n c5, .int .i64 tb, .int .i64 D, .int .u32 (r 0), .int .u32 (r 1), .int .u32 (r 2), .int .u32 (r 3), .slice (some ⟨wc.heap.size, 0, none⟩) 65536 65536, .slice (some ⟨w5.heap.size, 0, none⟩) n n, .int .i64 0] 55)) := by
  have s5 := h5.size
  simp only [World.size_drew, World.size_alloc] at s5 hb5
  refine start_gen hn htb hD hf hst ((((((Fr.refl _ wc).alloc _).drew.trans h5).alloc _).alloc _)) ((hr5.fr ((((Fr.refl Non w5).alloc _).alloc _)) (fun _ _ => id)).mono (by simp only [World.size_alloc]; omega)) (fun ad e => by have := hb5 ad e; simp only [World.size_alloc]; omega) (by omega) (blk_alloc (blk_alloc (h5.blk (blk_drew (blk_new wc _)) id))) (blk2 w5 _ _).1 (blk2 w5 _ _).2
theorem start_D {n tb D c5 : Nat} {f : Nat → Int} {r : Nat → Nat} {w wc w5 : World} {a5 : Option Addr} (hn : n ≤ 1048576) (htb : tb ≤ n) (hD : D ≤ 9223372036854775807) (hf : ∀ i, i < n → 0 ≤ f i ∧ f i < 256)
    (hst : RW w r wc (.slice none 0 0) []) (h5 : Fr Non (wc.alloc (.cells (arr .i64 n fun _ => 0) 3)).drew w5) (hr5 : RowIn w5.heap.size .u8 w5 a5 n f) (hb5 : ∀ ad, a5 = some ad → (wc.alloc (.cells (arr .i64 n fun _ => 0) 3)).drew.heap.size ≤ ad.block ∧ ad.block < w5.heap.size) :
    StartRel n tb D f r w wc (.pointer (some ⟨w5.heap.size + 1, 0, none⟩)) ((w5.alloc (.cells (arr .i64 65536 fun _ => 0) 3)).alloc (.cells #[.slice a5 n c5, .int .i64 tb, .int .i64 D, .int .u32 (r 0), .int .u32 (r 1), .int .u32 (r 2), .int .u32 (r 3), .slice (some ⟨w5.heap.size, 0, none⟩) 65536 65536, .slice (some ⟨wc.heap.size, 0, none⟩) n n, .int .i64 0] 55)) := by
  have s5 := h5.size
  simp only [World.size_drew, World.size_alloc] at s5 hb5
  refine start_gen hn htb hD hf hst ((((((Fr.refl _ wc).alloc _).drew.trans h5).alloc _).alloc _)) ((hr5.fr ((((Fr.refl Non w5).alloc _).alloc _)) (fun _ _ => id)).mono (by simp only [World.size_alloc]; omega)) (fun ad e => by have := hb5 ad e; simp only [World.size_alloc]; omega) (by omega) (blk2 w5 _ _).1 (blk_alloc (blk_alloc (h5.blk (blk_drew (blk_new wc _)) id))) (blk2 w5 _ _).2
theorem start_E {n tb D c5 : Nat} {f : Nat → Int} {r : Nat → Nat} {w wc w5 : World} {a5 : Option Addr} (hn : n ≤ 1048576) (htb : tb ≤ n) (hD : D ≤ 9223372036854775807) (hf : ∀ i, i < n → 0 ≤ f i ∧ f i < 256)
    (hst : RW w r wc (.slice none 0 0) []) (h5 : Fr Non ((wc.alloc (.cells (arr .i64 65536 fun _ => 0) 3)).alloc (.cells (arr .i64 n fun _ => 0) 3)).drew w5) (hr5 : RowIn w5.heap.size .u8 w5 a5 n f) (hb5 : ∀ ad, a5 = some ad → ((wc.alloc (.cells (arr .i64 65536 fun _ => 0) 3)).alloc (.cells (arr .i64 n fun _ => 0) 3)).drew.heap.size ≤ ad.block ∧ ad.block < w5.heap.size) :
    StartRel n tb D f r w wc (.pointer (some ⟨w5.heap.size, 0, none⟩)) (w5.alloc (.cells #[.slice a5 n c5, .int .i64 tb, .int .i64 D, .int .u32 (r 0), .int .u32 (r 1), .int .u32 (r 2), .int .u32 (r 3), .slice (some ⟨wc.heap.size, 0, none⟩) 65536 65536, .slice (some ⟨wc.heap.size + 1, 0, none⟩) n n, .int .i64 0] 55)) := by
  have s5 := h5.size
  simp only [World.size_drew, World.size_alloc] at s5 hb5
  refine start_gen hn htb hD hf hst ((((((Fr.refl _ wc).alloc _).alloc _).drew.trans h5).alloc _)) ((hr5.fr (((Fr.refl Non w5).alloc _)) (fun _ _ => id)).mono (by simp only [World.size_alloc]; omega)) (fun ad e => by have := hb5 ad e; simp only [World.size_alloc]; omega) (by omega) (blk_alloc (h5.blk (blk_drew (blk2 wc _ _).1) id)) (blk_alloc (h5.blk (blk_drew (blk2 wc _ _).2) id)) (blk_new w5 _)
theorem start_F {n tb D c5 : Nat} {f : Nat → Int} {r : Nat → Nat} {w wc w5 : World} {a5 : Option Addr} (hn : n ≤ 1048576) (htb : tb ≤ n) (hD : D ≤ 9223372036854775807) (hf : ∀ i, i < n → 0 ≤ f i ∧ f i < 256)
    (hst : RW w r wc (.slice none 0 0) []) (h5 : Fr Non ((wc.alloc (.cells (arr .i64 n fun _ => 0) 3)).alloc (.cells (arr .i64 65536 fun _ => 0) 3)).drew w5) (hr5 : RowIn w5.heap.size .u8 w5 a5 n f) (hb5 : ∀ ad, a5 = some ad → ((wc.alloc (.cells (arr .i64 n fun _ => 0) 3)).alloc (.cells (arr .i64 65536 fun _ => 0) 3)).drew.heap.size ≤ ad.block ∧ ad.block < w5.heap.size) :
    StartRel n tb D f r w wc (.pointer (some ⟨w5.heap.size, 0, none⟩)) (w5.alloc (.cells #[.slice a5 n c5, .int .i64 tb, .int .i64 D, .int .u32 (r 0), .int .u32 (r 1), .int .u32 (r 2), .int .u32 (r 3), .slice (some ⟨wc.heap.size + 1, 0, none⟩) 65536 65536, .slice (some ⟨wc.heap.size, 0, none⟩) n n, .int .i64 0] 55)) := by
  have s5 := h5.size
  simp only [World.size_drew, World.size_alloc] at s5 hb5
  refine start_gen hn htb hD hf hst ((((((Fr.refl _ wc).alloc _).alloc _).drew.trans h5).alloc _)) ((hr5.fr (((Fr.refl Non w5).alloc _)) (fun _ _ => id)).mono (by simp only [World.size_alloc]; omega)) (fun ad e => by have := hb5 ad e; simp only [World.size_alloc]; omega) (by omega) (blk_alloc (h5.blk (blk_drew (blk2 wc _ _).2) id)) (blk_alloc (h5.blk (blk_drew (blk2 wc _ _).1) id)) (blk_new w5 _)
theorem packetAt_reps (b : Nat → Int) (to_ dict i : Nat) (r : Nat → Nat) (hr : ∀ h, h < 4 → r h < 4294967296) (hi : i < 4294967296) : ∀ h, h < 4 → (packetAt b to_ dict i r).2.2 h < 4294967296 := by
  unfold packetAt
  dsimp only
  split
  · rename_i h1
    exact front_bound hr (best_at _ _ (show 0 < (best (fun h => lenAt b to_ dict i (r h)) 4).1 by omega)).1
  · split
    · rename_i h1 h2
      have h3 := wideLen_le b to_ dict i
      have h4 : (wide b to_ dict i).2 < min i dict := (best_at _ _ (show 0 < (wide b to_ dict i).1 by omega)).1
      exact young_bound hr (by omega)
    · split <;> exact hr
/-- the loop of Find. -/
structure PL (F : FLay) (w : World) (Bs : Nat) (all : List Pk × (Nat → Nat)) (k : Nat) (l : List Pk) (r : Nat → Nat) (v : Value) (wr : World) : Prop where
  kt : k ≤ F.tb
  len : l.length ≤ k
  fr : Fr Non w wr
  b11 : wr.heap[w.heap.size + 1]? = some (.cells (repsA fun _ => 0) 24)
  own : PkOwn wr Bs v l
  sz : Bs ≤ wr.heap.size
  tell : Telling F.b F.tb F.dict all k l r
  rb : ∀ h, h < 4 → r h < 4294967296
  at_ : ∃ kk, kk ≤ k ∧ F.At wr r kk ∧ F.Chain wr kk
theorem PL.next {F : FLay} {w : World} {Bs : Nat} {all : List Pk × (Nat → Nat)} {k : Nat} {l : List Pk} {r r' : Nat → Nat} {v v' : Value} {wr w3 w4 : World} {o1 o2 : Obj} (h : PL F w Bs all k l r v wr) (hB : ∀ k, F.foot k → w.heap.size + 2 ≤ k ∧ k < Bs) (hbb : ∀ ad, F.av = some ad → ad.block < Bs) (hlt : k < F.tb) (hd : F.tb ≤ 1048576) {p : Pk} {m : Nat}
    (hp : packetAt F.b F.tb F.dict k r = (p, m, r')) (hf3 : Fr F.foot wr w3) (ha3 : F.At w3 r' k) (hc3 : F.Chain w3 k) (ho : PkOwn w4 Bs v' (l ++ [p])) (hg : ((w3.alloc o1).alloc o2).grownBy w4 v.ownBlock) :
    PL F w Bs all (k + m) (l ++ [p]) r' v' w4 ∧ 1 ≤ m := by
  have h1 := packetAt_le F.b F.tb F.dict k r hlt
  have h2 := packetAt_pos F.b F.tb F.dict k r
  have hrb := packetAt_reps F.b F.tb F.dict k r h.rb (by omega)
  rw [hp] at h1 h2 hrb
  have h1' : k + m ≤ F.tb := h1
  have h2' : 1 ≤ m := h2
  have hl := h.len
  have hob := h.own.block
  have h34 : Fr (fun i => Bs ≤ i) w3 w4 := (((Fr.refl _ w3).alloc o1).alloc o2).grown hg (fun i e _ => (hob i e).1)
  have h14 : Fr (fun i => F.foot i ∨ Bs ≤ i) wr w4 := (hf3.mono fun _ _ e => .inl e).then h34 (fun _ _ e => .inr e)
  have hbs := h.sz
  have hwr := h14.size
  have hg : F.foot F.g := .inl rfl
  have hgl : F.foot F.gl := .inr (.inl rfl)
  have hga : F.foot F.ga := .inr (.inr rfl)
  have hb11 := blk_lt h.b11
  refine ⟨⟨h1', by simp; omega, h.fr.then h14 (fun i hi e => ?_), h14.blk h.b11 (fun e => ?_), ho, by omega, h.tell.next hlt hp, hrb, k, by omega, ?_, ?_⟩, h2'⟩
  · rcases e with e | e
    · have := hB i e; omega
    · have := (hB _ hg).1; have := (hB _ hg).2; omega
  · rcases e with e | e
    · have := hB _ e; omega
    · have := (hB _ hg).1; have := (hB _ hg).2; omega
  · refine ⟨h34.blk ha3.blk (fun e => by have := (hB _ hg).2; omega), ?_⟩
    rcases ha3.row with h | ⟨bb, off, h1, h2, h3, h4, h5⟩
    · exact .inl h
    · exact .inr ⟨bb, off, h1, h2, h3, h4, fun i hi => h34.cell (h5 i hi) (fun e => by have := hbb _ h1; simp only at e this; omega)⟩
  · exact hc3.fr h34 (fun e => by have := (hB _ hgl).2; omega) (fun e => by have := (hB _ hga).2; omega)

theorem PL.out {F : FLay} {w : World} {Bs : Nat} {all : List Pk × (Nat → Nat)} {k : Nat} {l : List Pk} {r : Nat → Nat} {v : Value} {wr : World} (h : PL F w Bs all k l r v wr) (hB : w.heap.size + 2 ≤ Bs) :
    ((((wr.drew.setCell ⟨w.heap.size + 1, 0, none⟩ (.int .u32 (r 0))).setCell ⟨w.heap.size + 1, 1, none⟩ (.int .u32 (r 1))).setCell ⟨w.heap.size + 1, 2, none⟩ (.int .u32 (r 2))).setCell ⟨w.heap.size + 1, 3, none⟩ (.int .u32 (r 3))).heap[w.heap.size + 1]? = some (.cells #[.int .u32 (r 0), .int .u32 (r 1), .int .u32 (r 2), .int .u32 (r 3)] 24) ∧
    PkOwn ((((wr.drew.setCell ⟨w.heap.size + 1, 0, none⟩ (.int .u32 (r 0))).setCell ⟨w.heap.size + 1, 1, none⟩ (.int .u32 (r 1))).setCell ⟨w.heap.size + 1, 2, none⟩ (.int .u32 (r 2))).setCell ⟨w.heap.size + 1, 3, none⟩ (.int .u32 (r 3))) w.heap.size v l ∧
    Fr Non w ((((wr.drew.setCell ⟨w.heap.size + 1, 0, none⟩ (.int .u32 (r 0))).setCell ⟨w.heap.size + 1, 1, none⟩ (.int .u32 (r 1))).setCell ⟨w.heap.size + 1, 2, none⟩ (.int .u32 (r 2))).setCell ⟨w.heap.size + 1, 3, none⟩ (.int .u32 (r 3))) := by
  have hb := h.b11
  rw [← repsA_lit] at hb
  have hf : Fr (fun k => k = w.heap.size + 1) wr ((((wr.drew.setCell ⟨w.heap.size + 1, 0, none⟩ (.int .u32 (r 0))).setCell ⟨w.heap.size + 1, 1, none⟩ (.int .u32 (r 1))).setCell ⟨w.heap.size + 1, 2, none⟩ (.int .u32 (r 2))).setCell ⟨w.heap.size + 1, 3, none⟩ (.int .u32 (r 3))) :=
    (((((Fr.refl _ _).drew).setOne 0 _).setOne 1 _).setOne 2 _).setOne 3 _
  exact ⟨blk_set (blk_set (blk_set (blk_set (blk_drew hb)))), (h.own.fr hf (fun g h1 _ e => by omega)).mono (by omega), h.fr.then hf (fun i hi e => by omega)⟩

set_option maxRecDepth 100000 in
set_option maxHeartbeats 40000000 in
theorem find_any (a : Option Addr) (n c : Nat) (f : Nat → Int) (from_ to_ dict : Int) (r : Nat → Nat) (w : World) (hn : n ≤ 1048576) (hnc : n ≤ c) (hnil : a = none → c = 0) (hd : dict ≤ 9223372036854775807) (hr : ∀ h, h < 4 → r h < 4294967296)
    (hf : ∀ i, i < n → 0 ≤ f i ∧ f i < 256) (h : RowIn w.heap.size .u8 w a n f) :
    Calls Try.prog 8 #[.slice a n c, .int .i64 from_, .int .i64 to_, .int .i64 dict, repsV r] w (FindPost w (finds f (hi0 n (lo0 n from_) to_) (di0 dict) (lo0 n from_) r)) := by
  have H := hid h
  have HR := hid hr
  have Hnil := hid hnil
  have HF := hid hf
  have st0 : RW w r ((w.alloc (.cells #[.int .u32 (r 0), .int .u32 (r 1), .int .u32 (r 2), .int .u32 (r 3)] 24)).alloc (.cells #[.int .u32 0, .int .u32 0, .int .u32 0, .int .u32 0] 24)) (.slice none 0 0) [] :=
    ⟨((Fr.refl _ _).alloc _).alloc _, by rw [← repsA_lit]; exact blk_alloc (blk_new _ _), by have := blk_new (w.alloc (.cells #[.int .u32 (r 0), .int .u32 (r 1), .int .u32 (r 2), .int .u32 (r 3)] 24)) (.cells #[.int .u32 0, .int .u32 0, .int .u32 0, .int .u32 0] 24); simp only [World.size_alloc] at this; rw [← repsA_lit]; exact this, PkOwn.nil _ _⟩
  have ST := hid st0
  clear h hr hnil hf st0
  obtain ⟨A, hA⟩ : ∃ A, A = (max from_ 0).toNat := ⟨_, rfl⟩
  obtain ⟨i0, hi0_⟩ : ∃ i0, i0 = min A n := ⟨_, rfl⟩
  obtain ⟨B, hB⟩ : ∃ B, B = (max to_ i0).toNat := ⟨_, rfl⟩
  obtain ⟨tb, htb⟩ : ∃ tb, tb = min B n := ⟨_, rfl⟩
  obtain ⟨D, hD⟩ : ∃ D, D = (max dict 1).toNat := ⟨_, rfl⟩
  obtain ⟨all, hall⟩ : ∃ all, all = finds f tb D i0 r := ⟨_, rfl⟩
  have e1 : lo0 n from_ = i0 := by unfold lo0; rw [hi0_, hA]
  have e2 : hi0 n i0 to_ = tb := by unfold hi0; rw [htb, hB]
  have e3 : di0 dict = D := by unfold di0; rw [hD]
  rw [e1, e2, e3, ← hall]
  have tell0 : Telling f tb D all i0 [] r := by unfold Telling; rw [hall]; simp
  have TELL0 := hid tell0
  have hi0n : i0 ≤ n := by omega
  have htbn : tb ≤ n := by omega
  have hitb : i0 ≤ tb := by omega
  have hDm : D ≤ 9223372036854775807 := by omega
  have hAm := hid (show min (max from_ 0) (n : Int) = (i0 : Int) by omega)
  have hBm := hid (show min (max to_ (i0 : Int)) (n : Int) = (tb : Int) by omega)
  have hDm' := hid (show max dict 1 = (D : Int) by omega)
  clear e1 e2 e3 hA hi0_ hB htb hD tell0 hall
  unfold repsV
  go_enter Try.func8, Try.ntmps8
  go_upto_region 1 with fail
  go_cut [1] (fun v wx => v = .int .i64 i0 ∧ RW w r wx (.slice none 0 0) [])
  case first =>
    have hn0 : ¬ (n : Int) < 0 := by omega
    by_cases h1 : from_ < 0
    · go_wp2_with fail
      go_meet
      exact ⟨by rw [show i0 = 0 by have := hAm.out; omega]; rfl, ST.out⟩
    · by_cases h2 : (n : Int) < from_
      · go_wp2_with fail
        go_meet
        exact ⟨by rw [show i0 = n by have := hAm.out; omega], ST.out⟩
      · go_wp2_with fail
        go_meet
        exact ⟨by rw [show (i0 : Int) = from_ by have := hAm.out; omega], ST.out⟩
  case rest =>
    obtain ⟨hv, hst⟩ := hcut
    subst hv
    obtain ⟨W, hW⟩ : ∃ W, W = wc := ⟨_, rfl⟩
    subst hW
    have HST := hid hst
    clear hst ST
    go_upto_region 2 with fail
    go_cut [2] (fun v wx => v = .int .i64 tb ∧ wx = W)
    case first =>
      have hn0 : ¬ (n : Int) < (i0 : Int) := by omega
      by_cases h1 : to_ < (i0 : Int)
      · go_wp2_with fail
        go_meet
        exact ⟨by rw [show tb = i0 by have := hBm.out; omega], rfl⟩
      · by_cases h2 : (n : Int) < to_
        · go_wp2_with fail
          go_meet
          exact ⟨by rw [show tb = n by have := hBm.out; omega], rfl⟩
        · go_wp2_with fail
          go_meet
          exact ⟨by rw [show (tb : Int) = to_ by have := hBm.out; omega], rfl⟩
    case rest =>
      obtain ⟨hv, hst⟩ := hcut
      subst hv
      subst hst
      have hmk1 : ∀ w : World, (Instr.makeSlice 53 (.int .i64 65536) (.int .i64 65536)).run Try.prog w = .ok (.slice (some ⟨w.heap.size, 0, none⟩) 65536 65536) (w.alloc (.cells (arr .i64 65536 (fun _ => 0)) 3)) := fun w => make_int 65536 (by decide) w
      have hmk2 := make_int n hn
      have c0 := HST.out.cell (j := 0) (by decide)
      have c1 := HST.out.cell (j := 1) (by decide)
      have c2 := HST.out.cell (j := 2) (by decide)
      have c3 := HST.out.cell (j := 3) (by decide)
      have hlt := blk_lt HST.out.b9
      have hw2 := HST.out.sz
      have HW := hid (show ∀ w', Fr Non wc w' → RowIn w'.heap.size .u8 w' a n f from fun w' hf => (H.out.fr (HST.out.fr.trans hf) (fun _ _ => id)).mono (HST.out.fr.trans hf).size)
      have KC := hid (show ∀ w', Fr Non wc w' → (w'.cell? ⟨w.heap.size, 0, none⟩ = some (.int .u32 (r 0)) ∧ w'.cell? ⟨w.heap.size, 1, none⟩ = some (.int .u32 (r 1)) ∧ w'.cell? ⟨w.heap.size, 2, none⟩ = some (.int .u32 (r 2)) ∧ w'.cell? ⟨w.heap.size, 3, none⟩ = some (.int .u32 (r 3))) from
        fun w' hf => ⟨hf.cell c0 id, hf.cell c1 id, hf.cell c2 id, hf.cell c3 id⟩)
      have hdm : (if dict < 1 then (1 : Int) else dict) = (D : Int) := by
        have := hDm'.out
        split <;> omega
      go_upto_region 3 with fail
      go_cut [12] (fun v wx => StartRel n tb D f r w wc v wx)
      case first =>
        go_region_held3 (fun w' => w'.cell? ⟨w.heap.size, 0, none⟩ = some (.int .u32 (r 0)) ∧ w'.cell? ⟨w.heap.size, 1, none⟩ = some (.int .u32 (r 1)) ∧ w'.cell? ⟨w.heap.size, 2, none⟩ = some (.int .u32 (r 2)) ∧ w'.cell? ⟨w.heap.size, 3, none⟩ = some (.int .u32 (r 3)))
          (first | exact ⟨c0, c1, c2, c3⟩ | (refine KC.out _ ?_; repeat (first | exact F5.out | exact Fr.refl _ _ | refine Fr.drew ?_ | refine Fr.alloc ?_ _)))
          ((go_at_call 17; refine (clone_any a n c f _ hn hnc Hnil.out (HW.out _ (by repeat (first | exact Fr.refl _ _ | refine Fr.drew ?_ | refine Fr.alloc ?_ _)))).mono ?_; rintro e w5 ⟨a5, c5, rfl, hf5, hr5, hn5, hc5, hb5⟩; have F5 := hid (Fr.trans (a := wc) (by repeat (first | exact Fr.refl _ _ | refine Fr.drew ?_ | refine Fr.alloc ?_ _)) hf5); have HF5 := hid hf5; have HR5 := hid hr5; have HB5 := hid hb5; clear hf5 hr5 hb5))
        all_goals
          go_wp2_with fail
          go_meet
          first
            | with_reducible exact start_A hn htbn hDm HF.out HST.out HF5.out HR5.out HB5.out
            | with_reducible exact start_B hn htbn hDm HF.out HST.out HF5.out HR5.out HB5.out
            | with_reducible exact start_C hn htbn hDm HF.out HST.out HF5.out HR5.out HB5.out
            | with_reducible exact start_D hn htbn hDm HF.out HST.out HF5.out HR5.out HB5.out
            | with_reducible exact start_E hn htbn hDm HF.out HST.out HF5.out HR5.out HB5.out
            | with_reducible exact start_F hn htbn hDm HF.out HST.out HF5.out HR5.out HB5.out
      case rest =>
        obtain ⟨F, hv, hFL, hFb, hFt, hFd, ok, hat, hch, hst, hft, hbb⟩ := hcut
        subst hv
        have p0 : PL F w wc.heap.size all i0 [] r (.slice none 0 0) wc :=
          ⟨by rw [hFt]; exact hitb, Nat.zero_le _, hst.fr, hst.b11, PkOwn.nil _ _, Nat.le_refl _, by rw [hFb, hFt, hFd]; exact TELL0.out, HR.out, 0, Nat.zero_le _, hat, hch⟩
        have hB : ∀ k, F.foot k → w.heap.size + 2 ≤ k ∧ k < wc.heap.size := fun k hk => by have := hft k hk; omega
        have P0 := hid p0
        have HBf := hid hB
        have HBB := hid hbb
        have OK := hid ok
        have htbF : F.tb ≤ 1048576 := by omega
        have hFt' : F.tb = tb := hFt
        obtain ⟨Bs, hBs⟩ : ∃ Bs, Bs = wc.heap.size := ⟨_, rfl⟩
        rw [← hBs] at P0 HBf HBB
        have HFT := hid hFt
        clear p0 hB hbb ok hat hch hst hft hFL hFb hFt hFd hmk1 hmk2 c0 c1 c2 c3 HW KC hdm HST TELL0 hFt' hBs
        have htbe : (F.tb : Int) = (tb : Int) := by rw [HFT.out]
        rw [← htbe]
        clear htbe
        go_wp2_with fail
        go_loopw [13, 14] (fun vo vi wr => ∃ k l rr, vi = .int .i64 (k : Nat) ∧ PL F w Bs all k l rr vo wr) (fun _ vi _ => F.tb - (intOf vi).toNat)
        case atStart => exact ⟨i0, [], r, rfl, P0.out⟩
        case round =>
          obtain ⟨k, l, rr, rfl, hL⟩ := hrel
          have L := hid hL
          have hkt := hL.kt
          have hlen := hL.len
          have hszB := hL.sz
          obtain ⟨kk, hkk, hat, hch⟩ := hL.at_
          have HAT := hid hat
          have HCH := hid hch
          clear hL P0 hat hch
          by_cases hlt : k < F.tb
          · obtain ⟨x, hx⟩ : ∃ x, x = packetAt F.b F.tb F.dict k rr := ⟨_, rfl⟩
            obtain ⟨p, m, r'⟩ := x
            have HX := hid hx.symm
            clear hx
            go_wp2_with fail
            refine (packet_any F rr kk k wr OK.out hkk hlt L.out.rb HAT.out HCH.out).mono ?_
            intro e w3 hp3
            unfold PacketPost at hp3
            rw [HX.out] at hp3
            obtain ⟨rfl, hf3, ha3, hc3⟩ := hp3
            have s3 := hf3.size
            have F3 := hid hf3
            have A3 := hid ha3
            have C3 := hid hc3
            clear hf3 ha3 hc3
            have O3 := hid (L.out.own.fr F3.out (fun g h1 h2 e => by have := (HBf.out g e).2; omega))
            obtain ⟨a13, c13, hv13, _, _, _⟩ := L.out.own.rowN rfl
            obtain ⟨n13, hn13⟩ : ∃ n13, n13 = l.length := ⟨_, rfl⟩
            rw [← hn13] at hv13
            subst hv13
            have HN13 := hid hn13
            clear hn13
            unfold pkV
            go_wp2_with (first | (refine wpList_load_row (o := ⟨some 51, _, _, _, _, _⟩) rfl 38 (.tmp 15) rfl w3.heap.size rfl 38 #[.int .i64 p.kind, .int .u8 p.byte, .int .i64 p.len, .int .u32 p.dist] (0, 0) _ (by exact blk_new _ _) Try.underlying38 rfl Try.info_pk ?_) | (refine opAppendPk (some 53) rfl rfl (.tmp 50) (.tmp 52) rfl Bs (.slice a13 n13 c13) l rfl (O3.out.fr (((Fr.refl Non _).alloc _).alloc _) (fun _ _ _ => id)) _ _ p _ rfl (by exact (blk2 w3 _ _).2) (by omega) (by simp; omega) ?_; intro v4 w4 ho4 hg4; have nx := L.out.next HBf.out HBB.out hlt htbF HX.out F3.out A3.out C3.out ho4 hg4; have hkm := nx.1.kt; have hm1 := nx.2; have NX := hid nx.1; clear ho4 hg4 nx))
            go_roundw
            case rel => exact ⟨k + m, _, _, by go_num, NX.out⟩
            case measure => simp [intOf]; omega
          · have e : F.tb ≤ k := by omega
            have hdone := L.out.tell.done e
            have DONE := hid hdone
            have c3 := blk_cell HAT.out.blk (j := 3) (v := .int .u32 (rr 0)) rfl
            have c4 := blk_cell HAT.out.blk (j := 4) (v := .int .u32 (rr 1)) rfl
            have c5 := blk_cell HAT.out.blk (j := 5) (v := .int .u32 (rr 2)) rfl
            have c6 := blk_cell HAT.out.blk (j := 6) (v := .int .u32 (rr 3)) rfl
            have d0 := blk_cell L.out.b11 (repsA_get (fun _ => 0) (h := 0) (by decide))
            have d1 := blk_cell L.out.b11 (repsA_get (fun _ => 0) (h := 1) (by decide))
            have d2 := blk_cell L.out.b11 (repsA_get (fun _ => 0) (h := 2) (by decide))
            have d3 := blk_cell L.out.b11 (repsA_get (fun _ => 0) (h := 3) (by decide))
            have z0 := blk_frozen L.out.b11 0
            have z1 := blk_frozen L.out.b11 1
            have z2 := blk_frozen L.out.b11 2
            have z3 := blk_frozen L.out.b11 3
            clear hdone
            go_wp2_with fail
            go_region
            all_goals
              go_wp2_with fail
              (try simp only [Exit.inBlock, Exit.then])
              have K := L.out.out (by have := HBf.out F.g (.inl rfl); omega)
              refine bodyPost_ret (v := .tuple #[u13, repsV rr]) (ret_reps rfl _ _ (w.heap.size + 1) 24 #[.int .u32 (rr 0), .int .u32 (rr 1), .int .u32 (rr 2), .int .u32 (rr 3)] (0, 0) _ u13 rfl rfl (by exact K.1) Try.underlying24 rfl Try.info_r4) rfl ?_
              exact ⟨u13, by rw [DONE.out], by rw [DONE.out]; exact K.2.1, K.2.2⟩
end Go.Proofs.Yteedolfhmiehfaa
