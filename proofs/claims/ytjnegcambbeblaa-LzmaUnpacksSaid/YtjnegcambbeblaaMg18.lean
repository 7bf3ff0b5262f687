/- Texts of this proof, one behind the other. -/
import Derived.Test.YtjnegcambbeblaaMg04
import Derived.Test.YtjnegcambbeblaaMg02
import Derived.Test.YtjnegcambbeblaaMg03
import Derived.Test.YtjnegcambbeblaaMg13
import Derived.Test.YtjnegcambbeblaaMg17
import Derived.Test.YtjnegcambbeblaaMg14
import Derived.Test.YtjnegcambbeblaaMg16

/- The document's coder (05): Bit. -/
namespace Go.Proofs.Ytjnegcambbeblaa
open Go.RowKit

def EBPost (A : Nat → Prop) (g : Nat) (w : World) (r : Int × RC) (e : Ending) (w' : World) : Prop :=
  e = .returned (.int .u16 r.1) ∧ Fr (Out A) w w' ∧ EncC A g w' r.2
theorem bit_zero' (c : RC) (p : Int) : c.bit p 0 = (p + (2048 - p) / 32, c.part 0 (c.rng / 2048 * p)) := if_pos rfl
theorem bit_one' (c : RC) (p : Int) : c.bit p 1 = (p - p / 32, c.part (c.rng / 2048 * p) (c.rng - c.rng / 2048 * p)) := rfl
set_option maxRecDepth 100000 in
set_option maxHeartbeats 2000000 in
theorem ebit_any (A : Nat → Prop) (g N : Nat) (c : RC) (p : Int) (b : Nat) (w : World) (h : EncC A g w c) (hok : c.Ok N) (hby : c.bytes) (hN : N ≤ 1073741700) (hp0 : 31 ≤ p) (hp1 : p ≤ 2017) (hbit : b ≤ 1) :
    Calls Try.prog 123 #[.pointer (some ⟨g, 0, none⟩), .int .u16 p, .int .i64 b] w (EBPost A g w (c.bit p b)) := by
  have hnot := h.not
  have HH := hid h
  obtain ⟨v, B, hv, hb, hlen, hval⟩ := h
  have c1 := blk_cell hv.at_ (j := 1) (v := .int .u64 c.rng) rfl
  have f1 := blk_frozen hv.at_ 1
  have o2 := hok.rng0
  have o3 := hok.rng1
  have hL : c.len ≤ 1073741800 := by have := hok.size; unfold RC.len; omega
  have hL0 : 0 < c.len := by unfold RC.len; omega
  have b1 := bound_pos c.rng p o2 hp0
  have b2 := bound_gap c.rng p o2 hp1
  have HO := hid hok
  have HB := hid hby
  have HBE := hid (hok.below hby)
  clear hv hb hlen hval hok hby
  obtain ⟨x, hx⟩ : ∃ x, x = c.rng / 2048 * p := ⟨_, rfl⟩
  rw [← hx] at b1 b2
  have HX := hid hx
  rcases Nat.le_one_iff_eq_zero_or_eq_one.1 hbit with rfl | rfl
  · rw [bit_zero', ← hx]
    clear hx
    have hxr : c.rng / 2048 * p = x := HX.out.symm
    have hxm : c.rng / 2048 * p % 18446744073709551616 = x := by rw [hxr]; omega
    go_enter Try.func123, Try.ntmps123
    go_wp2_with fail
    refine (elevel_any A g c.val c.len x _ (enc_rng HH.out x) (by omega) (by omega) (by omega)).mono ?_
    rintro e w1 ⟨rfl, hf1, k, he1, hk0, hk1⟩
    have HE := hid (enc_part HO.out HB.out (a := 0) (r := x) (Int.le_refl 0) (by omega) (by omega) (k := k) (by rw [Int.add_zero]; exact he1) hk0 hk1)
    have HF := hid ((Fr.setCell (p := ⟨g, 1, none⟩) (Fr.refl (Out A) w) (fun _ => hnot) (.int .u64 x)).trans hf1)
    clear hf1 he1
    have ev : IntKind.u16.wrap (p + IntKind.u16.wrap ((2048 - p).tdiv 32)) = p + (2048 - p) / 32 := by
      rw [Int.tdiv_eq_ediv_of_nonneg (by omega), IntKind.wrap_u16, IntKind.wrap_u16]; omega
    go_wp2_with fail
    go_ret
    exact ⟨by rw [← ev]; rfl, HF.out, HE.out⟩
  · rw [bit_one', ← hx]
    clear hx
    have hxr : c.rng / 2048 * p = x := HX.out.symm
    have hxm : c.rng / 2048 * p % 18446744073709551616 = x := by rw [hxr]; omega
    go_enter Try.func123, Try.ntmps123
    go_wp2_with fail
    refine (eadd_any A g c.val c.len c.rng x _ HH.out hL0 (by omega) (by omega) (by omega) (by have := HBE.out.1; omega)).mono ?_
    rintro e w1 ⟨rfl, hf1, he1⟩
    obtain ⟨v1, B1, hv1, q1⟩ := he1
    have c1' := blk_cell hv1.at_ (j := 1) (v := .int .u64 c.rng) rfl
    have f1' := blk_frozen hv1.at_ 1
    have HE1 := hid (show EncIs A g w1 (c.val + x) c.len c.rng from ⟨v1, B1, hv1, q1⟩)
    have HF1 := hid hf1
    clear c1 f1 hf1 hv1 q1
    go_wp2_with fail
    refine (elevel_any A g (c.val + x) c.len (c.rng - x) _ (enc_rng HE1.out (c.rng - x)) (by omega) (by omega) (by omega)).mono ?_
    rintro e w2 ⟨rfl, hf2, k, he2, hk0, hk1⟩
    have HE := hid (enc_part HO.out HB.out (a := x) (r := c.rng - x) (by omega) (by omega) (by omega) (k := k) he2 hk0 hk1)
    have HF := hid (HF1.out.trans ((Fr.setCell (p := ⟨g, 1, none⟩) (Fr.refl (Out A) w1) (fun _ => hnot) (.int .u64 (c.rng - x))).trans hf2))
    clear hf2 he2
    have ev : IntKind.u16.wrap (p - IntKind.u16.wrap (p.tdiv 32)) = p - p / 32 := by
      rw [Int.tdiv_eq_ediv_of_nonneg (by omega), IntKind.wrap_u16, IntKind.wrap_u16]; omega
    go_wp2_with fail
    go_ret
    exact ⟨by rw [← ev]; rfl, HF.out, HE.out⟩
end Go.Proofs.Ytjnegcambbeblaa

/- law05: put. -/
namespace Go.Proofs.Ytjnegcambbeblaa
open Go.RowKit

/-- what is asked for is coded: the probabilities, the coder. -/
def RC.ask (c : RC) (q : Nat → Int) (a : Ask) : (Nat → Int) × RC :=
  if a.kind = 0 then (upd q a.at_.toNat (c.bit (q a.at_.toNat) (a.val.toNat % 2)).1, (c.bit (q a.at_.toNat) (a.val.toNat % 2)).2)
  else if a.kind = 1 then (spliceQ q a.at_.toNat (2 ^ a.bits.toNat) (c.tree a.bits.toNat (fun j => q (a.at_.toNat + j)) a.val.toNat).1, (c.tree a.bits.toNat (fun j => q (a.at_.toNat + j)) a.val.toNat).2)
  else if a.kind = 2 then (spliceQ q a.at_.toNat (2 ^ a.bits.toNat) (c.rev a.bits.toNat (fun j => q (a.at_.toNat + j)) a.val.toNat).1, (c.rev a.bits.toNat (fun j => q (a.at_.toNat + j)) a.val.toNat).2)
  else (q, c.strGo a.bits.toNat a.val.toNat)
end Go.Proofs.Ytjnegcambbeblaa

/- law05: awake. -/
namespace Go.Proofs.Ytjnegcambbeblaa
open Go.RowKit

def c992 : RC := (RC.new.bit 1024 1).2
theorem fin992 : (c992.gives 5).out = [0, 127, 255, 252, 0] := by decide +kernel
theorem fin0 : (RC.new.gives 5).out = [0, 0, 0, 0, 0] := by decide +kernel
theorem bit992 : RC.new.bit 1024 1 = (992, c992) := rfl
theorem fit992 : c992.Fit 1073741810 := ⟨by decide +kernel, by decide +kernel, by decide +kernel, by decide +kernel, by decide +kernel⟩
theorem fitnew : RC.new.Fit 1073741810 := ⟨by decide, by decide, by decide, by decide, by decide⟩

theorem get992 : ((arr .u16 1 fun _ => 1024).setIfInBounds 0 (.int .u16 992))[0]? = some (Value.int .u16 992) := by
  rw [arr_set]
  exact arr_get .u16 1 _ (by decide)
theorem Out.no {A : Nat → Prop} {i : Nat} (h : Out A i) (ha : A i) : False := h ha
theorem lit_992 : ∀ i, i < 5 → ([0, 127, 255, 252, 0] : List Int).getD i 0 = lit [0, 127, 255, 252, 0] i := fun _ _ => rfl
theorem five_small : 5 ≤ 4611686018427387904 := by decide
theorem zeros_lit : ∀ i, i < 5 → ([0, 0, 0, 0, 0] : List Int).getD i 0 = (fun _ => 0) i := by decide
end Go.Proofs.Ytjnegcambbeblaa

/- The document's coder (05): Ask, what it leaves. -/
namespace Go.Proofs.Ytjnegcambbeblaa
open Go.RowKit

/-- 600 probabilities lie at block gq; more may lie behind. -/
def RowQ (w : World) (gq : Nat) (q : Nat → Int) : Prop := ∃ cs, w.heap[gq]? = some (.cells cs 40) ∧ ∀ j, j < 600 → cs[j]? = some (.int .u16 (q j))
def EAPost (A : Nat → Prop) (g gq : Nat) (w : World) (r : (Nat → Int) × RC) (e : Ending) (w' : World) : Prop :=
  e = .returned (.tuple #[]) ∧ Fr (fun k => ¬ A k ∨ k = gq) w w' ∧ EncC A g w' r.2 ∧ RowQ w' gq r.1
def E0Post (A : Nat → Prop) (g gq P : Nat) (cs : Array Value) (w : World) (r : Int × RC) (e : Ending) (w' : World) : Prop :=
  e = .returned (.tuple #[]) ∧ Fr (fun k => ¬ A k ∨ k = gq) w w' ∧ EncC A g w' r.2 ∧ w'.heap[gq]? = some (.cells (cs.setIfInBounds P (.int .u16 r.1)) 40)
theorem EncC.keep {A : Nat → Prop} {g : Nat} {w w' : World} {c : RC} (h : EncC A g w c) {T : Nat → Prop} (hf : Fr T w w') (ht : ∀ k, k < w.heap.size → T k → A k) : EncC A g w' c := EncIs.keep h hf ht
theorem EncC.any {A : Nat → Prop} {g : Nat} {w w' : World} {c : RC} (h : EncC A g w c) (hf : Fr Non w w') : EncC A g w' c := EncIs.any h hf
theorem EncC.less {A A' : Nat → Prop} {g : Nat} {w : World} {c : RC} (h : EncC A g w c) (hs : ∀ k, A' k → A k) : EncC A' g w c := by
  obtain ⟨v, B, ⟨h1, h2, h3, h4, h5⟩, q⟩ := h
  exact ⟨v, B, ⟨h1, h2, fun k e => ⟨(h3 k e).1, fun q => (h3 k e).2 (hs k q)⟩, fun k q => h4 k (hs k q), fun q => h5 (hs g q)⟩, q⟩
/-- A, and what has been new since w. -/
def Since (A : Nat → Prop) (w W : World) : Nat → Prop := fun k => A k ∨ (w.heap.size ≤ k ∧ k < W.heap.size)
theorem EncC.fresh {A : Nat → Prop} {g : Nat} {w W : World} {c : RC} (h : EncC A g w c) (hf : Fr Non w W) : EncC (Since A w W) g W c := EncIs.more h hf (fun _ _ e => e.elim)
theorem EncC.drew {A : Nat → Prop} {g : Nat} {w : World} {c : RC} (h : EncC A g w c) : EncC A g w.drew c := h.any (Fr.refl Non _).drew
/-- what a bit leaves, its probability put back. -/
theorem fin0E {A : Nat → Prop} {g gq P : Nat} {cs : Array Value} {w W w1 : World} {r : Int × RC} (hA : A gq) (hf : Fr (Out (Since A w W)) W w1) (hW : Fr Non w W) (hd : EncC (Since A w W) g w1 r.2) (hb : w1.heap[gq]? = some (.cells cs 40)) :
    Fr (fun k => ¬ A k ∨ k = gq) w (w1.setCell ⟨gq, P, none⟩ (.int .u16 r.1)) ∧ EncC A g (w1.setCell ⟨gq, P, none⟩ (.int .u16 r.1)) r.2 ∧ (w1.setCell ⟨gq, P, none⟩ (.int .u16 r.1)).heap[gq]? = some (.cells (cs.setIfInBounds P (.int .u16 r.1)) 40) := by
  refine ⟨Fr.setCell (p := ⟨gq, P, none⟩) (Fr.then hW.any hf fun i hi e => .inl fun h => e (.inl h)) (fun _ => .inr rfl) _, ?_, blk_set hb⟩
  exact (hd.keep ((Fr.refl (fun k => k = gq) w1).setOne P _) (fun k _ e => .inl (by rw [e]; exact hA))).less fun k h => .inl h
def ETPost (A : Nat → Prop) (g gq off L : Nat) (cs : Array Value) (w : World) (r : (Nat → Int) × RC) (e : Ending) (w' : World) : Prop :=
  e = .returned (.tuple #[]) ∧ Fr (fun k => ¬ A k ∨ k = gq) w w' ∧ EncC A g w' r.2 ∧ ∃ cs', w'.heap[gq]? = some (.cells cs' 40) ∧ Win cs cs' off L r.1
/-- the loop's state behind some bits. -/
structure ETAt (A A' : Nat → Prop) (g gq P L N : Nat) (cs : Array Value) (w W wr : World) (c1 : RC) (q1 : Nat → Int) : Prop where
  fr : Fr (fun k => ¬ A' k ∨ k = gq) W wr
  enc : EncC A' g wr c1
  ok : c1.Ok N
  by_ : c1.bytes
  blk : ∃ cs1, wr.heap[gq]? = some (.cells cs1 40) ∧ Win cs cs1 P L q1
  pr : Pr q1 L
theorem ETAt.step {A A' : Nat → Prop} {g gq P L N m b : Nat} {cs : Array Value} {w W wr w1 : World} {c1 : RC} {q1 : Nat → Int} (h : ETAt A A' g gq P L N cs w W wr c1 q1) (hA : A' gq) (hm : m < L)
    (hf : Fr (Out A') wr w1) (he : EncC A' g w1 (c1.bit (q1 m) b).2) :
    ETAt A A' g gq P L (N + 3) cs w W (w1.setCell ⟨gq, P + m, none⟩ (.int .u16 (c1.bit (q1 m) b).1)) (c1.bit (q1 m) b).2 (upd q1 m (c1.bit (q1 m) b).1) := by
  obtain ⟨h1, h2, h3, h4, ⟨cs1, h5, h6⟩, h7⟩ := h
  have hp := h7 m hm
  have hp2 := bit_prob' c1 hp.1 hp.2 b
  obtain ⟨n, hn⟩ := h3.reach_bit h4 hp.1 hp.2 b
  have hb1 := hf.blk h5 (fun e => e hA)
  refine ⟨?_, he.keep ((Fr.refl (fun k => k = gq) w1).setOne (P + m) _) (fun k _ e => by rw [e]; exact hA), h3.bit hp.1 hp.2 b, hn.4 h4, ⟨_, blk_set (i := P + m) hb1, h6.set hm _⟩, h7.upd m hp2.1 hp2.2⟩
  exact Fr.setCell (p := ⟨gq, P + m, none⟩) (h1.then hf fun i _ e => .inl e) (fun _ => .inr rfl) _

end Go.Proofs.Ytjnegcambbeblaa

/- ref04.Fresh: a row of probabilities that begin. -/
namespace Go.Proofs.Ytjnegcambbeblaa
open Go.RowKit

def RFreshPost (w : World) (n : Nat) (e : Ending) (w' : World) : Prop :=
  ∃ v, e = .returned v ∧ Own w' w.heap.size .u16 40 v (List.replicate n 1024) ∧ Fr Non w w'
theorem info_u16r : (Try.prog.info? 40).map (fun i => (i.zero, i.size, i.bytes)) = some (some (.int .u16 0), 1, 2) := by kernel_rfl
set_option maxRecDepth 100000 in
set_option maxHeartbeats 2000000 in
theorem rfresh_any (n : Nat) (w : World) (hn : n ≤ 65536) :
    Calls Try.prog 74 #[.int .i64 n] w (RFreshPost w n) := by
  go_enter Try.func74, Try.ntmps74
  go_wp2_with fail
  go_loopw [3, 4] (fun pv iv wr => ∃ k : Nat, k ≤ n ∧ iv = .int .i64 k ∧ Own wr w.heap.size .u16 40 pv (List.replicate k 1024) ∧ Fr Non w wr) (fun _ iv _ => n - (intOf iv).toNat)
  case atStart => exact ⟨0, Nat.zero_le _, rfl, Own.nil _ _ _ _, Fr.refl _ _⟩
  case round =>
    obtain ⟨k, hk, rfl, hown, hfr⟩ := hrel
    have HO := hid hown
    have HF := hid hfr
    clear hown hfr
    by_cases hlt : k < n
    · have hsz := HF.out.size
      go_wp2_with (refine opAppend1 (some 12) rfl rfl (.tmp 10) (.tmp 11) 82 rfl w.heap.size .u16 40 2 Try.underlying82 info_u16r _ _ rfl (by exact Own.alloc HO.out _) _ _ _ rfl (by exact cell_new1 _ _ _) (by decide) (by rw [List.length_replicate]; omega) (by simp; omega) ?_; intro v3 w3 hown3 hg3; have HO3 := hid hown3; have HF3 := hid (Fr.grown (HF.out.alloc _) hg3 (fun i hi hlt => absurd (HO.out.block i hi).1 (by omega))); clear hown3 hg3)
      go_roundw
      case rel => exact ⟨k + 1, by omega, by go_num, by rw [List.replicate_succ']; exact HO3.out, HF3.out⟩
      case measure => simp [intOf]; omega
    · have e : k = n := by omega
      subst e
      go_wp2_with fail
      go_ret
      exact ⟨u3, rfl, HO.out, HF.out⟩
end Go.Proofs.Ytjnegcambbeblaa

/- The document's walk through LZMA: New; whether the decoder is through. -/
namespace Go.Proofs.Ytjnegcambbeblaa
open Go.RowKit

/-- the decoder has read all its bytes, and is done. -/
def kleft (n : Nat) (c : RD Nat) : Bool := !c.bad && (decide (c.code = 0) && decide (c.src = n))
set_option maxRecDepth 100000 in
set_option maxHeartbeats 1600000 in
theorem kleft_any {U : Nat → Prop} (a : Option Addr) (n capd : Nat) (f : Nat → Int) (lo gd : Nat) (g gp np cap : Nat) (s : LS) (c : RD Nat) (w : World) (h : KIs (cdrD a n capd f lo gd) U g gp np cap w s c) (hn : n ≤ 30000) :
    Calls Try.prog 64 #[.pointer (some ⟨g, 0, none⟩)] w fun e w' => e = .returned (.bool (kleft n c)) ∧ Fr Non w w' := by
  obtain ⟨A, v, h⟩ := h
  have c4 := h.cellC 4 (x := .pointer (some ⟨gd, 0, none⟩)) rfl
  obtain ⟨hr, _, _⟩ := h.co
  obtain ⟨src, rng, code, bad⟩ := c
  have d0 := blk_cell hr.at_ (j := 0) (v := .slice a n capd) rfl
  have d1 := blk_cell hr.at_ (j := 1) (v := .int .i64 src) rfl
  have d3 := blk_cell hr.at_ (j := 3) (v := .int .u64 code) rfl
  have d4 := blk_cell hr.at_ (j := 4) (v := .bool bad) rfl
  have hsrc : src ≤ n := hr.src
  clear h hr
  unfold kleft
  dsimp only
  cases bad with
  | true =>
    go_enter Try.func64, Try.ntmps64
    go_wp2_with fail
    go_quiet (fail)
    go_wp2_with fail
    go_ret
    exact ⟨rfl, (Fr.refl _ _).drewN _⟩
  | false =>
    by_cases hc : code = 0
    · subst hc
      by_cases hs : src = n
      · subst hs
        rw [decide_eq_true rfl, decide_eq_true rfl]
        go_enter Try.func64, Try.ntmps64
        go_wp2_with fail
        go_quiet (fail)
        go_wp2_with fail
        go_ret
        exact ⟨rfl, (Fr.refl _ _).drewN _⟩
      · rw [decide_eq_true rfl, decide_eq_false hs]
        have hs' : ((src : Int) == (n : Int)) = false := by simp; omega
        clear hs
        go_enter Try.func64, Try.ntmps64
        go_wp2_with fail
        go_quiet (fail)
        go_wp2_with fail
        go_ret
        exact ⟨rfl, (Fr.refl _ _).drewN _⟩
    · rw [decide_eq_false hc]
      have hc' : (code == 0) = false := by simpa using hc
      have hc2 : decide (code = 0) = false := by simpa using hc
      clear hc
      go_enter Try.func64, Try.ntmps64
      go_wp2_with fail
      go_quiet (fail)
      go_wp2_with fail
      go_ret
      exact ⟨rfl, (Fr.refl _ _).drewN _⟩
end Go.Proofs.Ytjnegcambbeblaa

/- The document's decoder over its bytes, plain: it unpacks to what the program's does. -/
namespace Go.Proofs.Ytjnegcambbeblaa
open Go.RowKit

theorem range_all {p q : Nat → Bool} : ∀ {m : Nat}, (∀ i, i < m → p i = q i) → (List.range m).all p = (List.range m).all q
  | 0, _ => rfl
  | m + 1, h => by
    rw [List.range_succ, List.all_append, List.all_append, range_all (m := m) (fun i hi => h i (by omega))]
    simp only [List.all_cons, List.all_nil]
    rw [h m (by omega)]
theorem range_allT {p : Nat → Bool} {m : Nat} : (List.range m).all p = true ↔ ∀ i, i < m → p i = true := by
  rw [List.all_eq_true]
  constructor
  · intro h i hi; exact h i (List.mem_range.2 hi)
  · intro h i hi; exact h i (List.mem_range.1 hi)
section
variable {T : Type} (nx : T → Int × Bool × T)
theorem lrun_ring {L K : LL} (s : LS) (d : RD T) (m : Nat) (h : s.H.length + m ≤ L.n) (h' : s.H.length + m ≤ K.n) : ∀ k, k ≤ m → lrun nx L k s d = lrun nx K k s d ∧ (lrun nx L k s d).1.H.length ≤ s.H.length + k
  | 0, _ => ⟨rfl, Nat.le_refl _⟩
  | k + 1, hk => by
    obtain ⟨i1, i2⟩ := lrun_ring s d m h h' k (by omega)
    refine ⟨?_, ?_⟩
    · show (lnext nx L (lrun nx L k s d).1 (lrun nx L k s d).2).2 = (lnext nx K (lrun nx K k s d).1 (lrun nx K k s d).2).2
      rw [← i1, lnext_ring nx (L := L) (K := K) _ _ (by omega) (by omega)]
    · have := lnext_H nx L (lrun nx L k s d).1 (lrun nx L k s d).2
      show (lnext nx L (lrun nx L k s d).1 (lrun nx L k s d).2).2.1.H.length ≤ _
      omega
theorem lok_ring {L K : LL} (s : LS) (d : RD T) (m : Nat) (h : s.H.length + m ≤ L.n) (h' : s.H.length + m ≤ K.n) (k : Nat) (hk : k < m) : lok nx L s d k = lok nx K s d k ∧ lbyte nx L s d k = lbyte nx K s d k := by
  obtain ⟨i1, i2⟩ := lrun_ring nx s d m h h' k (by omega)
  unfold lok lbyte
  rw [← i1, lnext_ring nx (L := L) (K := K) _ _ (by omega) (by omega)]
  exact ⟨rfl, rfl⟩
end
theorem lunpack_ring {S : Type} (nx : S → Int × Bool × S) (s0 : S) (p : Lset) {N K size : Nat} (hN : size ≤ N) (hK : size ≤ K) : lunpack nx s0 p N size = lunpack nx s0 p K size := by
  have h0 : (lstart p).H.length = 0 := rfl
  have hr := lrun_ring (anx nx) (L := LL.of N) (K := LL.of K) (lstart p) (RD.new (anx nx) ⟨s0, 0, false⟩) size (by rw [h0, Nat.zero_add]; exact hN) (by rw [h0, Nat.zero_add]; exact hK)
  have ho := lok_ring (anx nx) (L := LL.of N) (K := LL.of K) (lstart p) (RD.new (anx nx) ⟨s0, 0, false⟩) size (by rw [h0, Nat.zero_add]; exact hN) (by rw [h0, Nat.zero_add]; exact hK)
  obtain ⟨r1, r2⟩ := hr size (Nat.le_refl _)
  have e1 : (List.range size).all (lok (anx nx) (LL.of N) (lstart p) (RD.new (anx nx) ⟨s0, 0, false⟩)) = (List.range size).all (lok (anx nx) (LL.of K) (lstart p) (RD.new (anx nx) ⟨s0, 0, false⟩)) := range_all (fun i hi => (ho i hi).1)
  have e2 : lbytes (anx nx) (LL.of N) (lstart p) (RD.new (anx nx) ⟨s0, 0, false⟩) size = lbytes (anx nx) (LL.of K) (lstart p) (RD.new (anx nx) ⟨s0, 0, false⟩) size := by
    unfold lbytes
    exact List.map_congr_left (fun i hi => (ho i (List.mem_range.1 hi)).2)
  have e3 : ∀ (s : LS) (d : RD (AhS S)), s.H.length ≤ size → lfinish nx (LL.of N) s d = lfinish nx (LL.of K) s d := by
    intro s d h
    unfold lfinish
    rw [lpacket_ring (anx nx) (L := LL.of N) (K := LL.of K) s _ (Nat.le_trans h hN) (Nat.le_trans h hK)]
  unfold lunpack
  rw [e1, e2, ← r1, e3 _ _ (by rw [h0] at r2; omega)]
/-- a source that was asked ahead, and the place in the bytes. -/
def AhR (f : Nat → Int) (n : Nat) (x : AhS Nat) (y : Nat) : Prop := y ≤ n ∧ ((x.full = false ∧ x.s = y) ∨ (x.full = true ∧ x.s = y + 1 ∧ y < n ∧ x.b = f y % 256))
theorem simAB (f : Nat → Int) (n : Nat) : SimS (AhR f n) (anx (feedNx f n)) (feedNx f n) where
  go := by
    rintro ⟨xs, xb, xf⟩ y ⟨hy, hR⟩ ho
    unfold anx ahNx at ho ⊢
    dsimp only at ho hR ⊢
    rcases hR with ⟨rfl, rfl⟩ | ⟨rfl, rfl, hlt, rfl⟩
    · rw [if_neg (by decide)] at ho ⊢
      dsimp only at ho ⊢
      unfold feedNx at ho ⊢
      by_cases h : xs < n
      · rw [if_pos h]
        exact ⟨by show f xs % 256 = f xs % 256 % 256; omega, rfl, h, .inl ⟨rfl, rfl⟩⟩
      · rw [if_neg h] at ho; cases ho
    · rw [if_pos rfl]
      unfold feedNx
      rw [if_pos hlt]
      exact ⟨by show f y % 256 = f y % 256 % 256; omega, rfl, hlt, .inl ⟨rfl, rfl⟩⟩
theorem simBA (f : Nat → Int) (n : Nat) : SimS (fun y x => AhR f n x y) (feedNx f n) (anx (feedNx f n)) where
  go := by
    rintro y ⟨xs, xb, xf⟩ ⟨hy, hR⟩ ho
    unfold anx ahNx
    dsimp only at hR ⊢
    have hlt : y < n := by
      unfold feedNx at ho
      by_cases h : y < n
      · exact h
      · rw [if_neg h] at ho; cases ho
    rcases hR with ⟨rfl, rfl⟩ | ⟨rfl, rfl, _, rfl⟩
    · rw [if_neg (by decide)]
      unfold feedNx
      rw [if_pos hlt]
      exact ⟨by show f xs % 256 % 256 = f xs % 256; omega, rfl, hlt, .inl ⟨rfl, rfl⟩⟩
    · rw [if_pos rfl]
      unfold feedNx
      rw [if_pos hlt]
      exact ⟨by show f y % 256 % 256 = f y % 256; omega, rfl, hlt, .inl ⟨rfl, rfl⟩⟩
theorem lover_good {S : Type} (nx : S → Int × Bool × S) (s : LS) (d : RD (AhS S)) (h : (lover nx s d).1 = true) : d.bad = false := by
  unfold lover at h
  by_cases hw : lwhole s d = true
  · unfold lwhole RD.done at hw
    cases hd : d.bad
    · rfl
    · rw [hd] at hw; simp at hw
  · rw [if_neg hw] at h; cases h
theorem lover_left (f : Nat → Int) (n : Nat) (s : LS) (hb : s.bad = false) (hl : s.left = 0) (d : RD (AhS Nat)) (c : RD Nat) (hAB : d.bad = false → Sim1 (AhR f n) d c) (hBA : c.bad = false → Sim1 (fun y x => AhR f n x y) c d) :
    (lover (feedNx f n) s d).1 = kleft n c ∧ ((lover (feedNx f n) s d).2.bad = false → Sim1 (AhR f n) (lover (feedNx f n) s d).2 c) ∧ (c.bad = false → Sim1 (fun y x => AhR f n x y) c (lover (feedNx f n) s d).2) := by
  have hw : lwhole s d = d.done := by unfold lwhole; rw [hb, hl]; simp
  cases hd : d.bad with
  | true =>
    have hc : c.bad = true := by
      cases hq : c.bad with
      | true => rfl
      | false => have := (hBA hq).2.2.2; rw [hd, hq] at this; cases this
    have hdn : d.done = false := by unfold RD.done; rw [hd]; rfl
    unfold lover
    rw [hw, hdn, if_neg (by decide)]
    refine ⟨?_, fun h => ?_, fun h => ?_⟩
    · unfold kleft; rw [hc]; rfl
    · have h' : d.bad = false := h; rw [hd] at h'; cases h'
    · rw [hc] at h; cases h
  | false =>
    obtain ⟨⟨hy, hR⟩, h2, h3, h4⟩ := hAB hd
    have hcb : c.bad = false := h4.trans hd
    have flip : ∀ (x : AhS Nat), AhR f n x c.src → Sim1 (AhR f n) (⟨x, d.rng, d.code, d.bad⟩ : RD (AhS Nat)) c ∧ Sim1 (fun y x => AhR f n x y) c (⟨x, d.rng, d.code, d.bad⟩ : RD (AhS Nat)) := fun x hx => ⟨⟨hx, h2, h3, h4⟩, ⟨hx, h2.symm, h3.symm, h4.symm⟩⟩
    unfold lover
    rw [hw]
    by_cases hc0 : d.code = 0
    · have hdn : d.done = true := by unfold RD.done; rw [hd, hc0]; rfl
      rw [if_pos hdn]
      have hkl : kleft n c = decide (c.src = n) := by unfold kleft; rw [hcb, h3, hc0]; simp
      rw [hkl]
      unfold ahMore
      rcases hR with ⟨hfull, hs⟩ | ⟨hfull, hs, hlt, hbb⟩
      · rw [if_neg (by rw [hfull]; decide)]
        unfold feedNx
        rw [hs]
        by_cases hlt : c.src < n
        · rw [if_pos hlt]
          have hR' : AhR f n ⟨c.src + 1, f c.src % 256, true⟩ c.src := ⟨hy, .inr ⟨rfl, rfl, hlt, rfl⟩⟩
          exact ⟨by show (!true) = _; rw [decide_eq_false (by omega)]; rfl, fun _ => (flip _ hR').1, fun _ => (flip _ hR').2⟩
        · rw [if_neg hlt]
          have hR' : AhR f n ⟨c.src, 0, false⟩ c.src := ⟨hy, .inl ⟨rfl, rfl⟩⟩
          exact ⟨by show (!false) = _; rw [decide_eq_true (by omega)]; rfl, fun _ => (flip _ hR').1, fun _ => (flip _ hR').2⟩
      · rw [if_pos hfull]
        have hR' : AhR f n d.src c.src := ⟨hy, .inr ⟨hfull, hs, hlt, hbb⟩⟩
        exact ⟨by show (!true) = _; rw [decide_eq_false (by omega)]; rfl, fun _ => (flip _ hR').1, fun _ => (flip _ hR').2⟩
    · have hdn : d.done = false := by unfold RD.done; rw [hd]; simpa using hc0
      rw [if_neg (by rw [hdn]; decide)]
      have hR' : AhR f n d.src c.src := ⟨hy, hR⟩
      refine ⟨?_, fun _ => (flip _ hR').1, fun _ => (flip _ hR').2⟩
      unfold kleft
      rw [h3, decide_eq_false hc0]
      simp
/-- what the document unpacks: the packets, and the end. -/
def kunp (a : Option Addr) (n cap : Nat) (f : Nat → Int) (lo gd : Nat) (p : PkV) (size : Nat) (s : LS) (c : RD Nat) : Option (List Int) :=
  match kgo (cdrD a n cap f lo gd) p size size s c with
  | none => none
  | some x =>
    if kleft n x.2 = true then some x.1.H
    else if ((kpacket (cdrD a n cap f lo gd) x.1 x.2 p).1.ended && !(kpacket (cdrD a n cap f lo gd) x.1 x.2 p).1.bad && decide ((kpacket (cdrD a n cap f lo gd) x.1 x.2 p).1.H.length = x.1.H.length) && kleft n (kpacket (cdrD a n cap f lo gd) x.1 x.2 p).2.1) = true then some (kpacket (cdrD a n cap f lo gd) x.1 x.2 p).1.H
    else none
theorem kleft_good {n : Nat} {c : RD Nat} (h : kleft n c = true) : c.bad = false := by
  unfold kleft at h
  cases hq : c.bad
  · rfl
  · rw [hq] at h; simp at h
theorem kunp_is (a : Option Addr) (n cap : Nat) (f : Nat → Int) (lo gd : Nat) (p0 : PkV) (p : Lset) (size : Nat) (hd : 0 < p.dict.toNat) :
    kunp a n cap f lo gd p0 size (bare (lstart p)) (RD.new (feedNx f n) 0) = lunpack (feedNx f n) 0 p p.dict.toNat size := by
  have hB : Betw (lstart p) := ⟨rfl, rfl, rfl, rfl⟩
  have hdict : (lstart p).dict = p.dict.toNat := rfl
  have h0 : size - (lstart p).H.length = size := Nat.sub_zero size
  have hnil : (lstart p).H = [] := rfl
  have hrun := kgo_run a n cap f lo gd (L := LL.of p.dict.toNat) p0 size size (lstart p) (RD.new (feedNx f n) 0) hB (by rw [hdict]; rfl) (by rw [hdict]; exact hd) (by rw [h0]; exact Nat.le_refl _) (Nat.zero_le _)
  rw [h0] at hrun
  have hA0 : AhR f n ⟨0, 0, false⟩ 0 := ⟨Nat.zero_le _, .inl ⟨rfl, rfl⟩⟩
  have hAB := fun hb => new_sim (simAB f n) hA0 hb
  have hBA := fun hb => new_sim (simBA f n) (a := 0) (b := ⟨0, 0, false⟩) hA0 hb
  unfold lunpack
  obtain ⟨s0, hs0⟩ : ∃ x, x = lstart p := ⟨_, rfl⟩
  obtain ⟨d0, hd0⟩ : ∃ x, x = RD.new (anx (feedNx f n)) ⟨0, 0, false⟩ := ⟨_, rfl⟩
  obtain ⟨c0, hc0⟩ : ∃ x, x = RD.new (feedNx f n) 0 := ⟨_, rfl⟩
  obtain ⟨L, hL⟩ : ∃ x, x = LL.of p.dict.toNat := ⟨_, rfl⟩
  rw [← hd0, ← hc0] at hAB hBA
  rw [← hs0] at hnil
  rw [← hs0, ← hc0, ← hL] at hrun
  rw [← hs0, ← hd0, ← hc0, ← hL]
  clear hs0 hd0 hc0 hL hB hdict h0 hA0
  have okAB : (∀ i, i < size → lok (anx (feedNx f n)) L s0 d0 i = true) → ∀ i, i < size → lok (feedNx f n) L s0 c0 i = true ∧ lbyte (feedNx f n) L s0 c0 i = lbyte (anx (feedNx f n)) L s0 d0 i := fun h i hi => lok_sim (simAB f n) L s0 hAB i (fun j hj => h j (by omega))
  have okBA : (∀ i, i < size → lok (feedNx f n) L s0 c0 i = true) → ∀ i, i < size → lok (anx (feedNx f n)) L s0 d0 i = true ∧ lbyte (anx (feedNx f n)) L s0 d0 i = lbyte (feedNx f n) L s0 c0 i := fun h i hi => lok_sim (simBA f n) L s0 hBA i (fun j hj => h j (by omega))
  rcases hrun with ⟨s', c', k1, k2, k3, k4, k5⟩ | ⟨k1, k2⟩
  · have allA : ∀ i, i < size → lok (anx (feedNx f n)) L s0 d0 i = true := fun i hi => (okBA k3 i hi).1
    obtain ⟨a1, a2⟩ := lrun_sim (simAB f n) L s0 hAB size allA
    obtain ⟨_, b2⟩ := lrun_sim (simBA f n) L s0 hBA size k3
    rw [k2] at a1 a2 b2
    dsimp only at a1 a2 b2
    rw [range_allT.2 allA, ← a1]
    have hbytes : lbytes (anx (feedNx f n)) L s0 d0 size = s'.H := by
      have h1 := lrun_told (feedNx f n) L s0 c0 size k3
      rw [k2, hnil, List.nil_append] at h1
      rw [show s'.H = _ from h1]
      unfold lbytes
      exact List.map_congr_left (fun i hi => (okBA k3 i (List.mem_range.1 hi)).2)
    rw [hbytes]
    obtain ⟨d', hd'⟩ : ∃ x, x = (lrun (anx (feedNx f n)) L size s0 d0).2 := ⟨_, rfl⟩
    rw [← hd'] at a2 b2 ⊢
    obtain ⟨l1, l2, l3⟩ := lover_left f n s' k4.bad k4.left d' c' a2 b2
    unfold kunp
    rw [k1]
    dsimp only
    have hfin0 : ¬ (s'.bad = true ∨ s'.left ≠ 0) := by rw [k4.bad, k4.left]; simp
    by_cases hk : kleft n c' = true
    · rw [if_pos hk, if_pos]
      · rfl
      · refine ⟨rfl, ?_⟩
        unfold lfinish
        rw [if_neg hfin0, if_pos (.inl (l1.trans hk))]
        exact l1.trans hk
    · rw [if_neg hk]
      have hfin1 : ¬ ((lover (feedNx f n) s' d').1 = true ∨ s'.ended = true) := by
        rw [l1, k4.ended]
        rintro (h | h)
        · exact hk h
        · cases h
      obtain ⟨dA, hdA⟩ : ∃ x, x = (lover (feedNx f n) s' d').2 := ⟨_, rfl⟩
      rw [← hdA] at l2 l3
      have hlf : (lfinish (feedNx f n) L s' d').1 = if (lpacket (anx (feedNx f n)) L s' dA).2.1.ended = true then (lover (feedNx f n) (lpacket (anx (feedNx f n)) L s' dA).2.1 (lpacket (anx (feedNx f n)) L s' dA).2.2).1 else false := by
        unfold lfinish
        rw [if_neg hfin0, if_neg hfin1, ← hdA]
        split <;> rfl
      rw [hlf]
      obtain ⟨E1, E2⟩ := kpacket_ends a n cap f lo gd (L := L) c' p0 k4
      have pAB : (lpacket (anx (feedNx f n)) L s' dA).2.2.bad = false → (lpacket (feedNx f n) L s' c').1 = (lpacket (anx (feedNx f n)) L s' dA).1 ∧ (lpacket (feedNx f n) L s' c').2.1 = (lpacket (anx (feedNx f n)) L s' dA).2.1 ∧ Sim1 (AhR f n) (lpacket (anx (feedNx f n)) L s' dA).2.2 (lpacket (feedNx f n) L s' c').2.2 := fun hb => by
        refine packet_sim (simAB f n) L s' (l2 ?_) hb
        cases hq : dA.bad with
        | false => rfl
        | true => exact (bad_not hb (packet_stk (simAB f n) L s' dA hq)).elim
      have pBA : (lpacket (feedNx f n) L s' c').2.2.bad = false → (lpacket (anx (feedNx f n)) L s' dA).1 = (lpacket (feedNx f n) L s' c').1 ∧ (lpacket (anx (feedNx f n)) L s' dA).2.1 = (lpacket (feedNx f n) L s' c').2.1 ∧ Sim1 (fun y x => AhR f n x y) (lpacket (feedNx f n) L s' c').2.2 (lpacket (anx (feedNx f n)) L s' dA).2.2 := fun hb => by
        refine packet_sim (simBA f n) L s' (l3 ?_) hb
        cases hq : c'.bad with
        | false => rfl
        | true => exact (bad_not hb (packet_stk (simBA f n) L s' c' hq)).elim
      obtain ⟨R, hR⟩ : ∃ x, x = kpacket (cdrD a n cap f lo gd) (bare s') c' p0 := ⟨_, rfl⟩
      rw [← hR] at E1 E2 ⊢
      obtain ⟨rA, hrA⟩ : ∃ x, x = lpacket (anx (feedNx f n)) L s' dA := ⟨_, rfl⟩
      obtain ⟨rB, hrB⟩ : ∃ x, x = lpacket (feedNx f n) L s' c' := ⟨_, rfl⟩
      rw [← hrB] at E1 E2
      rw [← hrA, ← hrB] at pAB pBA
      rw [← hrA]
      by_cases hE : rB.2.1.ended = true ∧ rB.2.2.bad = false
      · obtain ⟨e1, e2, e3, e4, e5, e6⟩ := E2 hE.1 hE.2
        obtain ⟨q1, q2, q3⟩ := pBA hE.2
        have hab : rA.2.2.bad = false := q3.2.2.2.trans hE.2
        obtain ⟨_, _, q4⟩ := pAB hab
        rw [if_pos (show rA.2.1.ended = true by rw [q2]; exact hE.1)]
        obtain ⟨m1, _, _⟩ := lover_left f n rA.2.1 (by rw [q2]; exact e5) (by rw [q2]; exact e6) rA.2.2 rB.2.2 (fun _ => q4) (fun _ => q3)
        rw [m1, e1, e2, e3, e4]
        have hlen : decide (s'.H.length = (bare s').H.length) = true := decide_eq_true rfl
        rw [hlen]
        cases kleft n rB.2.2 <;> rfl
      · have hc : ¬ (R.1.ended && !R.1.bad && decide (R.1.H.length = (bare s').H.length) && kleft n R.2.1) = true := by
          intro h
          rw [Bool.and_eq_true, Bool.and_eq_true, Bool.and_eq_true] at h
          exact hE (E1 h.1.1.1 (kleft_good h.2))
        rw [if_neg hc, if_neg]
        rintro ⟨_, h⟩
        by_cases hAe : rA.2.1.ended = true
        · rw [if_pos hAe] at h
          have hab := lover_good _ _ _ h
          obtain ⟨q1, q2, q3⟩ := pAB hab
          exact hE ⟨by rw [q2]; exact hAe, q3.2.2.2.trans hab⟩
        · rw [if_neg hAe] at h
          cases h
  · unfold kunp
    rw [k1, if_neg]
    rintro ⟨h1, h2⟩
    have allA := range_allT.1 h1
    have allB : ∀ i, i < size → lok (feedNx f n) L s0 c0 i = true := fun i hi => (okAB allA i hi).1
    rcases k2 with ⟨i, hi, q⟩ | q
    · rw [allB i hi] at q; cases q
    · obtain ⟨a1, _⟩ := lrun_sim (simAB f n) L s0 hAB size allA
      rw [a1] at q
      unfold lfinish at h2
      rw [if_pos (.inr q)] at h2
      cases h2
end Go.Proofs.Ytjnegcambbeblaa

/- The document's walk through LZMA: New. -/
namespace Go.Proofs.Ytjnegcambbeblaa
open Go.RowKit

/-- a walk with nothing beneath it yet. -/
def kraw (p : Lset) (gp cap : Nat) : Array Value := #[.int .i64 p.lc, .int .i64 p.lp, .int .i64 p.pb, .int .i64 p.dict, .pointer none, .pointer none, .slice (some ⟨gp, 0, none⟩) p.probs cap, .slice none 0 0, .int .i64 0, .int .u32 0, .int .u32 0, .int .u32 0, .int .u32 0, .bool false, .bool false]
def KNewPost (p : Lset) (w : World) (e : Ending) (w' : World) : Prop :=
  ∃ g gp cap, e = .returned (.pointer (some ⟨g, 0, none⟩)) ∧ Fr Non w w' ∧ w.heap.size ≤ g ∧ w.heap.size ≤ gp ∧ g ≠ gp ∧ g < w'.heap.size ∧ gp < w'.heap.size ∧
    w'.heap[g]? = some (.cells (kraw p gp cap) 85) ∧ Own w' 0 .u16 40 (.slice (some ⟨gp, 0, none⟩) p.probs cap) (List.replicate p.probs 1024)
theorem fresh_row {w : World} {base : Nat} {v : Value} {n : Nat} (h : Own w base .u16 40 v (List.replicate n 1024)) (hn : 0 < n) : ∃ gp cap, v = .slice (some ⟨gp, 0, none⟩) n cap ∧ base ≤ gp ∧ gp < w.heap.size ∧ Own w 0 .u16 40 (.slice (some ⟨gp, 0, none⟩) n cap) (List.replicate n 1024) := by
  have hb := h.block
  obtain ⟨h1, h2⟩ := h
  rcases h2 with ⟨_, h3⟩ | ⟨g, cap, cur, rfl, hbg, hh, hnc, hc, hs, ht⟩
  · simp at h3; omega
  · have hg := hb g rfl
    have e : (List.replicate n (1024 : Int)).length = n := List.length_replicate
    exact ⟨g, cap, by rw [e], hg.1, hg.2, h1, .inr ⟨g, cap, cur, by rw [e], Nat.zero_le _, hh, hnc, hc, hs, ht⟩⟩
set_option maxRecDepth 100000 in
set_option maxHeartbeats 1600000 in
theorem knew_any (p : Lset) (hp : p.Light) (w : World) : Calls Try.prog 48 #[p.val] w (KNewPost p w) := by
  have hpr : p.probs ≤ 51000 ∧ 0 < p.probs := by
    have h1 := hp.nl_le
    unfold Lset.nl at h1
    unfold Lset.probs
    rw [if_pos (Lset.may_iff.2 hp.may)]
    omega
  have HPR := hid hpr
  obtain ⟨W, hW⟩ : ∃ W, W = w.alloc (.cells #[.int .i64 p.lc, .int .i64 p.lp, .int .i64 p.pb, .int .i64 p.dict] 23) := ⟨_, rfl⟩
  have FW := hid (show Fr Non w W by rw [hW]; exact (Fr.refl Non w).alloc _)
  have hb : W.heap[w.heap.size]? = some (.cells #[.int .i64 p.lc, .int .i64 p.lp, .int .i64 p.pb, .int .i64 p.dict] 23) := by rw [hW]; exact blk_new w _
  have k0 := blk_cell hb (j := 0) (v := .int .i64 p.lc) rfl
  have k1 := blk_cell hb (j := 1) (v := .int .i64 p.lp) rfl
  have k2 := blk_cell hb (j := 2) (v := .int .i64 p.pb) rfl
  have k3 := blk_cell hb (j := 3) (v := .int .i64 p.dict) rfl
  obtain ⟨bx, hbx⟩ : ∃ b, b = w.heap.size := ⟨_, rfl⟩
  rw [← hbx] at k0 k1 k2 k3
  have CP := hid (rprobs_any p)
  clear hp hpr hb
  show Calls Try.prog 48 #[.agg #[.int .i64 p.lc, .int .i64 p.lp, .int .i64 p.pb, .int .i64 p.dict]] w _
  go_enter Try.func48, Try.ntmps48
  go_upto_region 1 with fail
  rw [← hW, ← hbx]
  clear hW hbx
  go_region_held3 (fun wx => wx.cell? ⟨bx, 0, none⟩ = some (.int .i64 p.lc) ∧ wx.cell? ⟨bx, 1, none⟩ = some (.int .i64 p.lp) ∧ wx.cell? ⟨bx, 2, none⟩ = some (.int .i64 p.pb) ∧ wx.cell? ⟨bx, 3, none⟩ = some (.int .i64 p.dict)) (exact ⟨Fr.cell (S := Non) (w := W) (by repeat (first | exact Fr.refl _ _ | refine Fr.drewN ?_ _ | refine Fr.drew ?_ | refine Fr.alloc ?_ _ | refine Fr.trans ?_ (by assumption))) k0 id, Fr.cell (S := Non) (w := W) (by repeat (first | exact Fr.refl _ _ | refine Fr.drewN ?_ _ | refine Fr.drew ?_ | refine Fr.alloc ?_ _ | refine Fr.trans ?_ (by assumption))) k1 id, Fr.cell (S := Non) (w := W) (by repeat (first | exact Fr.refl _ _ | refine Fr.drewN ?_ _ | refine Fr.drew ?_ | refine Fr.alloc ?_ _ | refine Fr.trans ?_ (by assumption))) k2 id, Fr.cell (S := Non) (w := W) (by repeat (first | exact Fr.refl _ _ | refine Fr.drewN ?_ _ | refine Fr.drew ?_ | refine Fr.alloc ?_ _ | refine Fr.trans ?_ (by assumption))) k3 id⟩) (first
    | (go_at_call 27; refine (CP.out _).mono ?_; rintro e wp ⟨rfl, hfp⟩)
    | (go_at_call 74; refine (rfresh_any p.probs _ (by have := HPR.out; omega)).mono ?_; rintro e wf ⟨fv, rfl, hof, hff⟩; obtain ⟨gp, cap, rfl, hg1, hg2, hown⟩ := fresh_row hof HPR.out.2))
  all_goals
    have HFP := hid hfp
    have HFF := hid hff
    have HOWN := hid hown
    clear hof hfp hff k0 k1 k2 k3 hown
    go_wp2_with fail
    go_ret
    have FA : Fr Non w wf := FW.out.trans (by repeat (first | exact Fr.refl _ _ | refine Fr.drewN ?_ _ | refine Fr.drew ?_ | refine Fr.trans ?_ HFF.out | refine Fr.trans ?_ HFP.out))
    have hwf := FA.size
    have hW := FW.out.size
    have hgp : gp < wf.heap.size := hg2
    refine ⟨wf.heap.size, gp, cap, rfl, ?_, hwf, ?_, by omega, ?_, ?_, ?_, ?_⟩
    · repeat (first | exact FA | refine Fr.drewN ?_ _ | refine Fr.drew ?_ | refine Fr.alloc ?_ _)
    · refine Nat.le_trans ?_ hg1
      exact Fr.size (S := Non) (by repeat (first | exact FW.out | refine Fr.drewN ?_ _ | refine Fr.drew ?_ | refine Fr.trans ?_ HFP.out))
    · simp
    · simp; omega
    · exact blk_new wf _
    · exact HOWN.out.fr ((Fr.refl Non wf).alloc _) (fun _ _ => id)
end Go.Proofs.Ytjnegcambbeblaa

/- The document's Unpack, plain helps; what it leaves. -/
namespace Go.Proofs.Ytjnegcambbeblaa
open Go.RowKit

theorem kcopy_len : ∀ (k i : Nat) (s : LS), (kcopy k i s).1.bad = false → (kcopy k i s).1.H.length = s.H.length + k
  | 0, _, _, _ => rfl
  | k + 1, i, s, h => by
    unfold kcopy at h ⊢
    split at h
    · rename_i h0
      rw [if_pos h0, kcopy_len k (i + 1) _ h]
      show (s.H ++ [_]).length + k = _
      rw [List.length_append]
      show s.H.length + 1 + k = _
      omega
    · cases h
theorem kend_grow {C : Type} (K : Cdr C) (m : LS × C × Nat) (h1 : (kend K m).1.bad = false) (h2 : (kend K m).1.ended = false) : (kend K m).1.H.length = m.1.H.length + m.2.2 := by
  unfold kend at h1 h2 ⊢
  dsimp only at h1 h2 ⊢
  obtain ⟨s, hs⟩ : ∃ s, s = (if K.bad m.2.1 = true then { m.1 with bad := true } else m.1) := ⟨_, rfl⟩
  rw [← hs] at h1 h2 ⊢
  have hH : s.H = m.1.H := by rw [hs]; split <;> rfl
  unfold kend2 at h1 h2 ⊢
  by_cases h : (s.bad || s.ended) = true
  · rw [if_pos h] at h1 h2
    have h1' : s.bad = false := h1
    have h2' : s.ended = false := h2
    rw [h1', h2'] at h
    cases h
  · rw [if_neg h] at h1 ⊢
    rw [kcopy_len m.2.2 0 s h1, hH]
theorem kmid_H {C : Type} (K : Cdr C) (s : LS) (c : C) (sp : Nat) (p : PkV) (k : Nat) : (kmid K s c sp p k).1.H = s.H ∧ 1 ≤ (kmid K s c sp p k).2.2 := by
  unfold kmid
  split
  · exact ⟨rfl, by show 1 ≤ _ + 2; omega⟩
  · split
    · exact ⟨rfl, Nat.le_refl _⟩
    · exact ⟨rfl, by show 1 ≤ _ + 2; omega⟩
theorem kpacket2_grow {C : Type} (K : Cdr C) (s : LS) (c : C) (sp : Nat) (p : PkV) (k : Nat) (h1 : (kpacket2 K s c sp p k).1.bad = false) (h2 : (kpacket2 K s c sp p k).1.ended = false) : s.H.length < (kpacket2 K s c sp p k).1.H.length := by
  unfold kpacket2 at h1 h2 ⊢
  by_cases hk : k = 0
  · rw [if_pos hk] at h1 ⊢
    unfold klitP at h1 ⊢
    split at h1
    · cases h1
    · rename_i h0
      rw [if_neg h0]
      show s.H.length < (s.H ++ [_]).length
      rw [List.length_append]
      exact Nat.lt_succ_self _
  · rw [if_neg hk] at h1 h2 ⊢
    obtain ⟨e1, e2⟩ := kmid_H K s c sp p k
    rw [kend_grow K _ h1 h2, e1]
    omega
/-- a packet that stops nothing tells at least one byte. -/
theorem kpacket_grow {C : Type} (K : Cdr C) (s : LS) (c : C) (p : PkV) (h1 : (kpacket K s c p).1.bad = false) (h2 : (kpacket K s c p).1.ended = false) : s.H.length < (kpacket K s c p).1.H.length :=
  kpacket2_grow K { s with P := (kkind K s c (s.H.length % 2 ^ s.pb) p.kind).2.1, bad := s.bad || (kkind K s c (s.H.length % 2 ^ s.pb) p.kind).1.2 } (kkind K s c (s.H.length % 2 ^ s.pb) p.kind).2.2 (s.H.length % 2 ^ s.pb) p (kkind K s c (s.H.length % 2 ^ s.pb) p.kind).1.1 h1 h2
section
variable {C : Type} (K : Cdr C) (p : PkV) (size : Nat)
theorem kgo_end {k : Nat} {s : LS} {c : C} (h : size ≤ s.H.length) : kgo K p size k s c = some (s, c) := by
  cases k with
  | zero => rfl
  | succ k =>
    unfold kgo
    rw [if_pos h]
/-- one more packet of the document's. -/
theorem kgo_step {k : Nat} {s : LS} {c : C} (hk : size - s.H.length ≤ k) (h : s.H.length < size) (X : LS × C × Nat) (hX : X = kpacket K s c p) :
    ((X.1.bad || X.1.ended || K.bad X.2.1) = true → kgo K p size k s c = none) ∧ (size < X.1.H.length → kgo K p size k s c = none) ∧
    (X.1.bad = false → X.1.ended = false → K.bad X.2.1 = false → ¬ size < X.1.H.length → ∃ k', kgo K p size k s c = kgo K p size k' X.1 X.2.1 ∧ size - X.1.H.length ≤ k' ∧ s.H.length < X.1.H.length) := by
  obtain ⟨k', rfl⟩ : ∃ k', k = k' + 1 := ⟨k - 1, by omega⟩
  have hn : ¬ size ≤ s.H.length := by omega
  refine ⟨fun h1 => ?_, fun h1 => ?_, fun h1 h2 h3 h4 => ⟨k', ?_, ?_⟩⟩
  · show (if size ≤ s.H.length then _ else _) = _
    rw [if_neg hn, ← hX, if_pos (.inl h1)]
  · show (if size ≤ s.H.length then _ else _) = _
    rw [if_neg hn, ← hX, if_pos (.inr h1)]
  · show (if size ≤ s.H.length then _ else _) = _
    rw [if_neg hn, ← hX, if_neg]
    rintro (q | q)
    · rw [h1, h2, h3] at q; cases q
    · exact h4 q
  · have hg : s.H.length < X.1.H.length := by
      rw [hX] at h1 h2 ⊢
      exact kpacket_grow K s c p h1 h2
    exact ⟨by omega, hg⟩
end
/-- the end of the document's Unpack. -/
def kfin (a : Option Addr) (n cap : Nat) (f : Nat → Int) (lo gd : Nat) (p : PkV) (o : Option (LS × RD Nat)) : Option (List Int) :=
  match o with
  | none => none
  | some x =>
    if kleft n x.2 = true then some x.1.H
    else if ((kpacket (cdrD a n cap f lo gd) x.1 x.2 p).1.ended && !(kpacket (cdrD a n cap f lo gd) x.1 x.2 p).1.bad && decide ((kpacket (cdrD a n cap f lo gd) x.1 x.2 p).1.H.length = x.1.H.length) && kleft n (kpacket (cdrD a n cap f lo gd) x.1 x.2 p).2.1) = true then some (kpacket (cdrD a n cap f lo gd) x.1 x.2 p).1.H
    else none
theorem kunp_fin (a : Option Addr) (n cap : Nat) (f : Nat → Int) (lo gd : Nat) (p : PkV) (size : Nat) (s : LS) (c : RD Nat) : kunp a n cap f lo gd p size s c = kfin a n cap f lo gd p (kgo (cdrD a n cap f lo gd) p size size s c) := rfl
def KUnPost (R : Option (List Int)) (w : World) (e : Ending) (w' : World) : Prop :=
  Fr Non w w' ∧ ((R = none ∧ e = .returned (.tuple #[.slice none 0 0, .int .i64 12])) ∨ (∃ xs v, R = some xs ∧ e = .returned (.tuple #[v, .int .i64 0]) ∧ RowO w' w.heap.size v xs))
/-- the bytes that were told lie in memory of the call's own. -/
theorem KV.rowO {C : Type} {K : Cdr C} {U A : Nat → Prop} {g gp np cap : Nat} {v : Value} {w : World} {s : LS} {c : C} (hK : K.Ok) (h : KV K U A g gp np cap v w s c) : RowO w K.lo v s.H := by
  obtain ⟨a, c, h1, h2, h3, h4, h5⟩ := h.own.rowO
  refine ⟨a, c, h1, h2, h3, h4, fun ad e => ?_⟩
  have hb : v.ownBlock = some ad.block := by rw [h1, e]; rfl
  exact ((h.up hK).2.2.2.2 ad.block hb).1.1
/-- how many bytes were told. -/
def hlenW (g : Nat) (w : World) : Nat := match w.cell? ⟨g, 7, none⟩ with
  | some (.slice _ n _) => n
  | _ => 0
/-- a decoder just made, with its range decoder laid down. -/
theorem kfresh (p : Lset) (hp : p.Light) (a : Option Addr) (n cap : Nat) (f : Nat → Int) (lo g gp cpp gd : Nat) (w : World) (hat : w.heap[g]? = some (.cells (kraw p gp cpp) 85)) (hown : Own w 0 .u16 40 (.slice (some ⟨gp, 0, none⟩) p.probs cpp) (List.replicate p.probs 1024))
    (hne : g ≠ gp) (hg : lo ≤ g ∧ g ≠ gd ∧ g < w.heap.size) (hgp : lo ≤ gp ∧ gp ≠ gd ∧ gp < w.heap.size) (hd : RefIs a n cap f lo gd w (RD.new (feedNx f n) 0)) :
    KIs (cdrD a n cap f lo gd) (fun _ => False) g gp p.probs cpp (w.setCell ⟨g, 4, none⟩ (.pointer (some ⟨gd, 0, none⟩))) (bare (lstart p)) (RD.new (feedNx f n) 0) := by
  have hm := hp.may
  have e1 : ((p.lc.toNat : Nat) : Int) = p.lc := by have := hm.lc0; omega
  have e2 : ((p.lp.toNat : Nat) : Int) = p.lp := by have := hm.lp0; omega
  have e3 : ((p.pb.toNat : Nat) : Int) = p.pb := by have := hm.pb0; omega
  have e4 : ((p.dict.toNat : Nat) : Int) = p.dict := by have := hm.d0; omega
  have hf : Fr (fun k => k = g) w (w.setCell ⟨g, 4, none⟩ (.pointer (some ⟨gd, 0, none⟩))) := (Fr.refl _ _).setOne _ _
  have hsz : (w.setCell ⟨g, 4, none⟩ (.pointer (some ⟨gd, 0, none⟩))).heap.size = w.heap.size := by simp
  have hprobs : p.probs = 1847 + p.nl := by unfold Lset.probs Lset.nl; rw [if_pos (Lset.may_iff.2 hp.may)]
  have hnl := hp.nl_le
  refine ⟨fun k => lo ≤ k ∧ k ≠ gd ∧ k < w.heap.size, .slice none 0 0, ?_, ?_, ?_, ?_, hne, hg, hgp, ?_, ?_, ?_⟩
  · have hc : (kraw p gp cpp).setIfInBounds 4 (.pointer (some ⟨gd, 0, none⟩)) = kcells (cdrD a n cap f lo gd) gp p.probs cpp (.slice none 0 0) (bare (lstart p)) := by
      show (#[.int .i64 p.lc, .int .i64 p.lp, .int .i64 p.pb, .int .i64 p.dict, .pointer (some ⟨gd, 0, none⟩), .pointer none, .slice (some ⟨gp, 0, none⟩) p.probs cpp, .slice none 0 0, .int .i64 0, .int .u32 0, .int .u32 0, .int .u32 0, .int .u32 0, .bool false, .bool false] : Array Value) = #[.int .i64 ((p.lc.toNat : Nat) : Int), .int .i64 ((p.lp.toNat : Nat) : Int), .int .i64 ((p.pb.toNat : Nat) : Int), .int .i64 ((p.dict.toNat : Nat) : Int), .pointer (some ⟨gd, 0, none⟩), .pointer none, .slice (some ⟨gp, 0, none⟩) p.probs cpp, .slice none 0 0, .int .i64 0, .int .u32 0, .int .u32 0, .int .u32 0, .int .u32 0, .bool false, .bool false]
      rw [e1, e2, e3, e4]
    rw [← hc]
    exact blk_set hat
  · have hP : (List.range p.probs).map (bare (lstart p)).P = List.replicate p.probs 1024 := by
      show (List.range p.probs).map (fun _ => (1024 : Int)) = _
      rw [List.map_const', List.length_range]
    rw [hP]
    exact hown.fr hf (fun k hk e => by
      have e2 : gp = k := by simpa [Value.ownBlock] using hk
      exact hne (by rw [e2]; exact (show k = g from e).symm))
  · exact Own.nil _ _ _ _
  · intro k hk; cases hk
  · exact ⟨hd.keep hf (fun e => hg.2.1 e.symm) (fun k hk e => by have e' : k = g := e; omega), fun e => e.2.1 rfl, fun k hk => ⟨hk.1, by rw [hsz]; exact hk.2.2⟩⟩
  · refine ⟨fresh_prL _, by show 0 < 12; decide, fun i _ => by show 0 < 4294967296; decide, ?_, ?_, ?_, ?_, by omega, ?_, fun x hx => by cases hx⟩
    · show p.lc.toNat ≤ 8
      have := hm.lc1; omega
    · show p.lp.toNat ≤ 4
      have := hm.lp1; omega
    · show p.pb.toNat ≤ 4
      have := hm.pb1; omega
    · show 1847 + 768 * 2 ^ (p.lc.toNat + p.lp.toNat) ≤ p.probs
      rw [hprobs]
      unfold Lset.nl
      have := hm.lc0
      have := hm.lp0
      rw [show p.lc.toNat + p.lp.toNat = (p.lc + p.lp).toNat by omega]
      exact Nat.le_refl _
    · show p.dict.toNat ≤ 4294967295
      have := hm.d1; omega
  · intro k hk; cases hk
end Go.Proofs.Ytjnegcambbeblaa
