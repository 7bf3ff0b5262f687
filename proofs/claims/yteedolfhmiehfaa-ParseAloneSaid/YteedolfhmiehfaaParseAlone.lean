/- The walk through ParseAlone. -/
import Derived.Test.YteedolfhmiehfaaLaw10
import Derived.Test.YteedolfhmiehfaaParLaw
namespace Go.Proofs.Yteedolfhmiehfaa
open Go.RowKit

def lit1 (f : Nat → Int) (i : Nat) : Pk := ⟨0, 0, 0, f i⟩
theorem alone_from (f : Nat → Int) (n D : Nat) (hne : ∀ i, i < n → ∀ j, j < i → f i ≠ f j) : ∀ (m i : Nat) (r : Nat → Nat), n - i ≤ m → findFrom f n D m i r = ((List.range' i (n - i)).map (lit1 f), r)
  | 0, i, r, h => by
    rw [show n - i = 0 by omega]
    rfl
  | m + 1, i, r, h => by
    by_cases hi : i < n
    · rw [findFrom, if_pos hi, packet_alone f n D i r (hne i hi)]
      dsimp only
      rw [alone_from f n D hne m (i + 1) r (by omega), show n - i = (n - (i + 1)) + 1 by omega, List.range'_succ]
      rfl
    · rw [findFrom, if_neg hi, show n - i = 0 by omega]
      rfl
theorem alone_all (f : Nat → Int) (n : Nat) (r : Nat → Nat) (hne : ∀ i, i < n → ∀ j, j < i → f i ≠ f j) : finds f (hi0 n (lo0 n 0) n) (di0 1048576) (lo0 n 0) r = ((List.range n).map (lit1 f), r) := by
  have e0 : lo0 n 0 = 0 := by unfold lo0; omega
  rw [e0]
  have e1 : hi0 n 0 n = n := by unfold hi0; omega
  rw [e1]
  unfold finds
  rw [alone_from f n _ hne (n - 0) 0 r (Nat.le_refl _), Nat.sub_zero, List.range_eq_range']
/-- which bytes were seen. -/
def barr (s : Nat → Bool) : Array Value := (Array.range 256).map fun i => .bool (s i)
theorem barr_get (s : Nat → Bool) {i : Nat} (h : i < 256) : (barr s)[i]? = some (.bool (s i)) := by simp [barr, h]
def bupd (s : Nat → Bool) (i : Nat) : Nat → Bool := fun j => if j = i then true else s j
theorem barr_set (s : Nat → Bool) (i : Nat) : (barr s).setIfInBounds i (.bool true) = barr (bupd s i) := by
  apply Array.ext_getElem?
  intro j
  rw [Array.getElem?_setIfInBounds]
  have hz : ∀ t : Nat → Bool, (barr t).size = 256 := fun t => by simp [barr]
  rw [hz]
  by_cases h : i = j
  · subst h
    rw [if_pos rfl]
    by_cases h2 : i < 256
    · rw [if_pos h2, barr_get _ h2]
      simp [bupd]
    · rw [if_neg h2]
      exact (Array.getElem?_eq_none (by rw [hz]; omega)).symm
  · rw [if_neg h]
    by_cases h2 : j < 256
    · rw [barr_get _ h2, barr_get _ h2]
      simp [bupd, show ¬ j = i from fun e => h e.symm]
    · rw [Array.getElem?_eq_none (by rw [hz]; omega), Array.getElem?_eq_none (by rw [hz]; omega)]
def cnt (s : Nat → Bool) : Nat → Nat
  | 0 => 0
  | m + 1 => cnt s m + if s m then 1 else 0
theorem cnt_le (s : Nat → Bool) : ∀ m, cnt s m ≤ m
  | 0 => Nat.le_refl 0
  | m + 1 => by
    have := cnt_le s m
    unfold cnt
    split <;> omega
theorem cnt_none : ∀ m, cnt (fun _ => false) m = 0
  | 0 => rfl
  | m + 1 => by unfold cnt; rw [cnt_none m]; rfl
theorem cnt_same (s : Nat → Bool) (i : Nat) : ∀ m, m ≤ i → cnt (bupd s i) m = cnt s m
  | 0, _ => rfl
  | m + 1, h => by
    unfold cnt
    rw [cnt_same s i m (by omega)]
    have : bupd s i m = s m := by unfold bupd; rw [if_neg (by omega)]
    rw [this]
theorem cnt_upd (s : Nat → Bool) (i : Nat) (hs : s i = false) : ∀ m, i < m → cnt (bupd s i) m = cnt s m + 1
  | 0, h => by omega
  | m + 1, h => by
    unfold cnt
    by_cases e : i = m
    · subst e
      rw [cnt_same s i i (Nat.le_refl _), hs]
      have : bupd s i i = true := by unfold bupd; rw [if_pos rfl]
      rw [this]
      rfl
    · rw [cnt_upd s i hs m (by omega)]
      have : bupd s i m = s m := by unfold bupd; rw [if_neg (fun h => e h.symm)]
      rw [this]
      omega
/-- what was seen of the first k bytes. -/
structure Seen (f : Nat → Int) (k : Nat) (s : Nat → Bool) : Prop where
  is : ∀ x, s x = true ↔ ∃ j, j < k ∧ f j = (x : Int)
  many : cnt s 256 = k
  apart : ∀ i, i < k → ∀ j, j < i → f i ≠ f j
theorem Seen.start (f : Nat → Int) : Seen f 0 (fun _ => false) := ⟨fun x => ⟨(fun h => by cases h), (fun ⟨j, h, _⟩ => by omega)⟩, cnt_none 256, (fun i h => by omega)⟩
theorem Seen.next {f : Nat → Int} {k x : Nat} {s : Nat → Bool} (h : Seen f k s) (hx : f k = (x : Int)) (hx2 : x < 256) (hs : s x = false) : Seen f (k + 1) (bupd s x) := by
  refine ⟨fun y => ?_, by rw [cnt_upd s x hs 256 hx2, h.many], fun i hi j hj => ?_⟩
  · unfold bupd
    by_cases e : y = x
    · subst e
      rw [if_pos rfl]
      exact ⟨fun _ => ⟨k, by omega, hx⟩, fun _ => rfl⟩
    · rw [if_neg e, h.is]
      constructor
      · rintro ⟨j, h1, h2⟩; exact ⟨j, by omega, h2⟩
      · rintro ⟨j, h1, h2⟩
        refine ⟨j, ?_, h2⟩
        by_cases ej : j = k
        · subst ej; rw [hx] at h2; omega
        · omega
  · by_cases ei : i = k
    · subst ei
      intro e
      have : s x = true := (h.is x).2 ⟨j, hj, by rw [← e]; exact hx⟩
      rw [hs] at this
      cases this
    · exact h.apart i (by omega) j hj
theorem alloc_seen (w : World) : (Instr.alloc 36 true (.tuple #[])).run Try.prog w = .ok (.pointer (some ⟨w.heap.size, 0, none⟩)) (w.alloc (.cells (barr fun _ => false) 36)) := by kernel_rfl

set_option maxRecDepth 100000 in
set_option maxHeartbeats 4000000 in
theorem parseAlone_walk (a : Option Addr) (n cap : Nat) (f : Nat → Int) (w : World) (hnc : n ≤ cap) (hcm : n ≤ 9223372036854775807) (hnil : a = none → cap = 0)
    (h : RowIn w.heap.size .u8 w a n f) (hf : ∀ i, i < n → 0 ≤ f i ∧ f i < 256) :
    Calls Try.prog 5 #[.slice a n cap] w fun e w' => e = .returned (.bool true) ∧ Fr Non w w' := by
  have H := hid h
  have Hf := hid hf
  have Hnil := hid hnil
  clear h hf hnil
  go_enter Try.func5, Try.ntmps5
  go_wp2_with fail
  refine (awake10_any _).mono ?_
  rintro e w1 ⟨rfl, hf1⟩
  have F1 := hid hf1
  have s1 := hf1.size
  clear hf1
  go_wp2_with (refine opRun (some 3) rfl rfl (.pointer (some ⟨w1.heap.size, 0, none⟩)) (w1.alloc (.cells (barr fun _ => false) 36)) (by unfold execOp; simp only []; rw [run_bind_ok (alloc_seen _)]; rfl) ?_)
  go_loopw [4] (fun vi wr => ∃ (k : Nat) (s : Nat → Bool), vi = .int .i64 k ∧ k ≤ n ∧ Seen f k s ∧ wr.heap[w1.heap.size]? = some (.cells (barr s) 36) ∧ Fr Non w wr) (fun vi _ => n - (intOf vi).toNat)
  case atStart => exact ⟨0, fun _ => false, rfl, Nat.zero_le _, Seen.start f, blk_new _ _, F1.out.alloc _⟩
  case round =>
    obtain ⟨k, s, rfl, hk, hs, hb, hfr⟩ := hrel
    have HS := hid hs
    have HB := hid hb
    have FR := hid hfr
    clear hs hfr
    by_cases hlt : k < n
    · obtain ⟨b, off, rfl, _, cb⟩ := (H.out.fr FR.out (fun _ _ => id)).at hlt
      have hfk := Hf.out k hlt
      obtain ⟨x, hx⟩ := Int.eq_ofNat_of_zero_le hfk.1
      rw [hx] at cb
      have hx2 : (x : Int) < 256 := by omega
      have hkn : (k : Int) < (n : Int) := by omega
      have cs := blk_cell hb (barr_get s (i := x) (by omega))
      have zs := blk_frozen hb x
      have HX := hid hx
      clear hx hfk hb
      cases hsx : s x with
      | true =>
        rw [hsx] at cs
        clear hsx
        go_wp2_with fail
        go_ret
        exact ⟨rfl, FR.out⟩
      | false =>
        rw [hsx] at cs
        have HSX := hid hsx
        clear hsx
        go_wp2_with fail
        go_roundw
        case rel => exact ⟨k + 1, bupd s x, by go_num, by omega, HS.out.next HX.out (by omega) HSX.out, by have := blk_set (i := x) (v := .bool true) HB.out; rw [barr_set] at this; exact this, FR.out.setNew s1 x _⟩
        case measure => simp [intOf]; omega
    · have e : k = n := by omega
      subst e
      have hk256 : k ≤ 256 := by have := HS.out.many; have := cnt_le s 256; omega
      clear hb
      go_wp2_with fail
      refine (find_any a k cap f 0 k 1048576 noReps _ (by omega) hnc Hnil.out (by decide) (fun _ _ => by unfold noReps; decide) Hf.out ((H.out.fr FR.out (fun _ _ => id)).mono FR.out.size)).mono ?_
      rintro e w3 ⟨v3, rfl, ho3, hf3⟩
      rw [alone_all f k noReps HS.out.apart] at ho3 ⊢
      obtain ⟨a3, c3, rfl, _, _, hp3⟩ := ho3.rowN (n := k) (by simp)
      have p3 : PkIn w3.heap.size w3 a3 k (lit1 f) := by
        rcases hp3 with h | ⟨b, off, h1, h2, h3⟩
        · exact .inl h
        · refine .inr ⟨b, off, h1, h2, fun i hi => ?_⟩
          have := h3 i hi
          simpa [List.getD, hi] using this
      have P3 := hid p3
      have F3 := hid hf3
      have kq := eqR4 0 0 0 0
      have hrv : repsV noReps = .agg #[.int .u32 0, .int .u32 0, .int .u32 0, .int .u32 0] := rfl
      dsimp only
      rw [hrv]
      clear ho3 hp3 p3 hf3 hrv HB
      go_wp2_with fail
      go_loopw [7] (fun vi wr => ∃ j : Nat, vi = .int .i64 j ∧ j ≤ k ∧ Fr Non w3 wr) (fun vi _ => k - (intOf vi).toNat)
      case atStart => exact ⟨0, rfl, Nat.zero_le _, (Fr.refl _ _).alloc _⟩
      case round =>
        obtain ⟨j, rfl, hj, hfr⟩ := hrel
        have FJ := hid hfr
        clear hfr
        by_cases hlt : j < k
        · obtain ⟨b, off, rfl, _, cb⟩ := (H.out.fr ((FR.out.trans F3.out).trans FJ.out) (fun _ _ => id)).at hlt
          obtain ⟨b3, o3, rfl, _, d0, d1, d2, d3⟩ := (P3.out.fr FJ.out (fun _ _ => id)).at hlt
          have e0 : wr.cell? ⟨b3, o3 + j * 4, none⟩ = some (.int .i64 0) := d0
          have e1 : wr.cell? ⟨b3, o3 + j * 4 + 1, none⟩ = some (.int .u8 (f j)) := d1
          have e2 : wr.cell? ⟨b3, o3 + j * 4 + 2, none⟩ = some (.int .i64 0) := d2
          have e3 : wr.cell? ⟨b3, o3 + j * 4 + 3, none⟩ = some (.int .u32 0) := d3
          have hjk : (j : Int) < (k : Int) := by omega
          clear d0 d1 d2 d3
          go_wp2_with fail
          go_quiet (fail)
          go_wp2_with fail
          go_roundw
          case rel => exact ⟨j + 1, by go_num, by omega, FJ.out.drewN _⟩
          case measure => simp [intOf]; omega
        · have e : j = k := by omega
          subst e
          go_wp2_with fail
          go_ret
          exact ⟨rfl, (FR.out.trans F3.out).trans FJ.out⟩
end Go.Proofs.Yteedolfhmiehfaa
