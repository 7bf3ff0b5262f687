/- The document's decoder (04): next, level, Bit. -/
import Derived.Test.YtomjagibcdneiaaLaw04c
namespace Go.Proofs.Ytomjagibcdneiaa
open Go.RowKit

/-- the document's decoder over the n bytes f (blocks below lo), at block g. -/
structure RefIs (a : Option Addr) (n cap : Nat) (f : Nat → Int) (lo g : Nat) (w : World) (x : RD Nat) : Prop where
  at_ : w.heap[g]? = some (.cells #[.slice a n cap, .int .i64 x.src, .int .u64 x.rng, .int .u64 x.code, .bool x.bad] 64)
  row : RowIn lo .u8 w a n f
  low : lo ≤ g
  src : x.src ≤ n
  ok : x.Ok
theorem RefIs.keep {a : Option Addr} {n cap : Nat} {f : Nat → Int} {lo g : Nat} {w w' : World} {x : RD Nat} (h : RefIs a n cap f lo g w x) {T : Nat → Prop} (hf : Fr T w w') (hg : ¬ T g) (ht : ∀ k, k < lo → ¬ T k) : RefIs a n cap f lo g w' x :=
  ⟨hf.blk h.at_ hg, h.row.fr hf ht, h.low, h.src, h.ok⟩
theorem RefIs.drewN {a : Option Addr} {n cap : Nat} {f : Nat → Int} {lo g : Nat} {w : World} {x : RD Nat} (h : RefIs a n cap f lo g w x) (k : Nat) : RefIs a n cap f lo g (w.drewN k) x := h.keep ((Fr.refl Non w).drewN k) id (fun _ _ => id)
theorem RefIs.drew {a : Option Addr} {n cap : Nat} {f : Nat → Int} {lo g : Nat} {w : World} {x : RD Nat} (h : RefIs a n cap f lo g w x) : RefIs a n cap f lo g w.drew x := h.keep ((Fr.refl Non w).drew) id (fun _ _ => id)
theorem RefIs.set1 {a : Option Addr} {n cap : Nat} {f : Nat → Int} {lo g : Nat} {w : World} {x : RD Nat} (h : RefIs a n cap f lo g w x) {s : Nat} (hs : s ≤ n) {v : Value} (hv : v = .int .i64 s) : RefIs a n cap f lo g (w.setCell ⟨g, 1, none⟩ v) ⟨s, x.rng, x.code, x.bad⟩ := by
  subst hv
  exact ⟨blk_set (i := 1) h.at_, h.row.fr (S := fun k => k = g) ((Fr.refl _ _).setOne _ _) (fun k hk e => by have := h.low; omega), h.low, hs, h.ok⟩
theorem RefIs.set2 {a : Option Addr} {n cap : Nat} {f : Nat → Int} {lo g : Nat} {w : World} {x : RD Nat} (h : RefIs a n cap f lo g w x) {r : Int} (h0 : 0 ≤ r) (h1 : r < 4294967296) : RefIs a n cap f lo g (w.setCell ⟨g, 2, none⟩ (.int .u64 r)) ⟨x.src, r, x.code, x.bad⟩ :=
  ⟨blk_set (i := 2) h.at_, h.row.fr (S := fun k => k = g) ((Fr.refl _ _).setOne _ _) (fun k hk e => by have := h.low; omega), h.low, h.src, ⟨h0, h1, h.ok.2.2.1, h.ok.2.2.2⟩⟩
theorem RefIs.set3 {a : Option Addr} {n cap : Nat} {f : Nat → Int} {lo g : Nat} {w : World} {x : RD Nat} (h : RefIs a n cap f lo g w x) {c : Int} (h0 : 0 ≤ c) (h1 : c < 4294967296) : RefIs a n cap f lo g (w.setCell ⟨g, 3, none⟩ (.int .u64 c)) ⟨x.src, x.rng, c, x.bad⟩ :=
  ⟨blk_set (i := 3) h.at_, h.row.fr (S := fun k => k = g) ((Fr.refl _ _).setOne _ _) (fun k hk e => by have := h.low; omega), h.low, h.src, ⟨h.ok.1, h.ok.2.1, h0, h1⟩⟩
theorem RefIs.set4 {a : Option Addr} {n cap : Nat} {f : Nat → Int} {lo g : Nat} {w : World} {x : RD Nat} (h : RefIs a n cap f lo g w x) (b : Bool) : RefIs a n cap f lo g (w.setCell ⟨g, 4, none⟩ (.bool b)) ⟨x.src, x.rng, x.code, b⟩ :=
  ⟨blk_set (i := 4) h.at_, h.row.fr (S := fun k => k = g) ((Fr.refl _ _).setOne _ _) (fun k hk e => by have := h.low; omega), h.low, h.src, h.ok⟩
def RPost (a : Option Addr) (n cap : Nat) (f : Nat → Int) (lo g : Nat) (w : World) (v : Value) (x : RD Nat) (e : Ending) (w' : World) : Prop :=
  e = .returned v ∧ Fr (fun k => k = g) w w' ∧ RefIs a n cap f lo g w' x

set_option maxRecDepth 100000 in
set_option maxHeartbeats 2000000 in
theorem rnext_any (a : Option Addr) (n cap : Nat) (f : Nat → Int) (hf : ∀ i, i < n → 0 ≤ f i ∧ f i < 256) (lo g : Nat) (x : RD Nat) (w : World) (hn : n ≤ 1048576) (h : RefIs a n cap f lo g w x) :
    Calls Try.prog 48 #[.pointer (some ⟨g, 0, none⟩)] w (RPost a n cap f lo g w (.int .u64 (x.next (feedNx f n)).1) (x.next (feedNx f n)).2) := by
  have H := hid h
  obtain ⟨src, rng, code, bad⟩ := x
  have c0 := blk_cell h.at_ (j := 0) (v := .slice a n cap) rfl
  have c1 := blk_cell h.at_ (j := 1) (v := .int .i64 src) rfl
  have c4 := blk_cell h.at_ (j := 4) (v := .bool bad) rfl
  have f1 := blk_frozen h.at_ 1
  have f4 := blk_frozen h.at_ 4
  have hsrc : src ≤ n := h.src
  clear h
  cases bad with
  | true =>
    have e : RD.next (feedNx f n) (⟨src, rng, code, true⟩ : RD Nat) = (0, ⟨src, rng, code, true⟩) := if_pos rfl
    rw [e]
    clear e
    go_enter Try.func48, Try.ntmps48
    go_wp2_with fail
    go_quiet (fail)
    go_wp2_with fail
    go_ret
    refine ⟨rfl, ?_, ?_⟩
    · repeat (first | exact Fr.refl _ _ | refine Fr.drewN ?_ _ | refine Fr.drew ?_ | refine Fr.setOne ?_ _ _)
    · exact (H.out.drewN _).set4 true
  | false =>
    by_cases hs : src < n
    · have e : RD.next (feedNx f n) (⟨src, rng, code, false⟩ : RD Nat) = (f src, ⟨src + 1, rng, code, false⟩) := by
        unfold RD.next
        rw [if_neg Bool.false_ne_true]
        have e1 : feedNx f n src = (f src % 256, true, src + 1) := if_pos hs
        have e2 : f src % 256 = f src := by have := hf src hs; omega
        show ((feedNx f n src).1, (⟨(feedNx f n src).2.2, rng, code, !(feedNx f n src).2.1⟩ : RD Nat)) = _
        rw [e1, e2]
        rfl
      rw [e]
      clear e
      obtain ⟨b, off, rfl, hb, cb⟩ := H.out.row.at hs
      have hbg : ¬ b = g := by have := H.out.low; omega
      have hfs := hf src hs
      clear hf
      go_enter Try.func48, Try.ntmps48
      go_wp2_with fail
      go_quiet (fail)
      go_wp2_with fail
      go_quiet (fail)
      go_wp2_with fail
      go_ret
      refine ⟨rfl, ?_, ?_⟩
      · repeat (first | exact Fr.refl _ _ | refine Fr.drewN ?_ _ | refine Fr.drew ?_ | refine Fr.setOne ?_ _ _)
      · exact ((H.out.drewN _).set1 (s := src + 1) (by omega) (by rw [Int.natCast_add]; rfl)).drewN _
    · have hsn : src = n := by omega
      subst hsn
      have e : RD.next (feedNx f src) (⟨src, rng, code, false⟩ : RD Nat) = (0, ⟨src, rng, code, true⟩) := by
        unfold RD.next
        rw [if_neg Bool.false_ne_true]
        have e1 : feedNx f src src = (0, false, src) := if_neg (by omega)
        show ((feedNx f src src).1, (⟨(feedNx f src src).2.2, rng, code, !(feedNx f src src).2.1⟩ : RD Nat)) = _
        rw [e1]
        rfl
      rw [e]
      clear e hf
      go_enter Try.func48, Try.ntmps48
      go_wp2_with fail
      go_quiet (fail)
      go_wp2_with fail
      go_ret
      refine ⟨rfl, ?_, ?_⟩
      · repeat (first | exact Fr.refl _ _ | refine Fr.drewN ?_ _ | refine Fr.drew ?_ | refine Fr.setOne ?_ _ _)
      · exact (H.out.drewN _).set4 true
end Go.Proofs.Ytomjagibcdneiaa
