/- The document's coder (05): Ask, one bit. -/
import Derived.Test.YtomjagibcdneiaaEnc5k
namespace Go.Proofs.Ytomjagibcdneiaa
open Go.RowKit

set_option maxRecDepth 100000 in
set_option maxHeartbeats 4000000 in
theorem eask_0 (A : Nat → Prop) (g gq N P V cap : Nat) (b : Int) (c : RC) (p : Int) (cs : Array Value) (w : World) (h : EncC A g w c) (hA : A gq) (hok : c.Ok N) (hby : c.bytes) (hN : N ≤ 1073741000)
    (hb : w.heap[gq]? = some (.cells cs 22)) (hc : cs[P]? = some (.int .u16 p)) (hpa : 31 ≤ p ∧ p ≤ 2017) (hP : P < 600) (hV : V < 4294967296) :
    Calls Try.prog 21 #[.pointer (some ⟨g, 0, none⟩), .slice (some ⟨gq, 0, none⟩) 600 cap, .agg #[.int .i64 0, .int .i64 P, .int .i64 b, .int .u32 V]] w (E0Post A g gq P cs w (c.bit p (V % 2))) := by
  have hnot := h.not
  have hV2 : IntKind.i64.wrap ((V : Int).tmod 2) = ((V % 2 : Nat) : Int) := by
    rw [Int.tmod_eq_emod_of_nonneg (by omega), IntKind.wrap_i64]
    omega
  have HV2 := hid (show ((V : Int) % 2) = ((V % 2 : Nat) : Int) by omega)
  have Hok := hid hok
  have Hby := hid hby
  have HB : Hid (∀ o : Obj, EncC (Since A w (w.alloc o)) g (w.alloc o) c) := fun o => h.fresh ((Fr.refl Non w).alloc o)
  have HC : Hid (∀ o : Obj, (w.alloc o).heap[gq]? = some (.cells cs 22)) := fun o => blk_alloc hb
  have HCC := hid hc
  clear hc
  clear h hb hok hby
  go_enter Try.func21, Try.ntmps21
  have HW := hid ((Fr.refl Non w).alloc (.cells #[.int .i64 0, .int .i64 P, .int .i64 b, .int .u32 V] 39))
  have cP := fun o => blk_cell (HC.out o) HCC.out
  have fP := fun o => blk_frozen (HC.out o) P
  go_wp2_with fail
  go_region_with (go_at_call 42; rw [HV2.out]; refine (ebit_any (Since A w (w.alloc (.cells #[.int .i64 0, .int .i64 P, .int .i64 b, .int .u32 V] 39))) g N c p (V % 2) _ (by first | exact (HB.out _).drew | exact HB.out _) Hok.out Hby.out (by omega) hpa.1 hpa.2 (by omega)).mono ?_; rintro e w1 ⟨rfl, hf1, hd1⟩; have hb1 := Fr.blk hf1 (g := gq) (o := .cells cs 22) (by exact HC.out _) (fun e => Out.no e (.inl hA)); have k1 := blk_cell hb1 HCC.out; have g1 := blk_frozen hb1 P; have ka := Fr.cell hf1 (p := ⟨w.heap.size, 1, none⟩) (v := .int .i64 P) (by exact blk_cell (blk_new w _) rfl) (fun e => Out.no e (.inr ⟨Nat.le_refl _, by simp⟩)); have HB1 := hid hb1; have HF1 := hid (show Fr (Out (Since A w (w.alloc (.cells #[.int .i64 0, .int .i64 P, .int .i64 b, .int .u32 V] 39)))) (w.alloc (.cells #[.int .i64 0, .int .i64 P, .int .i64 b, .int .u32 V] 39)) w1 from (by first | exact hf1 | exact ((Fr.refl _ _).drew).trans hf1)); have HD1 := hid hd1; clear hb1 hf1 hd1)
  all_goals
    have HS := hid (fin0E (P := P) (r := c.bit p (V % 2)) hA HF1.out HW.out HD1.out HB1.out)
    clear HF1 HD1 HB1 k1 g1 ka cP fP
    go_wp2_with fail
    go_end0
    exact ⟨rfl, HS.out⟩
end Go.Proofs.Ytomjagibcdneiaa
