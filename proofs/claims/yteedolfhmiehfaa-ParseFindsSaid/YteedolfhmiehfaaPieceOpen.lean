/- A piece that came in, opened; the walk through ParseFinds. -/
import Derived.Test.YteedolfhmiehfaaLaw10
import Derived.Test.YteedolfhmiehfaaBytes
import Derived.Test.YteedolfhmiehfaaParseShort
import Derived.Lib.SmallJoins
import Derived.ProofKit
import Derived.OpenShut
namespace Go.Proofs.Yteedolfhmiehfaa
open Go.Joins Go.ChangeShapes Go.WideShapes Go.Deep Go.RowKit

structure Pc where
  from_ : Int
  to_ : Int
  dict : Int
  r : Nat → Nat
def Pc.val (p : Pc) : Value := .agg #[.int .i64 p.from_, .int .i64 p.to_, .int .i64 p.dict, .int .u32 (p.r 0), .int .u32 (p.r 1), .int .u32 (p.r 2), .int .u32 (p.r 3)]
def Pc.wf (p : Pc) : Prop := p.dict ≤ 9223372036854775807 ∧ ∀ h, h < 4 → p.r h < 4294967296
def four (a b c d : Nat) (h : Nat) : Nat := if h = 0 then a else if h = 1 then b else if h = 2 then c else d
theorem pc_cells : Try.prog.cellsOf 26 = 7 := by kernel_rfl
theorem int_cells : Try.prog.cellsOf 3 = 1 := by kernel_rfl
theorem u32_cells : Try.prog.cellsOf 23 = 1 := by kernel_rfl
theorem r4_cells : Try.prog.cellsOf 24 = 4 := by kernel_rfl
theorem piece_open {H : Type} {enc : TypeId × Value → H} {w : World} {held : Bool} {r : Reach} {b0 : Nat} {v : Value} {d : DataW H} {p : List MemPlace}
    (hv : Value.okWide Try.prog w r b0 26 v) (h : DataW.Trod enc Try.prog w 0 (fun _ => true) held 26 v d p) : ∃ q : Pc, v = q.val ∧ q.wf := by
  obtain ⟨cs, rfl, hsz⟩ := okWide_struct Try.underlying26 hv
  obtain ⟨l⟩ := cs
  match l, hsz.trans pc_cells with
  | [c0, c1, c2, c3, c4, c5, c6], _ =>
    obtain ⟨fuel, hf⟩ := h
    obtain ⟨xs, n, _, hx, _, hlen, hg⟩ := DataW.trod_struct Try.underlying26 hf
    match xs, hlen with
    | [y0, y1, y2, y3], _ =>
      have t0 := hg 0 _ rfl
      have t1 := hg 1 _ rfl
      have t2 := hg 2 _ rfl
      have t3 := hg 3 _ rfl
      simp [Value.cells, int_cells] at t0 t1 t2
      simp [Value.cells, r4_cells] at t3
      obtain ⟨ys, m, _, _, _, hyl, ha⟩ := DataW.trod_array Try.underlying24 t3
      match ys, hyl with
      | [z0, z1, z2, z3], _ =>
        have s0 := ha 0 (by decide)
        have s1 := ha 1 (by decide)
        have s2 := ha 2 (by decide)
        have s3 := ha 3 (by decide)
        simp [u32_cells] at s0 s1 s2 s3
        obtain ⟨x0, e0, _, b0⟩ := DataW.trod_int Try.underlying3 t0
        obtain ⟨x1, e1, _, b1⟩ := DataW.trod_int Try.underlying3 t1
        obtain ⟨x2, e2, _, b2⟩ := DataW.trod_int Try.underlying3 t2
        obtain ⟨u0, f0, _, g0⟩ := DataW.trod_int Try.underlying23 s0
        obtain ⟨u1, f1, _, g1⟩ := DataW.trod_int Try.underlying23 s1
        obtain ⟨u2, f2, _, g2⟩ := DataW.trod_int Try.underlying23 s2
        obtain ⟨u3, f3, _, g3⟩ := DataW.trod_int Try.underlying23 s3
        simp only [List.cons.injEq, and_true] at e0 e1 e2 f0 f1 f2 f3
        subst e0 e1 e2 f0 f1 f2 f3
        have k0 := wf_u32 g0
        have k1 := wf_u32 g1
        have k2 := wf_u32 g2
        have k3 := wf_u32 g3
        obtain ⟨n0, rfl⟩ := Int.eq_ofNat_of_zero_le k0.1
        obtain ⟨n1, rfl⟩ := Int.eq_ofNat_of_zero_le k1.1
        obtain ⟨n2, rfl⟩ := Int.eq_ofNat_of_zero_le k2.1
        obtain ⟨n3, rfl⟩ := Int.eq_ofNat_of_zero_le k3.1
        refine ⟨⟨x0, x1, x2, four n0 n1 n2 n3⟩, rfl, (wf_i64 b2).2, fun h hh => ?_⟩
        match h, hh with
        | 0, _ => show n0 < _; omega
        | 1, _ => show n1 < _; omega
        | 2, _ => show n2 < _; omega
        | 3, _ => show n3 < _; omega

theorem parseFinds_long (a : Option Addr) (n cap : Nat) (q : Pc) (w : World) (h : 1500 < n) :
    Calls Try.prog 3 #[.slice a n cap, q.val] w fun e w' => e = .returned (.bool true) ∧ Fr Non w w' := by
  have h1 : (1500 : Int) < (n : Int) := by omega
  clear h
  unfold Pc.val
  go_enter Try.func3, Try.ntmps3
  go_wp2_with (go_at_call 7; refine (awake10_any _).mono ?_; rintro e w1 ⟨rfl, hf1⟩)
  go_ret
  exact ⟨rfl, ((Fr.refl Non w).alloc _).trans hf1⟩

set_option maxRecDepth 100000 in
set_option maxHeartbeats 4000000 in
theorem parseFinds_walk (a : Option Addr) (n cap : Nat) (f : Nat → Int) (q : Pc) (w : World) (hn : n ≤ 1500) (hnc : n ≤ cap) (hnil : a = none → cap = 0) (hq : q.wf)
    (h : RowIn w.heap.size .u8 w a n f) (hf : ∀ i, i < n → 0 ≤ f i ∧ f i < 256) :
    Calls Try.prog 3 #[.slice a n cap, q.val] w fun e w' => e = .returned (.bool true) ∧ Fr Non w w' := by
  have hn1 : ¬ (1500 : Int) < (n : Int) := by omega
  have H := hid h
  have Hf := hid hf
  have Hnil := hid hnil
  have HQ := hid hq
  obtain ⟨q0, q1, q2, r⟩ := q
  obtain ⟨all, hall⟩ : ∃ all, all = finds f (hi0 n (lo0 n q0) q1) (di0 q2) (lo0 n q0) r := ⟨_, rfl⟩
  have HALL := hid hall
  clear h hf hnil hq hall
  unfold Pc.val
  dsimp only
  go_enter Try.func3, Try.ntmps3
  go_wp2_with fail
  refine (awake10_any _).mono ?_
  rintro e w1 ⟨rfl, hf1⟩
  obtain ⟨B, hB⟩ : ∃ B : Obj, B = .cells #[.int .i64 q0, .int .i64 q1, .int .i64 q2, .int .u32 (r 0), .int .u32 (r 1), .int .u32 (r 2), .int .u32 (r 3)] 26 := ⟨_, rfl⟩
  have hb1 := hf1.blk (by exact blk_new w _) id
  have F1 := hid (((Fr.refl Non w).alloc _).trans hf1)
  have HB1 := hid hb1
  have H1 := hid (H.out.fr F1.out (fun _ _ => id) |>.mono F1.out.size)
  clear hf1 hb1 hB
  go_wp2_with (refine opAppendRow (some 17) rfl rfl (.tmp 15) (.tmp 16) 22 rfl w1.heap.size .u8 5 1 Try.underlying22 Try.info_u8 (.slice (some ⟨w1.heap.size, 0, none⟩) 0 0) [] rfl (Own.empty w1 _ .u8 5 (Nat.le_refl _)) w1.heap.size a n cap f rfl Hnil.out hnc (H1.out.fr ((Fr.refl Non _).alloc _) (fun _ _ => id)) (by decide) (by simp; omega) (by simp) ?_; intro v2 w2 hown2 hg2; have hf2 := clone_fr hg2; have O2 := hid hown2; have F2 := hid hf2; obtain ⟨a2, c2, hv2, hc2, _, hr2⟩ := hown2.rowN (n := n) (by simp); subst hv2; have NC := hid (own_nilcap O2.out); have R2 := hid (list_row hr2); have b2 := F2.out.blk HB1.out id; have x0 := blk_cell b2 (j := 0) (v := .int .i64 q0) rfl; have x1 := blk_cell b2 (j := 1) (v := .int .i64 q1) rfl; have x2 := blk_cell b2 (j := 2) (v := .int .i64 q2) rfl; have x3 := blk_cell b2 (j := 3) (v := .int .u32 (r 0)) rfl; have x4 := blk_cell b2 (j := 4) (v := .int .u32 (r 1)) rfl; have x5 := blk_cell b2 (j := 5) (v := .int .u32 (r 2)) rfl; have x6 := blk_cell b2 (j := 6) (v := .int .u32 (r 3)) rfl; have B2 := hid b2; clear hown2 hg2 hf2 hr2 b2)
  refine (find_any a2 n c2 f q0 q1 q2 r _ (by omega) hc2 NC.out HQ.out.1 HQ.out.2 Hf.out R2.out).mono ?_
  rintro e w3 ⟨v3, rfl, ho3, hf3⟩
  rw [← HALL.out] at ho3 ⊢
  obtain ⟨m, hm⟩ : ∃ m, m = all.1.length := ⟨_, rfl⟩
  obtain ⟨a3, c3, rfl, _, _, hp3⟩ := ho3.rowN hm.symm
  obtain ⟨s0, hs0⟩ : ∃ s0 : Nat, s0 = all.2 0 := ⟨_, rfl⟩
  obtain ⟨s1, hs1⟩ : ∃ s1 : Nat, s1 = all.2 1 := ⟨_, rfl⟩
  obtain ⟨s2, hs2⟩ : ∃ s2 : Nat, s2 = all.2 2 := ⟨_, rfl⟩
  obtain ⟨s3, hs3⟩ : ∃ s3 : Nat, s3 = all.2 3 := ⟨_, rfl⟩
  have hrv : repsV all.2 = .agg #[.int .u32 s0, .int .u32 s1, .int .u32 s2, .int .u32 s3] := by rw [hs0, hs1, hs2, hs3]; rfl
  have HRV := hid hrv
  have HM := hid hm
  have P3 := hid hp3
  have F3 := hid hf3
  have fa : Fr Non w2 (w3.alloc (.cells #[.int .u32 s0, .int .u32 s1, .int .u32 s2, .int .u32 s3] 24)) := F3.out.alloc _
  have b3 := fa.blk B2.out id
  have y0 := blk_cell b3 (j := 0) (v := .int .i64 q0) rfl
  have y1 := blk_cell b3 (j := 1) (v := .int .i64 q1) rfl
  have y2 := blk_cell b3 (j := 2) (v := .int .i64 q2) rfl
  have y3 := blk_cell b3 (j := 3) (v := .int .u32 (r 0)) rfl
  have y4 := blk_cell b3 (j := 4) (v := .int .u32 (r 1)) rfl
  have y5 := blk_cell b3 (j := 5) (v := .int .u32 (r 2)) rfl
  have y6 := blk_cell b3 (j := 6) (v := .int .u32 (r 3)) rfl
  have FA := hid fa
  rw [hrv]
  clear ho3 hm hp3 hf3 hs0 hs1 hs2 hs3 hrv fa b3 x0 x1 x2 x3 x4 x5 x6
  go_wp2_with fail
  refine (rfind_any a n cap f q0 q1 q2 r _ (by omega) HQ.out.1 HQ.out.2 (H1.out.fr (F2.out.trans FA.out) (fun _ _ => id) |>.mono (F2.out.trans FA.out).size)).mono ?_
  rintro e w4 ⟨v4, rfl, ho4, hf4⟩
  rw [← HALL.out] at ho4 ⊢
  obtain ⟨a4, c4, rfl, _, _, hp4⟩ := ho4.rowN HM.out.symm
  obtain ⟨g3, hg3⟩ : ∃ g3, g3 = w3.heap.size := ⟨_, rfl⟩
  have fb : Fr Non w4 (w4.alloc (.cells #[.int .u32 s0, .int .u32 s1, .int .u32 s2, .int .u32 s3] 24)) := (Fr.refl _ _).alloc _
  have b3 := (hf4.trans fb).blk (blk_new w3 _) id
  have z0 := blk_cell b3 (j := 0) (v := .int .u32 s0) rfl
  have z1 := blk_cell b3 (j := 1) (v := .int .u32 s1) rfl
  have z2 := blk_cell b3 (j := 2) (v := .int .u32 s2) rfl
  have z3 := blk_cell b3 (j := 3) (v := .int .u32 s3) rfl
  have P4 := hid (hp4.fr fb (fun _ _ => id))
  have P3' := hid ((P3.out.fr (((Fr.refl Non w3).alloc _).trans (hf4.trans fb)) (fun _ _ => id)).mono (show w3.heap.size ≤ w4.heap.size by have := hf4.size; simp at this; omega))
  have FF := hid ((FA.out.trans hf4).trans fb)
  have kq := eqR4 s0 s1 s2 s3
  have hm9 : m ≤ 1048576 := by rw [HM.out, HALL.out]; exact Nat.le_trans (findFrom_len _ _ _ _ _ _) (by unfold hi0; omega)
  rw [HRV.out]
  clear ho4 hp4 hf4 fb b3 y0 y1 y2 y3 y4 y5 y6 hg3
  go_wp2_with fail
  refine (same_pk w4.heap.size a3 a4 m c3 c4 (fun i => all.1.getD i pk0) _ hm9 P3'.out P4.out).mono ?_
  rintro e w5 ⟨rfl, m5, rfl⟩
  go_wp2_with fail
  refine (bytes_q a2 a n c2 cap f f _ (by omega) w2.heap.size (by exact R2.out.fr (FF.out.drewN m5) (fun _ _ => id)) (by exact ((H1.out.fr (F2.out.trans FF.out) (fun _ _ => id)).mono F2.out.size).fr ((Fr.refl Non _).drewN m5) (fun _ _ => id)) (fun _ _ => rfl)).mono ?_
  rintro e w6 ⟨rfl, m6, rfl⟩
  go_wp2_with fail
  go_ret
  exact ⟨rfl, ((F1.out.trans F2.out).trans FF.out).drewN _⟩
end Go.Proofs.Yteedolfhmiehfaa
