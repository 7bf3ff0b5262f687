/- law10: Same; awake. -/
import Derived.Test.YteedolfhmiehfaaPar8
import Derived.Lib.SmallJoins
import Derived.Laws.StructEq
namespace Go.Proofs.Yteedolfhmiehfaa
open Go.RowKit

set_option maxRecDepth 100000 in
theorem same_pk (B : Nat) (a a' : Option Addr) (n c c' : Nat) (l : Nat → Pk) (w : World) (hn : n ≤ 1048576) (h : PkIn B w a n l) (h' : PkIn B w a' n l) :
    Calls Try.prog 10 #[.slice a n c, .slice a' n c'] w fun e w' => e = .returned (.bool true) ∧ ∃ m, w' = w.drewN m := by
  have H := hid h
  have H' := hid h'
  clear h h'
  go_enter Try.func10, Try.ntmps10
  go_wp2_with fail
  go_loopw [5] (fun v wr => ∃ k m : Nat, k ≤ n ∧ v = .int .i64 k ∧ wr = w.drewN m) (fun v _ => n - (intOf v).toNat)
  case atStart => exact ⟨0, 0, Nat.zero_le _, rfl, rfl⟩
  case round =>
    obtain ⟨k, m, hk, rfl, rfl⟩ := hrel
    by_cases hlt : k < n
    · obtain ⟨b, off, rfl, _, c0, c1, c2, c3⟩ := H.out.at hlt
      obtain ⟨b', off', rfl, _, d0, d1, d2, d3⟩ := H'.out.at hlt
      have hkn : (k : Int) < (n : Int) := by omega
      obtain ⟨p, hp⟩ : ∃ p, p = l k := ⟨_, rfl⟩
      rw [← hp] at c0 c1 c2 c3 d0 d1 d2 d3
      clear hp
      go_wp2_with fail
      go_quiet (fail)
      go_wp2_with fail
      go_roundw
      case rel => exact ⟨k + 1, m + nq, by omega, by go_num, by simp⟩
      case measure => simp [intOf]; omega
    · have e : k = n := by omega
      subst e
      go_wp2_with fail
      go_ret
      exact ⟨rfl, m, rfl⟩
theorem PkIn.ofList {w : World} {g : Nat} (l : List Pk) {t : TypeId} (h : w.heap[g]? = some (.cells (l.flatMap pkCells).toArray t)) : PkIn (g + 1) w (some ⟨g, 0, none⟩) l.length (fun i => l.getD i pk0) := by
  have key : ∀ i, i < l.length → ∀ j, j < 4 → w.cell? ⟨g, i * 4 + j, none⟩ = (pkCells (l.getD i pk0))[j]? := by
    intro i hi j hj
    rw [← pkCells_get l hi hj, cell_of_row w g (i * 4 + j) _ t (0, 0) h]
    simp
  refine .inr ⟨g, 0, rfl, by omega, fun i hi => ?_⟩
  rw [Nat.zero_add]
  exact ⟨key i hi 0 (by decide), key i hi 1 (by decide), key i hi 2 (by decide), key i hi 3 (by decide)⟩
def noReps : Nat → Nat := fun _ => 0
def aaaa : List Int := [97, 97, 97, 97]
def abab : List Int := [97, 98, 97, 98]
theorem aaaa_1 : (finds (lit aaaa) (hi0 4 (lo0 4 0) 4) (di0 4096) (lo0 4 0) noReps).1 = [⟨0, 0, 0, 97⟩, ⟨2, 3, 0, 0⟩] := by kernel_rfl
theorem aaaa_2 : repsV (finds (lit aaaa) (hi0 4 (lo0 4 0) 4) (di0 4096) (lo0 4 0) noReps).2 = .agg #[.int .u32 0, .int .u32 0, .int .u32 0, .int .u32 0] := by kernel_rfl
theorem abab_1 : (finds (lit abab) (hi0 4 (lo0 4 0) 4) (di0 4096) (lo0 4 0) noReps).1 = [⟨0, 0, 0, 97⟩, ⟨0, 0, 0, 98⟩, ⟨1, 2, 1, 0⟩] := by kernel_rfl
theorem abab_2 : repsV (finds (lit abab) (hi0 4 (lo0 4 0) 4) (di0 4096) (lo0 4 0) noReps).2 = .agg #[.int .u32 1, .int .u32 0, .int .u32 0, .int .u32 0] := by kernel_rfl
def Find4Post (w : World) (n : Nat) (l : List Pk) (rs : Value) (e : Ending) (w' : World) : Prop := ∃ a c, e = .returned (.tuple #[.slice a n c, rs]) ∧ PkIn w'.heap.size w' a n (fun i => l.getD i pk0) ∧ Fr Non w w'
theorem PkIn.mono {B B' : Nat} {w : World} {a : Option Addr} {n : Nat} {l : Nat → Pk} (h : PkIn B w a n l) (hB : B ≤ B') : PkIn B' w a n l := by
  rcases h with h | ⟨b, off, h1, h2, h3⟩
  · exact .inl h
  · exact .inr ⟨b, off, h1, by omega, h3⟩
theorem find_aaaa (g : Nat) (w : World) (fz : Nat × Nat) (h : w.heap[g]? = some (.cells #[.int .u8 97, .int .u8 97, .int .u8 97, .int .u8 97] 5 fz)) :
    Calls Try.prog 8 #[.slice (some ⟨g, 0, none⟩) 4 4, .int .i64 0, .int .i64 4, .int .i64 4096, .agg #[.int .u32 0, .int .u32 0, .int .u32 0, .int .u32 0]] w (Find4Post w 2 [⟨0, 0, 0, 97⟩, ⟨2, 3, 0, 0⟩] (.agg #[.int .u32 0, .int .u32 0, .int .u32 0, .int .u32 0])) := by
  have hr : RowIn w.heap.size .u8 w (some ⟨g, 0, none⟩) 4 (lit aaaa) := (RowIn.ofList aaaa h).mono (blk_lt h)
  refine (find_any (some ⟨g, 0, none⟩) 4 4 (lit aaaa) 0 4 4096 noReps w (by decide) (by decide) (fun e => by cases e) (by decide) (fun _ _ => by unfold noReps; decide) (fun i hi => by match i, hi with | 0, _ => decide | 1, _ => decide | 2, _ => decide | 3, _ => decide) hr).mono ?_
  rintro e w' ⟨v, rfl, ho, hf⟩
  rw [aaaa_1] at ho
  rw [aaaa_2]
  obtain ⟨a, c, rfl, _, _, hp⟩ := ho.rowN rfl
  exact ⟨a, c, rfl, hp, hf⟩
theorem find_abab (g : Nat) (w : World) (fz : Nat × Nat) (h : w.heap[g]? = some (.cells #[.int .u8 97, .int .u8 98, .int .u8 97, .int .u8 98] 5 fz)) :
    Calls Try.prog 8 #[.slice (some ⟨g, 0, none⟩) 4 4, .int .i64 0, .int .i64 4, .int .i64 4096, .agg #[.int .u32 0, .int .u32 0, .int .u32 0, .int .u32 0]] w (Find4Post w 3 [⟨0, 0, 0, 97⟩, ⟨0, 0, 0, 98⟩, ⟨1, 2, 1, 0⟩] (.agg #[.int .u32 1, .int .u32 0, .int .u32 0, .int .u32 0])) := by
  have hr : RowIn w.heap.size .u8 w (some ⟨g, 0, none⟩) 4 (lit abab) := (RowIn.ofList abab h).mono (blk_lt h)
  refine (find_any (some ⟨g, 0, none⟩) 4 4 (lit abab) 0 4 4096 noReps w (by decide) (by decide) (fun e => by cases e) (by decide) (fun _ _ => by unfold noReps; decide) (fun i hi => by match i, hi with | 0, _ => decide | 1, _ => decide | 2, _ => decide | 3, _ => decide) hr).mono ?_
  rintro e w' ⟨v, rfl, ho, hf⟩
  rw [abab_1] at ho
  rw [abab_2]
  obtain ⟨a, c, rfl, _, _, hp⟩ := ho.rowN rfl
  exact ⟨a, c, rfl, hp, hf⟩

theorem eqR4 (a b c d : Int) (w : World) : (Op.equalIn 10000 24 (.agg #[.int .u32 a, .int .u32 b, .int .u32 c, .int .u32 d]) (.agg #[.int .u32 a, .int .u32 b, .int .u32 c, .int .u32 d])).run Try.prog w = .ok true w := by
  have u3 := Try.underlying23
  have a3 := Try.isAgg23
  have z3 := Try.sizeOf23
  rw [show (10000 : Nat) = 9999 + 1 from rfl, Op.equalIn]
  simp only [Sem.run_bind, run_underlying Try.underlying24, Result.andThen_ok]
  simp only [Std.Legacy.Range.forIn_eq_forIn_range', Std.Legacy.Range.size, Nat.sub_zero, Nat.add_sub_cancel, Nat.div_one, List.range'_succ, List.range'_zero, List.forIn_cons, List.forIn_nil]
  go_simp
theorem conv4 (w : World) (x y z u : Int) : (convert 22 22 (.slice (some ⟨w.heap.size, 0, none⟩) 4 4)).run Try.prog (w.alloc (.cells #[.int .u8 x, .int .u8 y, .int .u8 z, .int .u8 u] 5)) = .ok (.slice (some ⟨w.heap.size, 0, none⟩) 4 4) (w.alloc (.cells #[.int .u8 x, .int .u8 y, .int .u8 z, .int .u8 u] 5 (4, 5))) :=
  Lib.run_convert_bytes_const w 22 5 #[.int .u8 x, .int .u8 y, .int .u8 z, .int .u8 u] 4 4 Try.underlying22 Try.underlying5
set_option maxRecDepth 100000 in
set_option maxHeartbeats 4000000 in
theorem awake10_any (w : World) : Calls Try.prog 7 #[] w fun e w' => e = .returned (.bool true) ∧ Fr Non w w' := by
  have k1 := conv4 w 97 97 97 97
  have kq := eqR4 1 0 0 0
  go_enter Try.func7, Try.ntmps7
  go_wp2_with fail
  refine (find_aaaa w.heap.size _ (4, 5) (blk_new w _)).mono ?_
  rintro e w1 ⟨a1, c1, rfl, hp1, hf1⟩
  have F1 := hid (show Fr Non w w1 from Fr.trans ((Fr.refl _ _).alloc _) hf1)
  have P1 := hid hp1
  clear hp1 hf1 k1
  have k2 := conv4 (w1.alloc (.cells #[.int .u32 0, .int .u32 0, .int .u32 0, .int .u32 0] 24)) 97 98 97 98
  simp only [World.size_alloc] at k2
  go_wp2_with fail
  refine (find_abab (w1.heap.size + 1) _ (4, 5) (by exact (blk2 w1 _ _).2)).mono ?_
  rintro e w2 ⟨a2, c2, rfl, hp2, hf2⟩
  have f12 : Fr Non w1 w2 := Fr.trans (((Fr.refl _ _).alloc _).alloc _) hf2
  have P2 := hid (P1.out.fr f12 (fun _ _ => id))
  have F2 := hid (F1.out.trans f12)
  have s2 := f12.size
  obtain ⟨b2, off2, rfl, hb2, d0, d1, d2, d3⟩ := hp2.at (i := 2) (by decide)
  clear hp2 hf2 f12 k2
  obtain ⟨R, hR⟩ : ∃ R : Obj, R = .cells #[.int .u32 1, .int .u32 0, .int .u32 0, .int .u32 0] 24 := ⟨_, rfl⟩
  obtain ⟨K, hK⟩ : ∃ K : Obj, K = .cells #[.int .i64 0, .int .u8 97, .int .i64 0, .int .u32 0, .int .i64 2, .int .u8 0, .int .i64 3, .int .u32 0] 38 := ⟨_, rfl⟩
  have fa : Fr Non w2 ((w2.alloc R).alloc K) := ((Fr.refl _ _).alloc _).alloc _
  have e0 : ((w2.alloc R).alloc K).cell? ⟨b2, off2 + 8, none⟩ = some (.int .i64 1) := fa.cell d0 id
  have e1 : ((w2.alloc R).alloc K).cell? ⟨b2, off2 + 8 + 1, none⟩ = some (.int .u8 0) := fa.cell d1 id
  have e2 : ((w2.alloc R).alloc K).cell? ⟨b2, off2 + 8 + 2, none⟩ = some (.int .i64 2) := fa.cell d2 id
  have e3 : ((w2.alloc R).alloc K).cell? ⟨b2, off2 + 8 + 3, none⟩ = some (.int .u32 1) := fa.cell d3 id
  have bk := blk2 w2 R K
  have p1 : PkIn (w2.heap.size + 2) ((w2.alloc R).alloc K) a1 2 (fun i => [(⟨0, 0, 0, 97⟩ : Pk), ⟨2, 3, 0, 0⟩].getD i pk0) := (P2.out.fr fa (fun _ _ => id)).mono (by omega)
  have p2 : PkIn (w2.heap.size + 2) ((w2.alloc R).alloc K) (some ⟨w2.heap.size + 1, 0, none⟩) 2 (fun i => [(⟨0, 0, 0, 97⟩ : Pk), ⟨2, 3, 0, 0⟩].getD i pk0) := by
    refine PkIn.ofList (t := 38) [(⟨0, 0, 0, 97⟩ : Pk), ⟨2, 3, 0, 0⟩] ?_
    rw [bk.2, hK]
    rfl
  have r0 := blk_cell (bk.1.trans (by rw [hR])) (j := 0) (v := .int .u32 1) rfl
  have r1 := blk_cell (bk.1.trans (by rw [hR])) (j := 1) (v := .int .u32 0) rfl
  have r2 := blk_cell (bk.1.trans (by rw [hR])) (j := 2) (v := .int .u32 0) rfl
  have r3 := blk_cell (bk.1.trans (by rw [hR])) (j := 3) (v := .int .u32 0) rfl
  rw [hR, hK] at e0 e1 e2 e3 r0 r1 r2 r3 p1 p2
  have S1 := hid p1
  have S2 := hid p2
  clear p1 p2 bk fa hR hK d0 d1 d2 d3 P1 P2
  go_wp2_with fail
  refine (same_pk _ _ _ 2 c1 2 _ _ (by decide) S1.out S2.out).mono ?_
  rintro e w3 ⟨rfl, m, rfl⟩
  go_wp2_with fail
  go_ret
  exact ⟨rfl, F2.out.trans ((((Fr.refl _ _).alloc _).alloc _).drewN _)⟩
end Go.Proofs.Yteedolfhmiehfaa
