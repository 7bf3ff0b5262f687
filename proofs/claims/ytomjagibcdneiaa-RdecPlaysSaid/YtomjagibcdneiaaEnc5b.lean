/- The document's coder (05): New, Bit. -/
import Derived.Test.YtomjagibcdneiaaEnc5
import Derived.Test.YtomjagibcdneiaaRenc5
namespace Go.Proofs.Ytomjagibcdneiaa
open Go.RowKit

/-- the document's coder has told what c has. -/
def EncC (A : Nat → Prop) (g : Nat) (w : World) (c : RC) : Prop := EncIs A g w c.val c.len c.rng
theorem enc_part {A : Nat → Prop} {g : Nat} {w : World} {c : RC} {N : Nat} (hok : c.Ok N) (hb : c.bytes) {a r : Int} (ha : 0 ≤ a) (hr : 1 ≤ r) (har : a + r ≤ c.rng) {k : Nat}
    (h : EncIs A g w (256 ^ k * (c.val + a)) (c.len + k) (256 ^ k * r)) (h0 : 16777216 ≤ 256 ^ k * r) (h1 : 256 ^ k * r < 4294967296) : EncC A g w (c.part a r) := by
  obtain ⟨j, e1, e2, e3, _⟩ := hok.part_val hb ha hr har
  have ho := hok.part ha hr har
  have r0 := ho.rng0
  have r1 := ho.rng1
  rw [e2] at r0 r1
  have e : j = k := lev_once r0 r1 h0 h1
  subst e
  unfold EncC
  rw [e1, e2, e3]
  exact h
theorem RC.Ok.keep_part {c : RC} {N : Nat} (hok : c.Ok N) (hb : c.bytes) {a r : Int} (ha : 0 ≤ a) (hr : 1 ≤ r) (har : a + r ≤ c.rng) : (c.part a r).bytes := by
  obtain ⟨j, _, _, _, h⟩ := hok.part_val hb ha hr har
  exact h
def ENewPost (w : World) (e : Ending) (w' : World) : Prop :=
  ∃ g, e = .returned (.pointer (some ⟨g, 0, none⟩)) ∧ w.heap.size ≤ g ∧ Fr Non w w' ∧ EncC (fun k => k < w.heap.size) g w' RC.new
theorem emake_u8 (n : Nat) (hn : n ≤ 1048576) (w : World) : (Instr.makeSlice 42 (.int .i64 n) (.int .i64 n)).run Try.prog w = .ok (.slice (some ⟨w.heap.size, 0, none⟩) n n) (w.alloc (.cells (arr .u8 n (fun _ => 0)) 5)) := by
  obtain ⟨i, hi, hz0, hz1, hz2⟩ := info_parts Try.info_u8
  have h := run_make (P := Try.prog) w 42 5 i (.int .u8 0) Try.underlying42 hi hz0 .i64 .i64 n n (by omega) (by omega) (by rw [hz2]; omega) (by omega)
  simp only [Int.toNat_natCast, hz1, arr_made] at h
  exact h
set_option maxRecDepth 100000 in
theorem enew_raw (w : World) : Calls Try.prog 17 #[] w fun e w' => e = .returned (.pointer (some ⟨w.heap.size + 1, 0, none⟩)) ∧ w' = (w.alloc (.cells (arr .u8 5 (fun _ => 0)) 5)).alloc (.cells #[.slice (some ⟨w.heap.size, 0, none⟩) 5 5, .int .u64 4294967295] 45) := by
  have hmk : ∀ w : World, (Instr.makeSlice 42 (.int .i64 5) (.int .i64 5)).run Try.prog w = .ok (.slice (some ⟨w.heap.size, 0, none⟩) 5 5) (w.alloc (.cells (arr .u8 5 (fun _ => 0)) 5)) := fun w => emake_u8 5 (by decide) w
  go_enter Try.func17, Try.ntmps17
  go_wp2
  go_ret
  exact ⟨rfl, rfl⟩
theorem arr_zeros5 : arr .u8 5 (fun _ => 0) = ([0, 0, 0, 0, 0].map (Value.int .u8)).toArray := by kernel_rfl
theorem enew_any (w : World) : Calls Try.prog 17 #[] w (ENewPost w) := by
  refine (enew_raw w).mono ?_
  rintro e w' ⟨rfl, rfl⟩
  have hb := blk_alloc (o' := .cells #[.slice (some ⟨w.heap.size, 0, none⟩) 5 5, .int .u64 4294967295] 45) (blk_new w (.cells (arr .u8 5 (fun _ => 0)) 5))
  have hg := blk_new (w.alloc (.cells (arr .u8 5 (fun _ => 0)) 5)) (.cells #[.slice (some ⟨w.heap.size, 0, none⟩) 5 5, .int .u64 4294967295] 45)
  have hs : (w.alloc (.cells (arr .u8 5 (fun _ => 0)) 5)).heap.size = w.heap.size + 1 := by simp
  rw [hs] at hg
  refine ⟨w.heap.size + 1, rfl, by omega, ((Fr.refl _ _).alloc _).alloc _, .slice (some ⟨w.heap.size, 0, none⟩) 5 5, [0, 0, 0, 0, 0], ⟨hg, ⟨rfl, .inr ⟨w.heap.size, 5, _, rfl, Nat.zero_le _, hb, by decide, by simp [maxLen], by rw [arr_size], ?_⟩⟩, ?_, ?_, ?_⟩, ?_, rfl, ?_⟩
  · rw [arr_zeros5]; rfl
  · intro k hk
    have hk' : w.heap.size = k := by simpa [Value.ownBlock] using hk
    subst hk'
    exact ⟨by omega, fun h => by have : w.heap.size < w.heap.size := h; omega⟩
  · intro k hk
    have hk' : k < w.heap.size := hk
    simp; omega
  · intro hk
    have hk' : w.heap.size + 1 < w.heap.size := hk
    omega
  · intro x hx
    simp at hx
    omega
  · decide
end Go.Proofs.Ytomjagibcdneiaa
