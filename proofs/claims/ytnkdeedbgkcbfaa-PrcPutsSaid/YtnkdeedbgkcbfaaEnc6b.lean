/- The document's coder (06): NewEnc. -/
import Derived.Test.YtnkdeedbgkcbfaaEnc6
import Derived.Test.YtnkdeedbgkcbfaaPrc3
namespace Go.Proofs.Ytnkdeedbgkcbfaa
open Go.RowKit

/-- the document's coder has told what c has. -/
def EncC (A : Nat → Prop) (g : Nat) (w : World) (c : RC) : Prop := EncIs A g w c.val c.len c.rng
theorem enc_part {A : Nat → Prop} {g : Nat} {w : World} {c : RC} {N : Nat} (hok : c.Ok N) (hb : c.bytes) {a r : Int} (ha : 0 ≤ a) (hr : 1 ≤ r) (har : a + r ≤ c.rng) {k : Nat}
    (h : EncIs A g w (256 ^ k * (c.val + a)) (c.len + k) (256 ^ k * r)) (h0 : 16777216 ≤ 256 ^ k * r) (h1 : 256 ^ k * r < 4294967296) : EncC A g w (c.part a r) := by
  obtain ⟨j, e1, e2, e3, _⟩ := hok.part_val hb ha hr har
  have ho := hok.part ha hr har
  have r0 := ho.rng0
  have r1 := ho.rng1
  rw [e2] at r0 r1
  have e : j = k := lev_once r0 r1 h0 h1
  subst e
  unfold EncC
  rw [e1, e2, e3]
  exact h
theorem RC.Ok.keep_part {c : RC} {N : Nat} (hok : c.Ok N) (hb : c.bytes) {a r : Int} (ha : 0 ≤ a) (hr : 1 ≤ r) (har : a + r ≤ c.rng) : (c.part a r).bytes := by
  obtain ⟨j, _, _, _, h⟩ := hok.part_val hb ha hr har
  exact h
def ENewPost (w : World) (e : Ending) (w' : World) : Prop :=
  ∃ g, e = .returned (.pointer (some ⟨g, 0, none⟩)) ∧ w.heap.size ≤ g ∧ Fr Non w w' ∧ EncC (fun k => k < w.heap.size) g w' RC.new
theorem emake_u8 (n : Nat) (hn : n ≤ 1048576) (w : World) : (Instr.makeSlice 35 (.int .i64 n) (.int .i64 n)).run Try.prog w = .ok (.slice (some ⟨w.heap.size, 0, none⟩) n n) (w.alloc (.cells (arr .u8 n (fun _ => 0)) 5)) := by
  obtain ⟨i, hi, hz0, hz1, hz2⟩ := info_parts Try.info_u8
  have h := run_make (P := Try.prog) w 35 5 i (.int .u8 0) Try.underlying35 hi hz0 .i64 .i64 n n (by omega) (by omega) (by rw [hz2]; omega) (by omega)
  simp only [Int.toNat_natCast, hz1, arr_made] at h
  exact h
set_option maxRecDepth 100000 in
theorem enew_raw (w : World) : Calls Try.prog 10 #[] w fun e w' => e = .returned (.pointer (some ⟨w.heap.size + 1, 0, none⟩)) ∧ w' = (w.alloc (.cells (arr .u8 5 (fun _ => 0)) 5)).alloc (.cells #[.slice (some ⟨w.heap.size, 0, none⟩) 5 5, .int .u64 4294967295] 38) := by
  have hmk : ∀ w : World, (Instr.makeSlice 35 (.int .i64 5) (.int .i64 5)).run Try.prog w = .ok (.slice (some ⟨w.heap.size, 0, none⟩) 5 5) (w.alloc (.cells (arr .u8 5 (fun _ => 0)) 5)) := fun w => emake_u8 5 (by decide) w
  go_enter Try.func10, Try.ntmps10
  go_wp2
  go_ret
  exact ⟨rfl, rfl⟩
theorem arr_zeros5 : arr .u8 5 (fun _ => 0) = ([0, 0, 0, 0, 0].map (Value.int .u8)).toArray := by kernel_rfl
theorem enew_any (w : World) : Calls Try.prog 10 #[] w (ENewPost w) := by
  refine (enew_raw w).mono ?_
  rintro e w' ⟨rfl, rfl⟩
  have hb := blk_alloc (o' := .cells #[.slice (some ⟨w.heap.size, 0, none⟩) 5 5, .int .u64 4294967295] 38) (blk_new w (.cells (arr .u8 5 (fun _ => 0)) 5))
  have hg := blk_new (w.alloc (.cells (arr .u8 5 (fun _ => 0)) 5)) (.cells #[.slice (some ⟨w.heap.size, 0, none⟩) 5 5, .int .u64 4294967295] 38)
  have hs : (w.alloc (.cells (arr .u8 5 (fun _ => 0)) 5)).heap.size = w.heap.size + 1 := by simp
  rw [hs] at hg
  refine ⟨w.heap.size + 1, rfl, by omega, ((Fr.refl _ _).alloc _).alloc _, .slice (some ⟨w.heap.size, 0, none⟩) 5 5, [0, 0, 0, 0, 0], ⟨hg, ⟨rfl, .inr ⟨w.heap.size, 5, _, rfl, Nat.zero_le _, hb, by decide, by simp [maxLen], by rw [arr_size], ?_⟩⟩, ?_, ?_, ?_⟩, ?_, rfl, ?_⟩
  · rw [arr_zeros5]; rfl
  · intro k hk
    have hk' : w.heap.size = k := by simpa [Value.ownBlock] using hk
    subst hk'
    exact ⟨by omega, fun h => by have : w.heap.size < w.heap.size := h; omega⟩
  · intro k hk
    have hk' : k < w.heap.size := hk
    simp; omega
  · intro hk
    have hk' : w.heap.size + 1 < w.heap.size := hk
    omega
  · intro x hx
    simp at hx
    omega
  · decide
theorem EncC.keep {A : Nat → Prop} {g : Nat} {w w' : World} {c : RC} (h : EncC A g w c) {T : Nat → Prop} (hf : Fr T w w') (ht : ∀ k, k < w.heap.size → T k → A k) : EncC A g w' c := EncIs.keep h hf ht
theorem EncC.any {A : Nat → Prop} {g : Nat} {w w' : World} {c : RC} (h : EncC A g w c) (hf : Fr Non w w') : EncC A g w' c := EncIs.any h hf
theorem EncC.less {A A' : Nat → Prop} {g : Nat} {w : World} {c : RC} (h : EncC A g w c) (hs : ∀ k, A' k → A k) : EncC A' g w c := by
  obtain ⟨v, B, ⟨h1, h2, h3, h4, h5⟩, q⟩ := h
  exact ⟨v, B, ⟨h1, h2, fun k e => ⟨(h3 k e).1, fun q => (h3 k e).2 (hs k q)⟩, fun k q => h4 k (hs k q), fun q => h5 (hs g q)⟩, q⟩
/-- A, and what has been new since w. -/
def Since (A : Nat → Prop) (w W : World) : Nat → Prop := fun k => A k ∨ (w.heap.size ≤ k ∧ k < W.heap.size)
theorem EncC.fresh {A : Nat → Prop} {g : Nat} {w W : World} {c : RC} (h : EncC A g w c) (hf : Fr Non w W) : EncC (Since A w W) g W c := EncIs.more h hf (fun _ _ e => e.elim)
theorem EncC.drew {A : Nat → Prop} {g : Nat} {w : World} {c : RC} (h : EncC A g w c) : EncC A g w.drew c := h.any (Fr.refl Non _).drew
end Go.Proofs.Ytnkdeedbgkcbfaa
