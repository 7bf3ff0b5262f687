/- Questions (api.Ask): how a list of them reads; Right; law04.ask. -/
import Derived.Test.YtomjagibcdneiaaRdec5
namespace Go.Proofs.Ytomjagibcdneiaa
open Go.RowKit

structure Ask where
  kind : Int
  at_ : Int
  bits : Int
  val : Int
def Ask.agg (a : Ask) : Value := .agg #[.int .i64 a.kind, .int .i64 a.at_, .int .i64 a.bits, .int .u32 a.val]
def Ask.wf (a : Ask) : Prop := (-9223372036854775808 ≤ a.kind ∧ a.kind ≤ 9223372036854775807) ∧ (-9223372036854775808 ≤ a.at_ ∧ a.at_ ≤ 9223372036854775807) ∧ (-9223372036854775808 ≤ a.bits ∧ a.bits ≤ 9223372036854775807) ∧ 0 ≤ a.val ∧ a.val < 4294967296
/-- n questions l, as a slice that came in holds them. -/
def AsksIn (B : Nat) (w : World) (a : Option Addr) (n : Nat) (l : Nat → Ask) : Prop :=
  n = 0 ∨ ∃ b off, a = some ⟨b, off, none⟩ ∧ b < B ∧ ∀ i, i < n → w.cell? ⟨b, off + i * 4, none⟩ = some (.int .i64 (l i).kind) ∧ w.cell? ⟨b, off + i * 4 + 1, none⟩ = some (.int .i64 (l i).at_) ∧
    w.cell? ⟨b, off + i * 4 + 2, none⟩ = some (.int .i64 (l i).bits) ∧ w.cell? ⟨b, off + i * 4 + 3, none⟩ = some (.int .u32 (l i).val)
theorem AsksIn.fr {B : Nat} {w w' : World} {a : Option Addr} {n : Nat} {l : Nat → Ask} {S : Nat → Prop} (h : AsksIn B w a n l) (hf : Fr S w w') (hs : ∀ i, i < B → ¬ S i) : AsksIn B w' a n l := by
  rcases h with h | ⟨b, off, h1, h2, h3⟩
  · exact .inl h
  · exact .inr ⟨b, off, h1, h2, fun i hi => ⟨hf.cell (h3 i hi).1 (hs b h2), hf.cell (h3 i hi).2.1 (hs b h2), hf.cell (h3 i hi).2.2.1 (hs b h2), hf.cell (h3 i hi).2.2.2 (hs b h2)⟩⟩
theorem AsksIn.at {B : Nat} {w : World} {a : Option Addr} {n : Nat} {l : Nat → Ask} (h : AsksIn B w a n l) {i : Nat} (hi : i < n) :
    ∃ b off, a = some ⟨b, off, none⟩ ∧ b < B ∧ w.cell? ⟨b, off + i * 4, none⟩ = some (.int .i64 (l i).kind) ∧ w.cell? ⟨b, off + i * 4 + 1, none⟩ = some (.int .i64 (l i).at_) ∧
      w.cell? ⟨b, off + i * 4 + 2, none⟩ = some (.int .i64 (l i).bits) ∧ w.cell? ⟨b, off + i * 4 + 3, none⟩ = some (.int .u32 (l i).val) := by
  rcases h with h | ⟨b, off, h1, h2, h3⟩
  · omega
  · exact ⟨b, off, h1, h2, h3 i hi⟩

/-- may that be asked, with 600 probabilities? -/
def Ask.Right (a : Ask) : Prop := (a.kind = 0 ∧ 0 ≤ a.at_ ∧ a.at_ < 600) ∨ ((a.kind = 1 ∨ a.kind = 2) ∧ 0 ≤ a.at_ ∧ a.at_ < 340 ∧ 1 ≤ a.bits ∧ a.bits ≤ 8) ∨ (a.kind = 3 ∧ 0 ≤ a.bits ∧ a.bits ≤ 32)
instance (a : Ask) : Decidable a.Right := by unfold Ask.Right; infer_instance
def Ask.rightB (a : Ask) : Bool := decide a.Right
def RightPost (w : World) (b : Bool) (e : Ending) (w' : World) : Prop := e = .returned (.bool b) ∧ Fr Non w w'

set_option maxRecDepth 100000 in
set_option maxHeartbeats 1000000 in
theorem right_any (k p b v : Int) (w : World) : Calls Try.prog 19 #[.agg #[.int .i64 k, .int .i64 p, .int .i64 b, .int .u32 v]] w (RightPost w (Ask.rightB ⟨k, p, b, v⟩)) := by
  have key : ∀ x : Bool, (x = true ↔ Ask.Right ⟨k, p, b, v⟩) → Ask.rightB ⟨k, p, b, v⟩ = x := by
    intro x hx
    unfold Ask.rightB
    cases x with
    | true => exact decide_eq_true (hx.1 rfl)
    | false => exact decide_eq_false (fun h => by cases hx.2 h)
  unfold Ask.Right at key
  have Key := hid key
  clear key
  by_cases k0 : k = 0
  · subst k0
    by_cases h0 : 0 ≤ p
    · by_cases h1 : p < 600
      · go_enter Try.func19, Try.ntmps19
        go_wp2
        go_ret
        exact ⟨by rw [Key.out true (by simp; omega)]; rfl, (Fr.refl _ _).alloc _⟩
      · have d1 : decide (p < 600) = false := by simp; omega
        go_enter Try.func19, Try.ntmps19
        go_wp2
        go_ret
        exact ⟨by rw [Key.out false (by simp; omega)]; rfl, (Fr.refl _ _).alloc _⟩
    · have d0 : decide (0 ≤ p) = false := by simp; omega
      go_enter Try.func19, Try.ntmps19
      go_wp2
      go_ret
      exact ⟨by rw [Key.out false (by simp; omega)]; rfl, (Fr.refl _ _).alloc _⟩
  · have e0 : (k == 0) = false := by simpa using k0
    by_cases k1 : k = 1
    · subst k1
      by_cases h0 : 0 ≤ p
      · by_cases h1 : p < 340
        · by_cases h2 : 1 ≤ b
          · by_cases h3 : b ≤ 8
            · go_enter Try.func19, Try.ntmps19
              go_wp2
              go_ret
              exact ⟨by rw [Key.out true (by simp; omega)]; rfl, (Fr.refl _ _).alloc _⟩
            · have d3 : decide (b ≤ 8) = false := by simp; omega
              go_enter Try.func19, Try.ntmps19
              go_wp2
              go_ret
              exact ⟨by rw [Key.out false (by simp; omega)]; rfl, (Fr.refl _ _).alloc _⟩
          · have d2 : decide (1 ≤ b) = false := by simp; omega
            go_enter Try.func19, Try.ntmps19
            go_wp2
            go_ret
            exact ⟨by rw [Key.out false (by simp; omega)]; rfl, (Fr.refl _ _).alloc _⟩
        · have d1 : decide (p < 340) = false := by simp; omega
          go_enter Try.func19, Try.ntmps19
          go_wp2
          go_ret
          exact ⟨by rw [Key.out false (by simp; omega)]; rfl, (Fr.refl _ _).alloc _⟩
      · have d0 : decide (0 ≤ p) = false := by simp; omega
        go_enter Try.func19, Try.ntmps19
        go_wp2
        go_ret
        exact ⟨by rw [Key.out false (by simp; omega)]; rfl, (Fr.refl _ _).alloc _⟩
    · have e1 : (k == 1) = false := by simpa using k1
      by_cases k2 : k = 2
      · subst k2
        by_cases h0 : 0 ≤ p
        · by_cases h1 : p < 340
          · by_cases h2 : 1 ≤ b
            · by_cases h3 : b ≤ 8
              · go_enter Try.func19, Try.ntmps19
                go_wp2
                go_ret
                exact ⟨by rw [Key.out true (by simp; omega)]; rfl, (Fr.refl _ _).alloc _⟩
              · have d3 : decide (b ≤ 8) = false := by simp; omega
                go_enter Try.func19, Try.ntmps19
                go_wp2
                go_ret
                exact ⟨by rw [Key.out false (by simp; omega)]; rfl, (Fr.refl _ _).alloc _⟩
            · have d2 : decide (1 ≤ b) = false := by simp; omega
              go_enter Try.func19, Try.ntmps19
              go_wp2
              go_ret
              exact ⟨by rw [Key.out false (by simp; omega)]; rfl, (Fr.refl _ _).alloc _⟩
          · have d1 : decide (p < 340) = false := by simp; omega
            go_enter Try.func19, Try.ntmps19
            go_wp2
            go_ret
            exact ⟨by rw [Key.out false (by simp; omega)]; rfl, (Fr.refl _ _).alloc _⟩
        · have d0 : decide (0 ≤ p) = false := by simp; omega
          go_enter Try.func19, Try.ntmps19
          go_wp2
          go_ret
          exact ⟨by rw [Key.out false (by simp; omega)]; rfl, (Fr.refl _ _).alloc _⟩
      · have e2 : (k == 2) = false := by simpa using k2
        by_cases k3 : k = 3
        · subst k3
          by_cases h0 : 0 ≤ b
          · by_cases h1 : b ≤ 32
            · go_enter Try.func19, Try.ntmps19
              go_wp2
              go_ret
              exact ⟨by rw [Key.out true (by simp; omega)]; rfl, (Fr.refl _ _).alloc _⟩
            · have d1 : decide (b ≤ 32) = false := by simp; omega
              go_enter Try.func19, Try.ntmps19
              go_wp2
              go_ret
              exact ⟨by rw [Key.out false (by simp; omega)]; rfl, (Fr.refl _ _).alloc _⟩
          · have d0 : decide (0 ≤ b) = false := by simp; omega
            go_enter Try.func19, Try.ntmps19
            go_wp2
            go_ret
            exact ⟨by rw [Key.out false (by simp; omega)]; rfl, (Fr.refl _ _).alloc _⟩
        · have e3 : (k == 3) = false := by simpa using k3
          go_enter Try.func19, Try.ntmps19
          go_wp2
          go_ret
          exact ⟨by rw [Key.out false (by simp; omega)]; rfl, (Fr.refl _ _).alloc _⟩

/-- what is asked of a decoder: the answer, the probabilities, the decoder. -/
def spliceQ (q : Nat → Int) (off L : Nat) (r : Nat → Int) : Nat → Int := fun j => if off ≤ j ∧ j < off + L then r (j - off) else q j
def RD.ask {S : Type} (nx : S → Int × Bool × S) (d : RD S) (q : Nat → Int) (a : Ask) : Nat × (Nat → Int) × RD S :=
  if a.kind = 0 then ((d.bit nx (q a.at_.toNat)).1, upd q a.at_.toNat (d.bit nx (q a.at_.toNat)).2.1, (d.bit nx (q a.at_.toNat)).2.2)
  else if a.kind = 1 then ((d.tree nx a.bits.toNat (fun j => q (a.at_.toNat + j))).1, spliceQ q a.at_.toNat (2 ^ a.bits.toNat) (d.tree nx a.bits.toNat (fun j => q (a.at_.toNat + j))).2.1, (d.tree nx a.bits.toNat (fun j => q (a.at_.toNat + j))).2.2)
  else if a.kind = 2 then ((d.rev nx a.bits.toNat (fun j => q (a.at_.toNat + j))).1, spliceQ q a.at_.toNat (2 ^ a.bits.toNat) (d.rev nx a.bits.toNat (fun j => q (a.at_.toNat + j))).2.1, (d.rev nx a.bits.toNat (fun j => q (a.at_.toNat + j))).2.2)
  else ((d.str nx a.bits.toNat).1, q, (d.str nx a.bits.toNat).2)
theorem win_arr {N off L : Nat} {q r : Nat → Int} {cs' : Array Value} (h : Win (arr .u16 N q) cs' off L r) (hN : off + L ≤ N) : cs' = arr .u16 N (spliceQ q off L r) := by
  apply Array.ext_getElem?
  intro i
  rw [arr_get?]
  unfold spliceQ
  by_cases h1 : off ≤ i ∧ i < off + L
  · have := h.cell (i - off) (by omega)
    rw [show off + (i - off) = i by omega] at this
    rw [this, if_pos (by omega), if_pos h1]
  · rw [h.rest i (by omega), arr_get?, if_neg h1]
end Go.Proofs.Ytomjagibcdneiaa
