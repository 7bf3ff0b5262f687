/- bcj: pass. -/
import Derived.Test.YtkahjjmjbcjaaaaBcj3
namespace Go.Proofs.Ytkahjjmjbcjaaaa
open Go.RowKit

def isCall (x : Int) : Bool := x == 232 || x == 233
def BW.up (b : BW) : BW := ⟨b.place, min (b.gap + 1) 4, b.mask, b.code⟩
def BW.pass (b : BW) (f : Nat → Int) : BW × (Nat → Int) × Nat :=
  if isCall (f 0) = true then
    if (b.up.meet f).2.2 = true then (⟨(b.place + 5) % 4294967296, 4, (b.up.meet f).1.mask, b.code⟩, (b.up.meet f).2.1, 5)
    else (⟨(b.place + 1) % 4294967296, (b.up.meet f).1.gap, (b.up.meet f).1.mask, b.code⟩, (b.up.meet f).2.1, 1)
  else (⟨(b.place + 1) % 4294967296, b.up.gap, b.mask, b.code⟩, f, 1)
theorem meet_place (b : BW) (f : Nat → Int) : (b.meet f).1.place = b.place ∧ (b.meet f).1.code = b.code ∧ (b.meet f).1.mask < 8 ∧ (b.meet f).1.gap = 0 := by
  unfold BW.meet
  by_cases h : noTurn (shiftM b.gap b.mask) f = true
  · rw [if_pos h]; refine ⟨rfl, rfl, ?_, rfl⟩; show _ * 2 % 8 + 1 < 8; omega
  · rw [if_neg h]; exact ⟨rfl, rfl, shiftM_lt _ _, rfl⟩
theorem call_and : ∀ x : Fin 256, (bits .and .u8 (x.val : Int) 254 = 232) ↔ (x.val = 232 ∨ x.val = 233) := by decide +kernel
theorem call_and' (x : Int) (h : 0 ≤ x ∧ x < 256) (hc : isCall x = false) : ¬ (bits .and .u8 x 254 = 232) := by
  obtain ⟨n, rfl⟩ := Int.eq_ofNat_of_zero_le h.1
  rw [call_and ⟨n, by omega⟩]
  rintro (e | e)
  · simp only at e; subst e; exact absurd hc (by decide)
  · simp only at e; subst e; exact absurd hc (by decide)

set_option maxRecDepth 100000 in
theorem pass_any (g h : Nat) (b : BW) (f : Nat → Int) (ty : TypeId) (w : World) (hgh : g ≠ h) (hm : b.mask < 8) (hg1 : b.gap ≤ 4) (hp : 0 ≤ b.place ∧ b.place < 4294967296) (hb : BWAt w g b) (hf : w.heap[h]? = some (.cells (arr .u8 5 f) ty)) (hx : ∀ i, i < 5 → 0 ≤ f i ∧ f i < 256) :
    Calls Try.prog 26 #[.pointer (some ⟨g, 0, none⟩), .pointer (some ⟨h, 0, none⟩)] w fun e w' => e = .returned (.int .i64 ((b.pass f).2.2 : Int)) ∧ Fr (fun k => k = g ∨ k = h) w w' ∧ BWAt w' g (b.pass f).1 ∧ w'.heap[h]? = some (.cells (arr .u8 5 (b.pass f).2.1) ty) := by
  have c0 := blk_cell hb (j := 0) (v := .int .u32 b.place) rfl
  have c1 := blk_cell hb (j := 1) (v := .int .i64 b.gap) rfl
  have c2 := blk_cell hb (j := 2) (v := .int .i64 b.mask) rfl
  have d0 := blk_cell hf (arr_get .u8 5 f (i := 0) (by decide))
  have f0 := blk_frozen hb 0
  have f1 := blk_frozen hb 1
  have hne : h ≠ g := fun e => hgh e.symm
  have HB := hid hb
  have HF := hid hf
  have HX := hid hx
  clear hb hf hx
  go_enter Try.func26, Try.ntmps26
  go_upto_region 2 with fail
  go_cut [5] (fun sv wx => sv = .int .i64 1 ∧ Fr (fun k => k = g) w wx ∧ BWAt wx g b.up)
  case first =>
    by_cases h4 : b.gap = 4
    · have e : b.up = ⟨b.place, 4, b.mask, b.code⟩ := by
        unfold BW.up
        have : min (b.gap + 1) 4 = 4 := by omega
        rw [this]
      rw [h4] at c1
      go_wp2
      go_meet
      refine ⟨rfl, Fr.setOne (Fr.refl _ _) _ _, ?_⟩
      rw [e]
      exact blk_set HB.out
    · have hlt : b.gap < 4 := by omega
      have e : b.up = ⟨b.place, b.gap + 1, b.mask, b.code⟩ := by
        unfold BW.up
        have : min (b.gap + 1) 4 = b.gap + 1 := by omega
        rw [this]
      go_wp2
      go_meet
      refine ⟨rfl, Fr.setOne (Fr.refl _ _) _ _, ?_⟩
      rw [e]
      exact blk_set HB.out
  case rest =>
    obtain ⟨hsv, hfr, hbw⟩ := hcut
    subst hsv
    have HF1 := hid (hfr.blk HF.out hne)
    have HB1 := hid hbw
    have HFR := hid hfr
    clear hfr hbw c0 c1 c2 f0 f1 d0
    have d0 := blk_cell HF1.out (arr_get .u8 5 f (i := 0) (by decide))
    have k0 := blk_cell HB1.out (j := 0) (v := .int .u32 b.place) rfl
    have g0 := blk_frozen HB1.out 0
    cases hc : isCall (f 0) with
    | false =>
      have hn := call_and' _ (HX.out 0 (by decide)) hc
      have HC := hid hc
      clear hc
      go_wp2_with fail
      go_ret
      have e : b.pass f = (⟨(b.place + 1) % 4294967296, b.up.gap, b.mask, b.code⟩, f, 1) := by
        unfold BW.pass; rw [HC.out]; rfl
      rw [e]
      refine ⟨rfl, ?_, blk_set HB1.out, blk_set_ne HF1.out hne⟩
      exact (HFR.out.setOne 0 _).mono fun k _ e => .inl e
    | true =>
      have hn : bits .and .u8 (f 0) 254 = 232 := by
        have : f 0 = 232 ∨ f 0 = 233 := by
          unfold isCall at hc
          simpa using hc
        rcases this with e | e
        · rw [e]; decide
        · rw [e]; decide
      have HC := hid hc
      clear hc
      go_wp2_with fail
      refine (meet_first g h b.up f ty _ hgh hm (by show 1 ≤ min _ 4; omega) (by show min _ 4 ≤ 4; omega) HB1.out HF1.out HX.out).mono ?_
      rintro e w' ⟨rfl, hfw, hbw, hhw⟩
      cases hr : (b.up.meet f).2.2 with
      | false =>
        have q0 := blk_cell hbw (j := 0) (v := .int .u32 (b.up.meet f).1.place) rfl
        have q1 := blk_cell hbw (j := 1) (v := .int .i64 (b.up.meet f).1.gap) rfl
        have r0 := blk_frozen hbw 0
        have r1 := blk_frozen hbw 1
        have HBW := hid hbw
        have HHW := hid hhw
        have HFW := hid hfw
        have HR := hid hr
        clear hbw hhw hfw hr
        go_wp2_with fail
        go_ret
        obtain ⟨m1, m2, m3, m4⟩ := meet_place b.up f
        have e : b.pass f = (⟨(b.place + 1) % 4294967296, (b.up.meet f).1.gap, (b.up.meet f).1.mask, b.code⟩, (b.up.meet f).2.1, 1) := by
          unfold BW.pass; rw [if_pos HC.out, HR.out]; rfl
        rw [e]
        refine ⟨rfl, ?_, ?_, blk_set_ne HHW.out hne⟩
        · exact Fr.setCell (Fr.then (S := fun k => k = g ∨ k = h) (HFR.out.mono fun k _ e => .inl e) HFW.out (fun i hi hk => hk)) (fun _ => .inl rfl) _
        · have hx := blk_set (i := 0) (v := .int .u32 (((b.up.meet f).1.place + 1) % 4294967296)) HBW.out
          have mc : (b.up.meet f).1.code = b.code := m2
          have mp : (b.up.meet f).1.place = b.place := m1
          rw [mc, mp] at hx
          rw [mp]
          exact hx
      | true =>
        have q0 := blk_cell hbw (j := 0) (v := .int .u32 (b.up.meet f).1.place) rfl
        have q1 := blk_cell hbw (j := 1) (v := .int .i64 (b.up.meet f).1.gap) rfl
        have r0 := blk_frozen hbw 0
        have r1 := blk_frozen hbw 1
        have HBW := hid hbw
        have HHW := hid hhw
        have HFW := hid hfw
        have HR := hid hr
        clear hbw hhw hfw hr
        go_wp2_with fail
        go_ret
        obtain ⟨m1, m2, m3, m4⟩ := meet_place b.up f
        have e : b.pass f = (⟨(b.place + 5) % 4294967296, 4, (b.up.meet f).1.mask, b.code⟩, (b.up.meet f).2.1, 5) := by
          unfold BW.pass; rw [if_pos HC.out, if_pos HR.out]
        rw [e]
        refine ⟨rfl, ?_, ?_, blk_set_ne (blk_set_ne HHW.out hne) hne⟩
        · exact Fr.setCell (Fr.setCell (Fr.then (S := fun k => k = g ∨ k = h) (HFR.out.mono fun k _ e => .inl e) HFW.out (fun i hi hk => hk)) (fun _ => .inl rfl) _) (fun _ => .inl rfl) _
        · have hx := blk_set (i := 1) (v := .int .i64 4) (blk_set (i := 0) (v := .int .u32 (((b.up.meet f).1.place + 5) % 4294967296)) HBW.out)
          have mc : (b.up.meet f).1.code = b.code := m2
          have mp : (b.up.meet f).1.place = b.place := m1
          rw [mc, mp] at hx
          rw [mp]
          exact hx
end Go.Proofs.Ytkahjjmjbcjaaaa
