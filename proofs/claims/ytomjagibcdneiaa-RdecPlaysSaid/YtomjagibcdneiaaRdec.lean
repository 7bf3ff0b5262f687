/- The range decoder: what its functions reckon, and their walks. -/
import Derived.Test.YtomjagibcdneiaaSrc
import Derived.Deep.RegionHeld3
import Derived.Deep.RegionWith
import Derived.Laws.BitsAllLaws
namespace Go.Proofs.Ytomjagibcdneiaa
open Go.RowKit

/-- a decoder over a source's states. -/
structure RD (S : Type) where
  src : S
  rng : Int
  code : Int
  bad : Bool
def RD.next {S : Type} (nx : S → Int × Bool × S) (d : RD S) : Int × RD S :=
  if d.bad = true then (0, d) else ((nx d.src).1, ⟨(nx d.src).2.2, d.rng, d.code, !(nx d.src).2.1⟩)
def RD.level {S : Type} (nx : S → Int × Bool × S) (d : RD S) : RD S :=
  if d.rng < 16777216 then ⟨(d.next nx).2.src, d.rng * 256, d.code * 256 % 4294967296 + (d.next nx).1, (d.next nx).2.bad⟩ else d
def RD.Ok {S : Type} (d : RD S) : Prop := 0 ≤ d.rng ∧ d.rng < 4294967296 ∧ 0 ≤ d.code ∧ d.code < 4294967296

def DecAt {S : Type} (s : Sour S) (w : World) (g : Nat) (d : RD S) : Prop := w.heap[g]? = some (.cells #[.iface s.ty s.val, .int .u32 d.rng, .int .u32 d.code, .bool d.bad] 78)
structure DecIs {S : Type} (s : Sour S) (g : Nat) (w : World) (d : RD S) : Prop where
  at_ : DecAt s w g d
  src : s.I w d.src
  ok : d.Ok
  apart : ¬ s.foot g
def decFoot {S : Type} (s : Sour S) (g k : Nat) : Prop := k = g ∨ s.foot k
theorem DecIs.keep {S : Type} {s : Sour S} {g : Nat} {w w' : World} {d : RD S} (h : DecIs s g w d) {T : Nat → Prop} (hf : Fr T w w') (ht : ∀ k, decFoot s g k → ¬ T k) : DecIs s g w' d :=
  ⟨hf.blk h.at_ (ht g (.inl rfl)), s.keep _ _ _ _ h.src hf (fun k hk => ht k (.inr hk)), h.ok, h.apart⟩

theorem callsR {P : Program} {f : FuncId} {args : Array Value} {w : World} {R R' : Ending → World → Prop} (h : Calls P f args w R) (hr : ∀ e w', R e w' → R' e w') : Calls P f args w R' := h.mono hr

set_option maxRecDepth 100000 in
theorem dnext_any {S : Type} (s : Sour S) (g : Nat) (d : RD S) (w : World) (h : DecIs s g w d) :
    Calls Try.prog 46 #[.pointer (some ⟨g, 0, none⟩)] w fun e w' => e = .returned (.int .u8 (d.next s.nx).1) ∧ Fr (decFoot s g) w w' ∧ DecIs s g w' (d.next s.nx).2 := by
  have c0 := blk_cell h.at_ (j := 0) (v := .iface s.ty s.val) rfl
  have c3 := blk_cell h.at_ (j := 3) (v := .bool d.bad) rfl
  have f3 := blk_frozen h.at_ 3
  have H := hid h
  clear h
  unfold RD.next
  cases hb : d.bad with
  | true =>
    rw [hb] at c3
    go_enter Try.func46, Try.ntmps46
    go_wp2
    go_ret
    exact ⟨rfl, Fr.refl _ _, H.out⟩
  | false =>
    rw [hb] at c3
    go_enter Try.func46, Try.ntmps46
    go_wp2_with (refine opInvoke rfl (.tmp 13) _ rfl s.ty s.val rfl s.fid s.val s.meth s.enter (fun K hK => ?_))
    refine (s.call _ _ H.out.src).mono ?_
    rintro e w1 ⟨rfl, hf1, hi1⟩
    have f3' := hf1.frozen (p := ⟨g, 3, none⟩) (blk_lt H.out.at_) f3 H.out.apart
    have c3' := hf1.cell c3 H.out.apart
    have Hf1 := hid hf1
    have Hi1 := hid hi1
    clear hf1 hi1
    go_wp2_with fail
    go_ret
    refine ⟨rfl, ?_, ?_⟩
    · exact (Hf1.out.mono (fun _ _ h => .inr h)).setCell (fun _ => .inl rfl) _
    · have e1 := blk_set (i := 3) (v := .bool (!(s.nx d.src).2.1)) (Hf1.out.blk H.out.at_ H.out.apart)
      refine ⟨e1, ?_, H.out.ok, H.out.apart⟩
      exact s.keep _ _ _ (fun k => k = g) Hi1.out (Fr.setOne (Fr.refl _ _) _ _) (fun k hk e => H.out.apart (by rw [← e]; exact hk))

theorem dnext_same {S : Type} (nx : S → Int × Bool × S) (d : RD S) : (d.next nx).2 = ⟨(d.next nx).2.src, d.rng, d.code, (d.next nx).2.bad⟩ := by
  unfold RD.next
  by_cases h : d.bad = true
  · rw [if_pos h]
  · rw [if_neg h]
theorem dnext_any' {S : Type} (s : Sour S) (g : Nat) (d : RD S) (w : World) (h : DecIs s g w d) :
    Calls Try.prog 46 #[.pointer (some ⟨g, 0, none⟩)] w fun e w' => e = .returned (.int .u8 (d.next s.nx).1) ∧ Fr (decFoot s g) w w' ∧ DecIs s g w' ⟨(d.next s.nx).2.src, d.rng, d.code, (d.next s.nx).2.bad⟩ := by
  have := dnext_any s g d w h
  rw [dnext_same] at this
  exact this
theorem RD.next_byte {S : Type} (s : Sour S) (d : RD S) : 0 ≤ (d.next s.nx).1 ∧ (d.next s.nx).1 < 256 := by
  unfold RD.next
  by_cases h : d.bad = true
  · rw [if_pos h]; show (0 : Int) ≤ 0 ∧ (0 : Int) < 256; omega
  · rw [if_neg h]; exact s.byte d.src
theorem nat_or_low (a x k : Nat) (h : x < 2 ^ k) : a * 2 ^ k ||| x = a * 2 ^ k + x := by
  rw [Nat.mul_comm, Nat.two_pow_add_eq_or_of_lt h]
theorem or_byte (c x : Int) (_hc0 : 0 ≤ c) (hx0 : 0 ≤ x) (hx1 : x < 256) : bits BinOp.or IntKind.u32 (IntKind.u32.wrap (c * 256)) (IntKind.u32.wrap x) = c * 256 % 4294967296 + x := by
  rw [IntKind.wrap_u32', IntKind.wrap_u32', Int.emod_eq_of_lt hx0 (by omega), u32_or _ _ (by omega) (by omega) hx0 (by omega)]
  have e : (c * 256 % 4294967296).toNat = (c % 16777216).toNat * 2 ^ 8 := by omega
  rw [e, nat_or_low _ _ 8 (by omega)]
  omega
def DPost {S : Type} (s : Sour S) (g : Nat) (w : World) (v : Value) (d' : RD S) (e : Ending) (w' : World) : Prop :=
  e = .returned v ∧ Fr (decFoot s g) w w' ∧ DecIs s g w' d'
theorem RD.level_lt {S : Type} (nx : S → Int × Bool × S) (d : RD S) (h : d.rng < 16777216) : d.level nx = ⟨(d.next nx).2.src, d.rng * 256, d.code * 256 % 4294967296 + (d.next nx).1, (d.next nx).2.bad⟩ := if_pos h
theorem RD.level_ge {S : Type} (nx : S → Int × Bool × S) (d : RD S) (h : ¬ d.rng < 16777216) : d.level nx = d := if_neg h
theorem RD.next_rng {S : Type} (nx : S → Int × Bool × S) (d : RD S) (r : Int) : RD.next nx ⟨d.src, r, d.code, d.bad⟩ = ((d.next nx).1, ⟨(d.next nx).2.src, r, d.code, (d.next nx).2.bad⟩) := by
  unfold RD.next
  by_cases h : d.bad = true
  · rw [if_pos h, if_pos h]
  · rw [if_neg h, if_neg h]
theorem DecIs.set {S : Type} {s : Sour S} {g : Nat} {w : World} {d d' : RD S} (h : DecIs s g w d) (i : Nat) (v : Value)
    (hc : (#[.iface s.ty s.val, .int .u32 d.rng, .int .u32 d.code, .bool d.bad] : Array Value).setIfInBounds i v = #[.iface s.ty s.val, .int .u32 d'.rng, .int .u32 d'.code, .bool d'.bad]) (hs : d'.src = d.src) (ho : d'.Ok) :
    DecIs s g (w.setCell ⟨g, i, none⟩ v) d' := by
  refine ⟨?_, ?_, ho, h.apart⟩
  · have := blk_set (i := i) (v := v) h.at_
    rw [hc] at this
    exact this
  · rw [hs]
    exact s.keep _ _ _ (fun k => k = g) h.src (Fr.setOne (Fr.refl _ _) _ _) (fun k hk e => h.apart (by rw [← e]; exact hk))
theorem DecIs.drew {S : Type} {s : Sour S} {g : Nat} {w : World} {d : RD S} (h : DecIs s g w d) : DecIs s g w.drew d := h.keep (Fr.refl Non _).drew (fun _ _ e => e)
theorem DecIs.drewN {S : Type} {s : Sour S} {g : Nat} {w : World} {d : RD S} (h : DecIs s g w d) (n : Nat) : DecIs s g (w.drewN n) d := h.keep ((Fr.refl Non _).drewN n) (fun _ _ e => e)

set_option maxRecDepth 100000 in
theorem dlevel_any {S : Type} (s : Sour S) (g : Nat) (d : RD S) (w : World) (h : DecIs s g w d) :
    Calls Try.prog 52 #[.pointer (some ⟨g, 0, none⟩)] w (DPost s g w (.tuple #[]) (d.level s.nx)) := by
  have c1 := blk_cell h.at_ (j := 1) (v := .int .u32 d.rng) rfl
  have c2 := blk_cell h.at_ (j := 2) (v := .int .u32 d.code) rfl
  have f1 := blk_frozen h.at_ 1
  have f2 := blk_frozen h.at_ 2
  obtain ⟨o1, o2, o3, o4⟩ := h.ok
  have H := hid h
  clear h
  by_cases hr : d.rng < 16777216
  · obtain ⟨x, hx⟩ : ∃ x, x = (d.next s.nx).1 := ⟨_, rfl⟩
    have hb0 : 0 ≤ x := by rw [hx]; exact (RD.next_byte s d).1
    have hb1 : x < 256 := by rw [hx]; exact (RD.next_byte s d).2
    have HX := hid hx
    clear hx
    have HE := hid (H.out.set (d' := ⟨d.src, d.rng * 256, d.code, d.bad⟩) 1 (.int .u32 (d.rng * 256)) rfl rfl ⟨by show 0 ≤ d.rng * 256; omega, by show d.rng * 256 < _; omega, o3, o4⟩)
    have hcall : ∀ w0, DecIs s g w0 ⟨d.src, d.rng * 256, d.code, d.bad⟩ → Calls Try.prog 46 #[.pointer (some ⟨g, 0, none⟩)] w0 (DPost s g w0 (.int .u8 x) ⟨(d.next s.nx).2.src, d.rng * 256, d.code, (d.next s.nx).2.bad⟩) := fun w0 h0 => by
      have := dnext_any' s g ⟨d.src, d.rng * 256, d.code, d.bad⟩ w0 h0
      rw [RD.next_rng s.nx d, ← HX.out] at this
      exact this
    have HC := hid hcall
    clear hcall
    go_enter Try.func52, Try.ntmps52
    go_wp2
    go_region_with (go_at_call 46; refine (HC.out _ (by first | exact HE.out.drew | exact HE.out)).mono ?_; rintro e w1 ⟨rfl, hf1, hd1⟩; have c2n := blk_cell hd1.at_ (j := 2) (v := .int .u32 d.code) rfl; have f2n := blk_frozen hd1.at_ 2)
    all_goals
      have HF := hid hf1
      have HD := hid hd1
      clear hf1 hd1
      go_wp2_with fail
      go_end0
      refine ⟨rfl, ?_, ?_⟩
      · refine Fr.setCell (Fr.then (S := decFoot s g) ?_ HF.out (fun _ _ h => h)) (fun _ => .inl rfl) _
        repeat (first | exact Fr.refl _ _ | refine Fr.drewN ?_ _ | refine Fr.drew ?_ | refine Fr.setCell ?_ (fun _ => .inl rfl) _)
      · rw [RD.level_lt _ _ hr, or_byte _ _ o3 hb0 hb1, ← HX.out]
        exact HD.out.set 2 _ rfl rfl ⟨HD.out.ok.1, HD.out.ok.2.1, by show 0 ≤ d.code * 256 % 4294967296 + x; omega, by show d.code * 256 % 4294967296 + x < _; omega⟩
  · go_enter Try.func52, Try.ntmps52
    go_wp2
    go_end0
    rw [RD.level_ge s.nx d (by omega)]
    exact ⟨rfl, Fr.refl _ _, H.out⟩
end Go.Proofs.Ytomjagibcdneiaa
