/- bcj: all. -/
import Derived.Test.YtkahjjmjbcjaaaaBcj4
import Derived.Test.YtkahjjmjbcjaaaaLay
namespace Go.Proofs.Ytkahjjmjbcjaaaa
open Go.RowKit

theorem info_u8b : (Try.prog.info? 5).map (fun i => (i.zero, i.size, i.bytes)) = some (some (.int .u8 0), 1, 1) := by kernel_rfl
theorem size_u8b : (Try.prog.info? 5).map (·.size) = some 1 := by kernel_rfl

/-- what is left of a list's going through, from place i on. -/
def runB (n : Nat) : Nat → Nat → BW → (Nat → Int) → (Nat → Int)
  | 0, _, _, F => F
  | k + 1, i, b, F => if i + 4 < n then runB n k (i + (b.pass (fun j => F (i + j))).2.2) (b.pass (fun j => F (i + j))).1 (lay F i 5 (b.pass (fun j => F (i + j))).2.1) else F
def allB (code : Bool) (n : Nat) (F : Nat → Int) : Nat → Int := runB n n 0 ⟨0, 0, 0, code⟩ F
def BW.ok (b : BW) : Prop := b.mask < 8 ∧ b.gap ≤ 4 ∧ 0 ≤ b.place ∧ b.place < 4294967296
theorem put4_range {f : Nat → Int} {t : Int} {i : Nat} (hx : 0 ≤ f i ∧ f i < 256) : 0 ≤ put4 f t i ∧ put4 f t i < 256 := by
  unfold put4 upd
  by_cases h4 : i = 4
  · rw [if_pos h4]; omega
  · rw [if_neg h4]
    by_cases h3 : i = 3
    · rw [if_pos h3]; omega
    · rw [if_neg h3]
      by_cases h2 : i = 2
      · rw [if_pos h2]; omega
      · rw [if_neg h2]
        by_cases h1 : i = 1
        · rw [if_pos h1]; omega
        · rw [if_neg h1]; exact hx
theorem meet_range {b : BW} {f : Nat → Int} {i : Nat} (hx : 0 ≤ f i ∧ f i < 256) : 0 ≤ (b.meet f).2.1 i ∧ (b.meet f).2.1 i < 256 := by
  unfold BW.meet
  by_cases h : noTurn (shiftM b.gap b.mask) f = true
  · rw [if_pos h]; exact hx
  · rw [if_neg h]; exact put4_range hx
theorem pass_inv {b : BW} {f : Nat → Int} (h : b.ok) : (b.pass f).1.ok ∧ ((b.pass f).2.2 = 1 ∨ (b.pass f).2.2 = 5) ∧ ∀ i, 0 ≤ f i ∧ f i < 256 → 0 ≤ (b.pass f).2.1 i ∧ (b.pass f).2.1 i < 256 := by
  obtain ⟨h1, h2, h3, h4⟩ := h
  obtain ⟨m1, m2, m3, m4⟩ := meet_place b.up f
  unfold BW.pass
  by_cases hc : isCall (f 0) = true
  · rw [if_pos hc]
    by_cases hr : (b.up.meet f).2.2 = true
    · rw [if_pos hr]
      exact ⟨⟨m3, Nat.le_refl 4, by show 0 ≤ (b.place + 5) % 4294967296; omega, by show (b.place + 5) % 4294967296 < _; omega⟩, .inr rfl, fun i hi => meet_range hi⟩
    · rw [if_neg hr]
      exact ⟨⟨m3, by show (b.up.meet f).1.gap ≤ 4; omega, by show 0 ≤ (b.place + 1) % 4294967296; omega, by show (b.place + 1) % 4294967296 < _; omega⟩, .inl rfl, fun i hi => meet_range hi⟩
  · rw [if_neg hc]
    exact ⟨⟨h1, by show min _ 4 ≤ 4; omega, by show 0 ≤ (b.place + 1) % 4294967296; omega, by show (b.place + 1) % 4294967296 < _; omega⟩, .inl rfl, fun i hi => hi⟩
theorem runB_step {n k i : Nat} {b : BW} {F : Nat → Int} (h : i + 4 < n) (hk : n ≤ i + k) :
    ∃ k', n ≤ i + 1 + k' ∧ runB n k i b F = runB n k' (i + (b.pass (fun j => F (i + j))).2.2) (b.pass (fun j => F (i + j))).1 (lay F i 5 (b.pass (fun j => F (i + j))).2.1) := by
  cases k with
  | zero => omega
  | succ k => exact ⟨k, by omega, if_pos h⟩
theorem runB_end {n k i : Nat} {b : BW} {F : Nat → Int} (h : ¬ i + 4 < n) : runB n k i b F = F := by
  cases k with
  | zero => rfl
  | succ k => exact if_neg h
theorem lay_range {F f : Nat → Int} {i : Nat} {n : Nat} (hF : ∀ j, j < n → 0 ≤ F j ∧ F j < 256) (hf : ∀ j, j < 5 → 0 ≤ f j ∧ f j < 256) : ∀ j, j < n → 0 ≤ lay F i 5 f j ∧ lay F i 5 f j < 256 := by
  intro j hj
  unfold lay
  by_cases h : i ≤ j ∧ j < i + 5
  · rw [if_pos h]; exact hf _ (by omega)
  · rw [if_neg h]; exact hF j hj

theorem zero5 : arr .u8 5 (fun _ => 0) = #[.int .u8 0, .int .u8 0, .int .u8 0, .int .u8 0, .int .u8 0] := by kernel_rfl
theorem w64 (n : Int) (h : -9223372036854775808 ≤ n ∧ n ≤ 9223372036854775807) : wrap64 n = n := by unfold wrap64; omega
theorem all_measure {n i s : Nat} (h : i + 4 < n) (hs : s = 1 ∨ s = 5) : n - (intOf (Value.int .i64 ((i + s : Nat) : Int))).toNat < n - (intOf (Value.int .i64 (i : Int))).toNat := by
  show n - ((i + s : Nat) : Int).toNat < n - ((i : Nat) : Int).toNat
  simp only [Int.toNat_natCast]
  omega
def AllPost (w : World) (n : Nat) (F : Nat → Int) (e : Ending) (w' : World) : Prop :=
  ∃ v, e = .returned v ∧ Own w' w.heap.size .u8 5 v ((List.range n).map F) ∧ Fr Non w w'
theorem append_fr {w w2 : World} {e : TypeId} (h : (w.alloc (.cells #[] e)).grownBy w2 (Value.slice (some ⟨w.heap.size, 0, none⟩) 0 0).ownBlock) : Fr Non w w2 := clone_fr h
theorem fr_all {w wr w4 w5 w6 : World} {o : Obj} {gw g : Nat} (h0 : Fr Non w wr) (h1 : Fr (fun k => k = wr.heap.size) (wr.alloc o).drew w4) (h2 : Fr (fun k => k = gw ∨ k = wr.heap.size) w4 w5) (h3 : Fr (fun k => k = g) w5.drew w6) (h4 : w.heap.size ≤ gw) (h5 : w.heap.size ≤ wr.heap.size) (h6 : w.heap.size ≤ g) : Fr Non w w6 := by
  have f4 : Fr Non w w4 := Fr.then ((h0.alloc o).drew) h1 (fun i hi e => by have e' : i = wr.heap.size := e; omega)
  have f5 : Fr Non w w5 := Fr.then f4 h2 (fun i hi e => by rcases e with e | e <;> (have e' := e; omega))
  exact Fr.then (f5.drew) h3 (fun i hi e => by have e' : i = g := e; omega)
theorem all_step {n k i c2 g gw : Nat} {b : BW} {r : BW × (Nat → Int) × Nat} {F f : Nat → Int} {code : Bool} {w wr w4 w5 w6 : World} {o : Obj} (hlt : i + 4 < n) (hik : n ≤ i + k) (hok : b.ok) (hF : ∀ j, j < n → 0 ≤ F j ∧ F j < 256)
    (hrun : runB n k i b F = allB code n f) (hr : r = b.pass (fun j => F (i + j))) (hl6 : Lies w6 g 5 .u8 c2 n (lay F i 5 r.2.1)) (hb5 : BWAt w5 gw r.1) (h0 : Fr Non w wr) (h1 : Fr (fun k => k = wr.heap.size) (wr.alloc o).drew w4)
    (h2 : Fr (fun k => k = gw ∨ k = wr.heap.size) w4 w5) (h3 : Fr (fun k => k = g) w5.drew w6) (h4 : w.heap.size ≤ gw) (hg0 : w.heap.size ≤ g) (hg1 : g < gw) (hsz : gw + 1 ≤ wr.heap.size) :
    ∃ i' b' F' k', Value.int .i64 ((i + r.2.2 : Nat) : Int) = Value.int .i64 (i' : Nat) ∧ i' ≤ n ∧ n ≤ i' + k' ∧ BW.ok b' ∧ (∀ j, j < n → 0 ≤ F' j ∧ F' j < 256) ∧ runB n k' i' b' F' = allB code n f ∧ Lies w6 g 5 .u8 c2 n F' ∧ BWAt w6 gw b' ∧ Fr Non w w6 ∧ gw + 1 ≤ w6.heap.size := by
  obtain ⟨p1, p2, p3⟩ := pass_inv (f := fun j => F (i + j)) hok
  rw [← hr] at p1 p2 p3
  obtain ⟨k', hk', he⟩ := runB_step (b := b) (F := F) hlt hik
  rw [← hr] at he
  refine ⟨i + r.2.2, r.1, lay F i 5 r.2.1, k', rfl, by omega, by omega, p1, ?_, ?_, hl6, ?_, ?_, ?_⟩
  · exact lay_range hF (fun j hj => p3 j (hF _ (by omega)))
  · rw [← he]; exact hrun
  · exact h3.blk hb5 (fun e => by have e' : gw = g := e; omega)
  · exact fr_all h0 h1 h2 h3 h4 (by have := h0.size; omega) hg0
  · have s1 := h1.size
    have s2 := h2.size
    have s3 : w5.heap.size ≤ w6.heap.size := h3.size
    have s0 : (wr.alloc o).drew.heap.size = wr.heap.size + 1 := by simp
    omega
set_option maxRecDepth 100000 in
set_option maxHeartbeats 2000000 in
theorem all_any (a : Option Addr) (n c : Nat) (f : Nat → Int) (code : Bool) (w : World) (hn : n ≤ 1048576) (hnc : n ≤ c) (hnil : a = none → c = 0) (h : RowIn w.heap.size .u8 w a n f) (hf : ∀ i, i < n → 0 ≤ f i ∧ f i < 256) :
    Calls Try.prog 27 #[.slice a n c, .bool code] w (AllPost w n (allB code n f)) := by
  have H := hid h
  have Hf := hid hf
  have Hnil := hid hnil
  clear h hf hnil
  by_cases h5 : n < 5
  · go_enter Try.func27, Try.ntmps27
    go_wp2_with (refine opAppendRow (some 12) rfl rfl (.tmp 10) (.tmp 11) 22 rfl w.heap.size .u8 5 1 Try.underlying22 info_u8b (.slice (some ⟨w.heap.size, 0, none⟩) 0 0) [] rfl (Own.empty w _ .u8 5 (Nat.le_refl _)) w.heap.size a n c f rfl Hnil.out hnc (H.out.fr ((Fr.refl Non _).alloc _) (fun _ _ => id)) (by decide) (by simp; omega) (by simp) ?_; intro v2 w2 hown2 hg2; obtain ⟨a2, c2, hv2, h2a, h2b, hrow2⟩ := hown2.rowN (n := n) (by simp); subst hv2; have HO2 := hid hown2; have HF2 := hid (append_fr hg2); clear hown2 hg2 hrow2)
    go_loopw [7] (fun iv wr => iv = .int .i64 0 ∧ wr = w2.alloc (.cells #[.int .u32 0, .int .i64 0, .int .i64 0, .bool code] 56)) (fun _ _ => 0)
    case atStart => exact ⟨rfl, rfl⟩
    case round =>
      obtain ⟨rfl, rfl⟩ := hrel
      go_wp2_with fail
      go_ret
      refine ⟨_, rfl, ?_, HF2.out.alloc _⟩
      have e : allB code n f = f := runB_end (by omega)
      rw [e]
      exact HO2.out.alloc _
  · go_enter Try.func27, Try.ntmps27
    go_wp2_with (refine opAppendRow (some 12) rfl rfl (.tmp 10) (.tmp 11) 22 rfl w.heap.size .u8 5 1 Try.underlying22 info_u8b (.slice (some ⟨w.heap.size, 0, none⟩) 0 0) [] rfl (Own.empty w _ .u8 5 (Nat.le_refl _)) w.heap.size a n c f rfl Hnil.out hnc (H.out.fr ((Fr.refl Non _).alloc _) (fun _ _ => id)) (by decide) (by simp; omega) (by simp) ?_; intro v2 w2 hown2 hg2; have hb2 := hown2.block; obtain ⟨g, c2, hv2, hg0, hcm, hl2⟩ := hown2.lies (n := n) (by simp) (by omega); subst hv2; have HB2 := hid (hb2 g rfl); have HL2 := hid hl2; have HF2 := hid (append_fr hg2); clear hown2 hg2 hl2 hb2)
    go_loopw [7] (fun iv wr => ∃ (i : Nat) (b : BW) (F : Nat → Int) (k : Nat), iv = .int .i64 i ∧ i ≤ n ∧ n ≤ i + k ∧ b.ok ∧ (∀ j, j < n → 0 ≤ F j ∧ F j < 256) ∧ runB n k i b F = allB code n f ∧ Lies wr g 5 .u8 c2 n F ∧ BWAt wr w2.heap.size b ∧ Fr Non w wr ∧ w2.heap.size + 1 ≤ wr.heap.size) (fun iv _ => n - (intOf iv).toNat)
    case atStart =>
      refine ⟨0, ⟨0, 0, 0, code⟩, f, n, rfl, by omega, by omega, ⟨Nat.zero_lt_succ 7, Nat.zero_le 4, Int.le_refl 0, (by decide : (0:Int) < 4294967296)⟩, Hf.out, rfl, ?_, blk_new _ _, HF2.out.alloc _, by simp⟩
      refine (HL2.out.fr ((Fr.refl Non _).alloc _) id).ext fun i hi => ?_
      simp [lit, hi]
    case round =>
      obtain ⟨i, b, F, k, rfl, hin, hik, hok, hF, hrun, hl, hbw, hfr, hsz⟩ := hrel
      by_cases hlt : i + 4 < n
      · have hcap : ¬ (c2 = i) := by have := HB2.out; obtain ⟨cur, q1, q2, q3, q4⟩ := hl; omega
        have hic : i ≤ c2 := by obtain ⟨cur, q1, q2, q3, q4⟩ := hl; omega
        have HF := hid hF
        have HL := hid hl
        have HBW := hid hbw
        have HFR := hid hfr
        have HRUN := hid hrun
        have HOK := hid hok
        clear hF hl hbw hfr hrun hok
        have HL5 : Lies (wr.alloc (.cells #[.int .u8 0, .int .u8 0, .int .u8 0, .int .u8 0, .int .u8 0] 57)) wr.heap.size 57 .u8 5 5 (fun _ => 0) := by
          refine Lies.ofArr ?_
          rw [zero5]
          exact blk_new _ _
        have HL6 : Lies (wr.alloc (.cells #[.int .u8 0, .int .u8 0, .int .u8 0, .int .u8 0, .int .u8 0] 57)) g 5 .u8 c2 n F := HL.out.fr ((Fr.refl Non _).alloc _) id
        have HL5 := hid HL5
        have HL6 := hid HL6
        go_wp2_with fail
        go_region_law (refine step_copy_lay rfl (.tmp 21) (.tmp 24) 22 22 rfl 5 57 Try.underlying22 size_u8b wr.heap.size 0 5 5 g i (n - i) (c2 - i) rfl rfl .u8 5 5 (fun _ => 0) (by exact HL5.out) 5 (by show 5 = min (n - i) 5; omega) (fun j => F (i + j)) (fun j hj => HL6.out.cell (by omega)) (by decide) ?_; intro w4 hf4 hl4; have HF4 := hid hf4; have HL4 := hid hl4; clear hf4 hl4)
        all_goals (
          have hb4 : BWAt w4 w2.heap.size b := HF4.out.blk (blk_alloc HBW.out) (by omega)
          have hl4 : w4.heap[wr.heap.size]? = some (.cells (arr .u8 5 (fun j => F (i + j))) 57) := (HL4.out.ext (fun j hj => by show (if 0 ≤ j ∧ j < 0 + 5 then _ else _) = _; rw [if_pos (by omega)]; rfl)).arr
          have hg4 : Lies w4 g 5 .u8 c2 n F := Lies.fr (by exact HL6.out) HF4.out (fun e => by have e' : g = wr.heap.size := e; have := HB2.out; omega)
          have HB4 := hid hb4
          have HA4 := hid hl4
          have HG4 := hid hg4
          clear hb4 hl4 hg4
          go_wp2_with fail
          refine (pass_any w2.heap.size wr.heap.size b (fun j => F (i + j)) 57 w4 (by omega) HOK.out.1 HOK.out.2.1 HOK.out.2.2 HB4.out HA4.out (fun j hj => HF.out _ (by omega))).mono ?_
          rintro e w5 ⟨rfl, hf5, hb5, ha5⟩
          have hg5 : Lies w5 g 5 .u8 c2 n F := HG4.out.fr hf5 (fun e => by have := HB2.out; rcases e with e | e <;> (have e' := e; omega))
          have hl5 := Lies.ofArr ha5
          have HF5 := hid hf5
          have HB5 := hid hb5
          have HL5 := hid hl5
          have HG5 := hid hg5
          obtain ⟨r, hr⟩ : ∃ r, r = b.pass (fun j => F (i + j)) := ⟨_, rfl⟩
          have HR := hid hr
          rw [← hr] at HB5 HL5
          rw [← hr]
          clear hf5 hb5 ha5 hg5 hl5 hr
          go_wp2_with fail
          go_region_law (refine step_copy_lay rfl (.tmp 30) (.tmp 31) 22 22 rfl 5 5 Try.underlying22 size_u8b g i (n - i) (c2 - i) wr.heap.size 0 5 5 rfl rfl .u8 c2 n F (by exact HG5.out) 5 (by show 5 = min 5 (n - i); omega) r.2.1 (fun j hj => by rw [Nat.zero_add]; exact HL5.out.cell hj) (by omega) ?_; intro w6 hf6 hl6; have HF6 := hid hf6; have HL6 := hid hl6; clear hf6 hl6)
          all_goals go_wp2_with fail
          all_goals (
            obtain ⟨p1, p2, p3⟩ := pass_inv (f := fun j => F (i + j)) HOK.out
            rw [← HR.out] at p1 p2 p3
            have hw64 : wrap64 ((i : Int) + (r.2.2 : Int)) = ((i + r.2.2 : Nat) : Int) := by
              rw [w64 _ (by omega)]; omega
            rw [hw64]
            go_roundw
            case rel =>
              exact all_step hlt hik HOK.out HF.out HRUN.out HR.out HL6.out HB5.out HFR.out HF4.out HF5.out HF6.out HF2.out.size HB2.out.1 HB2.out.2 (by omega)
            case measure => exact all_measure hlt p2))
      · have HL := hid hl
        have HFR := hid hfr
        have HRUN := hid hrun
        clear hF hl hbw hfr hrun hok
        go_wp2_with fail
        go_ret
        refine ⟨_, rfl, ?_, HFR.out⟩
        have e := HRUN.out
        rw [runB_end hlt] at e
        rw [← e]
        exact HL.out.own hg0 hcm
end Go.Proofs.Ytkahjjmjbcjaaaa
