/- The walk through DeltaFlows. -/
import Derived.Test.YtkahjjmjbcjaaaaFlowD2
namespace Go.Proofs.Ytkahjjmjbcjaaaa
open Go.RowKit

theorem feedNew_any (w : World) (n : Nat) (f : Nat → Int) (hf : ∀ i, i < n → 0 ≤ f i ∧ f i < 256) (hn : n ≤ 1048576) (e : Ending) (w' : World) (h : NewFeedPost w n f e w') :
    ∃ g a' c', e = .returned (.pointer (some ⟨g, 0, none⟩)) ∧ Fr Non w w' ∧ (feed g a' n c' f hf).I w' 0 ∧ ∀ k, (feed g a' n c' f hf).foot k → w.heap.size ≤ k ∧ k < w'.heap.size := by
  obtain ⟨g, a', c', h1, h2, h3, h4, h5⟩ := h
  exact ⟨g, a', c', h1, h2, ⟨Nat.zero_le _, hn, h3, h4⟩, h5⟩
/-- a row of n integers in a block from lo on. -/
def RowUp (lo : Nat) (k : IntKind) (w : World) (a : Option Addr) (n : Nat) (f : Nat → Int) : Prop :=
  n = 0 ∨ ∃ b off, a = some ⟨b, off, none⟩ ∧ lo ≤ b ∧ ∀ i, i < n → w.cell? ⟨b, off + i, none⟩ = some (.int k (f i))
theorem RowUp.fr {lo : Nat} {k : IntKind} {w w' : World} {a : Option Addr} {n : Nat} {f : Nat → Int} {S : Nat → Prop} (h : RowUp lo k w a n f) (hf : Fr S w w') (hs : ∀ i, lo ≤ i → ¬ S i) : RowUp lo k w' a n f := by
  rcases h with h | ⟨b, off, h1, h2, h3⟩
  · exact .inl h
  · exact .inr ⟨b, off, h1, h2, fun i hi => hf.cell (h3 i hi) (hs b h2)⟩
theorem RowUp.at {lo : Nat} {k : IntKind} {w : World} {a : Option Addr} {n : Nat} {f : Nat → Int} (h : RowUp lo k w a n f) {i : Nat} (hi : i < n) :
    ∃ b off, a = some ⟨b, off, none⟩ ∧ lo ≤ b ∧ w.cell? ⟨b, off + i, none⟩ = some (.int k (f i)) := by
  rcases h with h | ⟨b, off, h1, h2, h3⟩
  · omega
  · exact ⟨b, off, h1, h2, h3 i hi⟩
theorem RowUp.ofOwn {lo : Nat} {k : IntKind} {e : TypeId} {w : World} {v : Value} {n : Nat} {f : Nat → Int} (h : Own w lo k e v ((List.range n).map f)) : ∃ a cap, v = .slice a n cap ∧ RowUp lo k w a n f := by
  obtain ⟨a, c, e1, _, _, h4⟩ := h.rowN (n := n) (by simp)
  refine ⟨a, c, e1, ?_⟩
  rcases h4 with h4 | ⟨b, off, h1, h2, h3⟩
  · exact .inl h4
  · refine .inr ⟨b, off, h1, (h.block b (by rw [e1, h1]; rfl)).1, fun i hi => ?_⟩
    rw [h3 i hi]
    simp [List.getD, hi]
theorem dnewF_I (ty : TypeId) (val : Value) (d : Nat) (x : Int) (hx : x = d) (w : World) (hd0 : 1 ≤ d) (hd1 : d ≤ 256) :
    Calls Try.prog 6 #[.iface ty val, .int .i64 x] w (DNewPost (.iface ty val) d w) := by
  subst hx
  exact dnewF_any ty val d w (by omega) (by omega)
theorem feedNx_more (f : Nat → Int) (n s : Nat) (h : s < n) : feedNx f n s = (f s % 256, true, s + 1) := if_pos h
theorem feedNx_end (f : Nat → Int) (n s : Nat) (h : ¬ s < n) : feedNx f n s = (0, false, s) := if_neg h

set_option maxRecDepth 100000 in
theorem deltaFlows_long (a : Option Addr) (n cap : Nat) (D M : Int) (w : World) (hn : 16384 < n) :
    Calls Try.prog 3 #[.slice a n cap, .int .u8 D, .int .u8 M] w fun e w' => e = .returned (.bool true) ∧ Fr Non w w' := by
  have h : (16384 : Int) < (n : Int) := by omega
  clear hn
  go_enter Try.func3, Try.ntmps3
  go_wp2_with (go_at_call 5; refine (awake_any _).mono ?_; rintro e w1 ⟨rfl, hf1⟩)
  go_ret
  exact ⟨rfl, hf1⟩

set_option maxRecDepth 100000 in
set_option maxHeartbeats 4000000 in
theorem deltaFlows_walk (a : Option Addr) (n cap D M : Nat) (f : Nat → Int) (w : World) (hn : n ≤ 16384) (hnc : n ≤ cap) (hnil : a = none → cap = 0) (hD1 : D ≤ 255) (hM1 : M ≤ 255)
    (h : RowIn w.heap.size .u8 w a n f) (hf : ∀ i, i < n → 0 ≤ f i ∧ f i < 256) :
    Calls Try.prog 3 #[.slice a n cap, .int .u8 D, .int .u8 M] w fun e w' => e = .returned (.bool true) ∧ Fr Non w w' := by
  have hn1 : ¬ (16384 : Int) < (n : Int) := by omega
  have H := hid h
  have Hf := hid hf
  have Hnil := hid hnil
  have hD2 : (D : Int) < 256 := by omega
  have hM2 : (M : Int) < 256 := by omega
  clear h hf hnil
  go_enter Try.func3, Try.ntmps3
  go_wp2_with fail
  refine (awake_any _).mono ?_
  rintro e w1 ⟨rfl, hf1⟩
  have s1 := hf1.size
  have F1 := hid hf1
  have H1 := hid (H.out.fr hf1 (fun _ _ => id) |>.mono s1)
  clear hf1
  go_wp2_with fail
  refine (newFeed_any a n cap f _ (by omega) hnc Hnil.out H1.out).mono ?_
  intro e w2 h2
  obtain ⟨fg, a', c', rfl, hf2, hi2, hl2⟩ := feedNew_any _ _ _ Hf.out (by omega) _ _ h2
  have s2 := hf2.size
  have F2 := hid (F1.out.trans hf2)
  have HI2 := hid hi2
  have HL2 := hid hl2
  clear h2 hf2 hi2 hl2
  go_wp2_with fail
  refine (dnewF_I 28 (.pointer (some ⟨fg, 0, none⟩)) (D + 1) _ (by omega) _ (by omega) (by omega)).mono ?_
  rintro e w3 ⟨g, rfl, hg0, hg1, hf3, hb3⟩
  have s3 := hf3.size
  have F3 := hid (F2.out.trans hf3)
  have HB3 := hid (show FiltIs (feed fg a' n c' f Hf.out) g (D + 1) 0 (fun _ => 0) false w3 0 from ⟨hb3, (feed fg a' n c' f Hf.out).keep _ _ _ Non HI2.out hf3 (fun _ _ e => e), fun e => by have := HL2.out g e; omega⟩)
  clear hf3 hb3 HI2
  go_wp2_with fail
  refine (refdecodeI _ (by omega) (by omega) a n cap f _ (by omega) (H.out.fr F3.out (fun _ _ => id) |>.mono F3.out.size) Hf.out).mono ?_
  rintro e w4 ⟨v, rfl, ho4, hf4⟩
  obtain ⟨av, cv, rfl, hu4⟩ := RowUp.ofOwn ho4
  have hdd : ((D : Int) + 1).toNat = D + 1 := by omega
  rw [hdd] at hu4
  have S4 := hid (show ∃ at_ fr, RingInv (dec13 f (D + 1)) (D + 1) 0 at_ fr ∧ FiltIs (feed fg a' n c' f Hf.out) g (D + 1) at_ fr false w4 0 ∧ RowUp w3.heap.size .u8 w4 av n (dec13 f (D + 1)) ∧ Fr Non w w4 from
    ⟨0, fun _ => 0, RingInv.start _ _ (by omega), ⟨hf4.blk HB3.out.1 id, (feed fg a' n c' f Hf.out).keep _ _ _ Non HB3.out.2.1 hf4 (fun _ _ e => e), HB3.out.2.2⟩, hu4, F3.out.trans hf4⟩)
  have hw1 := F1.out.size
  have hfoot : ∀ k, (k = g ∨ (feed fg a' n c' f Hf.out).foot k) → w.heap.size ≤ k ∧ k < w3.heap.size := by
    intro k hk
    rcases hk with rfl | hk
    · omega
    · have := HL2.out k hk; omega
  have HFT := hid hfoot
  clear hu4 ho4 hf4 HB3 HL2 hdd hfoot
  go_wp2_with fail
  go_loopw [12] (fun i wr => ∃ k : Nat, k ≤ n ∧ i = .int .i64 k ∧ ∃ at_ fr, RingInv (dec13 f (D + 1)) (D + 1) k at_ fr ∧ FiltIs (feed fg a' n c' f Hf.out) g (D + 1) at_ fr false wr k ∧ RowUp w3.heap.size .u8 wr av n (dec13 f (D + 1)) ∧ Fr Non w wr) (fun i _ => n - (intOf i).toNat)
  case atStart => exact ⟨0, Nat.zero_le _, rfl, S4.out⟩
  case round =>
    obtain ⟨k, hk, rfl, at_, fr, hinv, hfi, hup, hfr⟩ := hrel
    have HIN := hid hinv
    have HFI := hid hfi
    have HUP := hid hup
    have HFR := hid hfr
    clear hinv hfi hup hfr
    by_cases hlt : k < n
    · go_wp2_with fail
      refine (fnext_any _ g at_ (D + 1) fr _ k HIN.out.1 (by omega) HFI.out).mono ?_
      rintro e w5 ⟨hf5, h5⟩
      rw [show (feed fg a' n c' f Hf.out).nx k = (f k % 256, true, k + 1) from feedNx_more f n k hlt] at h5
      have hx : (f k % 256 + fr at_) % 256 = dec13 f (D + 1) k := by rw [HIN.out.old, dec13_eq f (D + 1) k (by omega)]; omega
      have hb := dec13_bd f (D + 1) k (by omega)
      obtain ⟨hb0, hb1⟩ := hb
      rcases h5 with ⟨_, rfl, h5⟩ | ⟨h5, _⟩
      · have h5' : FiltIs (feed fg a' n c' f Hf.out) g (D + 1) (nxt at_ (D + 1)) (upd fr at_ (dec13 f (D + 1) k)) false w5 (k + 1) := by rw [← hx]; exact h5
        dsimp only
        rw [hx]
        obtain ⟨b, off, rfl, hb3, hc⟩ := HUP.out.at hlt
        have hc5 := hf5.cell hc (fun e => by have := HFT.out b e; omega)
        have HF5 := hid hf5
        have H5 := hid h5'
        clear hf5 h5 h5' hx hc
        go_wp2_with fail
        go_roundw
        case rel =>
          refine ⟨k + 1, by omega, by go_num, nxt at_ (D + 1), _, HIN.out.step _ rfl, H5.out, HUP.out.fr HF5.out (fun i hi e => by have := HFT.out i e; omega), HFR.out.then HF5.out (fun i hi e => by have := HFT.out i e; omega)⟩
        case measure => simp [intOf]; omega
      · cases h5
    · have e : k = n := by omega
      subst e
      go_wp2_with fail
      have S6 := hid (show ∃ at_ fr o, at_ < D + 1 ∧ FiltIs (feed fg a' k c' f Hf.out) g (D + 1) at_ fr o wr k ∧ Fr Non w wr from ⟨at_, fr, false, HIN.out.1, HFI.out, HFR.out⟩)
      clear HIN HFI HUP HFR S4
      obtain ⟨m, hm⟩ : ∃ m : Nat, m = M % 5 := ⟨_, rfl⟩
      have hm5 : m < 5 := by omega
      have hmi : (M : Int) % 5 = (m : Int) := by omega
      have hmI : (m : Int) < 256 := by omega
      have hmw : IntKind.i64.wrap ((M : Int) % 5) = (m : Int) := by rw [IntKind.wrap_i64]; omega
      clear hm
      go_loopw [15] (fun i wr => ∃ j : Nat, j ≤ 1 + m ∧ i = .int .i64 j ∧ ∃ at_ fr o, at_ < D + 1 ∧ FiltIs (feed fg a' k c' f Hf.out) g (D + 1) at_ fr o wr k ∧ Fr Non w wr) (fun i _ => 1 + m - (intOf i).toNat)
      case atStart => exact ⟨0, by omega, rfl, S6.out⟩
      case round =>
        obtain ⟨j, hj, rfl, at_, fr, o, hat, hfi, hfr⟩ := hrel
        have HFI := hid hfi
        have HFR := hid hfr
        clear hfi hfr
        by_cases hlj : j < 1 + m
        · have hlj2 : (j : Int) < 1 + (m : Int) := by omega
          go_wp2_with fail
          refine (Calls.mono (R := fun e w5 => e = .returned (.tuple #[.int .u8 0, .bool false]) ∧ ∃ o', FiltIs (feed fg a' k c' f Hf.out) g (D + 1) at_ fr o' w5 k ∧ Fr Non w w5) ?_ ?_)
          · cases o with
            | true => exact (fnext_over _ g at_ (D + 1) fr _ k HFI.out).mono fun e w5 ⟨e1, e2⟩ => ⟨e1, true, by rw [← e2]; exact HFI.out, by rw [← e2]; exact HFR.out⟩
            | false =>
              refine (fnext_any _ g at_ (D + 1) fr _ k hat (by omega) HFI.out).mono ?_
              rintro e w5 ⟨hf5, h5⟩
              rw [show (feed fg a' k c' f Hf.out).nx k = (0, false, k) from feedNx_end f k k (by omega)] at h5
              rcases h5 with ⟨h5, _⟩ | ⟨_, rfl, h5⟩
              · cases h5
              · exact ⟨rfl, true, h5, HFR.out.then hf5 (fun i hi e => by have := HFT.out i e; omega)⟩
          · rintro e w5 ⟨rfl, o', h5, hfr5⟩
            have H5 := hid h5
            have HFR5 := hid hfr5
            clear h5 hfr5
            go_wp2_with fail
            go_roundw
            case rel => exact ⟨j + 1, by omega, by go_num, at_, fr, o', hat, H5.out, HFR5.out⟩
            case measure => simp [intOf]; omega
        · have e : j = 1 + m := by omega
          have hlj2 : ¬ (j : Int) < 1 + (m : Int) := by omega
          go_wp2_with fail
          refine (newFeed_any a k cap f _ (by omega) hnc Hnil.out (H.out.fr HFR.out (fun _ _ => id) |>.mono HFR.out.size)).mono ?_
          rintro e w6 ⟨g6, a6, c6, rfl, hf6, -, -, -⟩
          have F6 := hid (HFR.out.trans hf6)
          clear hf6
          go_wp2_with fail
          refine (dnewF_no _ 0 _ (by omega) (by omega) (by omega)).mono ?_
          rintro e w7 ⟨rfl, rfl⟩
          go_wp2_with fail
          refine (newFeed_any a k cap f _ (by omega) hnc Hnil.out (H.out.fr F6.out (fun _ _ => id) |>.mono F6.out.size)).mono ?_
          rintro e w8 ⟨g8, a8, c8, rfl, hf8, -, -, -⟩
          have F8 := hid (F6.out.trans hf8)
          clear hf8
          go_wp2_with fail
          refine (dnewF_no _ 257 _ (by omega) (by omega) (by omega)).mono ?_
          rintro e w9 ⟨rfl, rfl⟩
          go_wp2_with fail
          go_ret
          exact ⟨rfl, F8.out⟩
end Go.Proofs.Ytkahjjmjbcjaaaa
