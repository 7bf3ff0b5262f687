/- bcj's reference: the small functions. -/
import Derived.Test.YtkahjjmjbcjaaaaBcj8
namespace Go.Proofs.Ytkahjjmjbcjaaaa
open Go.RowKit

theorem redge_any (x : Int) (w : World) : Calls Try.prog 28 #[.int .u8 x] w fun e w' => e = .returned (.bool (edgeB x)) ∧ w' = w := by
  unfold edgeB
  cases h0 : (x == 0) with
  | true =>
    go_enter Try.func28, Try.ntmps28
    go_wp2
    go_ret
    exact ⟨rfl, rfl⟩
  | false =>
    go_enter Try.func28, Try.ntmps28
    go_wp2
    go_ret
    exact ⟨rfl, rfl⟩
theorem rbit_1 (w : World) : Calls Try.prog 29 #[.int .i64 1] w fun e w' => e = .returned (.int .i64 1) ∧ w' = w := by
  go_enter Try.func29, Try.ntmps29
  go_wp2
  go_ret
  exact ⟨rfl, rfl⟩
theorem rbit_2 (w : World) : Calls Try.prog 29 #[.int .i64 2] w fun e w' => e = .returned (.int .i64 2) ∧ w' = w := by
  go_enter Try.func29, Try.ntmps29
  go_wp2
  go_ret
  exact ⟨rfl, rfl⟩
theorem rbit_4 (w : World) : Calls Try.prog 29 #[.int .i64 4] w fun e w' => e = .returned (.int .i64 3) ∧ w' = w := by
  go_enter Try.func29, Try.ntmps29
  go_wp2
  go_ret
  exact ⟨rfl, rfl⟩
theorem wrapped_any (v : Int) (h0 : -1152921504606846976 ≤ v) (h1 : v ≤ 1152921504606846976) (w : World) :
    Calls Try.prog 30 #[.int .i64 v] w fun e w' => e = .returned (.int .i64 (v % 4294967296)) ∧ w' = w := by
  by_cases hv : 0 ≤ v
  · go_enter Try.func30, Try.ntmps30
    go_wp2
    go_ret
    exact ⟨rfl, rfl⟩
  · have e : v.tmod 4294967296 = -((-v) % 4294967296) := by
      have : v = -(-v) := by omega
      rw [this, Int.neg_tmod, Int.tmod_eq_emod_of_nonneg (by omega)]
      simp
    by_cases hz : (-v) % 4294967296 = 0
    · have e2 : v.tmod 4294967296 = 0 := by rw [e, hz]; rfl
      go_enter Try.func30, Try.ntmps30
      go_wp2
      go_ret
      exact ⟨by rw [show v % 4294967296 = 0 by omega]; rfl, rfl⟩
    · have e2 : v.tmod 4294967296 = -((-v) % 4294967296) := e
      go_enter Try.func30, Try.ntmps30
      go_wp2
      go_ret
      exact ⟨by rw [show v % 4294967296 = -(-v % 4294967296) + 4294967296 by omega]; rfl, rfl⟩

/-- where the reference stands: at place i, the last instruction at last. -/
def RefAt (n i m : Nat) (last : Int) (b : BW) : Prop := i ≤ n ∧ -1 ≤ last ∧ last < i ∧ b.ok ∧ b.mask = m ∧ b.place = i ∧ (b.gap : Int) = min ((i : Int) - last - 1) 4
def Left (w wr : World) (g c2 n i k : Nat) (b : BW) (code : Bool) (F f : Nat → Int) : Prop :=
  n ≤ i + k ∧ b.code = code ∧ (∀ j, j < n → 0 ≤ F j ∧ F j < 256) ∧ runB n k i b F = allB code n f ∧ Lies wr g 5 .u8 c2 n F ∧ Fr Non w wr
def signOf (code : Bool) : Int := if code then 1 else -1

theorem ref_plain {w wr : World} {g c2 n i m k : Nat} {last : Int} {b : BW} {code : Bool} {F f : Nat → Int} (hn : n ≤ 1048576) (hat : RefAt n i m last b) (hl : Left w wr g c2 n i k b code F f) (hlt : i + 4 < n) (hc : isCall (F i) = false) :
    ∃ (i' m' : Nat) (last' : Int) (b' : BW) (F' : Nat → Int) (k' : Nat), Value.int .i64 (m : Int) = .int .i64 m' ∧ Value.int .i64 last = .int .i64 last' ∧ Value.int .i64 ((i : Int) + 1) = .int .i64 i' ∧ RefAt n i' m' last' b' ∧ Left w wr g c2 n i' k' b' code F' f := by
  obtain ⟨q1, q2, q3, q4, q5, q6, q7⟩ := hat
  obtain ⟨r1, r2, r3, r4, r5, r6⟩ := hl
  obtain ⟨k', hk', he⟩ := runB_step (b := b) (F := F) hlt r1
  have hp := pass_inv (f := fun j => F (i + j)) q4
  rw [pass_plain (f := fun j => F (i + j)) hc] at he hp
  dsimp only at he hp
  rw [lay_same] at he
  refine ⟨i + 1, m, last, _, F, k', rfl, rfl, rfl, ⟨by omega, q2, by omega, hp.1, q5, ?_, ?_⟩, hk', r2, r3, he.symm.trans r4, r5, r6⟩
  · show (b.place + 1) % 4294967296 = ((i + 1 : Nat) : Int)
    rw [q6]; omega
  · show ((min (b.gap + 1) 4 : Nat) : Int) = _
    omega
theorem ref_no {w wr : World} {g c2 n i m k : Nat} {last : Int} {b : BW} {code : Bool} {F f : Nat → Int} (hn : n ≤ 1048576) (hat : RefAt n i m last b) (hl : Left w wr g c2 n i k b code F f) (hlt : i + 4 < n) (hc : isCall (F i) = true)
    (ht : noTurn (shiftM b.up.gap b.mask) (fun j => F (i + j)) = true) :
    ∃ (i' m' : Nat) (last' : Int) (b' : BW) (F' : Nat → Int) (k' : Nat), Value.int .i64 ((shiftM b.up.gap b.mask : Int) * 2 % 8 + 1) = .int .i64 m' ∧ Value.int .i64 (i : Int) = .int .i64 last' ∧ Value.int .i64 ((i : Int) + 1) = .int .i64 i' ∧ RefAt n i' m' last' b' ∧ Left w wr g c2 n i' k' b' code F' f := by
  obtain ⟨q1, q2, q3, q4, q5, q6, q7⟩ := hat
  obtain ⟨r1, r2, r3, r4, r5, r6⟩ := hl
  obtain ⟨k', hk', he⟩ := runB_step (b := b) (F := F) hlt r1
  have hp := pass_inv (f := fun j => F (i + j)) q4
  rw [pass_no (f := fun j => F (i + j)) hc ht] at he hp
  dsimp only at he hp
  rw [lay_same] at he
  refine ⟨i + 1, shiftM b.up.gap b.mask * 2 % 8 + 1, i, _, F, k', by congr 1, rfl, rfl, ⟨by omega, by omega, by omega, hp.1, rfl, ?_, ?_⟩, hk', r2, r3, he.symm.trans r4, r5, r6⟩
  · show (b.place + 1) % 4294967296 = ((i + 1 : Nat) : Int)
    rw [q6]; omega
  · show ((0 : Nat) : Int) = _
    omega
theorem ref_turn {w wr : World} {g c2 n i m k : Nat} {last : Int} {b : BW} {code : Bool} {F f F' : Nat → Int} {wr' : World} (hn : n ≤ 1048576) (hat : RefAt n i m last b) (hl : Left w wr g c2 n i k b code F f) (hlt : i + 4 < n) (hc : isCall (F i) = true)
    (ht : noTurn (shiftM b.up.gap b.mask) (fun j => F (i + j)) = false) (hF' : ∀ j, F' j = lay F i 5 (put4 (fun j => F (i + j)) ((⟨b.place, 0, shiftM b.up.gap b.mask, b.code⟩ : BW).turned (wordOf fun j => F (i + j)))) j) (hl' : Lies wr' g 5 .u8 c2 n F') (hfr : Fr Non w wr') :
    ∃ (i' m' : Nat) (last' : Int) (b' : BW) (F' : Nat → Int) (k' : Nat), Value.int .i64 (shiftM b.up.gap b.mask : Int) = .int .i64 m' ∧ Value.int .i64 (i : Int) = .int .i64 last' ∧ Value.int .i64 ((i : Int) + 5) = .int .i64 i' ∧ RefAt n i' m' last' b' ∧ Left w wr' g c2 n i' k' b' code F' f := by
  obtain ⟨q1, q2, q3, q4, q5, q6, q7⟩ := hat
  obtain ⟨r1, r2, r3, r4, r5, r6⟩ := hl
  obtain ⟨k', hk', he⟩ := runB_step (b := b) (F := F) hlt r1
  have hp := pass_inv (f := fun j => F (i + j)) q4
  rw [pass_turn (f := fun j => F (i + j)) hc ht] at he hp
  dsimp only at he hp
  have hFe : F' = lay F i 5 (put4 (fun j => F (i + j)) ((⟨b.place, 0, shiftM b.up.gap b.mask, b.code⟩ : BW).turned (wordOf fun j => F (i + j)))) := funext hF'
  refine ⟨i + 5, shiftM b.up.gap b.mask, i, _, F', k', rfl, rfl, rfl, ⟨by omega, by omega, by omega, hp.1, rfl, ?_, ?_⟩, by omega, r2, ?_, ?_, hl', hfr⟩
  · show (b.place + 5) % 4294967296 = ((i + 5 : Nat) : Int)
    rw [q6]; omega
  · show ((4 : Nat) : Int) = _
    omega
  · rw [hFe]
    exact lay_range r3 (fun j hj => hp.2.2 j (r3 _ (by omega)))
  · rw [hFe]; exact he.symm.trans r4
theorem ref_mask_far {n i m : Nat} {last : Int} {b : BW} (hat : RefAt n i m last b) (h : (3 : Int) < (i : Int) - last) : shiftM b.up.gap b.mask = 0 := by
  obtain ⟨q1, q2, q3, q4, q5, q6, q7⟩ := hat
  have : 3 < b.up.gap := by show 3 < min (b.gap + 1) 4; omega
  exact if_pos this
theorem ref_mask_near {n i m : Nat} {last : Int} {b : BW} (hat : RefAt n i m last b) (h : ¬ (3 : Int) < (i : Int) - last) : ∃ d : Nat, (i : Int) - last = d ∧ 1 ≤ d ∧ d ≤ 3 ∧ shiftM b.up.gap b.mask = m * 2 ^ (d - 1) % 8 := by
  obtain ⟨q1, q2, q3, q4, q5, q6, q7⟩ := hat
  have hu : b.up.gap = min (b.gap + 1) 4 := rfl
  refine ⟨b.up.gap, by omega, by omega, by omega, ?_⟩
  rw [← q5]
  exact if_neg (by omega)
theorem ref_mask_step {m k M : Nat} (hk : 1 ≤ k) (h : M = m * 2 ^ (k - 1)) : M * 2 = m * 2 ^ (k + 1 - 1) := by
  have e : k + 1 - 1 = (k - 1) + 1 := by omega
  rw [e, Nat.pow_succ, h, Nat.mul_assoc]

theorem ref_target {n i m M : Nat} {last sg : Int} {b : BW} {code : Bool} (hat : RefAt n i m last b) (hc : b.code = code) (hsg : sg = signOf code) (s : Int) : (s + sg * ((i : Int) + 5)) % 4294967296 = (⟨b.place, 0, M, b.code⟩ : BW).target s := by
  obtain ⟨q1, q2, q3, q4, q5, q6, q7⟩ := hat
  unfold BW.target
  dsimp only
  rw [q6, hc, hsg]
  unfold signOf
  cases code with
  | true => rw [if_pos rfl, if_pos rfl]; congr 1; omega
  | false => rw [if_neg (by decide), if_neg (by decide)]; congr 1; omega
theorem Left.drewN {w wr : World} {g c2 n i k : Nat} {b : BW} {code : Bool} {F f : Nat → Int} (h : Left w wr g c2 n i k b code F f) (m : Nat) : Left w (wr.drewN m) g c2 n i k b code F f := by
  obtain ⟨r1, r2, r3, r4, r5, r6⟩ := h
  exact ⟨r1, r2, r3, r4, r5.drewN _, r6.drewN _⟩
theorem put_lay (F : Nat → Int) (i : Nat) (T x : Int) (hx : x = -(T / 16777216 % 2) % 256) (j : Nat) :
    upd (upd (upd (upd F (i + 1) (T % 256)) (i + 2) (T / 256 % 256)) (i + 3) (T / 65536 % 256)) (i + 4) x j = lay F i 5 (put4 (fun j => F (i + j)) T) j := by
  obtain ⟨p0, p1, p2, p3, p4⟩ := put4_at (fun j => F (i + j)) T
  unfold lay
  by_cases h : i ≤ j ∧ j < i + 5
  · rw [if_pos h]
    have h5 : j = i ∨ j = i + 1 ∨ j = i + 2 ∨ j = i + 3 ∨ j = i + 4 := by omega
    rcases h5 with e | e | e | e | e
    · subst e; rw [Nat.sub_self, p0]; simp [upd]
    · subst e; rw [show i + 1 - i = 1 by omega, p1]; simp [upd]
    · subst e; rw [show i + 2 - i = 2 by omega, p2]; simp [upd]
    · subst e; rw [show i + 3 - i = 3 by omega, p3]; simp [upd]
    · subst e; rw [show i + 4 - i = 4 by omega, p4, ← hx]; simp [upd]
  · rw [if_neg h]
    unfold upd
    rw [if_neg (by omega), if_neg (by omega), if_neg (by omega), if_neg (by omega)]
theorem upd_upd (F : Nat → Int) (i : Nat) (x y : Int) : upd (upd F i x) i y = upd F i y := by
  funext j
  unfold upd
  by_cases h : j = i
  · rw [if_pos h, if_pos h]
  · rw [if_neg h, if_neg h, if_neg h]

theorem lt_of_bools {x y : Bool} (hx : x = false) (hy : y = true) : (if x = true then 1 else 0 : Nat) < (if y = true then 1 else 0 : Nat) := by subst hx hy; decide

set_option maxRecDepth 100000 in
set_option maxHeartbeats 20000000 in
theorem through_any (a : Option Addr) (n c : Nat) (f : Nat → Int) (code : Bool) (w : World) (hn : n ≤ 1048576) (hnc : n ≤ c) (hnil : a = none → c = 0) (h : RowIn w.heap.size .u8 w a n f) (hf : ∀ i, i < n → 0 ≤ f i ∧ f i < 256) :
    Calls Try.prog 24 #[.slice a n c, .int .i64 (signOf code)] w (AllPost w n (allB code n f)) := by
  have H := hid h
  have Hf := hid hf
  have Hnil := hid hnil
  clear h hf hnil
  obtain ⟨sg, hsg⟩ : ∃ sg, sg = signOf code := ⟨_, rfl⟩
  rw [← hsg]
  have HSG := hid hsg
  clear hsg
  by_cases h5 : n < 5
  · go_enter Try.func24, Try.ntmps24
    go_wp2_with (refine opAppendRow (some 18) rfl rfl (.tmp 16) (.tmp 17) 22 rfl w.heap.size .u8 5 1 Try.underlying22 info_u8b (.slice (some ⟨w.heap.size, 0, none⟩) 0 0) [] rfl (Own.empty w _ .u8 5 (Nat.le_refl _)) w.heap.size a n c f rfl Hnil.out hnc (H.out.fr ((Fr.refl Non _).alloc _) (fun _ _ => id)) (by decide) (by simp; omega) (by simp) ?_; intro v2 w2 hown2 hg2; obtain ⟨a2, c2, hv2, h2a, h2b, hrow2⟩ := hown2.rowN (n := n) (by simp); subst hv2; have HO2 := hid hown2; have HF2 := hid (append_fr hg2); clear hown2 hg2 hrow2)
    go_loopw [6, 7, 8] (fun mv lv iv wr => iv = .int .i64 0 ∧ wr = w2) (fun _ _ _ _ => 0)
    case atStart => exact ⟨rfl, rfl⟩
    case round =>
      obtain ⟨rfl, rfl⟩ := hrel
      go_wp2_with fail
      go_ret
      refine ⟨_, rfl, ?_, HF2.out⟩
      have e : allB code n f = f := runB_end (by omega)
      rw [e]
      exact HO2.out
  · go_enter Try.func24, Try.ntmps24
    go_wp2_with (refine opAppendRow (some 18) rfl rfl (.tmp 16) (.tmp 17) 22 rfl w.heap.size .u8 5 1 Try.underlying22 info_u8b (.slice (some ⟨w.heap.size, 0, none⟩) 0 0) [] rfl (Own.empty w _ .u8 5 (Nat.le_refl _)) w.heap.size a n c f rfl Hnil.out hnc (H.out.fr ((Fr.refl Non _).alloc _) (fun _ _ => id)) (by decide) (by simp; omega) (by simp) ?_; intro v2 w2 hown2 hg2; have hb2 := hown2.block; obtain ⟨g, c2, hv2, hg0, hcm, hl2⟩ := hown2.lies (n := n) (by simp) (by omega); subst hv2; have HB2 := hid (hb2 g rfl); have HL2 := hid hl2; have HF2 := hid (append_fr hg2); clear hown2 hg2 hl2 hb2)
    go_loopw [6, 7, 8] (fun mv lv iv wr => ∃ (i m : Nat) (last : Int) (b : BW) (F : Nat → Int) (k : Nat), mv = .int .i64 m ∧ lv = .int .i64 last ∧ iv = .int .i64 i ∧ RefAt n i m last b ∧ Left w wr g c2 n i k b code F f) (fun _ _ iv _ => n - (intOf iv).toNat)
    case atStart =>
      refine ⟨0, 0, -1, ⟨0, 0, 0, code⟩, f, n, rfl, rfl, rfl, ⟨by omega, by omega, by omega, ⟨by show (0:Nat) < 8; decide, by show (0:Nat) ≤ 4; decide, by show (0:Int) ≤ 0; decide, by show (0:Int) < 4294967296; decide⟩, rfl, rfl, by show ((0:Nat):Int) = _; omega⟩, by omega, rfl, Hf.out, rfl, HL2.out.ext fun i hi => ?_, HF2.out⟩
      simp [lit, hi]
    case round =>
      obtain ⟨i, m, last, b, F, k, rfl, rfl, rfl, hat, hleft⟩ := hrel
      by_cases hlt : i + 4 < n
      · have hlt' : (i : Int) + 4 < (n : Int) := by omega
        have HA := hid hat
        have HL := hid hleft
        obtain ⟨q1, q2, q3, q4, q5, q6, q7⟩ := hat
        obtain ⟨r1, r2, r3, r4, r5, r6⟩ := hleft
        have d0 := r5.cell (i := i) (by omega)
        clear q4 q5 q6 q7 r1 r2 r3 r4 r5 r6
        have h0 : (0 : Int) ≤ (i : Int) := by omega
        have h1 : (i : Int) < (n : Int) := by omega
        cases hc : isCall (F i) with
        | false =>
          have hx' : (F i != 232) = true := by unfold isCall at hc; simp at hc ⊢; exact hc.1
          have hy' : (F i != 233) = true := by unfold isCall at hc; simp at hc ⊢; exact hc.2
          have HC := hid hc
          clear hc
          go_wp2_with fail
          go_roundw
          case rel => exact ref_plain hn HA.out HL.out hlt HC.out
          case measure => simp [intOf]; omega
        | true =>
          have hc2 : F i = 232 ∨ F i = 233 := by unfold isCall at hc; simpa using hc
          have HC := hid hc
          have HC2 := hid hc2
          clear hc hc2
          go_upto_region 6 with fail
          go_cut [35] (fun sv wx => sv = .bool false ∧ wx = wr)
          case first =>
            as_aux_lemma =>
              rcases HC2.out with e | e
              · rw [e] at d0
                go_wp2
                go_meet
                exact ⟨rfl, rfl⟩
              · rw [e] at d0
                go_wp2
                go_meet
                exact ⟨rfl, rfl⟩
          case rest =>
            as_aux_lemma =>
              obtain ⟨hsv, hwx⟩ := hcut
              subst hsv hwx
              go_upto_if 42 with fail
              go_cut [6] (fun mv wx => mv = .int .i64 (shiftM b.up.gap b.mask : Nat) ∧ wx = wc)
              case first =>
                as_aux_lemma =>
                  by_cases h3 : (3 : Int) < (i : Int) - last
                  · have H3 := hid h3
                    go_wp2
                    go_meet
                    exact ⟨by rw [ref_mask_far HA.out H3.out]; rfl, rfl⟩
                  · obtain ⟨d, hd, hd1, hd3, hs⟩ := ref_mask_near HA.out h3
                    have HS := hid hs
                    have HD := hid hd
                    clear hs hd
                    go_wp2
                    go_loopw [6, 10] (fun mv kv wr => ∃ k M : Nat, 1 ≤ k ∧ k ≤ d ∧ M = m * 2 ^ (k - 1) ∧ mv = .int .i64 M ∧ kv = .int .i64 k ∧ wr = wc) (fun _ kv _ => d - (intOf kv).toNat)
                    case atStart => exact ⟨1, m, by omega, by omega, by simp, rfl, rfl, rfl⟩
                    case round =>
                      obtain ⟨k, M, hk1, hkd, hM, rfl, rfl, rfl⟩ := hrel
                      have hm8 : m < 8 := by
                        obtain ⟨_, _, _, q4, q5, _⟩ := HA.out
                        have := q4.1
                        omega
                      have hM100 : M ≤ 100 := by
                        have hk4 : k = 1 ∨ k = 2 ∨ k = 3 := by omega
                        rcases hk4 with e | e | e <;> (rw [e] at hM; simp at hM; omega)
                      have HM := hid hM
                      clear hM
                      by_cases hkl : k < d
                      · have hkl' : (k : Int) < (i : Int) - last := by have := HD.out; omega
                        go_wp2_with fail
                        go_roundw
                        case rel => exact ⟨k + 1, M * 2, by omega, by omega, ref_mask_step hk1 HM.out, by congr 1, by go_num, trivial⟩
                        case measure => simp [intOf]; omega
                      · have hkl' : ¬ (k : Int) < (i : Int) - last := by have := HD.out; omega
                        have e : k = d := by omega
                        subst e
                        go_wp2_with fail
                        go_meet
                        exact ⟨by rw [HS.out, ← HM.out]; rfl, rfl⟩
              case rest =>
                as_aux_lemma =>
                  obtain ⟨hmv, hwx⟩ := hcut
                  subst hmv hwx
                  obtain ⟨M, hM⟩ : ∃ M, M = shiftM b.up.gap b.mask := ⟨_, rfl⟩
                  have hM8 : M < 8 := by rw [hM]; exact shiftM_lt _ _
                  rw [← hM]
                  have HM := hid hM
                  clear hM
                  have d1 := (HL.out.2.2.2.2.1).cell (i := i + 4 - bitN M) (by omega)
                  have d4 := (HL.out.2.2.2.2.1).cell (i := i + 4) (by omega)
                  go_upto_if 54 with fail
                  go_cut [11] (fun sv wx => sv = .bool (stopB M (fun j => F (i + j))) ∧ wx = wc)
                  case first =>
                    as_aux_lemma =>
                      have h8 : M = 0 ∨ M = 1 ∨ M = 2 ∨ M = 3 ∨ M = 4 ∨ M = 5 ∨ M = 6 ∨ M = 7 := by omega
                      rcases h8 with rfl | rfl | rfl | rfl | rfl | rfl | rfl | rfl
                      · clear d1
                        go_wp2_with fail
                        go_meet
                        exact ⟨rfl, rfl⟩
                      · replace d1 : wc.cell? ⟨g, i + 3, none⟩ = some (.int .u8 (F (i + 3))) := d1
                        go_wp2_with (first | (go_at_call 29; refine (rbit_1 _).mono ?_; rintro e w' ⟨rfl, rfl⟩) | (go_at_call 28; refine (redge_any _ _).mono ?_; rintro e w' ⟨rfl, rfl⟩))
                        go_meet
                        exact ⟨rfl, rfl⟩
                      · replace d1 : wc.cell? ⟨g, i + 2, none⟩ = some (.int .u8 (F (i + 2))) := d1
                        go_wp2_with (first | (go_at_call 29; refine (rbit_2 _).mono ?_; rintro e w' ⟨rfl, rfl⟩) | (go_at_call 28; refine (redge_any _ _).mono ?_; rintro e w' ⟨rfl, rfl⟩))
                        go_meet
                        exact ⟨rfl, rfl⟩
                      · clear d1
                        go_wp2_with fail
                        go_meet
                        exact ⟨rfl, rfl⟩
                      · replace d1 : wc.cell? ⟨g, i + 1, none⟩ = some (.int .u8 (F (i + 1))) := d1
                        go_wp2_with (first | (go_at_call 29; refine (rbit_4 _).mono ?_; rintro e w' ⟨rfl, rfl⟩) | (go_at_call 28; refine (redge_any _ _).mono ?_; rintro e w' ⟨rfl, rfl⟩))
                        go_meet
                        exact ⟨rfl, rfl⟩
                      · clear d1
                        go_wp2_with fail
                        go_meet
                        exact ⟨rfl, rfl⟩
                      · clear d1
                        go_wp2_with fail
                        go_meet
                        exact ⟨rfl, rfl⟩
                      · clear d1
                        go_wp2_with fail
                        go_meet
                        exact ⟨rfl, rfl⟩
                  case rest =>
                    as_aux_lemma =>
                      obtain ⟨hsv, hwx⟩ := hcut
                      subst hsv hwx
                      clear d1
                      cases hs : stopB M (fun j => F (i + j)) with
                      | true =>
                        have HN := hid (show noTurn (shiftM b.up.gap b.mask) (fun j => F (i + j)) = true by rw [← HM.out]; unfold noTurn; rw [hs]; rfl)
                        go_wp2_with fail
                        go_roundw
                        case rel => rw [HM.out]; exact ref_no hn HA.out HL.out hlt HC.out HN.out
                        case measure => simp [intOf]; omega
                      | false =>
                        cases he : edgeB (F (i + 4)) with
                        | false =>
                          have HN := hid (show noTurn (shiftM b.up.gap b.mask) (fun j => F (i + j)) = true by rw [← HM.out]; unfold noTurn; rw [hs]; show (false || !edgeB (F (i + 4))) = true; rw [he]; rfl)
                          have K4 := fun w => redge_any (F (i + 4)) w
                          rw [he] at K4
                          clear he
                          go_wp2_with (go_at_call 28; refine (K4 _).mono ?_; rintro e w' ⟨rfl, rfl⟩)
                          go_roundw
                          case rel => rw [HM.out]; exact ref_no hn HA.out HL.out hlt HC.out HN.out
                          case measure => simp [intOf]; omega
                        | true =>
                          have HN := hid (show noTurn (shiftM b.up.gap b.mask) (fun j => F (i + j)) = false by rw [← HM.out]; unfold noTurn; rw [hs]; show (false || !edgeB (F (i + 4))) = false; rw [he]; rfl)
                          have HS := hid hs
                          have K4 := fun w => redge_any (F (i + 4)) w
                          rw [he] at K4
                          clear he hs
                          have c1 := (HL.out.2.2.2.2.1).cell (i := i + 1) (by omega)
                          have c2' := (HL.out.2.2.2.2.1).cell (i := i + 2) (by omega)
                          have c3 := (HL.out.2.2.2.2.1).cell (i := i + 3) (by omega)
                          have b1 := HL.out.2.2.1 (i + 1) (by omega)
                          have b2 := HL.out.2.2.1 (i + 2) (by omega)
                          have b3 := HL.out.2.2.1 (i + 3) (by omega)
                          have b4 := HL.out.2.2.1 (i + 4) (by omega)
                          go_upto_region 23 with (go_at_call 28; refine (K4 _).mono ?_; rintro e w' ⟨rfl, rfl⟩)
                          go_cut [12] (fun sv wx => sv = .int .i64 (wordOf fun j => F (i + j)) ∧ Left w wx g c2 n i k b code F f)
                          case first =>
                            as_aux_lemma =>
                              go_quiet (fail)
                              go_wp2_with fail
                              go_meet
                              exact ⟨rfl, HL.out.drewN _⟩
                          case rest =>
                            as_aux_lemma =>
                              obtain ⟨hsv, hl5⟩ := hcut
                              subst hsv
                              have HL5 := hid hl5
                              clear hl5
                              obtain ⟨S, hS⟩ : ∃ S, S = wordOf fun j => F (i + j) := ⟨_, rfl⟩
                              rw [← hS]
                              have hS0 : 0 ≤ S ∧ S < 4294967296 := by rw [hS]; unfold wordOf; dsimp only; omega
                              obtain ⟨hS0, hS1⟩ := hS0
                              have hp : -1073741824 ≤ sg * ((i : Int) + 5) ∧ sg * ((i : Int) + 5) ≤ 1073741824 := by
                                rw [HSG.out]; unfold signOf
                                cases code <;> simp <;> omega
                              obtain ⟨hp0, hp1⟩ := hp
                              have HT := hid (ref_target (M := M) HA.out HL5.out.2.1 HSG.out)
                              have HSS := hid hS
                              clear hS c1 c2' c3 b1 b2 b3 b4 d4
                              have hno := stop_no hM8 (fun j hj => HL.out.2.2.1 (i + j) (by omega)) HS.out
                              rw [← HSS.out] at hno
                              go_upto_block 4 with (go_at_call 30; refine (wrapped_any _ (by omega) (by omega) _).mono ?_; rintro e w' ⟨rfl, rfl⟩; rw [HT.out])
                              go_cut [13] (fun tv wx => tv = .int .i64 ((⟨b.place, 0, M, b.code⟩ : BW).turned S) ∧ Left w wx g c2 n i k b code F f)
                              case first =>
                                as_aux_lemma =>
                                  rcases hno with hm0 | ⟨hm, hst⟩
                                  · subst hm0
                                    go_wp2_with fail
                                    go_loopw [12, 13] (fun sv tv wx => sv = .int .i64 S ∧ tv = .int .i64 ((⟨b.place, 0, 0, b.code⟩ : BW).target S) ∧ Left w wx g c2 n i k b code F f) (fun _ _ _ => 0)
                                    case atStart => exact ⟨rfl, rfl, HL5.out⟩
                                    case round =>
                                      obtain ⟨rfl, rfl, hl6⟩ := hrel
                                      have HL6 := hid hl6
                                      clear hl6
                                      go_wp2_with fail
                                      go_meet
                                      exact ⟨rfl, HL6.out⟩
                                  · have HMM := hid hm
                                    have HST := hid hst
                                    clear hst
                                    rcases hm with hm | hm | hm
                                    · subst hm
                                      have hB : ∀ s, edgeB (topB 1 s) = edgeB (s / 65536 % 256) := fun s => rfl
                                      have HB0 := hid hB
                                      clear hB
                                      go_wp2_with fail
                                      go_loopw [12, 13] (fun sv tv wx => ∃ S' T : Int, sv = .int .i64 S' ∧ tv = .int .i64 T ∧ (T = (⟨b.place, 0, 1, b.code⟩ : BW).target S ∨ T = (⟨b.place, 0, 1, b.code⟩ : BW).turned S) ∧ Left w wx g c2 n i k b code F f) (fun _ tv _ => if edgeB (topB 1 (intOf tv)) = true then 1 else 0)
                                      case atStart => exact ⟨S, _, rfl, rfl, .inl rfl, HL5.out⟩
                                      case round =>
                                        obtain ⟨S', T, rfl, rfl, hT, hl6⟩ := hrel
                                        have hT0 : 0 ≤ T ∧ T < 4294967296 := by
                                          rcases hT with e | e
                                          · rw [e]; exact target_range _ _
                                          · rw [e]; exact turned_range _ _
                                        obtain ⟨hT0, hT1⟩ := hT0
                                        have HTT := hid hT
                                        have HL6 := hid hl6
                                        clear hT hl6
                                        have K5 := fun w => redge_any (T / 65536 % 256) w
                                        cases he : edgeB (T / 65536 % 256) with
                                        | true =>
                                          rw [he] at K5
                                          have HE := hid he
                                          clear he
                                          have hTt : T = (⟨b.place, 0, 1, b.code⟩ : BW).target S := by
                                            rcases HTT.out with e | e
                                            · exact e
                                            · have := turned_top ⟨b.place, 0, 1, b.code⟩ S (.inl rfl) HST.out
                                              rw [← e] at this
                                              rw [show edgeB (topB (1 : Nat) T) = true from (HB0.out T).trans HE.out] at this
                                              exact absurd this (by decide)
                                          have hfl : ∀ x, x = flipT T 16777216 → (⟨b.place, 0, 1, b.code⟩ : BW).target x = (⟨b.place, 0, 1, b.code⟩ : BW).turned S := by
                                            intro x hx
                                            unfold BW.turned
                                            rw [if_neg (by show ¬ (1 : Nat) = 0; decide), if_pos (by rw [← hTt]; exact (HB0.out T).trans HE.out), ← hTt, hx]
                                            rfl
                                          have HFL := hid hfl
                                          clear hTt hfl
                                          go_wp2_with (first | (go_at_call 29; refine (rbit_1 _).mono ?_; rintro e w' ⟨rfl, rfl⟩) | (go_at_call 28; refine (K5 _).mono ?_; rintro e w' ⟨rfl, rfl⟩))
                                          go_quiet (fail)
                                          go_wp2_with (go_at_call 30; refine (wrapped_any _ (by omega) (by omega) _).mono ?_; rintro e w' ⟨rfl, rfl⟩; rw [HT.out])
                                          go_roundw
                                          case rel =>
                                            refine ⟨_, _, rfl, rfl, .inr ?_, HL6.out.drewN _⟩
                                            exact HFL.out _ (by unfold flipT; omega)
                                          case measure =>
                                            refine lt_of_bools ?_ ((HB0.out T).trans HE.out)
                                            simp only [intOf]
                                            rw [HFL.out _ (by unfold flipT; omega)]
                                            exact turned_top ⟨b.place, 0, 1, b.code⟩ S (.inl rfl) HST.out
                                        | false =>
                                          rw [he] at K5
                                          have HE := hid he
                                          clear he
                                          go_wp2_with (first | (go_at_call 29; refine (rbit_1 _).mono ?_; rintro e w' ⟨rfl, rfl⟩) | (go_at_call 28; refine (K5 _).mono ?_; rintro e w' ⟨rfl, rfl⟩))
                                          go_meet
                                          refine ⟨?_, HL6.out⟩
                                          rcases HTT.out with e | e
                                          · have : (⟨b.place, 0, 1, b.code⟩ : BW).turned S = (⟨b.place, 0, 1, b.code⟩ : BW).target S := by
                                              unfold BW.turned
                                              rw [if_neg (by show ¬ (1 : Nat) = 0; decide), if_neg (by rw [← e, show edgeB (topB (BW.mask ⟨b.place, 0, 1, b.code⟩) T) = false from (HB0.out T).trans HE.out]; decide)]
                                            rw [this, ← e]
                                          · rw [e]
                                    · subst hm
                                      have hB : ∀ s, edgeB (topB 2 s) = edgeB (s / 256 % 256) := fun s => rfl
                                      have HB0 := hid hB
                                      clear hB
                                      go_wp2_with fail
                                      go_loopw [12, 13] (fun sv tv wx => ∃ S' T : Int, sv = .int .i64 S' ∧ tv = .int .i64 T ∧ (T = (⟨b.place, 0, 2, b.code⟩ : BW).target S ∨ T = (⟨b.place, 0, 2, b.code⟩ : BW).turned S) ∧ Left w wx g c2 n i k b code F f) (fun _ tv _ => if edgeB (topB 2 (intOf tv)) = true then 1 else 0)
                                      case atStart => exact ⟨S, _, rfl, rfl, .inl rfl, HL5.out⟩
                                      case round =>
                                        obtain ⟨S', T, rfl, rfl, hT, hl6⟩ := hrel
                                        have hT0 : 0 ≤ T ∧ T < 4294967296 := by
                                          rcases hT with e | e
                                          · rw [e]; exact target_range _ _
                                          · rw [e]; exact turned_range _ _
                                        obtain ⟨hT0, hT1⟩ := hT0
                                        have HTT := hid hT
                                        have HL6 := hid hl6
                                        clear hT hl6
                                        have K5 := fun w => redge_any (T / 256 % 256) w
                                        cases he : edgeB (T / 256 % 256) with
                                        | true =>
                                          rw [he] at K5
                                          have HE := hid he
                                          clear he
                                          have hTt : T = (⟨b.place, 0, 2, b.code⟩ : BW).target S := by
                                            rcases HTT.out with e | e
                                            · exact e
                                            · have := turned_top ⟨b.place, 0, 2, b.code⟩ S (.inr (.inl rfl)) HST.out
                                              rw [← e] at this
                                              rw [show edgeB (topB (2 : Nat) T) = true from (HB0.out T).trans HE.out] at this
                                              exact absurd this (by decide)
                                          have hfl : ∀ x, x = flipT T 65536 → (⟨b.place, 0, 2, b.code⟩ : BW).target x = (⟨b.place, 0, 2, b.code⟩ : BW).turned S := by
                                            intro x hx
                                            unfold BW.turned
                                            rw [if_neg (by show ¬ (2 : Nat) = 0; decide), if_pos (by rw [← hTt]; exact (HB0.out T).trans HE.out), ← hTt, hx]
                                            rfl
                                          have HFL := hid hfl
                                          clear hTt hfl
                                          go_wp2_with (first | (go_at_call 29; refine (rbit_2 _).mono ?_; rintro e w' ⟨rfl, rfl⟩) | (go_at_call 28; refine (K5 _).mono ?_; rintro e w' ⟨rfl, rfl⟩))
                                          go_quiet (fail)
                                          go_wp2_with (go_at_call 30; refine (wrapped_any _ (by omega) (by omega) _).mono ?_; rintro e w' ⟨rfl, rfl⟩; rw [HT.out])
                                          go_roundw
                                          case rel =>
                                            refine ⟨_, _, rfl, rfl, .inr ?_, HL6.out.drewN _⟩
                                            exact HFL.out _ (by unfold flipT; omega)
                                          case measure =>
                                            refine lt_of_bools ?_ ((HB0.out T).trans HE.out)
                                            simp only [intOf]
                                            rw [HFL.out _ (by unfold flipT; omega)]
                                            exact turned_top ⟨b.place, 0, 2, b.code⟩ S (.inr (.inl rfl)) HST.out
                                        | false =>
                                          rw [he] at K5
                                          have HE := hid he
                                          clear he
                                          go_wp2_with (first | (go_at_call 29; refine (rbit_2 _).mono ?_; rintro e w' ⟨rfl, rfl⟩) | (go_at_call 28; refine (K5 _).mono ?_; rintro e w' ⟨rfl, rfl⟩))
                                          go_meet
                                          refine ⟨?_, HL6.out⟩
                                          rcases HTT.out with e | e
                                          · have : (⟨b.place, 0, 2, b.code⟩ : BW).turned S = (⟨b.place, 0, 2, b.code⟩ : BW).target S := by
                                              unfold BW.turned
                                              rw [if_neg (by show ¬ (2 : Nat) = 0; decide), if_neg (by rw [← e, show edgeB (topB (BW.mask ⟨b.place, 0, 2, b.code⟩) T) = false from (HB0.out T).trans HE.out]; decide)]
                                            rw [this, ← e]
                                          · rw [e]
                                    · subst hm
                                      have hB : ∀ s, edgeB (topB 4 s) = edgeB (s % 256) := fun s => by show edgeB (s / 1 % 256) = _; rw [Int.ediv_one]
                                      have HB0 := hid hB
                                      clear hB
                                      go_wp2_with fail
                                      go_loopw [12, 13] (fun sv tv wx => ∃ S' T : Int, sv = .int .i64 S' ∧ tv = .int .i64 T ∧ (T = (⟨b.place, 0, 4, b.code⟩ : BW).target S ∨ T = (⟨b.place, 0, 4, b.code⟩ : BW).turned S) ∧ Left w wx g c2 n i k b code F f) (fun _ tv _ => if edgeB (topB 4 (intOf tv)) = true then 1 else 0)
                                      case atStart => exact ⟨S, _, rfl, rfl, .inl rfl, HL5.out⟩
                                      case round =>
                                        obtain ⟨S', T, rfl, rfl, hT, hl6⟩ := hrel
                                        have hT0 : 0 ≤ T ∧ T < 4294967296 := by
                                          rcases hT with e | e
                                          · rw [e]; exact target_range _ _
                                          · rw [e]; exact turned_range _ _
                                        obtain ⟨hT0, hT1⟩ := hT0
                                        have HTT := hid hT
                                        have HL6 := hid hl6
                                        clear hT hl6
                                        have K5 := fun w => redge_any (T % 256) w
                                        cases he : edgeB (T % 256) with
                                        | true =>
                                          rw [he] at K5
                                          have HE := hid he
                                          clear he
                                          have hTt : T = (⟨b.place, 0, 4, b.code⟩ : BW).target S := by
                                            rcases HTT.out with e | e
                                            · exact e
                                            · have := turned_top ⟨b.place, 0, 4, b.code⟩ S (.inr (.inr rfl)) HST.out
                                              rw [← e] at this
                                              rw [show edgeB (topB (4 : Nat) T) = true from (HB0.out T).trans HE.out] at this
                                              exact absurd this (by decide)
                                          have hfl : ∀ x, x = flipT T 256 → (⟨b.place, 0, 4, b.code⟩ : BW).target x = (⟨b.place, 0, 4, b.code⟩ : BW).turned S := by
                                            intro x hx
                                            unfold BW.turned
                                            rw [if_neg (by show ¬ (4 : Nat) = 0; decide), if_pos (by rw [← hTt]; exact (HB0.out T).trans HE.out), ← hTt, hx]
                                            rfl
                                          have HFL := hid hfl
                                          clear hTt hfl
                                          go_wp2_with (first | (go_at_call 29; refine (rbit_4 _).mono ?_; rintro e w' ⟨rfl, rfl⟩) | (go_at_call 28; refine (K5 _).mono ?_; rintro e w' ⟨rfl, rfl⟩))
                                          go_quiet (fail)
                                          go_wp2_with (go_at_call 30; refine (wrapped_any _ (by omega) (by omega) _).mono ?_; rintro e w' ⟨rfl, rfl⟩; rw [HT.out])
                                          go_roundw
                                          case rel =>
                                            refine ⟨_, _, rfl, rfl, .inr ?_, HL6.out.drewN _⟩
                                            exact HFL.out _ (by unfold flipT; omega)
                                          case measure =>
                                            refine lt_of_bools ?_ ((HB0.out T).trans HE.out)
                                            simp only [intOf]
                                            rw [HFL.out _ (by unfold flipT; omega)]
                                            exact turned_top ⟨b.place, 0, 4, b.code⟩ S (.inr (.inr rfl)) HST.out
                                        | false =>
                                          rw [he] at K5
                                          have HE := hid he
                                          clear he
                                          go_wp2_with (first | (go_at_call 29; refine (rbit_4 _).mono ?_; rintro e w' ⟨rfl, rfl⟩) | (go_at_call 28; refine (K5 _).mono ?_; rintro e w' ⟨rfl, rfl⟩))
                                          go_meet
                                          refine ⟨?_, HL6.out⟩
                                          rcases HTT.out with e | e
                                          · have : (⟨b.place, 0, 4, b.code⟩ : BW).turned S = (⟨b.place, 0, 4, b.code⟩ : BW).target S := by
                                              unfold BW.turned
                                              rw [if_neg (by show ¬ (4 : Nat) = 0; decide), if_neg (by rw [← e, show edgeB (topB (BW.mask ⟨b.place, 0, 4, b.code⟩) T) = false from (HB0.out T).trans HE.out]; decide)]
                                            rw [this, ← e]
                                          · rw [e]

                              case rest =>
                                as_aux_lemma =>
                                  clear hno
                                  obtain ⟨htv, hl6⟩ := hcut
                                  obtain ⟨T, hT⟩ : ∃ T, T = (⟨b.place, 0, M, b.code⟩ : BW).turned S := ⟨_, rfl⟩
                                  rw [← hT] at htv
                                  subst htv
                                  have hT0 : 0 ≤ T ∧ T < 4294967296 := by rw [hT]; exact turned_range _ _
                                  obtain ⟨hT0, hT1⟩ := hT0
                                  have HTT := hid hT
                                  clear hT
                                  obtain ⟨r1, r2, r3, r4, r5, r6⟩ := hl6
                                  have z1 := r5.cell (i := i + 1) (by omega)
                                  have z2 := r5.cell (i := i + 2) (by omega)
                                  have z3 := r5.cell (i := i + 3) (by omega)
                                  have z4 := r5.cell (i := i + 4) (by omega)
                                  have y1 := r5.frozen (i + 1)
                                  have y2 := r5.frozen (i + 2)
                                  have y3 := r5.frozen (i + 3)
                                  have y4 := r5.frozen (i + 4)
                                  have R5 := hid r5
                                  have R6 := hid r6
                                  clear r1 r2 r3 r4 r5 r6
                                  have hgw : w.heap.size ≤ g := hg0
                                  by_cases hodd : T / 16777216 % 2 = 1
                                  · go_wp2_with fail
                                    go_roundw
                                    case rel =>
                                      rw [HM.out]
                                      refine ref_turn (F' := upd (upd (upd (upd (upd F (i + 1) (T % 256)) (i + 2) (T / 256 % 256)) (i + 3) (T / 65536 % 256)) (i + 4) 0) (i + 4) 255) hn HA.out HL.out hlt HC.out HN.out (fun j => ?_) (((((R5.out.set _ _).set _ _).set _ _).set _ _).set _ _) (((((R6.out.setNew hgw _ _).setNew hgw _ _).setNew hgw _ _).setNew hgw _ _).setNew hgw _ _)
                                      rw [← HM.out, ← HSS.out, ← HTT.out, upd_upd]
                                      exact put_lay F i T 255 (by rw [hodd]; decide) j
                                    case measure => simp [intOf]; omega
                                  · go_wp2_with fail
                                    go_roundw
                                    case rel =>
                                      rw [HM.out]
                                      refine ref_turn (F' := upd (upd (upd (upd F (i + 1) (T % 256)) (i + 2) (T / 256 % 256)) (i + 3) (T / 65536 % 256)) (i + 4) 0) hn HA.out HL.out hlt HC.out HN.out (fun j => ?_) ((((R5.out.set _ _).set _ _).set _ _).set _ _) ((((R6.out.setNew hgw _ _).setNew hgw _ _).setNew hgw _ _).setNew hgw _ _)
                                      rw [← HM.out, ← HSS.out, ← HTT.out]
                                      exact put_lay F i T 0 (by rw [show T / 16777216 % 2 = 0 by omega]; decide) j
                                    case measure => simp [intOf]; omega
      · have hlt' : ¬ (i : Int) + 4 < (n : Int) := by omega
        have hin := hat.1
        have HA := hid hat
        have HL := hid hleft
        clear hat hleft
        go_wp2_with fail
        go_ret
        obtain ⟨r1, r2, r3, r4, r5, r6⟩ := HL.out
        refine ⟨_, rfl, ?_, r6⟩
        rw [runB_end hlt] at r4
        rw [← r4]
        exact r5.own hg0 hcm
end Go.Proofs.Ytkahjjmjbcjaaaa
