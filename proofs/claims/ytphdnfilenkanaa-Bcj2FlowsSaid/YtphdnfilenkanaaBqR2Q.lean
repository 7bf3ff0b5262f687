/- garblerref15: which, Decode. -/
import Derived.Test.YtphdnfilenkanaaMg04
import Derived.Test.YtphdnfilenkanaaMg05
import Derived.Test.YtphdnfilenkanaaMg06
namespace Go.Proofs.Ytphdnfilenkanaa
open Go.RowKit

def whichI (a : Nat) (b : Int) : Int := match whichQ a b with | some k => (k : Int) | none => -1
theorem whichI_none {a : Nat} {b : Int} (h : whichQ a b = none) : whichI a b = -1 := by unfold whichI; rw [h]
theorem whichI_some {a k : Nat} {b : Int} (h : whichQ a b = some k) : whichI a b = (k : Int) := by unfold whichI; rw [h]
set_option maxRecDepth 100000 in
theorem rwhich_any (a : Nat) (b : Int) (w : World) (ha : a < 256) (h0 : 0 ≤ b) (h1 : b < 256) :
    Calls Try.prog 21 #[.int .u8 (a : Int), .int .u8 b] w fun e w' => e = .returned (.int .i64 (whichI a b)) ∧ w = w' := by
  have ha0 : (0 : Int) ≤ (a : Int) := by omega
  have ha1 : (a : Int) < 256 := by omega
  by_cases e1 : b = 232
  · subst e1
    have HW := hid (show whichI a 232 = (a : Int) from rfl)
    go_enter Try.func21, Try.ntmps21
    go_wp2
    go_ret
    exact ⟨by rw [HW.out]; rfl, rfl⟩
  · by_cases e2 : b = 233
    · subst e2
      have HW := hid (show whichI a 233 = 256 from rfl)
      go_enter Try.func21, Try.ntmps21
      go_wp2
      go_ret
      exact ⟨by rw [HW.out]; rfl, rfl⟩
    · have q1 : (b == 232) = false := by simp [e1]
      have q2 : (b == 233) = false := by simp [e2]
      by_cases e3 : a = 15
      · subst e3
        by_cases e4 : 128 ≤ b
        · by_cases e5 : b ≤ 143
          · have HW := hid (show whichI 15 b = 257 by unfold whichI whichQ; rw [if_neg e1, if_neg e2, if_pos ⟨rfl, e4, e5⟩]; rfl)
            clear e1 e2
            go_enter Try.func21, Try.ntmps21
            go_wp2
            go_ret
            exact ⟨by rw [HW.out]; rfl, rfl⟩
          · have HW := hid (show whichI 15 b = -1 by unfold whichI whichQ; rw [if_neg e1, if_neg e2, if_neg (fun h => e5 h.2.2)])
            clear e1 e2
            go_enter Try.func21, Try.ntmps21
            go_wp2
            go_ret
            exact ⟨by rw [HW.out]; rfl, rfl⟩
        · have HW := hid (show whichI 15 b = -1 by unfold whichI whichQ; rw [if_neg e1, if_neg e2, if_neg (fun h => e4 h.2.1)])
          clear e1 e2
          go_enter Try.func21, Try.ntmps21
          go_wp2
          go_ret
          exact ⟨by rw [HW.out]; rfl, rfl⟩
      · have HW := hid (show whichI a b = -1 by unfold whichI whichQ; rw [if_neg e1, if_neg e2, if_neg (fun h => e3 h.1)])
        have q4 : ((a : Int) == 15) = false := by simp; omega
        clear e1 e2 e3
        go_enter Try.func21, Try.ntmps21
        go_wp2
        go_ret
        exact ⟨by rw [HW.out]; rfl, rfl⟩

/-- a row of 258 probabilities. -/
def RowP (w : World) (gp : Nat) (q : Nat → Int) : Prop := ∃ cs, w.heap[gp]? = some (.cells cs 46) ∧ ∀ j, j < 258 → cs[j]? = some (.int .u16 (q j))
theorem RowP.fr {w w' : World} {gp : Nat} {q : Nat → Int} (h : RowP w gp q) {T : Nat → Prop} (hf : Fr T w w') (ht : ¬ T gp) : RowP w' gp q := by
  obtain ⟨cs, h1, h2⟩ := h; exact ⟨cs, hf.blk h1 ht, h2⟩
theorem RowP.set {w : World} {gp k : Nat} {q : Nat → Int} (h : RowP w gp q) (hk : k < 258) (x : Int) : RowP (w.setCell ⟨gp, k, none⟩ (.int .u16 x)) gp (upd q k x) := by
  obtain ⟨cs, h1, h2⟩ := h
  refine ⟨_, blk_set h1, fun j hj => ?_⟩
  rw [Array.getElem?_setIfInBounds]
  have hs := (Array.getElem?_eq_some_iff.1 (h2 k hk)).1
  by_cases e : k = j
  · subst e; rw [if_pos rfl, if_pos hs, upd_same]
  · rw [if_neg e, upd_ne _ _ (fun e' => e e'.symm)]; exact h2 j hj
theorem RowP.get {w : World} {gp k : Nat} {q : Nat → Int} (h : RowP w gp q) (hk : k < 258) : w.cell? ⟨gp, k, none⟩ = some (.int .u16 (q k)) ∧ w.frozen? ⟨gp, k, none⟩ = false := by
  obtain ⟨cs, h1, h2⟩ := h; exact ⟨blk_cell h1 (h2 k hk), blk_frozen h1 k⟩
theorem rowN_of {w : World} {base n : Nat} {v : Value} (hn0 : 0 < n) (h : Own w base .u16 46 v (List.replicate n 1024)) :
    ∃ gp cap, v = .slice (some ⟨gp, 0, none⟩) n cap ∧ base ≤ gp ∧ gp < w.heap.size ∧ ∃ cs, w.heap[gp]? = some (.cells cs 46) ∧ ∀ j, j < n → cs[j]? = some (.int .u16 1024) := by
  have hb := h.block
  obtain ⟨h1, h2⟩ := h
  rcases h2 with ⟨_, hn⟩ | ⟨g, cap, cur, hv, hg, hh, hnc, hcm, hsz, htk⟩
  · rw [List.length_replicate] at hn; omega
  · rw [List.length_replicate] at hv
    refine ⟨g, cap, hv, hg, (hb g (by rw [hv]; rfl)).2, cur, hh, fun j hj => ?_⟩
    have e1 := map_getD .u16 (List.replicate n (1024 : Int)) (i := j) (by rw [List.length_replicate]; exact hj)
    rw [← htk, List.getElem?_take_of_lt (by rw [List.length_replicate]; omega)] at e1
    have e2 : (List.replicate n (1024 : Int)).getD j 0 = 1024 := by simp [List.getD, hj]
    rw [e2] at e1
    simpa using e1
theorem rowP_of {w : World} {base : Nat} {v : Value} (h : Own w base .u16 46 v (List.replicate 258 1024)) : ∃ gp cap, v = .slice (some ⟨gp, 0, none⟩) 258 cap ∧ base ≤ gp ∧ gp < w.heap.size ∧ RowP w gp (fun _ => 1024) :=
  rowN_of (by decide) h
def RDecQPost (R : Four) (n : Nat) (w : World) (e : Ending) (w' : World) : Prop :=
  Fr Non w w' ∧ ((FailQ R n ∧ e = .returned (.tuple #[.slice none 0 0, .int .i64 12])) ∨
    ∃ k, (∀ i, i < k → (R.start n).okAt R i = true) ∧ (R.start n).okAt R k = false ∧ ((R.start n).it R (k + 1)).ends R.L = true ∧ ∃ v, e = .returned (.tuple #[v, .int .i64 0]) ∧ Own w' w.heap.size .u8 5 v (bytesQ R (R.start n) k))
theorem feedNx_more (F : Nat → Int) (n s : Nat) : (feedNx F n s).2.1 = decide (s < n) := by
  unfold feedNx
  by_cases h : s < n
  · rw [if_pos h, decide_eq_true h]
  · rw [if_neg h, decide_eq_false h]
theorem RunQ.final {R : Four} {n i : Nat} {f : FQ} (h : RunQ R n i f) (hi : i = n) : (∀ t, t < n → (R.start n).okAt R t = true) ∧ (R.start n).okAt R n = false ∧ (R.start n).it R (n + 1) = f := by
  subst hi
  have e := nextQ_over (L := R.L) (f := f) (.inr (by rw [h.told, h.size]))
  obtain ⟨h1, _, h3⟩ := h.at_ e
  exact ⟨h.oks, h1, h3⟩
theorem RunQ.ends {R : Four} {n i : Nat} {f : FQ} (h : RunQ R n i f) (hi : i = n) (hs : f.d.src ≤ R.n3) : f.ends R.L = decide (f.m = R.n0 ∧ f.c = R.n1 ∧ f.j = R.n2 ∧ f.d.bad = false ∧ f.d.code = 0 ∧ f.d.src = R.n3) := by
  have e0 : (R.L.s0.nx f.m).2.1 = decide (f.m < R.n0) := feedNx_more _ _ _
  have e1 : (R.L.s1.nx f.c).2.1 = decide (f.c < R.n1) := feedNx_more _ _ _
  have e2 : (R.L.s2.nx f.j).2.1 = decide (f.j < R.n2) := feedNx_more _ _ _
  have e3 : (R.L.s3.nx f.d.src).2.1 = decide (f.d.src < R.n3) := feedNx_more _ _ _
  have p0 := h.pos.p0
  have p1 := h.pos.p1
  have p2 := h.pos.p2
  unfold FQ.ends FQ.ends3 FQ.ends2 FQ.ends1 FQ.ends0 RD.done
  rw [e0, e1, e2, e3, h.bad, decide_eq_true (show f.told = f.size by rw [h.told, h.size, hi])]
  rw [Bool.eq_iff_iff]
  simp only [Bool.and_eq_true, Bool.not_eq_true', decide_eq_true_eq, decide_eq_false_iff_not, beq_iff_eq, Bool.not_false, true_and]
  constructor
  · rintro ⟨⟨⟨⟨⟨a, b⟩, c⟩, d⟩, e⟩, g⟩
    exact ⟨by omega, by omega, by omega, a, b, by omega⟩
  · rintro ⟨a, b, c, d, e, g⟩
    exact ⟨⟨⟨⟨⟨d, e⟩, by omega⟩, by omega⟩, by omega⟩, by omega⟩
/-- what holds as the document's loop goes on. -/
structure RMemQ (R : Four) (a3 : Option Addr) (c3 lo base gd gp n i : Nat) (W wr : World) (f : FQ) (v : Value) : Prop where
  dec : RefIs a3 R.n3 c3 R.F3 lo gd wr f.d
  row : RowP wr gp f.q
  own : Own wr base .u8 5 v (bytesQ R (R.start n) i)
  fr : Fr Non W wr
  sz : base ≤ wr.heap.size
set_option maxRecDepth 100000 in
set_option maxHeartbeats 16000000 in
theorem rdecodeQ_any (R : Four) (a0 a1 a2 a3 : Option Addr) (c0 c1 c2 c3 : Nat) (x : Int) (n : Nat) (hn : x.toNat = n) (hx1 : x ≤ 9223372036854775807) (w : World) (h : FourAt R w.heap.size w a0 a1 a2 a3 c0 c1 c2 c3) :
    Calls Try.prog 10 #[.agg #[.slice a0 R.n0 c0, .slice a1 R.n1 c1, .slice a2 R.n2 c2, .slice a3 R.n3 c3], .int .i64 x] w (RDecQPost R n w) := by
  have H := hid h
  have HN := hid hn
  have HN63 := hid (show n ≤ 9223372036854775807 by omega)
  clear h hn hx1
  obtain ⟨W, hW⟩ : ∃ W, W = w.alloc (.cells #[.slice a0 R.n0 c0, .slice a1 R.n1 c1, .slice a2 R.n2 c2, .slice a3 R.n3 c3] 24) := ⟨_, rfl⟩
  have HW := hid (show Fr Non w W by rw [hW]; exact (Fr.refl Non _).alloc _)
  have HB := hid (show W.heap[w.heap.size]? = some (.cells #[.slice a0 R.n0 c0, .slice a1 R.n1 c1, .slice a2 R.n2 c2, .slice a3 R.n3 c3] 24) by rw [hW]; exact blk_new _ _)
  have hws : w.heap.size < W.heap.size := by rw [hW]; simp
  have H1 := hid (H.out.fr HW.out (fun _ _ e => e))
  have k3 := blk_cell HB.out (j := 3) (v := .slice a3 R.n3 c3) rfl
  go_enter Try.func10, Try.ntmps10
  go_wp2_with fail
  rw [← hW]
  have HWE := hid hW
  clear hW
  go_wp2_with fail
  refine (rnew_any a3 R.n3 c3 R.F3 R.h3 w.heap.size _ (by have := H.out.m3; omega) H1.out.r3 (by omega)).mono ?_
  rintro e w2 ⟨gd, hgd0, hgd1, rfl, hf2, hd2⟩
  have HF2 := hid hf2
  have HD2 := hid hd2
  have s2 := hf2.size
  clear hf2 hd2
  go_wp2_with fail
  refine (rfresh_any 258 _ (by decide)).mono ?_
  rintro e w3 ⟨v3, rfl, ho3, hf3⟩
  obtain ⟨gp, cp, rfl, hgp0, hgp1, hp3⟩ := rowP_of ho3
  have s3 := hf3.size
  have S3 := hid (show RMemQ R a3 c3 w.heap.size w3.heap.size gd gp n 0 W w3 (R.start n) (.slice none 0 0) from ⟨HD2.out.keep hf3 id (fun _ _ e => e), hp3, Own.nil _ _ _ _, HF2.out.trans hf3, Nat.le_refl _⟩)
  clear HF2 HD2 ho3 hf3 hp3 k3
  have hm0 := H.out.m0
  have hm1 := H.out.m1
  have hm2 := H.out.m2
  have hm3 := H.out.m3
  go_wp2_with fail
  go_loopw [8, 9, 10, 11, 12] (fun v m c j a wr => ∃ i f, i ≤ n ∧ RunQ R n i f ∧ m = .int .i64 f.m ∧ c = .int .i64 f.c ∧ j = .int .i64 f.j ∧ a = .int .u8 f.ahead ∧ RMemQ R a3 c3 w.heap.size w3.heap.size gd gp n i W wr f v) (fun v _ _ _ _ _ => R.n0 + R.n1 + R.n2 - lenV v)
  case atStart => exact ⟨0, R.start n, Nat.zero_le _, RunQ.start R n HN63.out, rfl, rfl, rfl, rfl, S3.out⟩
  case round =>
    obtain ⟨i, f, hin, hrun, rfl, rfl, rfl, rfl, hmem⟩ := hrel
    have HRUN := hid hrun
    have HM := hid hmem
    have hcnt := (R.start_pos n HN63.out).count i hrun.oks
    rw [R.start_mu] at hcnt
    clear S3 hrun
    have hlv := hmem.own.lenV
    rw [bytesQ_len] at hlv
    obtain ⟨a8, c8, rfl, hc8, -, -⟩ := hmem.own.rowN (n := i) (bytesQ_len _ _ _)
    have HLV := hid hlv
    have kb := hmem.fr.blk HB.out id
    have e0 := blk_cell kb (j := 0) (v := .slice a0 R.n0 c0) rfl
    have e1 := blk_cell kb (j := 1) (v := .slice a1 R.n1 c1) rfl
    have e2 := blk_cell kb (j := 2) (v := .slice a2 R.n2 c2) rfl
    have e3 := blk_cell kb (j := 3) (v := .slice a3 R.n3 c3) rfl
    have HKB := hid kb
    have H1r := hid (H1.out.fr hmem.fr (fun _ _ e => e))
    have hpm := HRUN.out.pos.p0
    have hpc := HRUN.out.pos.p1
    have hpj := HRUN.out.pos.p2
    clear hmem hlv kb
    by_cases hlt : i < n
    · have q1 : (i : Int) < x := by have := HN.out; omega
      by_cases hm : f.m < R.n0
      · have q2 : (f.m : Int) < (R.n0 : Int) := by omega
        obtain ⟨b0, o0, rfl, hb0, hc0⟩ := H1r.out.r0.at hm
        have hx := R.h0 f.m hm
        obtain ⟨hx0', hx1'⟩ := hx
        have HM0 := hid hm
        have HLT := hid hlt
        have ha := HRUN.out.pos.ok.ahead
        have hc2 : i + 1 ≤ R.n0 + R.n1 + R.n2 := by
          have := (R.start_pos n HN63.out).count (i + 1) (oks_succ HRUN.out.oks (by
            by_cases hov : f.bad = true ∨ f.told = f.size
            · exact absurd hov (HRUN.out.over hlt)
            · have : R.L.s0.nx f.m = (R.F0 f.m, true, f.m + 1) := RunQ.nx hm
              show (((R.start n).it R i).next R.L).2.1 = true
              rw [HRUN.out.it]
              unfold FQ.next
              rw [if_neg hov, if_neg (by rw [HRUN.out.waits]; decide), this]
              simp only [if_neg (show ¬ (true = false) by decide)]
              cases whichQ f.ahead (R.F0 f.m) with
              | none => rfl
              | some k => simp only []; split; (split <;> rfl); rfl))
          rw [R.start_mu] at this
          omega
        clear hm hlt
        go_wp2_with (refine opAppend1 (some 42) rfl rfl (.tmp 39) (.tmp 41) 22 rfl w3.heap.size .u8 5 1 Try.underlying22 Try.info_u8q _ _ rfl (by exact HM.out.own.alloc _) ⟨_, 0, none⟩ 1 _ rfl (cell_new1 _ _ _) (by decide) (by rw [bytesQ_len]; omega) (by have := HM.out.sz; simp; omega) ?_; intro v' w6 hown6 hg6)
        have HL := hid (HM.out.own.block)
        have hsz3 := HM.out.sz
        have hg6F : Fr (fun b => (Value.slice a8 i c8).ownBlock = some b) wr w6 := Fr.grown ((Fr.refl _ wr).alloc _) hg6 (fun b hb _ => hb)
        have D6 := hid (HM.out.dec.keep hg6F (fun e => by have := HL.out _ e; omega) (fun k hk e => by have := HL.out _ e; omega))
        have P6 := hid (HM.out.row.fr hg6F (fun e => by have := HL.out _ e; omega))
        have F6 := hid (Fr.grown (HM.out.fr.alloc _) hg6 (fun b hb hlt => by have := (HL.out b hb).1; omega))
        have O6 := hid hown6
        have s6 := hg6F.size
        obtain ⟨a9, c9, rfl, hc9, -, -⟩ := hown6.rowN (n := i + 1) (by simp [bytesQ_len])
        have HBK := hid (hg6F.blk (g := w.heap.size) HKB.out (fun e => by have := HL.out _ e; omega))
        clear hg6F hown6 hg6 hc0 e0 e1 e2 e3
        refine (rwhich_any f.ahead (R.F0 f.m) _ ha hx0' hx1').mono ?_
        rintro e w7 ⟨rfl, rfl⟩
        have hmz : ((R.F0 f.m).toNat : Int) = R.F0 f.m := Int.toNat_of_nonneg hx0'
        have HMZ := hid hmz
        clear hmz
        cases hk : whichQ f.ahead (R.F0 f.m) with
        | none =>
          rw [whichI_none hk]
          obtain ⟨hr1, hb1⟩ := HRUN.out.plain HLT.out HM0.out (.inl hk)
          have HR1 := hid hr1
          have HB1 := hid hb1
          clear hk hr1 hb1
          go_wp2_with fail
          go_roundw
          case rel => exact ⟨i + 1, { f with m := f.m + 1, told := f.told + 1, ahead := (R.F0 f.m).toNat }, HLT.out, HR1.out, by go_num, rfl, rfl, by rw [HMZ.out], ⟨D6.out, P6.out, by rw [bytesQ_snoc, HB1.out]; exact O6.out, F6.out, by omega⟩⟩
          case measure => show _ - (i + 1) < _ - i; omega
        | some k =>
          rw [whichI_some hk]
          have hk258 := whichQ_lt ha hk
          have hk0 : (0 : Int) ≤ (k : Int) := by omega
          by_cases hl1 : i + 1 < n
          · have q3 : ((i : Int) + 1 == x) = false := by have := HN.out; simp; omega
            have hp := HRUN.out.pos.ok.pr k hk258
            obtain ⟨g1, z1⟩ := P6.out.get hk258
            have HK := hid hk
            have HL1 := hid hl1
            clear hk hl1
            go_wp2_with fail
            refine (rbit_any a3 R.n3 c3 R.F3 R.h3 w.heap.size gd f.d (f.q k) _ (by omega) (by exact D6.out) (by omega) (by omega)).mono ?_
            rintro e w8 ⟨rfl, hf8, hd8⟩
            have hble := bit_le (feedNx R.F3 R.n3) f.d (f.q k)
            have HBB := hid (bit_bad0 (feedNx R.F3 R.n3) f.d (f.q k))
            obtain ⟨r, hr⟩ : ∃ r, r = f.d.bit (feedNx R.F3 R.n3) (f.q k) := ⟨_, rfl⟩
            rw [← hr] at hd8 hble HBB ⊢
            have HRR := hid hr
            clear hr
            obtain ⟨bt, pv, dd⟩ := r
            dsimp only at hd8 hble HBB
            have P8 := hid (P6.out.fr hf8 (fun e => by have : gp = gd := e; omega))
            obtain ⟨g2, z2⟩ := P8.out.get hk258
            have P9 := hid (P8.out.set hk258 pv)
            have fset : Fr (fun b => b = gp) w8 (w8.setCell ⟨gp, k, none⟩ (.int .u16 pv)) := (Fr.refl _ _).setOne _ _
            have D9 := hid (hd8.keep fset (fun e => by have : gd = gp := e; omega) (fun b hb e => by have : b = gp := e; omega))
            have F9 := hid ((F6.out.then hf8 (fun b hb e => by have : b = gd := e; omega)).then fset (fun b hb e => by have : b = gp := e; omega))
            have HL9 := hid O6.out.block
            have O9 := hid ((O6.out.fr hf8 (fun b hb e => by have := HL9.out b hb; have : b = gd := e; omega)).fr fset (fun b hb e => by have := HL9.out b hb; have : b = gp := e; omega))
            have s8 := hf8.size
            have s9 := fset.size
            have j4 := blk_cell D9.out.at_ (j := 4) (v := .bool dd.bad) rfl
            have HBK9 := hid (fset.blk (g := w.heap.size) (hf8.blk (g := w.heap.size) HBK.out (fun e => by have : w.heap.size = gd := e; omega)) (fun e => by have : w.heap.size = gp := e; omega))
            have HBTD := hid (show f.bitted R.L (R.F0 f.m) (f.m + 1) k = { f with m := f.m + 1, told := f.told + 1, ahead := (R.F0 f.m).toNat, d := dd, q := upd f.q k pv, bad := dd.bad } from by
              unfold FQ.bitted
              rw [show R.L.s3.nx = feedNx R.F3 R.n3 from rfl, ← HRR.out])
            clear hf8 hd8 fset g1 z1 hp
            cases hdd : dd.bad with
            | true =>
              rw [hdd] at j4
              have HFL := hid (show FailQ R n from HRUN.out.bitBad HL1.out HM0.out HK.out (by rw [show R.L.s3.nx = feedNx R.F3 R.n3 from rfl, ← HRR.out]; exact hdd))
              clear hdd
              go_wp2_with fail
              go_ret2
              exact ⟨HW.out.trans F9.out, .inl ⟨HFL.out, rfl⟩⟩
            | false =>
              rw [hdd] at j4
              have HDD := hid hdd
              clear hdd
              have hbt : bt = 0 ∨ bt = 1 := by omega
              clear hble
              rcases hbt with rfl | rfl
              · obtain ⟨hr1, hb1⟩ := HRUN.out.bit0 HL1.out HM0.out HK.out (by rw [show R.L.s3.nx = feedNx R.F3 R.n3 from rfl, ← HRR.out]) (by rw [show R.L.s3.nx = feedNx R.F3 R.n3 from rfl, ← HRR.out]; exact HDD.out)
                rw [HBTD.out] at hr1
                have HR1 := hid hr1
                have HB1 := hid hb1
                clear hr1 hb1
                go_wp2_with fail
                go_roundw
                case rel => exact ⟨i + 1, _, HLT.out, HR1.out, by go_num, rfl, rfl, by rw [HMZ.out], ⟨D9.out, P9.out, by rw [bytesQ_snoc, HB1.out]; exact O9.out, F9.out, by omega⟩⟩
                case measure => show _ - (i + 1) < _ - i; omega
              · obtain ⟨hr1, hb1, hok1⟩ := HRUN.out.bit1 HL1.out HM0.out HK.out (by rw [show R.L.s3.nx = feedNx R.F3 R.n3 from rfl, ← HRR.out])
                rw [HBTD.out, HDD.out] at hr1
                have HR1 := hid hr1
                have HB1 := hid hb1
                have HOK1 := hid hok1
                clear hr1 hb1 hok1
                have e1 := blk_cell HBK9.out (j := 1) (v := .slice a1 R.n1 c1) rfl
                have e2 := blk_cell HBK9.out (j := 2) (v := .slice a2 R.n2 c2) rfl
                have H1r9 := hid (H1.out.fr F9.out (fun _ _ e => e))
                obtain ⟨f1, hf1⟩ : ∃ f1 : FQ, f1 = { f with m := f.m + 1, told := f.told + 1, ahead := (R.F0 f.m).toNat, d := dd, q := upd f.q k pv, bad := false } := ⟨_, rfl⟩
                rw [← hf1] at HR1
                have HF1 := hid hf1
                clear hf1
                go_upto_if 75 with fail
                go_cut [10, 11, 17] (fun cv jv sv wx => ∃ (cN jN : Nat) (V : Nat → Int) (bb oo cap : Nat) (P : Int), cv = .int .i64 cN ∧ jv = .int .i64 jN ∧ sv = .slice (some ⟨bb, oo, none⟩) 4 cap ∧ (∀ t, t < 4 → 0 ≤ V t ∧ V t < 256 ∧ wx.cell? ⟨bb, oo + t, none⟩ = some (.int .u8 (V t))) ∧
                    P = V 0 * 16777216 + V 1 * 65536 + V 2 * 256 + V 3 ∧ (i + 5 ≤ n → (R.start n).it R (i + 1) = { f1 with c := cN, j := jN, bad := false, word := wordQ ((P - ((f1.told : Int) + 4)) % 4294967296), waits := 4, ahead := ((P - ((f1.told : Int) + 4)) % 4294967296 / 16777216 % 256).toNat }) ∧ (¬ i + 5 ≤ n → FailQ R n) ∧ wx = w8.setCell ⟨gp, k, none⟩ (.int .u16 pv))
                case first =>
                  have HF1T := hid (show f1.told = i + 1 by rw [HF1.out]; show f.told + 1 = _; rw [HRUN.out.told])
                  have HF1S := hid (show f1.size = n by rw [HF1.out]; exact HRUN.out.size)
                  have HF1B := hid (show f1.bad = false by rw [HF1.out])
                  have HF1C := hid (show f1.c = f.c by rw [HF1.out])
                  have HF1J := hid (show f1.j = f.j by rw [HF1.out])
                  by_cases hx2 : R.F0 f.m = 232
                  · have q7 : (R.F0 f.m == 232) = true := by simp [hx2]
                    by_cases hc4 : f.c + 4 ≤ R.n1
                    · have HFIT := hid (show i + 5 ≤ n → (R.start n).it R (i + 1) = { f1 with c := f.c + 4, j := f.j, bad := false, word := wordQ ((four4 R.F1 f.c - ((f1.told : Int) + 4)) % 4294967296), waits := 4, ahead := ((four4 R.F1 f.c - ((f1.told : Int) + 4)) % 4294967296 / 16777216 % 256).toNat } from fun h5 => by
                        rw [HR1.out]
                        have ht : f1.told = i + 1 := HF1T.out
                        have hsz1 : f1.size = n := HF1S.out
                        have e5 := (congrArg (fun z => f1.target R.L.s1.nx R.L.s2.nx z) hx2).trans (tgt_call (f := f1) HF1B.out (by rw [HF1C.out]; exact hc4) (by rw [ht, hsz1]; omega))
                        rw [HF1C.out, HF1J.out] at e5
                        exact e5)
                      have HFAIL := hid (show ¬ i + 5 ≤ n → FailQ R n from fun h5 => fail_of HOK1.out (by rw [HR1.out]; exact tgt_short (.inr (.inr (by rw [HF1T.out, HF1S.out]; omega)))))
                      obtain ⟨b1, o1, ea, -, -⟩ := H1r.out.r1.at (i := f.c) (by omega)
                      have HRW := hid (show ∀ t, t < 4 → 0 ≤ R.F1 (f.c + t) ∧ R.F1 (f.c + t) < 256 ∧ (w8.setCell ⟨gp, k, none⟩ (.int .u16 pv)).cell? ⟨b1, o1 + f.c + t, none⟩ = some (.int .u8 (R.F1 (f.c + t))) from fun t ht => by
                        obtain ⟨bb, oo, eb, _, hcell⟩ := H1r9.out.r1.at (i := f.c + t) (by omega)
                        have := R.h1 (f.c + t) (by omega)
                        rw [ea] at eb
                        injection eb with eb
                        injection eb with eb1 eb2
                        subst eb1 eb2
                        exact ⟨this.1, this.2, by rw [Nat.add_assoc]; exact hcell⟩)
                      subst ea
                      have q8 : (f.c : Int) + 4 ≤ (R.n1 : Int) := by omega
                      have q9 : (R.n1 : Int) ≤ (c1 : Int) := by have := H.out.l1; omega
                      have q10 : ¬ (f.c : Int) = (c1 : Int) := by omega
                      have q11 : ¬ c1 = f.c := by omega
                      clear hc4 hx2
                      go_wp2_with fail
                      go_meet
                      exact ⟨f.c + 4, f.j, fun t => R.F1 (f.c + t), b1, o1 + f.c, c1 - f.c, four4 R.F1 f.c, by first | rfl | go_num, by first | rfl | go_num, by first | rfl | (simp; done) | (go_loud (exact Nat.zero)), HRW.out, rfl, HFIT.out, HFAIL.out, rfl⟩
                    · have HFAIL := hid (show FailQ R n from fail_of HOK1.out (by rw [HR1.out]; exact tgt_short (.inl ⟨hx2, by rw [HF1C.out]; omega, by rw [HF1C.out]; exact hpc⟩)))
                      have q8 : (R.n1 : Int) < (f.c : Int) + 4 := by omega
                      clear hc4 hx2
                      go_wp2_with fail
                      go_ret2
                      exact ⟨HW.out.trans F9.out, .inl ⟨HFAIL.out, rfl⟩⟩
                  · have q7 : (R.F0 f.m == 232) = false := by simp [hx2]
                    by_cases hc4 : f.j + 4 ≤ R.n2
                    · have HFIT := hid (show i + 5 ≤ n → (R.start n).it R (i + 1) = { f1 with c := f.c, j := f.j + 4, bad := false, word := wordQ ((four4 R.F2 f.j - ((f1.told : Int) + 4)) % 4294967296), waits := 4, ahead := ((four4 R.F2 f.j - ((f1.told : Int) + 4)) % 4294967296 / 16777216 % 256).toNat } from fun h5 => by
                        rw [HR1.out]
                        have ht : f1.told = i + 1 := HF1T.out
                        have hsz1 : f1.size = n := HF1S.out
                        have e5 := tgt_jump (f := f1) hx2 HF1B.out (by rw [HF1J.out]; exact hc4) (by rw [ht, hsz1]; omega)
                        rw [HF1C.out, HF1J.out] at e5
                        exact e5)
                      have HFAIL := hid (show ¬ i + 5 ≤ n → FailQ R n from fun h5 => fail_of HOK1.out (by rw [HR1.out]; exact tgt_short (.inr (.inr (by rw [HF1T.out, HF1S.out]; omega)))))
                      obtain ⟨b2, o2, ea, -, -⟩ := H1r.out.r2.at (i := f.j) (by omega)
                      have HRW := hid (show ∀ t, t < 4 → 0 ≤ R.F2 (f.j + t) ∧ R.F2 (f.j + t) < 256 ∧ (w8.setCell ⟨gp, k, none⟩ (.int .u16 pv)).cell? ⟨b2, o2 + f.j + t, none⟩ = some (.int .u8 (R.F2 (f.j + t))) from fun t ht => by
                        obtain ⟨bb, oo, eb, _, hcell⟩ := H1r9.out.r2.at (i := f.j + t) (by omega)
                        have := R.h2 (f.j + t) (by omega)
                        rw [ea] at eb
                        injection eb with eb
                        injection eb with eb1 eb2
                        subst eb1 eb2
                        exact ⟨this.1, this.2, by rw [Nat.add_assoc]; exact hcell⟩)
                      subst ea
                      have q8 : (f.j : Int) + 4 ≤ (R.n2 : Int) := by omega
                      have q9 : (R.n2 : Int) ≤ (c2 : Int) := by have := H.out.l2; omega
                      have q10 : ¬ (f.j : Int) = (c2 : Int) := by omega
                      have q11 : ¬ c2 = f.j := by omega
                      clear hc4 hx2
                      go_wp2_with fail
                      go_meet
                      exact ⟨f.c, f.j + 4, fun t => R.F2 (f.j + t), b2, o2 + f.j, c2 - f.j, four4 R.F2 f.j, by first | rfl | go_num, by first | rfl | go_num, by first | rfl | (simp; done) | (go_loud (exact Nat.zero)), HRW.out, rfl, HFIT.out, HFAIL.out, rfl⟩
                    · have HFAIL := hid (show FailQ R n from fail_of HOK1.out (by rw [HR1.out]; exact tgt_short (.inr (.inl ⟨hx2, by rw [HF1J.out]; omega, by rw [HF1J.out]; exact hpj⟩))))
                      have q8 : (R.n2 : Int) < (f.j : Int) + 4 := by omega
                      clear hc4 hx2
                      go_wp2_with fail
                      go_ret2
                      exact ⟨HW.out.trans F9.out, .inl ⟨HFAIL.out, rfl⟩⟩
                case rest =>
                  obtain ⟨cN, jN, V, bb, oo, cap, P, rfl, rfl, rfl, hV, hP, hit, hfl, hwc⟩ := hcut
                  subst hwc
                  have HIT := hid hit
                  have HFL := hid hfl
                  have HV := hid hV
                  have HP := hid hP
                  have HF1T := hid (show f1.told = i + 1 by rw [HF1.out]; show f.told + 1 = _; rw [HRUN.out.told])
                  have HF1S := hid (show f1.size = n by rw [HF1.out]; exact HRUN.out.size)
                  clear hit hfl hV hP
                  by_cases h5 : i + 5 ≤ n
                  · have q8 : ¬ x < (i : Int) + 1 + 4 := by have := HN.out; omega
                    obtain ⟨v00, v01, v02⟩ := HV.out 0 (by decide)
                    obtain ⟨v10, v11, v12⟩ := HV.out 1 (by decide)
                    obtain ⟨v20, v21, v22⟩ := HV.out 2 (by decide)
                    obtain ⟨v30, v31, v32⟩ := HV.out 3 (by decide)
                    have hi18 : (i : Int) < 49153 := by omega
                    have H5 := hid h5
                    clear h5 e1 e2 j4 g2 z2
                    rw [Nat.add_zero] at v02
                    have HZ0 := hid (show (V 0 * 16777216 + V 1 * 65536 + V 2 * 256 + V 3 - ((i : Int) + 1) - 4) % 4294967296 = (P - ((f1.told : Int) + 4)) % 4294967296 by rw [HF1T.out, HP.out]; congr 1; omega)
                    go_upto_region 34 with fail
                    go_cut [18] (fun z wx => ∃ Z : Int, z = .int .i64 Z ∧ -4294967296 ≤ Z ∧ Z < 4294967296 ∧ Z % 4294967296 = (P - ((f1.told : Int) + 4)) % 4294967296 ∧ ∃ nq, wx = (w8.setCell ⟨gp, k, none⟩ (.int .u16 pv)).drewN nq)
                    case first =>
                      go_quiet (fail)
                      go_wp2_with fail
                      go_meet
                      exact ⟨_, rfl, by omega, by omega, HZ0.out, _, rfl⟩
                    case rest =>
                    obtain ⟨Z0, rfl, zz0, zz1, zz2, nq, hwq⟩ := hcut
                    subst hwq
                    have HZZ := hid zz2
                    clear zz2
                    go_upto_block 2 with fail
                    go_cut [18] (fun z wx => ∃ Z : Int, z = .int .i64 Z ∧ 0 ≤ Z ∧ Z < 4294967296 ∧ Z = (P - ((f1.told : Int) + 4)) % 4294967296 ∧ wx = (w8.setCell ⟨gp, k, none⟩ (.int .u16 pv)).drewN nq)
                    case first =>
                      go_wp2_with fail
                      go_loop [18] (fun z => ∃ Z : Int, z = .int .i64 Z ∧ -4294967296 ≤ Z ∧ Z < 4294967296 ∧ Z % 4294967296 = (P - ((f1.told : Int) + 4)) % 4294967296) (fun z => (-(intOf z)).toNat)
                      case atStart => exact ⟨_, rfl, zz0, zz1, HZZ.out⟩
                      case round =>
                        obtain ⟨Z, rfl, hz0, hz1, hz2⟩ := hrel
                        have HZ := hid hz2
                        clear hz2 v02 v12 v22 v32 zz0 zz1
                        by_cases hneg : Z < 0
                        · go_wp2_with fail
                          go_round
                          case rel => exact ⟨Z + 4294967296, rfl, by omega, by omega, by have := HZ.out; omega⟩
                          case measure => simp [intOf]; omega
                        · have hz3 : 0 ≤ Z := by omega
                          have HZQ := hid (show Z = (P - ((f1.told : Int) + 4)) % 4294967296 by have := HZ.out; omega)
                          have HZB := hid hz1
                          have HZ3 := hid hz3
                          have qz : decide (Z < 0) = false := decide_eq_false hneg
                          clear hneg hz0 hz1 hz3
                          go_wp2_with fail
                          go_meet
                          exact ⟨Z, rfl, HZ3.out, HZB.out, HZQ.out, rfl⟩
                    case rest =>
                    obtain ⟨Z, rfl, hz3, hz1, hzq, hwq⟩ := hcut
                    subst hwq
                    have HZQ := hid hzq
                    clear hzq zz0 zz1 v02 v12 v22 v32 v00 v01 v10 v11 v20 v21 v30 v31 q8
                    have HI18 := hid (show i + 1 ≤ 49152 by omega)
                    have HSS := hid (show W.heap.size ≤ w3.heap.size ∧ gd < w3.heap.size ∧ gp < w3.heap.size ∧ w.heap.size ≤ gd ∧ w.heap.size ≤ gp from by omega)
                    have HX0 := hid (show 0 ≤ R.F0 f.m ∧ R.F0 f.m < 256 from ⟨hx0', hx1'⟩)
                    have HC2 := hid hc2
                    have HSZ9 := hid s9
                    have HSZ := hid (show w3.heap.size ≤ (w8.setCell ⟨gp, k, none⟩ (.int .u16 pv)).heap.size by omega)
                    clear hm0 hm1 hm2 hm3 hcnt hc2 hpm hpc hpj s2 s3 s6 s8 s9 hsz3 hgd0 hgd1 hgp0 hgp1 hws ha hk0 hk258 q1 q2 q3 hx0' hx1' hin hc8 hc9 hb0
                    have HBX := hid (show RowIn (w8.heap.size + 1) .u8 (((w8.setCell ⟨gp, k, none⟩ (.int .u16 pv)).drewN nq).alloc (.cells #[.int .u8 (Z % 256), .int .u8 (Z / 256 % 256), .int .u8 (Z / 65536 % 256), .int .u8 (Z / 16777216)] 5)) (some ⟨w8.heap.size, 0, none⟩) 4 (lit [Z % 256, Z / 256 % 256, Z / 65536 % 256, Z / 16777216]) from by
                      have h := RowIn.ofList (k := .u8) [Z % 256, Z / 256 % 256, Z / 65536 % 256, Z / 16777216] (blk_new ((w8.setCell ⟨gp, k, none⟩ (.int .u16 pv)).drewN nq) (.cells #[.int .u8 (Z % 256), .int .u8 (Z / 256 % 256), .int .u8 (Z / 65536 % 256), .int .u8 (Z / 16777216)] 5))
                      have e : ((w8.setCell ⟨gp, k, none⟩ (.int .u16 pv)).drewN nq).heap.size = w8.heap.size := by simp
                      rw [e] at h
                      exact h)
                    have O10 := hid (Own.alloc (Own.fr O9.out ((Fr.refl Non _).drewN nq) (fun _ _ e => e)) (.cells #[.int .u8 (Z % 256), .int .u8 (Z / 256 % 256), .int .u8 (Z / 65536 % 256), .int .u8 (Z / 16777216)] 5))
                    have HLAST := hid (show (bytesQ R (R.start n) i ++ [R.F0 f.m] ++ (List.range 4).map (lit [Z % 256, Z / 256 % 256, Z / 65536 % 256, Z / 16777216])).getD (i + 4) 0 = Z / 16777216 from by
                      rw [List.getD_eq_getElem?_getD, List.getElem?_append_right (by simp [bytesQ_len])]
                      rw [show i + 4 - (bytesQ R (R.start n) i ++ [R.F0 f.m]).length = 3 from by simp [bytesQ_len]]
                      rfl)
                    go_wp2_with (refine opAppendRow (some 155) rfl rfl (.tmp 139) (.tmp 154) 22 rfl w3.heap.size .u8 5 1 Try.underlying22 Try.info_u8q _ _ rfl (by exact O10.out) (w8.heap.size + 1) _ 4 4 (lit [Z % 256, Z / 256 % 256, Z / 65536 % 256, Z / 16777216]) rfl (fun e => by cases e) (by decide) (by exact HBX.out) (by decide) (by have := HI18.out; simp [bytesQ_len]; omega) (by have := HSZ.out; simp at this ⊢; omega) ?_; intro v10 w10 hown10 hg10; have HO10 := hid hown10; have HG10 := hid hg10; obtain ⟨a10, c10, rfl, hc10, -, hr10⟩ := Own.rowN (n := i + 5) hown10 (by simp [bytesQ_len]); obtain ⟨b10, o10, rfl, hb10, hcell10⟩ := hr10.at (i := i + 4) (by omega); rw [HLAST.out] at hcell10; clear hown10 hg10 hr10)
                    go_roundw
                    case rel =>
                      have hit := HIT.out H5.out
                      have hp5 := (R.start_pos n HN63.out).it (i + 1)
                      rw [hit] at hp5
                      obtain ⟨hr, u1, u2, u3, u4⟩ := wait4 hit HOK1.out rfl rfl HF1T.out HF1S.out H5.out hp5
                      have hss := HSS.out
                      have hgF : Fr (fun b => (Value.slice a9 (i + 1) c9).ownBlock = some b) (w8.setCell ⟨gp, k, none⟩ (.int .u16 pv)) w10 := Fr.grown (((Fr.refl _ _).drewN nq).alloc _) HG10.out (fun b hb _ => hb)
                      have hsz10 := hgF.size
                      have hsz9 := HSZ.out
                      have hb5 : bytesQ R (R.start n) (i + 5) = bytesQ R (R.start n) i ++ [R.F0 f.m] ++ (List.range 4).map (lit [Z % 256, Z / 256 % 256, Z / 65536 % 256, Z / 16777216]) := by
                        show bytesQ R (R.start n) (i + 4 + 1) = _
                        rw [bytesQ_snoc, show i + 4 = i + 3 + 1 from rfl, bytesQ_snoc, show i + 3 = i + 2 + 1 from rfl, bytesQ_snoc, show i + 2 = i + 1 + 1 from rfl, bytesQ_snoc, bytesQ_snoc, HB1.out]
                        show bytesQ R (R.start n) i ++ [R.F0 f.m] ++ [(R.start n).byteAt R (i + 1)] ++ [(R.start n).byteAt R (i + 2)] ++ [(R.start n).byteAt R (i + 3)] ++ [(R.start n).byteAt R (i + 4)] = _
                        rw [u1, u2, u3, u4]
                        have g0 : wordQ ((P - ((f1.told : Int) + 4)) % 4294967296) 0 = Z % 256 := by rw [← HZQ.out]; rfl
                        have g1 : wordQ ((P - ((f1.told : Int) + 4)) % 4294967296) 1 = Z / 256 % 256 := by rw [← HZQ.out]; rfl
                        have g2 : wordQ ((P - ((f1.told : Int) + 4)) % 4294967296) 2 = Z / 65536 % 256 := by rw [← HZQ.out]; rfl
                        have g3 : wordQ ((P - ((f1.told : Int) + 4)) % 4294967296) 3 = Z / 16777216 := by
                          rw [← HZQ.out]
                          show Z / 16777216 % 256 = _
                          omega
                        show _ ++ [wordQ _ 0] ++ [wordQ _ 1] ++ [wordQ _ 2] ++ [wordQ _ 3] = _
                        rw [g0, g1, g2, g3]
                        simp only [List.append_assoc]
                        rfl
                      refine ⟨i + 5, _, H5.out, hr, ?_, rfl, rfl, ?_, ?_, ?_, ?_, ?_, ?_⟩
                      · rw [HF1.out]; go_num
                      · have e : ((((P - ((f1.told : Int) + 4)) % 4294967296 / 16777216 % 256).toNat : Nat) : Int) = Z / 16777216 := by rw [← HZQ.out]; omega
                        show Value.int .u8 (Z / 16777216) = Value.int .u8 ((((P - ((f1.told : Int) + 4)) % 4294967296 / 16777216 % 256).toNat : Nat) : Int)
                        rw [e]
                      · have := D9.out.keep hgF (fun e => by have := HL9.out _ e; omega) (fun q hq e => by have := HL9.out _ e; omega)
                        rw [HF1.out]; exact this
                      · have := P9.out.fr hgF (fun e => by have := HL9.out _ e; omega)
                        rw [HF1.out]; exact this
                      · rw [hb5]; exact HO10.out
                      · exact Fr.grown ((F9.out.drewN nq).alloc _) HG10.out (fun b hb hlt => by have := HL9.out b hb; omega)
                      · omega
                    case measure =>
                      have h5c := HC2.out
                      have := H5.out
                      show _ - (i + 5) < _ - i
                      omega
                  · have q8 : x < (i : Int) + 1 + 4 := by have := HN.out; omega
                    have HFL2 := hid (HFL.out h5)
                    clear h5
                    go_wp2_with fail
                    go_ret2
                    exact ⟨HW.out.trans F9.out, .inl ⟨HFL2.out, rfl⟩⟩
          · have q3 : ((i : Int) + 1 == x) = true := by have := HN.out; simp; omega
            obtain ⟨hr1, hb1⟩ := HRUN.out.plain HLT.out HM0.out (.inr hl1)
            have HR1 := hid hr1
            have HB1 := hid hb1
            clear hk hr1 hb1 hl1
            go_wp2_with fail
            go_roundw
            case rel => exact ⟨i + 1, { f with m := f.m + 1, told := f.told + 1, ahead := (R.F0 f.m).toNat }, HLT.out, HR1.out, by go_num, rfl, rfl, by rw [HMZ.out], ⟨D6.out, P6.out, by rw [bytesQ_snoc, HB1.out]; exact O6.out, F6.out, by omega⟩⟩
            case measure => show _ - (i + 1) < _ - i; omega
      · have q2 : (R.n0 : Int) ≤ (f.m : Int) := by omega
        have HFAIL := hid (HRUN.out.short hlt hm)
        clear hlt hm
        go_wp2_with fail
        go_ret2
        exact ⟨HW.out.trans HM.out.fr, .inl ⟨HFAIL.out, rfl⟩⟩
    · have hie : i = n := by omega
      have q1 : ¬ (i : Int) < x := by have := HN.out; omega
      obtain ⟨g1, g2, g3⟩ := HRUN.out.final hie
      have G1 := hid g1
      have G2 := hid g2
      have G3 := hid g3
      have HE := hid (HRUN.out.ends hie HM.out.dec.src)
      have HIE := hid hie
      have j1 := blk_cell HM.out.dec.at_ (j := 1) (v := .int .i64 f.d.src) rfl
      have j3 := blk_cell HM.out.dec.at_ (j := 3) (v := .int .u64 f.d.code) rfl
      have j4 := blk_cell HM.out.dec.at_ (j := 4) (v := .bool f.d.bad) rfl
      clear g1 g2 g3 hlt hie
      by_cases z0 : f.m = R.n0
      · have y0 : ((f.m : Int) == (R.n0 : Int)) = true := by simp; omega
        have x0 : ((f.m : Int) != (R.n0 : Int)) = false := by simp; omega
        by_cases z1 : f.c = R.n1
        · have y1 : ((f.c : Int) == (R.n1 : Int)) = true := by simp; omega
          have x1 : ((f.c : Int) != (R.n1 : Int)) = false := by simp; omega
          by_cases z2 : f.j = R.n2
          · have y2 : ((f.j : Int) == (R.n2 : Int)) = true := by simp; omega
            have x2 : ((f.j : Int) != (R.n2 : Int)) = false := by simp; omega
            cases z3 : f.d.bad with
            | false =>
              rw [z3] at j4
              by_cases z4 : f.d.code = 0
              · have y4 : (f.d.code == 0) = true := by simp; omega
                have x4 : (f.d.code != 0) = false := by simp; omega
                by_cases z5 : f.d.src = R.n3
                · have y5 : ((f.d.src : Int) == (R.n3 : Int)) = true := by simp; omega
                  have x5 : ((f.d.src : Int) != (R.n3 : Int)) = false := by simp; omega
                  have HE2 := hid (show f.ends R.L = true by rw [HE.out]; exact decide_eq_true ⟨z0, z1, z2, z3, z4, z5⟩)
                  clear z0 z1 z2 z3 z4 z5
                  go_wp2_with fail
                  go_quiet (fail)
                  go_wp2_with fail
                  go_ret2
                  refine ⟨HW.out.trans (HM.out.fr.drewN _), .inr ⟨n, G1.out, G2.out, by rw [G3.out]; exact HE2.out, _, rfl, Own.fr (S := Non) (w := wr) ?_ ((Fr.refl Non wr).drewN _) (fun _ _ e => e)⟩⟩
                  have ho := HM.out.own.low (b2 := w.heap.size) (by omega)
                  rw [show bytesQ R (R.start n) n = bytesQ R (R.start n) i by rw [HIE.out]]
                  exact ho
                · have y5 : ((f.d.src : Int) == (R.n3 : Int)) = false := by simp; omega
                  have x5 : ((f.d.src : Int) != (R.n3 : Int)) = true := by simp; omega
                  have HE2 := hid (show f.ends R.L = false by rw [HE.out]; exact decide_eq_false (fun h => z5 h.2.2.2.2.2))
                  clear z5
                  clear z0
                  clear z1
                  clear z2
                  clear z3
                  clear z4
                  go_wp2_with fail
                  go_quiet (fail)
                  go_wp2_with fail
                  go_ret2
                  exact ⟨HW.out.trans (HM.out.fr.drewN _), .inl ⟨⟨n, G1.out, G2.out, by rw [G3.out]; exact HE2.out⟩, rfl⟩⟩
              · have y4 : (f.d.code == 0) = false := by simp; omega
                have x4 : (f.d.code != 0) = true := by simp; omega
                have HE2 := hid (show f.ends R.L = false by rw [HE.out]; exact decide_eq_false (fun h => z4 h.2.2.2.2.1))
                clear z4
                clear z0
                clear z1
                clear z2
                clear z3
                go_wp2_with fail
                go_quiet (fail)
                go_wp2_with fail
                go_ret2
                exact ⟨HW.out.trans (HM.out.fr.drewN _), .inl ⟨⟨n, G1.out, G2.out, by rw [G3.out]; exact HE2.out⟩, rfl⟩⟩
            | true =>
              rw [z3] at j4
              have HE2 := hid (show f.ends R.L = false by rw [HE.out]; exact decide_eq_false (fun h => by rw [z3] at h; cases h.2.2.2.1))
              clear z3
              clear z0
              clear z1
              clear z2
              go_wp2_with fail
              go_quiet (fail)
              go_wp2_with fail
              go_ret2
              exact ⟨HW.out.trans (HM.out.fr.drewN _), .inl ⟨⟨n, G1.out, G2.out, by rw [G3.out]; exact HE2.out⟩, rfl⟩⟩
          · have y2 : ((f.j : Int) == (R.n2 : Int)) = false := by simp; omega
            have x2 : ((f.j : Int) != (R.n2 : Int)) = true := by simp; omega
            have HE2 := hid (show f.ends R.L = false by rw [HE.out]; exact decide_eq_false (fun h => z2 h.2.2.1))
            clear z2
            clear z0
            clear z1
            go_wp2_with fail
            go_quiet (fail)
            go_wp2_with fail
            go_ret2
            exact ⟨HW.out.trans (HM.out.fr.drewN _), .inl ⟨⟨n, G1.out, G2.out, by rw [G3.out]; exact HE2.out⟩, rfl⟩⟩
        · have y1 : ((f.c : Int) == (R.n1 : Int)) = false := by simp; omega
          have x1 : ((f.c : Int) != (R.n1 : Int)) = true := by simp; omega
          have HE2 := hid (show f.ends R.L = false by rw [HE.out]; exact decide_eq_false (fun h => z1 h.2.1))
          clear z1
          clear z0
          go_wp2_with fail
          go_quiet (fail)
          go_wp2_with fail
          go_ret2
          exact ⟨HW.out.trans (HM.out.fr.drewN _), .inl ⟨⟨n, G1.out, G2.out, by rw [G3.out]; exact HE2.out⟩, rfl⟩⟩
      · have y0 : ((f.m : Int) == (R.n0 : Int)) = false := by simp; omega
        have x0 : ((f.m : Int) != (R.n0 : Int)) = true := by simp; omega
        have HE2 := hid (show f.ends R.L = false by rw [HE.out]; exact decide_eq_false (fun h => z0 h.1))
        clear z0
        go_wp2_with fail
        go_quiet (fail)
        go_wp2_with fail
        go_ret2
        exact ⟨HW.out.trans (HM.out.fr.drewN _), .inl ⟨⟨n, G1.out, G2.out, by rw [G3.out]; exact HE2.out⟩, rfl⟩⟩
end Go.Proofs.Ytphdnfilenkanaa
