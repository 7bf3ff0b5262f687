/- garblerref15: Code. -/
import Derived.Test.YtphdnfilenkanaaBqC2Q
import Derived.Test.YtphdnfilenkanaaMg06
import Derived.Test.YtphdnfilenkanaaMg08
namespace Go.Proofs.Ytphdnfilenkanaa
open Go.RowKit

theorem RowP.lt {w : World} {gp : Nat} {q : Nat → Int} (h : RowP w gp q) : gp < w.heap.size := by
  obtain ⟨cs, h1, h2⟩ := h; exact blk_lt h1
/-- what holds as the document's coder's loop goes on. -/
structure EMemQ (A : Nat → Prop) (g gp gs : Nat) (n : Nat) (F : Nat → Int) (W wr : World) (s : CQ) (v0 v1 v2 : Value) : Prop where
  enc : EncC A g wr s.c
  row : RowP wr gp s.q
  rows : RowsQ A gs W.heap.size wr v0 v1 v2 (.slice none 0 0) s.m s.k s.j
  ar : A gp
  rr : W.heap.size ≤ gp
  rs : gp ≠ gs
  r0 : ¬ v0.ownBlock = some gp
  r1 : ¬ v1.ownBlock = some gp
  r2 : ¬ v2.ownBlock = some gp
  low : ∀ k, k < W.heap.size → A k
  fr : Fr Non W wr
  sz : W.heap.size ≤ wr.heap.size
theorem EMemQ.push0 {A : Nat → Prop} {g gp gs n : Nat} {F : Nat → Int} {W wr W2 w2 : World} {s : CQ} {v0 v1 v2 v' : Value} {ys : List Int} (h : EMemQ A g gp gs n F W wr s v0 v1 v2) (hgs : W.heap.size ≤ gs) (hW : Fr Non wr W2)
    (ho : Own w2 0 .u8 5 v' (s.m ++ ys)) (hg : W2.grownBy w2 v0.ownBlock) (hv : v'.ownBlock = v0.ownBlock ∨ v'.ownBlock = some W2.heap.size) :
    EMemQ (Since A wr (w2.setCell ⟨gs, 0, none⟩ v')) g gp gs n F W (w2.setCell ⟨gs, 0, none⟩ v') { s with m := s.m ++ ys } v' v1 v2 ∧ w2.cell? ⟨gs, 0, none⟩ = some v0 ∧ w2.frozen? ⟨gs, 0, none⟩ = false := by
  obtain ⟨hr, hf, hs⟩ := h.rows.push0 h.sz hW ho hg hv
  have hb2 := (hW.any.trans (Fr.grew hg)).blk h.rows.str (fun e => (h.rows.a0 gs e).2.2 rfl)
  have hlt : gp < wr.heap.size := h.row.lt
  have hw2 := hW.size
  have hrn : ¬ v'.ownBlock = some gp := by
    rcases hv with e | e
    · rw [e]; exact h.r0
    · rw [e]; intro x; injection x with x; omega
  refine ⟨⟨h.enc.gone hf (fun b hb e => ?_), h.row.fr hf (fun e => ?_), hr, .inl h.ar, h.rr, h.rs, hrn, h.r1, h.r2, fun k hk => .inl (h.low k hk), h.fr.then hf (fun b hb e => ?_), by have := h.sz; have := hf.size; omega⟩, blk_cell hb2 rfl, blk_frozen hb2 0⟩
  · rcases e with e | e
    · exact (h.rows.a0 b e).1
    · rw [e]; exact h.rows.asA
  · rcases e with e | e
    · exact h.r0 e
    · exact h.rs e
  · rcases e with e | e
    · have := (h.rows.a0 b e).2.1; omega
    · omega
theorem EMemQ.push1 {A : Nat → Prop} {g gp gs n : Nat} {F : Nat → Int} {W wr W2 w2 : World} {s : CQ} {v0 v1 v2 v' : Value} {ys : List Int} (h : EMemQ A g gp gs n F W wr s v0 v1 v2) (hgs : W.heap.size ≤ gs) (hW : Fr Non wr W2)
    (ho : Own w2 0 .u8 5 v' (s.k ++ ys)) (hg : W2.grownBy w2 v1.ownBlock) (hv : v'.ownBlock = v1.ownBlock ∨ v'.ownBlock = some W2.heap.size) :
    EMemQ (Since A wr (w2.setCell ⟨gs, 1, none⟩ v')) g gp gs n F W (w2.setCell ⟨gs, 1, none⟩ v') { s with k := s.k ++ ys } v0 v' v2 ∧ w2.cell? ⟨gs, 1, none⟩ = some v1 ∧ w2.frozen? ⟨gs, 1, none⟩ = false := by
  obtain ⟨hr, hf, hs⟩ := h.rows.push1 h.sz hW ho hg hv
  have hb2 := (hW.any.trans (Fr.grew hg)).blk h.rows.str (fun e => (h.rows.a1 gs e).2.2 rfl)
  have hlt : gp < wr.heap.size := h.row.lt
  have hw2 := hW.size
  have hrn : ¬ v'.ownBlock = some gp := by
    rcases hv with e | e
    · rw [e]; exact h.r1
    · rw [e]; intro x; injection x with x; omega
  refine ⟨⟨h.enc.gone hf (fun b hb e => ?_), h.row.fr hf (fun e => ?_), hr, .inl h.ar, h.rr, h.rs, h.r0, hrn, h.r2, fun k hk => .inl (h.low k hk), h.fr.then hf (fun b hb e => ?_), by have := h.sz; have := hf.size; omega⟩, blk_cell hb2 rfl, blk_frozen hb2 1⟩
  · rcases e with e | e
    · exact (h.rows.a1 b e).1
    · rw [e]; exact h.rows.asA
  · rcases e with e | e
    · exact h.r1 e
    · exact h.rs e
  · rcases e with e | e
    · have := (h.rows.a1 b e).2.1; omega
    · omega
theorem EMemQ.push2 {A : Nat → Prop} {g gp gs n : Nat} {F : Nat → Int} {W wr W2 w2 : World} {s : CQ} {v0 v1 v2 v' : Value} {ys : List Int} (h : EMemQ A g gp gs n F W wr s v0 v1 v2) (hgs : W.heap.size ≤ gs) (hW : Fr Non wr W2)
    (ho : Own w2 0 .u8 5 v' (s.j ++ ys)) (hg : W2.grownBy w2 v2.ownBlock) (hv : v'.ownBlock = v2.ownBlock ∨ v'.ownBlock = some W2.heap.size) :
    EMemQ (Since A wr (w2.setCell ⟨gs, 2, none⟩ v')) g gp gs n F W (w2.setCell ⟨gs, 2, none⟩ v') { s with j := s.j ++ ys } v0 v1 v' ∧ w2.cell? ⟨gs, 2, none⟩ = some v2 ∧ w2.frozen? ⟨gs, 2, none⟩ = false := by
  obtain ⟨hr, hf, hs⟩ := h.rows.push2 h.sz hW ho hg hv
  have hb2 := (hW.any.trans (Fr.grew hg)).blk h.rows.str (fun e => (h.rows.a2 gs e).2.2 rfl)
  have hlt : gp < wr.heap.size := h.row.lt
  have hw2 := hW.size
  have hrn : ¬ v'.ownBlock = some gp := by
    rcases hv with e | e
    · rw [e]; exact h.r2
    · rw [e]; intro x; injection x with x; omega
  refine ⟨⟨h.enc.gone hf (fun b hb e => ?_), h.row.fr hf (fun e => ?_), hr, .inl h.ar, h.rr, h.rs, h.r0, h.r1, hrn, fun k hk => .inl (h.low k hk), h.fr.then hf (fun b hb e => ?_), by have := h.sz; have := hf.size; omega⟩, blk_cell hb2 rfl, blk_frozen hb2 2⟩
  · rcases e with e | e
    · exact (h.rows.a2 b e).1
    · rw [e]; exact h.rows.asA
  · rcases e with e | e
    · exact h.r2 e
    · exact h.rs e
  · rcases e with e | e
    · have := (h.rows.a2 b e).2.1; omega
    · omega
theorem EMemQ.re {A : Nat → Prop} {g gp gs n : Nat} {F : Nat → Int} {W wr : World} {s s' : CQ} {v0 v1 v2 : Value} (h : EMemQ A g gp gs n F W wr s v0 v1 v2) (hc : s'.c = s.c) (hq : s'.q = s.q) (hm : s'.m = s.m) (hk : s'.k = s.k) (hj : s'.j = s.j) : EMemQ A g gp gs n F W wr s' v0 v1 v2 :=
  ⟨by rw [hc]; exact h.enc, by rw [hq]; exact h.row, by rw [hm, hk, hj]; exact h.rows, h.ar, h.rr, h.rs, h.r0, h.r1, h.r2, h.low, h.fr, h.sz⟩
theorem EMemQ.drewN {A : Nat → Prop} {g gp gs n : Nat} {F : Nat → Int} {W wr : World} {s : CQ} {v0 v1 v2 : Value} (h : EMemQ A g gp gs n F W wr s v0 v1 v2) (m : Nat) : EMemQ A g gp gs n F W (wr.drewN m) s v0 v1 v2 :=
  ⟨h.enc.any ((Fr.refl Non _).drewN m), h.row.fr ((Fr.refl Non _).drewN m) id, h.rows.keep ((Fr.refl Non _).drewN m) (fun _ e => e.elim) (fun _ e => e), h.ar, h.rr, h.rs, h.r0, h.r1, h.r2, h.low, h.fr.drewN m, h.sz⟩
/-- a bit. -/
theorem EMemQ.bit_ {A : Nat → Prop} {g gp gs n : Nat} {F : Nat → Int} {W wr w' : World} {s : CQ} {v0 v1 v2 : Value} (h : EMemQ A g gp gs n F W wr s v0 v1 v2) {k : Nat} (hk : k < 258) {b : Nat} {e : Ending}
    (hp : EBPost A g wr (s.c.bit (s.q k) b) e w') :
    e = .returned (.int .u16 (s.c.bit (s.q k) b).1) ∧ EMemQ A g gp gs n F W (w'.setCell ⟨gp, k, none⟩ (.int .u16 (s.c.bit (s.q k) b).1)) { s with q := upd s.q k (s.c.bit (s.q k) b).1, c := (s.c.bit (s.q k) b).2 } v0 v1 v2 ∧ w'.cell? ⟨gp, k, none⟩ = some (.int .u16 (s.q k)) ∧ w'.frozen? ⟨gp, k, none⟩ = false := by
  obtain ⟨he, hf, hc⟩ := hp
  have hP := h.row.fr hf (fun e => e h.ar)
  have hS : Fr (fun b => b = gp) w' (w'.setCell ⟨gp, k, none⟩ (.int .u16 (s.c.bit (s.q k) b).1)) := (Fr.refl _ _).setOne _ _
  obtain ⟨c1, c2⟩ := hP.get hk
  refine ⟨he, ⟨EncIs.keep hc hS (fun b _ e => by have e : b = gp := e; rw [e]; exact h.ar), hP.set hk _, (h.rows.keep hf (fun b e _ => .inl e) (fun _ e => e)).keep hS (fun b e _ => .inr ?_) (fun _ e => e), h.ar, h.rr, h.rs, h.r0, h.r1, h.r2, h.low, (h.fr.then hf (fun b hb e => e (h.low b hb))).then hS (fun b hb e => by have e : b = gp := e; have := h.rr; omega), by have := h.sz; have := hf.size; have := hS.size; omega⟩, c1, c2⟩
  have e : b = gp := e
  rw [e]
  exact ⟨h.rr, h.rs, h.r0, h.r1, h.r2⟩
set_option maxRecDepth 100000 in
set_option maxHeartbeats 16000000 in
theorem rcodeQ_any (a : Option Addr) (n cap : Nat) (F : Nat → Int) (hF : ∀ i, i < n → 0 ≤ F i ∧ F i < 256) (w : World) (hn : n ≤ 16384) (h : RowIn w.heap.size .u8 w a n F) :
    Calls Try.prog 14 #[.slice a n cap] w (CodeQPost n F w) := by
  have HF := hid hF
  obtain ⟨W, hW⟩ : ∃ W, W = w.alloc (.cells #[.slice none 0 0, .slice none 0 0, .slice none 0 0, .slice none 0 0] 24) := ⟨_, rfl⟩
  have hwW : Fr Non w W := by rw [hW]; exact (Fr.refl Non w).alloc _
  have hsW : W.heap.size = w.heap.size + 1 := by rw [hW]; simp
  have hbW : W.heap[w.heap.size]? = some (.cells #[.slice none 0 0, .slice none 0 0, .slice none 0 0, .slice none 0 0] 24) := by rw [hW]; exact blk_new w _
  have H := hid (show RowIn W.heap.size .u8 W a n F from (h.fr hwW (fun _ _ e => e)).mono (by omega))
  have HWW := hid hwW
  have HSW := hid hsW
  have HBW := hid hbW
  clear h hF hwW hsW hbW
  have HW := hid hW
  clear hW
  go_enter Try.func14, Try.ntmps14
  go_wp2_with fail
  rw [← HW.out]
  refine (enew_any _).mono ?_
  rintro e w1 ⟨g, rfl, hg0, hf1, he1⟩
  have HF1 := hid hf1
  have HE1 := hid he1
  clear hf1 he1
  go_wp2_with fail
  refine (rfresh_any 258 _ (by decide)).mono ?_
  rintro e w2 ⟨v2, rfl, ho2, hf2⟩
  obtain ⟨gp, cp, rfl, hgp0, hgp1, hp2⟩ := rowP_of ho2
  obtain ⟨gs, hgs⟩ : ∃ gs, gs = w2.heap.size := ⟨_, rfl⟩
  obtain ⟨w3, hw3⟩ : ∃ w3, w3 = w2.alloc (.cells #[.slice none 0 0, .slice none 0 0, .slice none 0 0, .slice none 0 0] 24) := ⟨_, rfl⟩
  have hf3 : Fr Non w2 w3 := by rw [hw3]; exact (Fr.refl Non _).alloc _
  have hs3 : w3.heap.size = gs + 1 := by rw [hw3, hgs]; simp
  have hb3 : w3.heap[gs]? = some (.cells #[.slice none 0 0, .slice none 0 0, .slice none 0 0, .slice none 0 0] 24) := by rw [hw3, hgs]; exact blk_new w2 _
  have s1 := HF1.out.size
  have S0 := hid (show ∃ A, EMemQ A g gp gs n F W w3 CQ.new (.slice none 0 0) (.slice none 0 0) (.slice none 0 0) from
    ⟨Since (fun k => k < W.heap.size) w1 w3, HE1.out.gone (hf2.trans hf3) (fun _ _ e => e.elim), hp2.fr hf3 id,
    ⟨hb3, Own.nil _ _ _ _, Own.nil _ _ _ _, Own.nil _ _ _ _, fun b hb => by simp [Value.ownBlock] at hb, fun b hb => by simp [Value.ownBlock] at hb, fun b hb => by simp [Value.ownBlock] at hb, fun b hb => by simp [Value.ownBlock] at hb, fun b hb => by simp [Value.ownBlock] at hb, fun b hb => by simp [Value.ownBlock] at hb, .inr ⟨by omega, by omega⟩⟩,
    .inr ⟨hgp0, by omega⟩, by omega, by omega, by simp [Value.ownBlock], by simp [Value.ownBlock], by simp [Value.ownBlock], fun k hk => .inl hk, (HF1.out.trans hf2).trans hf3, by omega⟩)
  have HWGS := hid (show W.heap.size ≤ gs by omega)
  have HW3 := hid hw3
  have HGS := hid hgs
  clear ho2 hf2 hp2 hf3 hs3 hb3 hgp0 hgp1 s1 hg0 hw3 hgs HF1 HE1
  go_wp2_with fail
  rw [← HW3.out, ← HGS.out]
  go_loopw [6, 7] (fun av iv wr => ∃ (s : CQ) (A : Nat → Prop) (v0 v1 v2 : Value), av = .int .u8 s.ahead ∧ iv = .int .i64 s.i ∧ s.Good F n ∧ s.i ≤ n ∧ CQ.run n F (n - s.i) s = codeQ n F ∧ EMemQ A g gp gs n F W wr s v0 v1 v2) (fun _ iv _ => n - (intOf iv).toNat)
  case atStart =>
    obtain ⟨A, hm⟩ := S0.out
    exact ⟨CQ.new, A, _, _, _, rfl, rfl, CQ.new_good F n, Nat.zero_le _, rfl, hm⟩
  case round =>
    obtain ⟨s, A, v0, v1, v2, rfl, rfl, hg, hi, hrun, hm⟩ := hrel
    have HG := hid hg
    have HRUN := hid hrun
    have HM := hid hm
    have hi2 : (s.i : Int) ≤ 16384 := by omega
    have hm0 := hg.m0
    have hk0 := hg.k0
    have hj0 := hg.j0
    have ha := hg.ahead
    have hr := H.out.fr hm.fr (fun _ _ e => e)
    have HR := hid hr
    clear hg hrun hm S0 hr
    by_cases hlt : s.i < n
    · obtain ⟨b, off, rfl, hb, c0⟩ := HR.out.at hlt
      have hx := HF.out s.i hlt
      obtain ⟨hx0, hx1⟩ := hx
      obtain ⟨x, hx⟩ : ∃ x : Nat, (x : Int) = F s.i := ⟨(F s.i).toNat, by omega⟩
      rw [← hx] at c0 hx0 hx1
      have HX := hid hx
      have HLT := hid hlt
      have HAH := hid (show Value.int .u8 (x : Int) = .int .u8 (((F s.i).toNat : Nat) : Int) by rw [← hx, Int.toNat_natCast])
      have k0 := blk_cell HM.out.rows.str (j := 0) (v := v0) rfl
      have z0 := blk_frozen HM.out.rows.str 0
      have ka := fun o => blk_cell (blk_alloc (o' := o) HM.out.rows.str) (j := 0) (v := v0) rfl
      clear hx
      have hlt2 : (s.i : Int) < (n : Int) := by omega
      have hsi0 : (0 : Int) ≤ (s.i : Int) := by omega
      clear hlt
      have HBB := hid hb
      clear hb
      go_upto_region 8 with fail
      go_cut [] (fun wx => ∃ a2 cap2, EMemQ (Since A wr wx) g gp gs n F W wx { s with m := s.m ++ [(x : Int)] } (.slice a2 (s.m.length + 1) cap2) v1 v2)
      case first =>
        go_region_law (refine step_grow1 rfl (.tmp 21) (.tmp 26) 22 rfl .u8 5 1 Try.underlying22 Try.info_u8q v0 s.m rfl _ _ _ rfl (by exact Own.alloc HM.out.rows.o0 _) (by exact cell_new1 _ _ _) (by decide) (by omega) ?_; intro v' w2 hown2 hg2 hb2; obtain ⟨a2, cap2, hv2, _, _, _⟩ := hown2.rowN (n := s.m.length + 1) (by simp); subst hv2; obtain ⟨hm2, k2, z2⟩ := HM.out.push0 HWGS.out ((Fr.refl Non _).drew.alloc _) hown2 hg2 hb2; have HM2 := hid hm2; clear hm2 hown2 hg2 hb2)
        all_goals
          go_wp2_with fail
          go_meet
          exact ⟨_, _, HM2.out⟩
      case rest =>
        obtain ⟨a2, cap2, hm2⟩ := hcut
        obtain ⟨wm, hwm⟩ : ∃ wm, wm = wc := ⟨_, rfl⟩
        subst hwm
        have HM2 := hid hm2
        clear hm2 k0 z0 ka
        have hr3 := H.out.fr HM2.out.fr (fun _ _ e => e)
        have HR3 := hid hr3
        have c3 := hr3.cellAt (i := s.i) HLT.out
        rw [← HX.out] at c3
        have hs3 := HM2.out.sz
        clear hr3 c0
        go_wp2_with fail
        refine (rwhich_any s.ahead (x : Int) _ ha hx0 hx1).mono ?_
        rintro e w4 ⟨rfl, rfl⟩
        cases hk : whichQ s.ahead (x : Int) with
        | none =>
          rw [whichI_none hk]
          have HST := hid (show s.step n F = s.plain F by unfold CQ.step; rw [← HX.out, hk])
          have M5 := hid (HM2.out.re (s' := s.plain F) rfl rfl (by show s.m ++ [F s.i] = s.m ++ [(x : Int)]; rw [HX.out]) rfl rfl)
          clear hk
          go_wp2_with fail
          go_roundw
          case rel => exact ⟨s.step n F, _, _, v1, v2, by rw [HST.out]; exact HAH.out, by rw [HST.out]; exact congrArg (Value.int .i64) (by show (s.i : Int) + 1 = ((s.i + 1 : Nat) : Int); omega), HG.out.step HF.out HLT.out, by rw [HST.out]; exact HLT.out, by rw [← run_step n F (n - s.i) s HLT.out (by have := HLT.out; omega)]; exact HRUN.out, by rw [HST.out]; exact M5.out⟩
          case measure => have := HLT.out; simp [intOf]; omega
        | some k =>
          rw [whichI_some hk]
          have hk258 := whichQ_lt ha hk
          have hkk0 : (0 : Int) ≤ (k : Int) := by omega
          have HK := hid hk
          clear hk
          by_cases hl : s.i + 1 = n
          · have HST := hid (show s.step n F = s.plain F by unfold CQ.step; rw [← HX.out, HK.out]; exact if_pos hl)
            have M5 := hid (HM2.out.re (s' := s.plain F) rfl rfl (by show s.m ++ [F s.i] = s.m ++ [(x : Int)]; rw [HX.out]) rfl rfl)
            have q1 : ((s.i : Int) == (n : Int) - 1) = true := by simp; omega
            clear hl
            go_wp2_with fail
            go_roundw
            case rel => exact ⟨s.step n F, _, _, v1, v2, by rw [HST.out]; exact HAH.out, by rw [HST.out]; exact congrArg (Value.int .i64) (by show (s.i : Int) + 1 = ((s.i + 1 : Nat) : Int); omega), HG.out.step HF.out HLT.out, by rw [HST.out]; exact HLT.out, by rw [← run_step n F (n - s.i) s HLT.out (by have := HLT.out; omega)]; exact HRUN.out, by rw [HST.out]; exact M5.out⟩
            case measure => have := HLT.out; simp [intOf]; omega
          · have q1 : ((s.i : Int) == (n : Int) - 1) = false := by simp; omega
            have HL := hid hl
            have hpk := HG.out.pr k hk258
            obtain ⟨g1, -⟩ := HM2.out.row.get hk258
            clear hl
            by_cases h4 : s.i + 4 < n
            · have q2 : (4 : Int) < (n : Int) - (s.i : Int) := by omega
              have hb1 := HF.out (s.i + 1) (by omega)
              have hb2 := HF.out (s.i + 2) (by omega)
              have hb3 := HF.out (s.i + 3) (by omega)
              have hb4 := HF.out (s.i + 4) (by omega)
              have d1 := HR3.out.cellAt (i := s.i + 1) (by omega)
              have d2 := HR3.out.cellAt (i := s.i + 2) (by omega)
              have d3 := HR3.out.cellAt (i := s.i + 3) (by omega)
              have d4 := HR3.out.cellAt (i := s.i + 4) (by omega)
              have HP := hid (show placeQ n F s.i = if (F (s.i + 1) + 256 * F (s.i + 2) + 65536 * F (s.i + 3) + 16777216 * F (s.i + 4) + s.i + 5) % 4294967296 < n then some ((F (s.i + 1) + 256 * F (s.i + 2) + 65536 * F (s.i + 3) + 16777216 * F (s.i + 4) + s.i + 5) % 4294967296) else none from if_pos h4)
              obtain ⟨Z, hZ⟩ : ∃ Z : Int, Z = (F (s.i + 1) + 256 * F (s.i + 2) + 65536 * F (s.i + 3) + 16777216 * F (s.i + 4) + s.i + 5) % 4294967296 := ⟨_, rfl⟩
              have hZ0 : 0 ≤ Z := by omega
              have hZ1 : Z < 4294967296 := by omega
              rw [← hZ] at HP
              have HZ := hid hZ
              have H4 := hid h4
              clear hZ h4
              go_upto_region 15 with fail
              go_cut [10] (fun z wx => ∃ nq, z = .int .u64 Z ∧ wx = wm.drewN nq)
              case first =>
                go_quiet (fail)
                go_wp2_with fail
                go_meet
                refine ⟨_, ?_, rfl⟩
                have hz := HZ.out
                subst hz
                exact congrArg (Value.int .u64) (by omega)
              case rest =>
              obtain ⟨nq, rfl, hwx⟩ := hcut
              subst hwx
              have MD := hid (HM2.out.drewN nq)
              obtain ⟨g2, -⟩ := MD.out.row.get hk258
              clear d1 d2 d3 d4 hb1 hb2 hb3 hb4 g1 c3
              by_cases hlt3 : Z < (n : Int)
              · have hp : placeQ n F s.i = some Z := by rw [HP.out, if_pos hlt3]
                have HST := hid (show s.step n F = s.apart F k Z by unfold CQ.step; rw [← HX.out, HK.out]; show (if s.i + 1 = n then _ else _) = _; rw [if_neg HL.out, hp])
                have qz : decide (Z < (n : Int)) = true := decide_eq_true hlt3
                clear hp hlt3
                go_wp2_with fail
                refine (ebit_any _ g (3 * s.i) s.c (s.q k) 1 _ (by exact MD.out.enc) HG.out.ok HG.out.by_ (by omega) hpk.1 hpk.2 (by decide)).mono ?_
                intro e w6 h6
                obtain ⟨rfl, hm6, g3, z3⟩ := MD.out.bit_ hk258 h6
                clear h6 g2
                go_upto_region 20 with fail
                obtain ⟨w7, hw7⟩ : ∃ w7, w7 = w6.setCell ⟨gp, k, none⟩ (.int .u16 (s.c.bit (s.q k) 1).1) := ⟨_, rfl⟩
                rw [← hw7] at hm6 ⊢
                clear hw7 g3 z3
                have M6 := hid hm6
                have hx4 := HF.out (s.i + 4) H4.out
                obtain ⟨x4, hx4e⟩ : ∃ x4 : Nat, (x4 : Int) = F (s.i + 4) := ⟨(F (s.i + 4)).toNat, by omega⟩
                have HX4 := hid hx4e
                have HA4 := hid (show Value.int .u8 (x4 : Int) = .int .u8 (((F (s.i + 4)).toNat : Nat) : Int) by rw [← hx4e, Int.toNat_natCast])
                have hx40 : (0 : Int) ≤ (x4 : Int) := by omega
                have hx41 : (x4 : Int) < 256 := by omega
                have c6 := (H.out.fr hm6.fr (fun _ _ e => e)).cellAt (i := s.i) HLT.out
                rw [← HX.out] at c6
                have c6a : ∀ o, (w7.alloc o).cell? ⟨b, off + s.i, none⟩ = some (.int .u8 (x : Int)) := fun o => ((Fr.refl Non w7).alloc o).cell c6 id
                have hlt5 : (s.i : Int) + 4 < (n : Int) := by omega
                have HWC := hid (show ∀ j y, (wordB Z)[j]? = some y → (w7.alloc (.cells #[.int .u8 (Z / 16777216), .int .u8 (Z / 65536 % 256), .int .u8 (Z / 256 % 256), .int .u8 (Z % 256)] 5)).cell? ((⟨w7.heap.size, 0, none⟩ : Addr).add j) = some (.int .u8 y) from by
                  intro j y hj
                  have hb := blk_new w7 (.cells #[.int .u8 (Z / 16777216), .int .u8 (Z / 65536 % 256), .int .u8 (Z / 256 % 256), .int .u8 (Z % 256)] 5)
                  have e : (⟨w7.heap.size, 0, none⟩ : Addr).add j = ⟨w7.heap.size, 0 + j, none⟩ := by unfold Addr.add; split <;> simp_all
                  rw [e]
                  match j, hj with
                  | 0, hj => injection hj with hj; rw [← hj, show Z / 16777216 % 256 = Z / 16777216 by omega]; exact blk_cell hb rfl
                  | 1, hj => injection hj with hj; rw [← hj]; exact blk_cell hb rfl
                  | 2, hj => injection hj with hj; rw [← hj]; exact blk_cell hb rfl
                  | 3, hj => injection hj with hj; rw [← hj]; exact blk_cell hb rfl
                  | j + 4, hj => cases hj)
                clear hm6 hx4 hx4e c6
                by_cases hf232 : F s.i = 232
                · have q6 : ((x : Int) == 232) = true := by have := HX.out; simp; omega
                  have k6 := blk_cell M6.out.rows.str (j := 1) (v := v1) rfl
                  have z6 := blk_frozen M6.out.rows.str 1
                  have ka6 := fun o => blk_cell (blk_alloc (o' := o) M6.out.rows.str) (j := 1) (v := v1) rfl
                  have HF232 := hid hf232
                  clear hf232
                  go_wp2_with (refine opGrowN (some 136) rfl rfl (.tmp 134) (.tmp 135) 22 rfl .u8 5 1 Try.underlying22 Try.info_u8q v1 s.k (wordB Z) rfl (by exact Own.alloc M6.out.rows.o1 _) ⟨_, 0, none⟩ 4 4 rfl rfl (by simp [wordB]) (by exact HWC.out) (by decide) (by simp [wordB]; omega) ?_; intro v' w8 hown8 hg8 hb8; obtain ⟨a8, cap8, hv8, _, _, _⟩ := hown8.rowN (n := s.k.length + 4) (by simp [wordB]); subst hv8; obtain ⟨hm8, k8, z8⟩ := M6.out.push1 HWGS.out ((Fr.refl Non _).alloc _) hown8 hg8 hb8; have M8 := hid hm8; have c9 := (H.out.fr hm8.fr (fun _ _ e => e)).cellAt (i := s.i + 4) H4.out; rw [← HX4.out] at c9; clear hm8 hown8 hg8 hb8)
                  have M9 := hid (M8.out.re (s' := s.apart F k Z) rfl rfl (by show s.m ++ [F s.i] = s.m ++ [(x : Int)]; rw [HX.out]) (by show (if F s.i = 232 then s.k ++ wordB Z else s.k) = _; rw [if_pos HF232.out]) (by show (if F s.i = 232 then s.j else s.j ++ wordB Z) = _; rw [if_pos HF232.out]))
                  go_wp2_with fail
                  go_roundw
                  case rel => exact ⟨s.step n F, _, _, _, v2, by rw [HST.out]; exact HA4.out, by rw [HST.out]; exact congrArg (Value.int .i64) (by show (s.i : Int) + 4 + 1 = ((s.i + 5 : Nat) : Int); omega), HG.out.step HF.out HLT.out, by rw [HST.out]; show s.i + 5 ≤ n; have := H4.out; omega, by rw [← run_step n F (n - s.i) s HLT.out (by have := HLT.out; omega)]; exact HRUN.out, by rw [HST.out]; exact M9.out⟩
                  case measure => have := HLT.out; simp [intOf]; omega
                · have q6 : ((x : Int) == 232) = false := by have := HX.out; simp; omega
                  have k6 := blk_cell M6.out.rows.str (j := 2) (v := v2) rfl
                  have z6 := blk_frozen M6.out.rows.str 2
                  have ka6 := fun o => blk_cell (blk_alloc (o' := o) M6.out.rows.str) (j := 2) (v := v2) rfl
                  have HF232 := hid hf232
                  clear hf232
                  go_wp2_with (refine opGrowN (some 141) rfl rfl (.tmp 139) (.tmp 140) 22 rfl .u8 5 1 Try.underlying22 Try.info_u8q v2 s.j (wordB Z) rfl (by exact Own.alloc M6.out.rows.o2 _) ⟨_, 0, none⟩ 4 4 rfl rfl (by simp [wordB]) (by exact HWC.out) (by decide) (by simp [wordB]; omega) ?_; intro v' w8 hown8 hg8 hb8; obtain ⟨a8, cap8, hv8, _, _, _⟩ := hown8.rowN (n := s.j.length + 4) (by simp [wordB]); subst hv8; obtain ⟨hm8, k8, z8⟩ := M6.out.push2 HWGS.out ((Fr.refl Non _).alloc _) hown8 hg8 hb8; have M8 := hid hm8; have c9 := (H.out.fr hm8.fr (fun _ _ e => e)).cellAt (i := s.i + 4) H4.out; rw [← HX4.out] at c9; clear hm8 hown8 hg8 hb8)
                  have M9 := hid (M8.out.re (s' := s.apart F k Z) rfl rfl (by show s.m ++ [F s.i] = s.m ++ [(x : Int)]; rw [HX.out]) (by show (if F s.i = 232 then s.k ++ wordB Z else s.k) = _; rw [if_neg HF232.out]) (by show (if F s.i = 232 then s.j else s.j ++ wordB Z) = _; rw [if_neg HF232.out]))
                  go_wp2_with fail
                  go_roundw
                  case rel => exact ⟨s.step n F, _, _, v1, _, by rw [HST.out]; exact HA4.out, by rw [HST.out]; exact congrArg (Value.int .i64) (by show (s.i : Int) + 4 + 1 = ((s.i + 5 : Nat) : Int); omega), HG.out.step HF.out HLT.out, by rw [HST.out]; show s.i + 5 ≤ n; have := H4.out; omega, by rw [← run_step n F (n - s.i) s HLT.out (by have := HLT.out; omega)]; exact HRUN.out, by rw [HST.out]; exact M9.out⟩
                  case measure => have := HLT.out; simp [intOf]; omega
              · have hp : placeQ n F s.i = none := by rw [HP.out, if_neg hlt3]
                have qz : decide (Z < (n : Int)) = false := decide_eq_false hlt3
                clear hlt3
                have HST := hid (show s.step n F = s.near F k by unfold CQ.step; rw [← HX.out, HK.out]; show (if s.i + 1 = n then _ else _) = _; rw [if_neg HL.out, hp])
                clear hp
                go_wp2_with fail
                refine (ebit_any _ g (3 * s.i) s.c (s.q k) 0 _ (by exact MD.out.enc) HG.out.ok HG.out.by_ (by omega) hpk.1 hpk.2 (by decide)).mono ?_
                intro e w6 h6
                obtain ⟨rfl, hm6, g3, z3⟩ := MD.out.bit_ hk258 h6
                have M6 := hid (hm6.re (s' := s.near F k) rfl rfl (by show s.m ++ [F s.i] = s.m ++ [(x : Int)]; rw [HX.out]) rfl rfl)
                clear h6 hm6
                go_wp2_with fail
                go_roundw
                case rel => exact ⟨s.step n F, _, _, v1, v2, by rw [HST.out]; exact HAH.out, by rw [HST.out]; exact congrArg (Value.int .i64) (by show (s.i : Int) + 1 = ((s.i + 1 : Nat) : Int); omega), HG.out.step HF.out HLT.out, by rw [HST.out]; exact HLT.out, by rw [← run_step n F (n - s.i) s HLT.out (by have := HLT.out; omega)]; exact HRUN.out, by rw [HST.out]; exact M6.out⟩
                case measure => have := HLT.out; simp [intOf]; omega
            · have q2 : (n : Int) - (s.i : Int) ≤ 4 := by omega
              have hp : placeQ n F s.i = none := if_neg h4
              have MD := HM2
              have g2 := g1
              clear h4 g1
              have HST := hid (show s.step n F = s.near F k by unfold CQ.step; rw [← HX.out, HK.out]; show (if s.i + 1 = n then _ else _) = _; rw [if_neg HL.out, hp])
              clear hp
              go_wp2_with fail
              refine (ebit_any _ g (3 * s.i) s.c (s.q k) 0 _ (by exact MD.out.enc) HG.out.ok HG.out.by_ (by omega) hpk.1 hpk.2 (by decide)).mono ?_
              intro e w6 h6
              obtain ⟨rfl, hm6, g3, z3⟩ := MD.out.bit_ hk258 h6
              have M6 := hid (hm6.re (s' := s.near F k) rfl rfl (by show s.m ++ [F s.i] = s.m ++ [(x : Int)]; rw [HX.out]) rfl rfl)
              clear h6 hm6
              go_wp2_with fail
              go_roundw
              case rel => exact ⟨s.step n F, _, _, v1, v2, by rw [HST.out]; exact HAH.out, by rw [HST.out]; exact congrArg (Value.int .i64) (by show (s.i : Int) + 1 = ((s.i + 1 : Nat) : Int); omega), HG.out.step HF.out HLT.out, by rw [HST.out]; exact HLT.out, by rw [← run_step n F (n - s.i) s HLT.out (by have := HLT.out; omega)]; exact HRUN.out, by rw [HST.out]; exact M6.out⟩
              case measure => have := HLT.out; simp [intOf]; omega
    · have e : s.i = n := by omega
      have hcq : s = codeQ n F := by have h1 := HRUN.out; rw [e, Nat.sub_self] at h1; exact h1
      have HCQ := hid hcq
      clear hcq e
      have hg5 := HG.out
      obtain ⟨VE, BE, hve, hby, hlen, hval⟩ := HM.out.enc
      have hout : BE = (s.c.gives 5).out := by
        obtain ⟨g1, g2, g3⟩ := gives_out (hg5.ok.fin hg5.by_)
        exact valL_inj _ _ (by rw [hlen, g2]) hby g3 (by rw [hval, g1])
      subst hout
      obtain ⟨L3, hL3⟩ : ∃ L3, L3 = ((s.c.gives 5).out).length := ⟨_, rfl⟩
      obtain ⟨a30, cap30, hv30, _, _, _⟩ := hve.own.rowN (n := L3) hL3.symm
      subst hv30
      clear hL3
      have ho3 := hve.own
      have hd3 := hve.sep
      have c0g := blk_cell hve.at_ (j := 0) (v := Value.slice a30 L3 cap30) rfl
      have hrw := HM.out.rows
      have hlow : ∀ b, b < W.heap.size → A b := HM.out.low
      have hb3 : ∀ b, (Value.slice a30 L3 cap30).ownBlock = some b → W.heap.size ≤ b := fun b hb => by
        have := (hd3 b hb).2
        by_cases hlt : b < W.heap.size
        · exact absurd (hlow b hlt) this
        · omega
      have hg3 : ∀ b, (Value.slice a30 L3 cap30).ownBlock = some b → b ≠ gs := fun b hb e => (hd3 b hb).2 (by rw [e]; exact hrw.asA)
      have hfs : Fr (fun b => b = gs) wr (wr.setCell ⟨gs, 3, none⟩ (Value.slice a30 L3 cap30)) := (Fr.refl _ _).setOne _ _
      have hst : (wr.setCell ⟨gs, 3, none⟩ (Value.slice a30 L3 cap30)).heap[gs]? = some (.cells #[v0, v1, v2, Value.slice a30 L3 cap30] 24) := blk_set (i := 3) hrw.str
      have hW6 : Fr Non W wr := HM.out.fr
      have hsW := HSW.out
      have hgsn : w.heap.size ≠ gs := by have := HWGS.out; omega
      have hrb : (wr.setCell ⟨gs, 3, none⟩ (Value.slice a30 L3 cap30)).heap[w.heap.size]? = some (.cells #[.slice none 0 0, .slice none 0 0, .slice none 0 0, .slice none 0 0] 24) := hfs.blk (hW6.blk HBW.out id) hgsn
      have k3 := blk_cell hrw.str (j := 3) (v := .slice none 0 0) rfl
      have z3 := blk_frozen hrw.str 3
      have hsr : ∀ k, k ≠ w.heap.size → ((wr.setCell ⟨gs, 3, none⟩ (Value.slice a30 L3 cap30)).setRow w.heap.size #[v0, v1, v2, Value.slice a30 L3 cap30]).heap[k]? = (wr.setCell ⟨gs, 3, none⟩ (Value.slice a30 L3 cap30)).heap[k]? := fun k hk => setRow_other _ _ _ _ hk
      have hfr4 : Fr (fun b => b = w.heap.size) (wr.setCell ⟨gs, 3, none⟩ (Value.slice a30 L3 cap30)) ((wr.setCell ⟨gs, 3, none⟩ (Value.slice a30 L3 cap30)).setRow w.heap.size #[v0, v1, v2, Value.slice a30 L3 cap30]) := ⟨rfl, rfl, rfl, by simp, fun k _ hk => hsr k hk⟩
      have hown : ∀ (v : Value) (xs : List Int), Own wr 0 .u8 5 v xs → (∀ b, v.ownBlock = some b → W.heap.size ≤ b ∧ b ≠ gs) → Own ((wr.setCell ⟨gs, 3, none⟩ (Value.slice a30 L3 cap30)).setRow w.heap.size #[v0, v1, v2, Value.slice a30 L3 cap30]) w.heap.size .u8 5 v xs := fun v xs ho hb =>
        ((ho.fr hfs (fun b e => (hb b e).2)).fr hfr4 (fun b e q => by have := (hb b e).1; omega)).up (fun b e => by have := (hb b e).1; omega)
      have P0 := hown v0 _ hrw.o0 (fun b hb => ⟨(hrw.a0 b hb).2.1, (hrw.a0 b hb).2.2⟩)
      have P1 := hown v1 _ hrw.o1 (fun b hb => ⟨(hrw.a1 b hb).2.1, (hrw.a1 b hb).2.2⟩)
      have P2 := hown v2 _ hrw.o2 (fun b hb => ⟨(hrw.a2 b hb).2.1, (hrw.a2 b hb).2.2⟩)
      have P3 := hown (Value.slice a30 L3 cap30) _ ho3 (fun b hb => ⟨hb3 b hb, hg3 b hb⟩)
      have PF : Fr Non w ((wr.setCell ⟨gs, 3, none⟩ (Value.slice a30 L3 cap30)).setRow w.heap.size #[v0, v1, v2, Value.slice a30 L3 cap30]) := ((HWW.out.trans hW6).then hfs (fun b hb e => by have := HWGS.out; omega)).then hfr4 (fun b hb e => by omega)
      have c1 : v0.oneCell' = true ∧ v1.oneCell' = true ∧ v2.oneCell' = true := by
        obtain ⟨_, _, e0, _⟩ := hrw.o0.row
        obtain ⟨_, _, e1, _⟩ := hrw.o1.row
        obtain ⟨_, _, e2, _⟩ := hrw.o2.row
        subst e0 e1 e2
        exact ⟨rfl, rfl, rfl⟩
      have hall : (#[v0, v1, v2, Value.slice a30 L3 cap30] : Array Value).all (·.oneCell') = true := by simp [c1.1, c1.2.1, c1.2.2, show (Value.slice a30 L3 cap30).oneCell' = true from rfl]
      have HST := hid hst
      have HRB := hid hrb
      have HALL := hid hall
      have HP := hid (And.intro P0 (And.intro P1 (And.intro P2 (And.intro P3 PF))))
      clear hrw hlow hb3 hg3 hfs hst hW6 hsW hgsn hrb hsr hfr4 hown P0 P1 P2 P3 PF c1 hall hd3 ho3 hve hby hlen hval hg5
      go_wp2_with (first
        | (refine wpList_load_row rfl 24 _ rfl gs rfl 24 #[v0, v1, v2, Value.slice a30 L3 cap30] (0, 0) _ (by exact HST.out) Try.underlying24 rfl (by kernel_rfl) ?_)
        | (refine wpList_store_row rfl 24 _ _ rfl w.heap.size #[v0, v1, v2, Value.slice a30 L3 cap30] rfl rfl 24 #[.slice none 0 0, .slice none 0 0, .slice none 0 0, .slice none 0 0] (by exact HRB.out) (by kernel_rfl) rfl (by exact HALL.out) ?_))
      refine bodyPost_ret (v := .agg #[v0, v1, v2, _]) (results_cell_row rfl _ _ w.heap.size 24 #[v0, v1, v2, _] (0, 0) _ rfl (by exact setRow_heap _ _ _ _ _ _ HRB.out) Try.underlying24 rfl (by kernel_rfl)) rfl ?_
      have hcq := HCQ.out
      subst hcq
      exact ⟨v0, v1, v2, _, rfl, HP.out.2.2.2.2, HP.out.1, HP.out.2.1, HP.out.2.2.1, HP.out.2.2.2.1⟩
end Go.Proofs.Ytphdnfilenkanaa
