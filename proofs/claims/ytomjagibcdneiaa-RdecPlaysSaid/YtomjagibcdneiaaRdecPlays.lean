/- The walk through RdecPlays. -/
import Derived.Test.YtomjagibcdneiaaRef4h
import Derived.Test.YtomjagibcdneiaaHeldQ
namespace Go.Proofs.Ytomjagibcdneiaa
open Go.RowKit

theorem feedLeft_p (g : Nat) (a : Option Addr) (n c at_ : Nat) (w : World) (hn : n ≤ 1048576) (hat : at_ ≤ n) (h : FeedAt w g a n c at_) :
    Calls Try.prog 33 #[.pointer (some ⟨g, 0, none⟩)] w fun e w' => e = .returned (.int .i64 ((n - at_ : Nat) : Int)) ∧ Fr Non w w' := by
  have c0 := blk_cell h (j := 0) (v := .slice a n c) rfl
  have c1 := blk_cell h (j := 1) (v := .int .i64 at_) rfl
  have e : ((n : Int) - (at_ : Int)) = ((n - at_ : Nat) : Int) := by omega
  go_enter Try.func33, Try.ntmps33
  go_wp2_with fail
  try (go_quiet (fail))
  try (go_wp2_with fail)
  go_ret
  exact ⟨by rw [← e]; rfl, by repeat (first | exact Fr.refl _ _ | refine Fr.drewN ?_ _ | refine Fr.drew ?_)⟩
theorem feedLeft_q (g : Nat) (a : Option Addr) (n c at_ : Nat) (w : World) (hn : n ≤ 1048576) (hat : at_ ≤ n) (h : FeedAt w g a n c at_) :
    Calls Try.prog 33 #[.pointer (some ⟨g, 0, none⟩)] w fun e w' => e = .returned (.int .i64 ((n - at_ : Nat) : Int)) ∧ ∃ m, w' = w.drewN m := by
  have c0 := blk_cell h (j := 0) (v := .slice a n c) rfl
  have c1 := blk_cell h (j := 1) (v := .int .i64 at_) rfl
  have e : ((n : Int) - (at_ : Int)) = ((n - at_ : Nat) : Int) := by omega
  go_enter Try.func33, Try.ntmps33
  go_wp2_with fail
  try (go_quiet (fail))
  try (go_wp2_with fail)
  go_ret
  exact ⟨by rw [← e]; rfl, _, rfl⟩
theorem dbadq_same {S : Type} (s : Sour S) (g : Nat) (d : RD S) (w : World) (b : Bool) (h : DecIs s g w d) (hb : d.bad = b) : Calls Try.prog 28 #[.pointer (some ⟨g, 0, none⟩)] w fun e w' => e = .returned (.bool b) ∧ w' = w := by
  subst hb
  exact (dbadq_any s g d w h).mono fun _ _ h => ⟨h.1, h.2.symm⟩
theorem newF_p (w0 w : World) (n : Nat) (f : Nat → Int) (hf : ∀ i, i < n → 0 ≤ f i ∧ f i < 256) (g : Nat) (a' : Option Addr) (c' : Nat) (hw : Fr Non w0 w) (hi : (feed g a' n c' f hf).I w 0)
    (hl : ∀ k, (feed g a' n c' f hf).foot k → w0.heap.size ≤ k ∧ k < w.heap.size) :
    Calls Try.prog 25 #[.iface 52 (.pointer (some ⟨g, 0, none⟩))] w fun e w' => ∃ D : Deco w0.heap.size w'.heap.size f n, D.fg = g ∧ e = .returned (.pointer (some ⟨D.g, 0, none⟩)) ∧ Fr Non w0 w' ∧ D.Is w' (RD.new (feedNx f n) 0) := by
  refine (dnew_any (feed g a' n c' f hf) 0 w hi (fun k hk => (hl k hk).2)).mono ?_
  rintro e w' ⟨gd, h1, h2, h3, h4, h5⟩
  have hs := hw.size
  have hs2 := h4.size
  refine ⟨⟨g, a', c', gd, hf, fun k hk => ?_⟩, rfl, h3, ?_, h5⟩
  · rcases hk with rfl | hk
    · exact ⟨by omega, h2⟩
    · have := hl k hk; exact ⟨this.1, by omega⟩
  · exact hw.then h4 (fun i hi hk => by have := hl i hk; omega)
theorem ddone_same {S : Type} (s : Sour S) (g : Nat) (d : RD S) (w : World) (b : Bool) (h : DecIs s g w d) (hb : d.done = b) : Calls Try.prog 29 #[.pointer (some ⟨g, 0, none⟩)] w fun e w' => e = .returned (.bool b) ∧ w' = w := by
  subst hb
  exact (ddone_any s g d w h).mono fun _ _ h => ⟨h.1, h.2.symm⟩
/-- the decoder and the document's, with probabilities each. -/
structure StP {lo hi : Nat} {f : Nat → Int} {n : Nat} (D : Deco lo hi f n) (a : Option Addr) (cap g gp gq : Nat) (w wr : World) (d : RD Nat) (qp : Nat → Int) (x : RD Nat) (qq : Nat → Int) : Prop where
  fr : Fr Non w wr
  dec : D.Is wr d
  ref : RefIs a n cap f w.heap.size g wr x
  bp : wr.heap[gp]? = some (.cells (arr .u16 600 qp) 22)
  bq : RowQ wr gq qq
  prp : Pr qp 600
  prq : Pr qq 600
/-- they lie apart. -/
structure ApP {lo hi : Nat} {f : Nat → Int} {n : Nat} (D : Deco lo hi f n) (g gp gq : Nat) (w : World) : Prop where
  lo_ : w.heap.size ≤ lo
  p_ : hi ≤ gp
  g_ : gp < g
  q_ : g < gq
theorem StP.any {lo hi : Nat} {f : Nat → Int} {n : Nat} {D : Deco lo hi f n} {a : Option Addr} {cap g gp gq : Nat} {w wr w' : World} {d : RD Nat} {qp : Nat → Int} {x : RD Nat} {qq : Nat → Int} (h : StP D a cap g gp gq w wr d qp x qq) (hf : Fr Non wr w') : StP D a cap g gp gq w w' d qp x qq :=
  ⟨h.fr.trans hf, Deco.keep h.dec hf (fun _ _ _ e => e), h.ref.keep hf id (fun _ _ => id), hf.blk h.bp id, h.bq.fr hf id, h.prp, h.prq⟩
theorem StP.ask {lo hi : Nat} {f : Nat → Int} {n : Nat} {D : Deco lo hi f n} {a : Option Addr} {cap g gp gq : Nat} {w wr : World} {d : RD Nat} {qp : Nat → Int} {x : RD Nat} {qq : Nat → Int} (h : StP D a cap g gp gq w wr d qp x qq) (ap : ApP D g gp gq w) (hlh : lo ≤ hi) (s : Ask) (hs : s.Right) :
    Calls Try.prog 27 #[.pointer (some ⟨D.g, 0, none⟩), .slice (some ⟨gp, 0, none⟩) 600 600, .agg #[.int .i64 s.kind, .int .i64 s.at_, .int .i64 s.bits, .int .u32 s.val]] wr
      fun e w' => e = .returned (.int .u32 (RD.ask (feedNx f n) d qp s).1) ∧ StP D a cap g gp gq w w' (RD.ask (feedNx f n) d qp s).2.2 (RD.ask (feedNx f n) d qp s).2.1 x qq ∧ Fr (fun k => w.heap.size ≤ k) wr w' := by
  obtain ⟨p1, p2, p3, p4⟩ := ap
  have hg : ¬ decFoot D.s D.g gp := fun e => by have := D.low gp e; omega
  refine (ask_any D.s D.g gp d qp s wr h.dec hg h.bp h.prp hs).mono ?_
  rintro e w' ⟨h1, h2, h3, h4⟩
  have hb : ∀ k, bitFoot D.s D.g gp k → w.heap.size ≤ k ∧ k ≠ g ∧ k ≠ gq := by
    intro k hk
    rcases hk with hk | hk
    · have := D.low k hk; omega
    · omega
  exact ⟨h1, ⟨h.fr.then h2 (fun i hi hk => by have := hb i hk; omega), h3, h.ref.keep h2 (fun e => (hb _ e).2.1 rfl) (fun k hk e => by have := hb k e; omega), h4, h.bq.fr h2 (fun e => (hb _ e).2.2 rfl), ask_pr _ _ _ _ hs h.prp, h.prq⟩, h2.mono fun k _ e => (hb k e).1⟩
theorem StP.said {lo hi : Nat} {f : Nat → Int} {n : Nat} {D : Deco lo hi f n} {a : Option Addr} {cap g gp gq : Nat} {w wr : World} {d : RD Nat} {qp : Nat → Int} {x : RD Nat} {qq : Nat → Int} (h : StP D a cap g gp gq w wr d qp x qq) (ap : ApP D g gp gq w) (hlh : lo ≤ hi) (hn : n ≤ 1048576) (cq : Nat) (s : Ask) (hs : s.Right) :
    Calls Try.prog 32 #[.pointer (some ⟨g, 0, none⟩), .slice (some ⟨gq, 0, none⟩) 600 cq, .agg #[.int .i64 s.kind, .int .i64 s.at_, .int .i64 s.bits, .int .u32 s.val]] wr
      fun e w' => e = .returned (.int .u32 (RD.ask (feedNx f n) x qq s).1) ∧ StP D a cap g gp gq w w' d qp (RD.ask (feedNx f n) x qq s).2.2 (RD.ask (feedNx f n) x qq s).2.1 ∧ Fr (fun k => w.heap.size ≤ k) wr w' := by
  obtain ⟨p1, p2, p3, p4⟩ := ap
  refine (said_any a n cap f D.hf w.heap.size g gq cq x qq s wr hn h.ref h.bq h.prq hs (by omega) (by omega) h.fr.size).mono ?_
  rintro e w' ⟨h1, h2, h3, h4⟩
  refine ⟨h1, ⟨h.fr.then h2 (fun i hi hk => by omega), Deco.keep h.dec h2 (fun k hk hk2 e => by omega), h3, h2.blk h.bp (fun e => by omega), h4, h.prp, ask_pr _ _ _ _ hs h.prq⟩, h2.mono fun k _ e => by omega⟩

set_option maxRecDepth 100000 in
set_option maxHeartbeats 40000000 in
theorem rdecPlays_walk (a : Option Addr) (n cap : Nat) (f : Nat → Int) (al : Option Addr) (nl cl : Nat) (l : Nat → Ask) (w : World)
    (hn : n ≤ 65536) (hnc : n ≤ cap) (hnil : a = none → cap = 0) (hr : RowIn w.heap.size .u8 w a n f) (hf : ∀ i, i < n → 0 ≤ f i ∧ f i < 256)
    (hnl : nl ≤ 9223372036854775807) (hl : AsksIn w.heap.size w al nl l) :
    Calls Try.prog 10 #[.slice a n cap, .slice al nl cl] w fun e w' => e = .returned (.bool true) ∧ Fr Non w w' := by
  have hn1 : ¬ (65536 : Int) < (n : Int) := by omega
  have H := hid hr
  have Hf := hid hf
  have Hnil := hid hnil
  have HL := hid hl
  clear hr hf hnil hl
  go_enter Try.func10, Try.ntmps10
  go_wp2_with fail
  refine (awake04_any _).mono ?_
  rintro e w1 ⟨rfl, hf1⟩
  have s1 := hf1.size
  have F1 := hid hf1
  have H1 := hid (H.out.fr hf1 (fun _ _ => id) |>.mono s1)
  clear hf1
  go_wp2_with fail
  refine (newFeed_any a n cap f _ (by omega) hnc Hnil.out H1.out).mono ?_
  intro e w2 h2
  obtain ⟨fg, a', c', rfl, hf2, hi2, hl2⟩ := feedNew_any _ _ _ Hf.out (by omega) _ _ h2
  have s2 := hf2.size
  have F2 := hid hf2
  have HI2 := hid hi2
  have HL2 := hid hl2
  clear h2 hf2 hi2 hl2
  go_wp2_with fail
  refine (newF_p w1 w2 n f Hf.out fg a' c' F2.out HI2.out HL2.out).mono ?_
  rintro e w3 ⟨D, hfg, rfl, hf3, hd3⟩
  have s3 := hf3.size
  have F3 := hid (F1.out.trans hf3)
  have HD3 := hid hd3
  have H3 := hid (H.out.fr F3.out (fun _ _ => id))
  clear hf3 hd3 HI2 HL2
  subst hfg
  go_wp2_with fail
  refine (fresh_any 600 _ (by decide)).mono ?_
  rintro e w4 ⟨gp, hgp, rfl, hf4, hb4⟩
  have s4 := hf4.size
  have F4 := hid hf4
  have HB4 := hid hb4
  have hgpl := blk_lt hb4
  clear hf4 hb4
  go_wp2_with fail
  refine (rnew_any a n cap f Hf.out w.heap.size _ (by omega) (H3.out.fr F4.out (fun _ _ => id)) (Nat.le_trans F3.out.size s4)).mono ?_
  rintro e w5 ⟨g, hg0, hg1, rfl, hf5, hr5⟩
  have s5 := hf5.size
  have F5 := hid hf5
  have HR5 := hid hr5
  clear hf5 hr5
  go_wp2_with fail
  refine (rfresh_any 600 _ (by decide)).mono ?_
  rintro e w6 ⟨v6, rfl, ho6, hf6⟩
  obtain ⟨gq, cq, rfl, hq0, hq1, hq⟩ := rowQ_of ho6
  have hw16 := F1.out.size
  have AP := hid (show ApP D g gp gq w from ⟨by omega, hgp, by omega, by omega⟩)
  have hlh : w1.heap.size ≤ w3.heap.size := s3
  have F46 := (F4.out.trans F5.out).trans hf6
  have S6 := hid (show StP D a cap g gp gq w w6 (RD.new (feedNx f n) 0) (fun _ => 1024) (RD.new (feedNx f n) 0) (fun _ => 1024) from
    ⟨F3.out.trans F46, Deco.keep HD3.out F46 (fun _ _ _ e => e), HR5.out.keep hf6 id (fun _ _ => id), (F5.out.trans hf6).blk HB4.out id, hq, fresh_pr, fresh_pr⟩)
  have s6 := hf6.size
  clear ho6 hf6 hq F46 HR5 HB4 F4 F5 HD3
  go_upto_block 0 with fail
  go_cut [] (fun wx => ∃ d q, StP D a cap g gp gq w wx d q d q)
  case first =>
    as_aux_lemma =>
      go_wp2_with fail
      go_loopw [10] (fun i wr => ∃ k : Nat, k ≤ nl ∧ k ≤ 2000 ∧ i = .int .i64 k ∧ ∃ d q, StP D a cap g gp gq w wr d q d q) (fun i _ => nl - (intOf i).toNat)
      case atStart => exact ⟨0, Nat.zero_le _, Nat.zero_le _, rfl, _, _, S6.out⟩
      case round =>
        obtain ⟨k, hk, hk5, rfl, d, q, hst⟩ := hrel
        have Hst := hid hst
        clear hst
        by_cases hlt : k < nl
        · by_cases hlt5 : k < 2000
          · obtain ⟨b, off, rfl, hb, c0, c1, c2, c3⟩ := (HL.out.fr Hst.out.fr (fun _ _ => id)).at hlt
            have hnb : ¬ w.heap.size ≤ b := by omega
            go_wp2_with fail
            refine (right_any _ _ _ _ _).mono ?_
            rintro e w7 ⟨rfl, hf7⟩
            have d0 := hf7.cell c0 id
            have d1 := hf7.cell c1 id
            have d2 := hf7.cell c2 id
            have d3 := hf7.cell c3 id
            have S7 := hid (Hst.out.any hf7)
            clear hf7 c0 c1 c2 c3
            have eR : Ask.rightB ⟨(l k).kind, (l k).at_, (l k).bits, (l k).val⟩ = (l k).rightB := rfl
            rw [eR]
            clear eR
            cases hR : (l k).rightB with
            | true =>
              have hR2 : (l k).Right := of_decide_eq_true hR
              have HR := hid hR2
              clear hR hR2
              obtain ⟨y, hy⟩ : ∃ y, y = RD.ask (feedNx f n) d q (l k) := ⟨_, rfl⟩
              have HY := hid hy
              clear hy
              go_upto_region 14 with fail
              go_cut [83] (fun bv wx => bv = .bool false ∧ StP D a cap g gp gq w wx y.2.2 y.2.1 y.2.2 y.2.1)
              case first =>
                refine wp_region_held_drew (S := fun w' => w'.cell? ⟨b, off + k * 4, none⟩ = some (.int .i64 (l k).kind) ∧ w'.cell? ⟨b, off + k * 4 + 1, none⟩ = some (.int .i64 (l k).at_) ∧ w'.cell? ⟨b, off + k * 4 + 2, none⟩ = some (.int .i64 (l k).bits) ∧ w'.cell? ⟨b, off + k * 4 + 3, none⟩ = some (.int .u32 (l k).val)) (by kernel_rfl) ⟨d0, d1, d2, d3⟩ (fun hHeld => ?_)
                refine take_lit (i := 0) (v := ?tv0) (by rfl) (by kernel_rfl) (by kernel_rfl) (by kernel_rfl) (by exact fun _ _ _ h => h) (Or.inl ⟨by rfl, ?ty0⟩) hHeld ?tt0
                case ty0 => (intro w hSw; (try dsimp only at hSw); go_simp; try (with_reducible rfl))
                try simp only [Act.put, List.setIfInBounds_toArray, List.set_cons_zero, List.set_cons_succ]
                refine take_lit (i := 1) (v := ?tv1) (by rfl) (by kernel_rfl) (by kernel_rfl) (by kernel_rfl) (by exact fun _ _ _ h => h) (Or.inl ⟨by rfl, ?ty1⟩) hHeld ?tt1
                case ty1 => (intro w hSw; (try dsimp only at hSw); go_simp; try (with_reducible rfl))
                try simp only [Act.put, List.setIfInBounds_toArray, List.set_cons_zero, List.set_cons_succ]
                refine take_lit (i := 2) (v := ?tv2) (by rfl) (by kernel_rfl) (by kernel_rfl) (by kernel_rfl) (by exact fun _ _ _ h => h) (Or.inl ⟨by rfl, ?ty2⟩) hHeld ?tt2
                case ty2 => (intro w hSw; (try dsimp only at hSw); go_simp; try (with_reducible rfl))
                try simp only [Act.put, List.setIfInBounds_toArray, List.set_cons_zero, List.set_cons_succ]
                refine take_lit (i := 3) (v := ?tv3) (by rfl) (by kernel_rfl) (by kernel_rfl) (by kernel_rfl) (by exact fun _ _ _ h => h) (Or.inl ⟨by rfl, ?ty3⟩) hHeld ?tt3
                case ty3 => (intro w hSw; (try dsimp only at hSw); go_simp; try (with_reducible rfl))
                try simp only [Act.put, List.setIfInBounds_toArray, List.set_cons_zero, List.set_cons_succ]
                refine take_lit (i := 4) (v := ?tv4) (by rfl) (by kernel_rfl) (by kernel_rfl) (by kernel_rfl) (by exact fun _ _ _ h => h) (Or.inl ⟨by rfl, ?ty4⟩) hHeld ?tt4
                case ty4 => (intro w hSw; (try dsimp only at hSw); go_simp; try (with_reducible rfl))
                try simp only [Act.put, List.setIfInBounds_toArray, List.set_cons_zero, List.set_cons_succ]
                refine take_lit (i := 5) (v := ?tv5) (by rfl) (by kernel_rfl) (by kernel_rfl) (by kernel_rfl) (by exact fun _ _ _ h => h) (Or.inl ⟨by rfl, ?ty5⟩) hHeld ?tt5
                case ty5 => (intro w hSw; (try dsimp only at hSw); go_simp; try (with_reducible rfl))
                try simp only [Act.put, List.setIfInBounds_toArray, List.set_cons_zero, List.set_cons_succ]
                refine take_lit (i := 7) (v := ?tv7) (by rfl) (by kernel_rfl) (by kernel_rfl) (by kernel_rfl) (by exact fun _ _ _ h => h) (Or.inl ⟨by rfl, ?ty7⟩) hHeld ?tt7
                case ty7 => (intro w hSw; (try dsimp only at hSw); go_simp; try (with_reducible rfl))
                try simp only [Act.put, List.setIfInBounds_toArray, List.set_cons_zero, List.set_cons_succ]
                refine take_lit (i := 8) (v := ?tv8) (by rfl) (by kernel_rfl) (by kernel_rfl) (by kernel_rfl) (by exact fun _ _ _ h => h) (Or.inl ⟨by rfl, ?ty8⟩) hHeld ?tt8
                case ty8 => (intro w hSw; (try dsimp only at hSw); go_simp; try (with_reducible rfl))
                try simp only [Act.put, List.setIfInBounds_toArray, List.set_cons_zero, List.set_cons_succ]
                refine take_lit (i := 9) (v := ?tv9) (by rfl) (by kernel_rfl) (by kernel_rfl) (by kernel_rfl) (by exact fun _ _ _ h => h) (Or.inl ⟨by rfl, ?ty9⟩) hHeld ?tt9
                case ty9 => (intro w hSw; (try dsimp only at hSw); go_simp; try (with_reducible rfl))
                try simp only [Act.put, List.setIfInBounds_toArray, List.set_cons_zero, List.set_cons_succ]
                refine take_lit (i := 10) (v := ?tv10) (by rfl) (by kernel_rfl) (by kernel_rfl) (by kernel_rfl) (by exact fun _ _ _ h => h) (Or.inl ⟨by rfl, ?ty10⟩) hHeld ?tt10
                case ty10 => (intro w hSw; (try dsimp only at hSw); go_simp; try (with_reducible rfl))
                try simp only [Act.put, List.setIfInBounds_toArray, List.set_cons_zero, List.set_cons_succ]
                refine take_lit (i := 11) (v := ?tv11) (by rfl) (by kernel_rfl) (by kernel_rfl) (by kernel_rfl) (by exact fun _ _ _ h => h) (Or.inl ⟨by rfl, ?ty11⟩) hHeld ?tt11
                case ty11 => (intro w hSw; (try dsimp only at hSw); go_simp; try (with_reducible rfl))
                try simp only [Act.put, List.setIfInBounds_toArray, List.set_cons_zero, List.set_cons_succ]
                refine take_lit (i := 12) (v := ?tv12) (by rfl) (by kernel_rfl) (by kernel_rfl) (by kernel_rfl) (by exact fun _ _ _ h => h) (Or.inl ⟨by rfl, ?ty12⟩) hHeld ?tt12
                case ty12 => (intro w hSw; (try dsimp only at hSw); go_simp; try (with_reducible rfl))
                try simp only [Act.put, List.setIfInBounds_toArray, List.set_cons_zero, List.set_cons_succ]
                refine next_lit (i := 6) (by rfl) (by kernel_rfl) (fun K hK => ?_)
                go_simp
                go_at_call 27
                refine (StP.ask (by exact S7.out.any ((Fr.refl Non _).drew)) AP.out hlh (l k) HR.out).mono ?_
                rw [← HY.out]
                rintro e w8 ⟨rfl, h8, hf8⟩
                have e0 := Fr.cell hf8 (by exact d0) hnb
                have e1 := Fr.cell hf8 (by exact d1) hnb
                have e2 := Fr.cell hf8 (by exact d2) hnb
                have e3 := Fr.cell hf8 (by exact d3) hnb
                have S8 := hid h8
                clear h8 hf8
                go_wp2_with fail
                refine hK.out _ _ ⟨e0, e1, e2, e3⟩ (fun hHeld => ?_)
                clear hK K
                try simp only [Act.put, List.setIfInBounds_toArray, List.set_cons_zero, List.set_cons_succ]
                refine next_lit (i := 13) (by rfl) (by kernel_rfl) (fun K hK => ?_)
                go_simp
                go_at_call 32
                refine (StP.said S8.out AP.out hlh (by omega) cq (l k) HR.out).mono ?_
                rw [← HY.out]
                rintro e w9 ⟨rfl, h9, hf9⟩
                have e0 := Fr.cell hf9 (by exact e0) hnb
                have e1 := Fr.cell hf9 (by exact e1) hnb
                have e2 := Fr.cell hf9 (by exact e2) hnb
                have e3 := Fr.cell hf9 (by exact e3) hnb
                have q4 := blk_cell h9.ref.at_ (j := 4) (v := .bool y.2.2.bad) rfl
                have q1 := blk_cell h9.ref.at_ (j := 1) (v := .int .i64 y.2.2.src) rfl
                have hsn := h9.ref.src
                have S9 := hid h9
                clear h9 hf9
                go_wp2_with fail
                refine hK.out _ _ ⟨e0, e1, e2, e3⟩ (fun hHeld => ?_)
                clear hK K
                try simp only [Act.put, List.setIfInBounds_toArray, List.set_cons_zero, List.set_cons_succ]
                refine held_quiet_lit (k := 14) (by kernel_rfl) (by kernel_rfl) (by kernel_rfl) (fun n => ⟨e0, e1, e2, e3⟩) ?_
                simp only [List.drop_succ_cons, List.drop_zero]
                cases hbad : y.2.2.bad with
                | true =>
                  rw [hbad] at q4
                  repeat (go_big_quiet_step ((go_at_call 28; exact Calls.quiet_of_same (dbadq_same D.s D.g y.2.2 _ true (by exact Deco.keep S9.out.dec ((Fr.refl Non _).drewN _) (fun _ _ _ e => e)) hbad))))
                  refine wpQuiet_nil ?_
                  intro _ hw'
                  obtain ⟨nq, hw''⟩ := hw'
                  subst hw''
                  go_wp2_with fail
                  go_meet
                  exact ⟨rfl, S9.out.any ((Fr.refl Non _).drewN _)⟩
                | false =>
                  rw [hbad] at q4
                  have hsw : IntKind.i64.wrap ((n : Int) - (y.2.2.src : Int)) = ((n - y.2.2.src : Nat) : Int) := by rw [IntKind.wrap_i64] <;> omega
                  repeat (go_big_quiet_step (first
                    | (go_at_call 28; exact Calls.quiet_of_same (dbadq_same D.s D.g y.2.2 _ false (by exact Deco.keep S9.out.dec ((Fr.refl Non _).drewN _) (fun _ _ _ e => e)) hbad))
                    | (go_at_call 33; exact Calls.quiet_of (feedLeft_q D.fg D.a n D.c y.2.2.src _ (by omega) hsn (by exact S9.out.dec.src.2.2.1)))))
                  refine wpQuiet_nil ?_
                  intro _ hw'
                  obtain ⟨nq, hw''⟩ := hw'
                  subst hw''
                  go_wp2_with fail
                  go_meet
                  exact ⟨by simp, S9.out.any ((Fr.refl Non _).drewN _)⟩
              case rest =>
                obtain ⟨hbv, hst9⟩ := hcut
                subst hbv
                have S9 := hid hst9
                clear hst9 d0 d1 d2 d3
                go_wp2_with fail
                go_roundw
                case rel => exact ⟨k + 1, by omega, by omega, by go_num, _, _, S9.out⟩
                case measure => simp [intOf]; omega
            | false =>
              clear hR d0 d1 d2 d3
              go_wp2_with fail
              go_roundw
              case rel => exact ⟨k + 1, by omega, by omega, by go_num, _, _, S7.out⟩
              case measure => simp [intOf]; omega
          · have e : k = 2000 := by omega
            subst e
            go_wp2_with fail
            go_meet
            exact ⟨_, _, Hst.out⟩
        · have e : k = nl := by omega
          subst e
          go_wp2_with fail
          go_meet
          exact ⟨_, _, Hst.out⟩
  case rest =>
    obtain ⟨d, q, hst⟩ := hcut
    obtain ⟨src, rng, code, bad⟩ := d
    have hcode0 : 0 ≤ code := hst.ref.ok.2.2.1
    have q3 := blk_cell hst.ref.at_ (j := 3) (v := .int .u64 code) rfl
    have q4 := blk_cell hst.ref.at_ (j := 4) (v := .bool bad) rfl
    have HST := hid hst
    have HRP := hid (show RowIn (gp + 1) .u16 wc (some ⟨gp, 0, none⟩) 600 q from .inr ⟨gp, 0, rfl, by omega, fun i hi => by simpa using blk_cell hst.bp (arr_get .u16 600 q hi)⟩)
    have HRQ := hid (show RowIn (gq + 1) .u16 wc (some ⟨gq, 0, none⟩) 600 q from by
      obtain ⟨cs, h1, h2⟩ := hst.bq
      exact .inr ⟨gq, 0, rfl, by omega, fun i hi => by simpa using blk_cell h1 (h2 i hi)⟩)
    clear hst
    have hgpq : gp + 1 ≤ gq + 1 := by have := AP.out.g_; have := AP.out.q_; omega
    cases bad with
    | true =>
      go_upto_region 16 with fail
      go_quiet (first
        | (go_at_call 30; exact Calls.quiet_of (same_yes (some ⟨gp, 0, none⟩) (some ⟨gq, 0, none⟩) 600 600 cq q q _ (by decide) (gq + 1) (by exact HRP.out.mono hgpq) (by exact HRQ.out) (fun _ _ => rfl)))
        | (go_at_call 29; exact Calls.quiet_of_same (ddone_same D.s D.g ⟨src, rng, code, true⟩ _ false (by exact Deco.keep HST.out.dec ((Fr.refl Non _).drewN _) (fun _ _ _ e => e)) rfl)))
      go_wp2_with fail
      go_ret
      exact ⟨rfl, Fr.drewN HST.out.fr _⟩
    | false =>
      by_cases hc0 : code = 0
      · subst hc0
        go_upto_region 16 with fail
        go_quiet (first
          | (go_at_call 30; exact Calls.quiet_of (same_yes (some ⟨gp, 0, none⟩) (some ⟨gq, 0, none⟩) 600 600 cq q q _ (by decide) (gq + 1) (by exact HRP.out.mono hgpq) (by exact HRQ.out) (fun _ _ => rfl)))
          | (go_at_call 29; exact Calls.quiet_of_same (ddone_same D.s D.g ⟨src, rng, 0, false⟩ _ true (by exact Deco.keep HST.out.dec ((Fr.refl Non _).drewN _) (fun _ _ _ e => e)) rfl)))
        go_wp2_with fail
        go_ret
        exact ⟨rfl, Fr.drewN HST.out.fr _⟩
      · have hdn : RD.done (⟨src, rng, code, false⟩ : RD Nat) = false := by
          show (!false && code == 0) = false
          simp [hc0]
        have HDn := hid hdn
        have hcb : (code == 0) = false := by simpa using hc0
        clear hdn
        go_upto_region 16 with fail
        go_quiet (first
          | (go_at_call 30; exact Calls.quiet_of (same_yes (some ⟨gp, 0, none⟩) (some ⟨gq, 0, none⟩) 600 600 cq q q _ (by decide) (gq + 1) (by exact HRP.out.mono hgpq) (by exact HRQ.out) (fun _ _ => rfl)))
          | (go_at_call 29; exact Calls.quiet_of_same (ddone_same D.s D.g ⟨src, rng, code, false⟩ _ false (by exact Deco.keep HST.out.dec ((Fr.refl Non _).drewN _) (fun _ _ _ e => e)) HDn.out)))
        go_wp2_with fail
        go_ret
        exact ⟨rfl, Fr.drewN HST.out.fr _⟩
end Go.Proofs.Ytomjagibcdneiaa
