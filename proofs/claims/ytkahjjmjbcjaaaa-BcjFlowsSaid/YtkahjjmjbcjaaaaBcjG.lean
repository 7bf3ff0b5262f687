/- bcj.Filter over a feed: fill, Next, New; src.Feed.Left. -/
import Derived.Test.YtkahjjmjbcjaaaaBcjF3
import Derived.Test.YtkahjjmjbcjaaaaBcjP
import Derived.Test.YtkahjjmjbcjaaaaFeed
import Derived.Test.YtkahjjmjbcjaaaaLay
import Derived.Laws.CopyRow
import Derived.Deep.RegionLaw
import Derived.Deep.RegionWith
import Derived.Deep.CutBlock
import Derived.Deep.DeepCutAuto
namespace Go.Proofs.Ytkahjjmjbcjaaaa
open Go.RowKit

/-- one copy of cells, as a step of a region: the block behind it is written out by the prover. -/
theorem step_copy_raw {P : Program} {ops : Array Oper} {o : Oper} {a : Act} {w : World} {K : Act → World → Prop} {Q : Exit → Act → World → Prop} {E : Prop} (hgd : o.guard = none) (d s : Operand) (dT sT : TypeId)
    (ho : o.op = .call { callee := .builtin .copy, args := #[d, s], argTypes := #[dT, sT] }) (elem t : TypeId) (hu : P.underlying dT = some (.slice elem)) (hsz : (P.info? elem).map (·.size) = some 1)
    (g off dLen dCap gs offs sLen sCap : Nat) (hd : a.eval d = .slice (some ⟨g, off, none⟩) dLen dCap) (hs : a.eval s = .slice (some ⟨gs, offs, none⟩) sLen sCap)
    (cur new : Array Value) (hg : w.heap[g]? = some (.cells cur t)) (cs : List Value) (hm : cs.length = Nat.min sLen dLen) (hsrc : ∀ j v, cs[j]? = some v → w.cell? ((⟨gs, offs, none⟩ : Addr).add j) = some v) (hfit : off + cs.length ≤ cur.size)
    (h1 : ∀ v ∈ cs, v.oneCell' = true) (hnew : (cur.toList.take off ++ cs ++ cur.toList.drop (off + cs.length)).toArray = new)
    (h : ∀ w', Fr (fun i => i = g) w w' → w'.heap[g]? = some (.cells new t) → K (a.put o.dst (goInt cs.length)) w') :
    if Region.wanted o (yielded ops a.tmps) = true then Oper.wp P o a w K Q else E := by
  have hw : Region.wanted o (yielded ops a.tmps) = true := by simp [Region.wanted, hgd]
  rw [if_pos hw]
  have hrun := run_copy_row (P := P) w dT sT o.type elem g off dLen dCap ⟨gs, offs, none⟩ sLen sCap cur t cs hu hsz hg hm hsrc hfit h1
  rw [hnew] at hrun
  have hu : K (a.put o.dst (goInt cs.length)) (w.setRow g new) → Oper.wp P o a w K Q := by
    intro hk
    unfold Oper.wp
    simp [execOp, ho, resolve, invoke, builtin, hd, hs, hrun, Result.andThen]
    exact hk
  refine hu (h _ ⟨rfl, rfl, rfl, by simp [World.setRow], fun i _ hi => setRow_other w g i _ hi⟩ (setRow_heap w g _ _ t _ hg))
theorem src_cells {w : World} {gs : Nat} {cs : Array Value} {t : TypeId} {f : Nat × Nat} (h : w.heap[gs]? = some (.cells cs t f)) (offs : Nat) (l : List Value) (hl : ∀ j, j < l.length → cs[offs + j]? = l[j]?) :
    ∀ j v, l[j]? = some v → w.cell? ((⟨gs, offs, none⟩ : Addr).add j) = some v := by
  intro j v hj
  have hlt : j < l.length := (List.getElem?_eq_some_iff.1 hj).1
  have e : (⟨gs, offs, none⟩ : Addr).add j = ⟨gs, offs + j, none⟩ := by unfold Addr.add; split <;> simp_all
  rw [e]
  exact blk_cell h (by rw [hl j hlt]; exact hj)

set_option maxRecDepth 100000 in
theorem feedLeft_any (g : Nat) (a : Option Addr) (n c at_ : Nat) (w : World) (hn : n ≤ 1048576) (hle : at_ ≤ n) (h : FeedAt w g a n c at_) :
    Calls Try.prog 14 #[.pointer (some ⟨g, 0, none⟩)] w fun e w' => e = .returned (.int .i64 ((n : Int) - at_)) ∧ ∃ m, w' = w.drewN m := by
  have c0 := blk_cell h (j := 0) (v := .slice a n c) rfl
  have c1 := blk_cell h (j := 1) (v := .int .i64 at_) rfl
  clear h
  go_enter Try.func14, Try.ntmps14
  go_wp2
  go_quiet (fail)
  go_wp2
  go_ret
  exact ⟨rfl, _, rfl⟩

theorem filtC_put (X : FX) (b : BW) (f : Nat → Int) (x : Int) : ∀ j : Nat, j < 5 → (filtC X b f).setIfInBounds (5 + j) (.int .u8 x) = filtC X b (upd f j x) := by
  intro j hj
  match j, hj with
  | 0, _ => rfl
  | 1, _ => rfl
  | 2, _ => rfl
  | 3, _ => rfl
  | 4, _ => rfl
  | n + 5, h => omega

theorem filtC_get (X : FX) (b : BW) (f : Nat → Int) : ∀ j : Nat, j < 5 → (filtC X b f)[5 + j]? = some (.int .u8 (f j)) := by
  intro j hj
  match j, hj with
  | 0, _ => rfl
  | 1, _ => rfl
  | 2, _ => rfl
  | 3, _ => rfl
  | 4, _ => rfl
  | n + 5, h => omega

/-- where a filter that fills itself stands: j bytes wait, t are asked for. -/
def FillR (G : Sour Nat) (g : Nat) (b : BW) (F f : Nat → Int) (n m s : Nat) (r : Int) (w wr : World) : Prop :=
  ∃ j t : Nat, ∃ f' : Nat → Int, ∃ o' : Bool, m ≤ j ∧ j ≤ 5 ∧ t + m = s + j ∧ t ≤ n ∧ (o' = true → t = n) ∧ (∀ i, i < m → f' i = f i) ∧ (∀ i, m ≤ i → i < j → f' i = F (s + (i - m))) ∧
    FBAt wr g ⟨.iface G.ty G.val, (j : Int), r, o'⟩ b f' ∧ G.I wr t ∧ Fr (fun k => k = g ∨ G.foot k) w wr
def FillPost (G : Sour Nat) (g : Nat) (b : BW) (F f : Nat → Int) (n m s : Nat) (r : Int) (w : World) (e : Ending) (w' : World) : Prop :=
  e = .returned (.tuple #[]) ∧ ∃ j t : Nat, ∃ f' : Nat → Int, ∃ o' : Bool, m ≤ j ∧ j ≤ 5 ∧ t + m = s + j ∧ t ≤ n ∧ (o' = true → t = n) ∧ (o' = true ∨ j = 5) ∧ (∀ i, i < m → f' i = f i) ∧ (∀ i, m ≤ i → i < j → f' i = F (s + (i - m))) ∧
    FBAt w' g ⟨.iface G.ty G.val, (j : Int), r, o'⟩ b f' ∧ G.I w' t ∧ Fr (fun k => k = g ∨ G.foot k) w w'

set_option maxRecDepth 100000 in
set_option maxHeartbeats 1000000 in
theorem ffill_any (fg : Nat) (fa : Option Addr) (n c : Nat) (F : Nat → Int) (hF : ∀ i, i < n → 0 ≤ F i ∧ F i < 256) (g : Nat) (b : BW) (f : Nat → Int) (m s : Nat) (r : Int) (o : Bool) (w : World) (hm : m ≤ 5) (hs : s ≤ n) (hov : o = true → s = n)
    (hb : FBAt w g ⟨.iface (feed fg fa n c F hF).ty (feed fg fa n c F hF).val, (m : Int), r, o⟩ b f) (hi : (feed fg fa n c F hF).I w s) (hg : ¬ (feed fg fa n c F hF).foot g) :
    Calls Try.prog 25 #[.pointer (some ⟨g, 0, none⟩)] w (FillPost (feed fg fa n c F hF) g b F f n m s r w) := by
  have H := hid (show FillR (feed fg fa n c F hF) g b F f n m s r w w from ⟨m, s, f, o, Nat.le_refl _, hm, rfl, hs, hov, fun _ _ => rfl, fun i h1 h2 => by omega, hb, hi, Fr.refl _ _⟩)
  have HG := hid hg
  clear hb hi hg hov
  generalize hGG : feed fg fa n c F hF = G at *
  have HGG := hid hGG
  clear hGG
  go_enter Try.func25, Try.ntmps25
  go_wp2_with fail
  go_loopw [] (fun wr => FillR G g b F f n m s r w wr) (fun wr => (5 - (intOf ((wr.cell? ⟨g, 10, none⟩).getD undef)).toNat))
  case atStart => exact H.out
  case round =>
    obtain ⟨j, t, f', o', h1, h2, h3, h4, h5, h6, h7, h8, h9, h10⟩ := hrel
    have c0 := blk_cell h8 (j := 0) (v := .iface G.ty G.val) rfl
    have c10 := blk_cell h8 (j := 10) (v := .int .i64 j) rfl
    have c12 := blk_cell h8 (j := 12) (v := .bool o') rfl
    have H5 := hid h5
    have H6 := hid h6
    have H7 := hid h7
    have H8 := hid h8
    have H9 := hid h9
    have H10 := hid h10
    have H3 := hid h3
    clear h5 h6 h7 h8 h9 h10 h3
    by_cases hj : j < 5
    · cases o' with
      | true =>
        go_wp2_with fail
        go_end0
        exact ⟨rfl, j, t, f', true, h1, h2, H3.out, h4, fun _ => H5.out trivial, .inl rfl, H6.out, H7.out, H8.out, H9.out, H10.out⟩
      | false =>
        go_wp2_with (refine opInvoke rfl (.tmp 20) "Next" rfl G.ty G.val rfl G.fid G.val G.meth G.enter ?_; intro K hK)
        refine (G.call _ t H9.out).mono ?_
        rintro e w1 ⟨rfl, hf1, hi1⟩
        have hb1 := hf1.blk H8.out HG.out
        have HF1 := hid hf1
        have HB1 := hid hb1
        have HI1 := hid hi1
        have d10 := blk_cell hb1 (j := 10) (v := .int .i64 j) rfl
        have z12 := blk_frozen hb1 12
        have d12 := blk_cell hb1 (j := 12) (v := .bool false) rfl
        have z10 := blk_frozen hb1 10
        have zj := blk_frozen hb1 (5 + j)
        have dj := blk_cell hb1 (filtC_get _ _ _ j hj)
        clear hf1 hb1 hi1 c0 c12
        have HC10 := hid c10
        clear c10
        by_cases ht : t < n
        · have hx : G.nx t = (F t % 256, true, t + 1) := by rw [← HGG.out]; exact if_pos ht
          have hF1 : 0 ≤ F t ∧ F t < 256 := hF t ht
          have hm1 : F t % 256 = F t := Int.emod_eq_of_lt hF1.1 hF1.2
          rw [hm1] at hx
          have hxx := HI1.out
          rw [hx] at hxx ⊢
          have HXX := hid hxx
          clear hxx hx hm1
          have hj0 : (0 : Int) ≤ (j : Int) := by omega
          have hj5 : (j : Int) < 5 := by omega
          refine hK _ _ ?_
          clear hK K
          go_wp2_with fail
          go_region
          all_goals
            go_wp2_with fail
            go_roundw
            case rel =>
              refine ⟨j + 1, t + 1, upd f' j (F t), false, by omega, by omega, by have := H3.out; omega, by omega, (fun e => by cases e), fun i hi => ?_, fun i hi1 hi2 => ?_, ?_, ?_, ?_⟩
              · rw [upd_ne _ _ (by omega)]; exact H6.out i hi
              · by_cases he : i = j
                · subst he
                  rw [upd_same]
                  have := H3.out
                  congr 1; omega
                · rw [upd_ne _ _ he]; exact H7.out i hi1 (by omega)
              · have e := blk_set (i := 10) (v := .int .i64 ((j : Int) + 1)) (blk_set (i := 5 + j) (v := .int .u8 (F t)) HB1.out)
                rw [filtC_put _ _ _ _ _ hj] at e
                exact e
              · exact G.keep _ _ _ (fun k => k = g) HXX.out (by repeat (first | exact Fr.refl _ _ | refine Fr.drewN ?_ _ | refine Fr.drew ?_ | refine Fr.setOne ?_ _ _)) (fun k hk e => HG.out (e ▸ hk))
              · refine (H10.out.then HF1.out (fun i hi e => .inr e)).then (T := fun k => k = g) ?_ (fun i hi e => .inl e)
                repeat (first | exact Fr.refl _ _ | refine Fr.drewN ?_ _ | refine Fr.drew ?_ | refine Fr.setOne ?_ _ _)
            case measure =>
              have e1 := HC10.out
              have e2 := blk_cell (blk_set (i := 10) (v := .int .i64 ((j : Int) + 1)) (blk_set (i := 5 + j) (v := .int .u8 (F t)) HB1.out)) (j := 10) (v := .int .i64 ((j : Int) + 1)) (by rw [filtC_put _ _ _ _ _ hj]; rfl)
              show 5 - (intOf (((((w1.setCell ⟨g, 5 + j, none⟩ (.int .u8 (F t))).setCell ⟨g, 10, none⟩ (.int .i64 ((j : Int) + 1))).cell? ⟨g, 10, none⟩).getD undef))).toNat < 5 - (intOf ((wr.cell? ⟨g, 10, none⟩).getD undef)).toNat
              rw [e1, e2]
              simp [intOf]
              omega
        · have hx : G.nx t = (0, false, t) := by rw [← HGG.out]; exact if_neg ht
          have hxx := HI1.out
          rw [hx] at hxx ⊢
          have HXX := hid hxx
          clear hxx hx
          dsimp only
          refine hK _ _ ?_
          clear hK K
          go_wp2_with fail
          go_end0
          refine ⟨rfl, j, t, f', true, h1, h2, H3.out, h4, fun _ => by omega, .inl rfl, H6.out, H7.out, ?_, ?_, ?_⟩
          · exact blk_set HB1.out
          · exact G.keep _ _ _ (fun k => k = g) HXX.out (Fr.setOne (Fr.refl _ _) _ _) (fun k hk e => HG.out (e ▸ hk))
          · exact (H10.out.then HF1.out (fun i hi e => .inr e)).setCell (fun _ => .inl rfl) _
    · have e5 : j = 5 := by omega
      subst e5
      go_wp2_with fail
      go_end0
      exact ⟨rfl, 5, t, f', o', h1, h2, H3.out, h4, H5.out, .inr rfl, H6.out, H7.out, H8.out, H9.out, H10.out⟩

/-! ### Next -/
theorem FInv.range {n i p s : Nat} {F f : Nat → Int} {b : BW} {o : Bool} (h : FInv n F i p s b f o) : ∀ j, j < s - i → 0 ≤ f j ∧ f j < 256 := by
  obtain ⟨k, E, e1, e2, e3, e4, e5⟩ := h.want
  intro j hj
  have := h.sn
  rw [e5 j hj]
  exact e3 _ (by omega)
/-- the filter in block g that told i bytes. -/
def FiltS (G : Sour Nat) (g n : Nat) (F : Nat → Int) (i : Nat) (w : World) : Prop :=
  ¬ G.foot g ∧ ∃ m r : Nat, ∃ b : BW, ∃ f : Nat → Int, ∃ o : Bool, FInv n F i (i + r) (i + m) b f o ∧ FBAt w g ⟨.iface G.ty G.val, (m : Int), (r : Int), o⟩ b f ∧ G.I w (i + m)
/-- and some bytes are ready. -/
def FiltR (G : Sour Nat) (g n : Nat) (F : Nat → Int) (i : Nat) (w : World) : Prop :=
  ∃ m r : Nat, ∃ b : BW, ∃ f : Nat → Int, ∃ o : Bool, 1 ≤ r ∧ FInv n F i (i + r) (i + m) b f o ∧ FBAt w g ⟨.iface G.ty G.val, (m : Int), (r : Int), o⟩ b f ∧ G.I w (i + m)
/-- the bytes behind the first one come forward. -/
def shift1 (m : Nat) (f : Nat → Int) : Nat → Int := fun j => if j + 1 < m then f (j + 1) else f j
def BNextPost (G : Sour Nat) (g n : Nat) (F : Nat → Int) (i : Nat) (w : World) (e : Ending) (w' : World) : Prop :=
  e = .returned (.tuple #[.int .u8 (allB false n F i), .bool true]) ∧ Fr (fun k => k = g ∨ G.foot k) w w' ∧ FiltS G g n F (i + 1) w'
def BEndPost (G : Sour Nat) (g n : Nat) (F : Nat → Int) (w : World) (e : Ending) (w' : World) : Prop :=
  e = .returned (.tuple #[.int .u8 0, .bool false]) ∧ Fr (fun k => k = g ∨ G.foot k) w w' ∧ FiltS G g n F n w'

set_option maxRecDepth 100000 in
set_option maxHeartbeats 1000000 in
theorem bnext_end (fg : Nat) (fa : Option Addr) (n c : Nat) (F : Nat → Int) (hF : ∀ i, i < n → 0 ≤ F i ∧ F i < 256) (g : Nat) (w : World) (h : FiltS (feed fg fa n c F hF) g n F n w) :
    Calls Try.prog 13 #[.pointer (some ⟨g, 0, none⟩)] w (BEndPost (feed fg fa n c F hF) g n F w) := by
  obtain ⟨hg, m, r, b, f, o, hv, hb, hi⟩ := h
  obtain rfl : m = 0 := by have := hv.sn; omega
  obtain rfl : r = 0 := by have := hv.ps; omega
  have HV := hid hv
  have HI := hid hi
  have HG := hid hg
  have HB := hid hb
  have c11 := blk_cell hb (j := 11) (v := .int .i64 0) rfl
  clear hv hi hg hb
  go_enter Try.func13, Try.ntmps13
  go_wp2_with fail
  refine (ffill_any fg fa n c F hF g b f 0 n 0 o _ (by decide) (Nat.le_refl _) HV.out.ov HB.out HI.out HG.out).mono ?_
  rintro e w1 ⟨rfl, j, t, f', o', h1, h2, h3, h4, h5, h6, h7, h8, h9, h10, h11⟩
  obtain rfl : j = 0 := by omega
  obtain rfl : t = n := by omega
  have c10 := blk_cell h9 (j := 10) (v := .int .i64 0) rfl
  have H5 := hid h5
  have H6 := hid h6
  have H9 := hid h9
  have H10 := hid h10
  have H11 := hid h11
  clear h5 h6 h7 h8 h9 h10 h11 c11
  go_wp2_with fail
  go_ret2
  refine ⟨rfl, H11.out, HG.out, 0, 0, b, f', o', ?_, H9.out, H10.out⟩
  exact HV.out.more (Nat.le_refl _) (Nat.le_refl _) (by omega) (fun j hj => by omega) (fun j h1 h2 => by omega) (fun _ => rfl)

theorem size_u8c : (Try.prog.info? 5).map (·.size) = some 1 := by kernel_rfl
set_option maxRecDepth 100000 in
set_option maxHeartbeats 4000000 in
theorem bnext_more (fg : Nat) (fa : Option Addr) (n c : Nat) (F : Nat → Int) (hF : ∀ i, i < n → 0 ≤ F i ∧ F i < 256) (g i : Nat) (w : World) (hlt : i < n) (h : FiltS (feed fg fa n c F hF) g n F i w) :
    Calls Try.prog 13 #[.pointer (some ⟨g, 0, none⟩)] w (BNextPost (feed fg fa n c F hF) g n F i w) := by
  obtain ⟨hg, m, r, b, f, o, hv, hb, hi⟩ := h
  have HV := hid hv
  have HI := hid hi
  have HG := hid hg
  have HB := hid hb
  have c11 := blk_cell hb (j := 11) (v := .int .i64 (r : Int)) rfl
  have hmr : r ≤ m ∧ m ≤ 5 := by have := hv.ps; have := hv.s5; omega
  obtain ⟨hrm, hm5⟩ := hmr
  clear hv hi hg hb
  go_enter Try.func13, Try.ntmps13
  go_upto_if 9 with fail
  go_cut [] (fun wx => FiltR (feed fg fa n c F hF) g n F i wx ∧ Fr (fun k => k = g ∨ (feed fg fa n c F hF).foot k) w wx)
  case first =>
    by_cases hr : r = 0
    · subst hr
      go_wp2_with fail
      refine (ffill_any fg fa n c F hF g b f m (i + m) 0 o _ hm5 HV.out.sn HV.out.ov HB.out HI.out HG.out).mono ?_
      rintro e w1 ⟨rfl, j, t, f', o', h1, h2, h3, h4, h5, h6, h7, h8, h9, h10, h11⟩
      obtain rfl : t = i + j := by omega
      have HV1 := hid (show FInv n F i i (i + j) b f' o' from HV.out.more (by omega) h4 (by omega) (fun q hq => h7 q (by omega)) (fun q hq1 hq2 => by rw [h8 q (by omega) (by omega)]; congr 1; omega) h5)
      have H5 := hid h5
      have H6 := hid h6
      have H9 := hid h9
      have H10 := hid h10
      have H11 := hid h11
      have c10 := blk_cell h9 (j := 10) (v := .int .i64 (j : Int)) rfl
      have z11 := blk_frozen h9 11
      clear h5 h6 h7 h8 h9 h10 h11 c11 h3
      by_cases hj5 : j = 5
      · subst hj5
        obtain ⟨hP, hP1⟩ := HV1.out.pass rfl (fun q hq => HV1.out.range q (by omega))
        have HP := hid hP
        have HOK := hid HV1.out.ok
        clear hP
        go_wp2_with fail
        go_region_with (go_at_call 26; refine (fpass_any g _ b f' _ HOK.out.1 HOK.out.2.1 HOK.out.2.2 (by exact H9.out) (fun q hq => HV1.out.range q (by omega))).mono ?_; rintro e w2 ⟨rfl, hf2, hb2⟩; have d2 := blk_cell hb2 (j := 11) (v := .int .i64 0) rfl; have z2 := blk_frozen hb2 11)
        all_goals
          have HF2 := hid hf2
          have HB2 := hid hb2
          clear hf2 hb2
          go_wp2_with fail
          go_meet
          refine ⟨⟨5, (b.pass f').2.2, (b.pass f').1, (b.pass f').2.1, o', hP1, HP.out, ?_, ?_⟩, ?_⟩
          · exact blk_set HB2.out
          · exact (feed fg fa n c F hF).keep _ _ _ (fun k => k = g) H10.out ((((Fr.refl _ _).drew).trans HF2.out).setOne _ _) (fun k hk e => HG.out (e ▸ hk))
          · exact ((H11.out.drew).then HF2.out (fun i hi e => .inl e)).setCell (fun _ => .inl rfl) _
      · have hj0 : ¬ j = 0 := by
          intro e0
          subst e0
          have := H6.out
          rcases H6.out with e | e
          · have := H5.out e; omega
          · omega
        have ho : o' = true := by
          rcases H6.out with e | e
          · exact e
          · exact absurd e hj5
        have htn : i + j = n := H5.out ho
        have HL := hid (show FInv n F i (i + j) (i + j) b f' o' from by have := HV1.out.last htn (by omega); rw [htn]; exact this)
        have HHO := hid ho
        have HTN := hid htn
        have q0 : ((j : Int) == 0) = false := by simp; omega
        have q5 : ((j : Int) == 5) = false := by simp; omega
        have d11 := blk_cell H9.out (j := 11) (v := .int .i64 0) rfl
        clear ho htn hj5 h2 h1 hlt
        go_wp2_with fail
        go_meet
        refine ⟨⟨j, j, b, f', o', by omega, HL.out, ?_, ?_⟩, ?_⟩
        · exact blk_set H9.out
        · exact (feed fg fa n c F hF).keep _ _ _ (fun k => k = g) H10.out ((Fr.refl _ _).setOne _ _) (fun k hk e => HG.out (e ▸ hk))
        · exact H11.out.setCell (fun _ => .inl rfl) _
    · have q0 : ((r : Int) == 0) = false := by simp; omega
      go_wp2_with fail
      go_meet
      exact ⟨⟨m, r, b, f, o, by omega, HV.out, HB.out, HI.out⟩, Fr.refl _ _⟩
  case rest =>
    obtain ⟨⟨m1, r1, b1, f1, o1, hr1, hv1, hb1, hi1⟩, hfr⟩ := hcut
    have hm1 : m1 = 1 ∨ m1 = 2 ∨ m1 = 3 ∨ m1 = 4 ∨ m1 = 5 := by have := hv1.ps; have := hv1.s5; omega
    have HV1 := hid hv1
    have HI1 := hid hi1
    have HB1 := hid hb1
    have HFR := hid hfr
    have d5 := blk_cell hb1 (j := 5) (v := .int .u8 (f1 0)) rfl
    have hr5 : (r1 : Int) ≤ 5 := by have := hv1.ps; omega
    have hr6 : (1 : Int) ≤ (r1 : Int) := by omega
    have d10 := blk_cell hb1 (j := 10) (v := .int .i64 (m1 : Int)) rfl
    clear c11 HV HI HB hrm hm5 hv1 hi1 hb1 hfr
    rcases hm1 with rfl | rfl | rfl | rfl | rfl
    · replace d10 : wc.cell? ⟨g, 10, none⟩ = some (.int .i64 1) := d10
      go_wp2_with fail
      go_region_law (refine step_copy_raw rfl (.tmp 45) (.tmp 53) 22 22 rfl 5 59 Try.underlying22 size_u8c g 5 5 5 g 6 0 4 rfl rfl (filtC ⟨.iface (feed fg fa n c F hF).ty (feed fg fa n c F hF).val, 1, (r1 : Int), o1⟩ b1 f1) (filtC ⟨.iface (feed fg fa n c F hF).ty (feed fg fa n c F hF).val, 1, (r1 : Int), o1⟩ b1 (shift1 1 f1)) (by exact HB1.out) [] rfl (src_cells (by exact HB1.out) 6 _ (fun j hj => absurd hj (Nat.not_lt_zero _))) (by simp [filtC]) (fun v hv => by cases hv) rfl ?_; intro w3 hf3 hb3)
      all_goals
        have HF3 := hid hf3
        have HB3 := hid hb3
        have k10 := blk_cell hb3 (j := 10) (v := .int .i64 1) rfl
        have k11 := blk_cell hb3 (j := 11) (v := .int .i64 (r1 : Int)) rfl
        have z10 := blk_frozen hb3 10
        have z11 := blk_frozen hb3 11
        clear hf3 hb3
        go_wp2_with fail
        go_ret2
        obtain ⟨ht, hx⟩ := HV1.out.tell (f' := shift1 1 f1) (by omega) (fun j hj => if_pos (by omega))
        rw [hx]
        have er : (((r1 - 1 : Nat)) : Int) = (r1 : Int) - 1 := by omega
        refine ⟨rfl, ?_, HG.out, 0, r1 - 1, b1, shift1 1 f1, o1, ?_, ?_, ?_⟩
        · exact (((HFR.out.drew).then HF3.out (fun i hi e => .inl e)).setCell (fun _ => .inl rfl) _).setCell (fun _ => .inl rfl) _
        · rw [show i + 1 + (r1 - 1) = i + r1 from by omega]
          exact ht
        · rw [er]
          exact blk_set (blk_set HB3.out)
        · exact (feed fg fa n c F hF).keep _ _ _ (fun k => k = g) HI1.out ((((Fr.refl _ _).drew.trans HF3.out).setOne _ _).setOne _ _) (fun k hk e => HG.out (e ▸ hk))
    · replace d10 : wc.cell? ⟨g, 10, none⟩ = some (.int .i64 2) := d10
      go_wp2_with fail
      go_region_law (refine step_copy_raw rfl (.tmp 45) (.tmp 53) 22 22 rfl 5 59 Try.underlying22 size_u8c g 5 5 5 g 6 1 4 rfl rfl (filtC ⟨.iface (feed fg fa n c F hF).ty (feed fg fa n c F hF).val, 2, (r1 : Int), o1⟩ b1 f1) (filtC ⟨.iface (feed fg fa n c F hF).ty (feed fg fa n c F hF).val, 2, (r1 : Int), o1⟩ b1 (shift1 2 f1)) (by exact HB1.out) [.int .u8 (f1 1)] rfl (src_cells (by exact HB1.out) 6 _ (fun j hj => match j, hj with | 0, _ => rfl | n + 1, h => absurd h (by simp))) (by simp [filtC]) (fun v hv => by simp at hv; subst hv; rfl) rfl ?_; intro w3 hf3 hb3)
      all_goals
        have HF3 := hid hf3
        have HB3 := hid hb3
        have k10 := blk_cell hb3 (j := 10) (v := .int .i64 2) rfl
        have k11 := blk_cell hb3 (j := 11) (v := .int .i64 (r1 : Int)) rfl
        have z10 := blk_frozen hb3 10
        have z11 := blk_frozen hb3 11
        clear hf3 hb3
        go_wp2_with fail
        go_ret2
        obtain ⟨ht, hx⟩ := HV1.out.tell (f' := shift1 2 f1) (by omega) (fun j hj => if_pos (by omega))
        rw [hx]
        have er : (((r1 - 1 : Nat)) : Int) = (r1 : Int) - 1 := by omega
        refine ⟨rfl, ?_, HG.out, 1, r1 - 1, b1, shift1 2 f1, o1, ?_, ?_, ?_⟩
        · exact (((HFR.out.drew).then HF3.out (fun i hi e => .inl e)).setCell (fun _ => .inl rfl) _).setCell (fun _ => .inl rfl) _
        · rw [show i + 1 + (r1 - 1) = i + r1 from by omega]
          exact ht
        · rw [er]
          exact blk_set (blk_set HB3.out)
        · exact (feed fg fa n c F hF).keep _ _ _ (fun k => k = g) HI1.out ((((Fr.refl _ _).drew.trans HF3.out).setOne _ _).setOne _ _) (fun k hk e => HG.out (e ▸ hk))
    · replace d10 : wc.cell? ⟨g, 10, none⟩ = some (.int .i64 3) := d10
      go_wp2_with fail
      go_region_law (refine step_copy_raw rfl (.tmp 45) (.tmp 53) 22 22 rfl 5 59 Try.underlying22 size_u8c g 5 5 5 g 6 2 4 rfl rfl (filtC ⟨.iface (feed fg fa n c F hF).ty (feed fg fa n c F hF).val, 3, (r1 : Int), o1⟩ b1 f1) (filtC ⟨.iface (feed fg fa n c F hF).ty (feed fg fa n c F hF).val, 3, (r1 : Int), o1⟩ b1 (shift1 3 f1)) (by exact HB1.out) [.int .u8 (f1 1), .int .u8 (f1 2)] rfl (src_cells (by exact HB1.out) 6 _ (fun j hj => match j, hj with | 0, _ => rfl | 1, _ => rfl | n + 2, h => absurd h (by simp))) (by simp [filtC]) (fun v hv => by simp at hv; rcases hv with rfl | rfl <;> rfl) rfl ?_; intro w3 hf3 hb3)
      all_goals
        have HF3 := hid hf3
        have HB3 := hid hb3
        have k10 := blk_cell hb3 (j := 10) (v := .int .i64 3) rfl
        have k11 := blk_cell hb3 (j := 11) (v := .int .i64 (r1 : Int)) rfl
        have z10 := blk_frozen hb3 10
        have z11 := blk_frozen hb3 11
        clear hf3 hb3
        go_wp2_with fail
        go_ret2
        obtain ⟨ht, hx⟩ := HV1.out.tell (f' := shift1 3 f1) (by omega) (fun j hj => if_pos (by omega))
        rw [hx]
        have er : (((r1 - 1 : Nat)) : Int) = (r1 : Int) - 1 := by omega
        refine ⟨rfl, ?_, HG.out, 2, r1 - 1, b1, shift1 3 f1, o1, ?_, ?_, ?_⟩
        · exact (((HFR.out.drew).then HF3.out (fun i hi e => .inl e)).setCell (fun _ => .inl rfl) _).setCell (fun _ => .inl rfl) _
        · rw [show i + 1 + (r1 - 1) = i + r1 from by omega]
          exact ht
        · rw [er]
          exact blk_set (blk_set HB3.out)
        · exact (feed fg fa n c F hF).keep _ _ _ (fun k => k = g) HI1.out ((((Fr.refl _ _).drew.trans HF3.out).setOne _ _).setOne _ _) (fun k hk e => HG.out (e ▸ hk))
    · replace d10 : wc.cell? ⟨g, 10, none⟩ = some (.int .i64 4) := d10
      go_wp2_with fail
      go_region_law (refine step_copy_raw rfl (.tmp 45) (.tmp 53) 22 22 rfl 5 59 Try.underlying22 size_u8c g 5 5 5 g 6 3 4 rfl rfl (filtC ⟨.iface (feed fg fa n c F hF).ty (feed fg fa n c F hF).val, 4, (r1 : Int), o1⟩ b1 f1) (filtC ⟨.iface (feed fg fa n c F hF).ty (feed fg fa n c F hF).val, 4, (r1 : Int), o1⟩ b1 (shift1 4 f1)) (by exact HB1.out) [.int .u8 (f1 1), .int .u8 (f1 2), .int .u8 (f1 3)] rfl (src_cells (by exact HB1.out) 6 _ (fun j hj => match j, hj with | 0, _ => rfl | 1, _ => rfl | 2, _ => rfl | n + 3, h => absurd h (by simp))) (by simp [filtC]) (fun v hv => by simp at hv; rcases hv with rfl | rfl | rfl <;> rfl) rfl ?_; intro w3 hf3 hb3)
      all_goals
        have HF3 := hid hf3
        have HB3 := hid hb3
        have k10 := blk_cell hb3 (j := 10) (v := .int .i64 4) rfl
        have k11 := blk_cell hb3 (j := 11) (v := .int .i64 (r1 : Int)) rfl
        have z10 := blk_frozen hb3 10
        have z11 := blk_frozen hb3 11
        clear hf3 hb3
        go_wp2_with fail
        go_ret2
        obtain ⟨ht, hx⟩ := HV1.out.tell (f' := shift1 4 f1) (by omega) (fun j hj => if_pos (by omega))
        rw [hx]
        have er : (((r1 - 1 : Nat)) : Int) = (r1 : Int) - 1 := by omega
        refine ⟨rfl, ?_, HG.out, 3, r1 - 1, b1, shift1 4 f1, o1, ?_, ?_, ?_⟩
        · exact (((HFR.out.drew).then HF3.out (fun i hi e => .inl e)).setCell (fun _ => .inl rfl) _).setCell (fun _ => .inl rfl) _
        · rw [show i + 1 + (r1 - 1) = i + r1 from by omega]
          exact ht
        · rw [er]
          exact blk_set (blk_set HB3.out)
        · exact (feed fg fa n c F hF).keep _ _ _ (fun k => k = g) HI1.out ((((Fr.refl _ _).drew.trans HF3.out).setOne _ _).setOne _ _) (fun k hk e => HG.out (e ▸ hk))
    · replace d10 : wc.cell? ⟨g, 10, none⟩ = some (.int .i64 5) := d10
      go_wp2_with fail
      go_region_law (refine step_copy_raw rfl (.tmp 45) (.tmp 53) 22 22 rfl 5 59 Try.underlying22 size_u8c g 5 5 5 g 6 4 4 rfl rfl (filtC ⟨.iface (feed fg fa n c F hF).ty (feed fg fa n c F hF).val, 5, (r1 : Int), o1⟩ b1 f1) (filtC ⟨.iface (feed fg fa n c F hF).ty (feed fg fa n c F hF).val, 5, (r1 : Int), o1⟩ b1 (shift1 5 f1)) (by exact HB1.out) [.int .u8 (f1 1), .int .u8 (f1 2), .int .u8 (f1 3), .int .u8 (f1 4)] rfl (src_cells (by exact HB1.out) 6 _ (fun j hj => match j, hj with | 0, _ => rfl | 1, _ => rfl | 2, _ => rfl | 3, _ => rfl | n + 4, h => absurd h (by simp))) (by simp [filtC]) (fun v hv => by simp at hv; rcases hv with rfl | rfl | rfl | rfl <;> rfl) rfl ?_; intro w3 hf3 hb3)
      all_goals
        have HF3 := hid hf3
        have HB3 := hid hb3
        have k10 := blk_cell hb3 (j := 10) (v := .int .i64 5) rfl
        have k11 := blk_cell hb3 (j := 11) (v := .int .i64 (r1 : Int)) rfl
        have z10 := blk_frozen hb3 10
        have z11 := blk_frozen hb3 11
        clear hf3 hb3
        go_wp2_with fail
        go_ret2
        obtain ⟨ht, hx⟩ := HV1.out.tell (f' := shift1 5 f1) (by omega) (fun j hj => if_pos (by omega))
        rw [hx]
        have er : (((r1 - 1 : Nat)) : Int) = (r1 : Int) - 1 := by omega
        refine ⟨rfl, ?_, HG.out, 4, r1 - 1, b1, shift1 5 f1, o1, ?_, ?_, ?_⟩
        · exact (((HFR.out.drew).then HF3.out (fun i hi e => .inl e)).setCell (fun _ => .inl rfl) _).setCell (fun _ => .inl rfl) _
        · rw [show i + 1 + (r1 - 1) = i + r1 from by omega]
          exact ht
        · rw [er]
          exact blk_set (blk_set HB3.out)
        · exact (feed fg fa n c F hF).keep _ _ _ (fun k => k = g) HI1.out ((((Fr.refl _ _).drew.trans HF3.out).setOne _ _).setOne _ _) (fun k hk e => HG.out (e ▸ hk))
end Go.Proofs.Ytkahjjmjbcjaaaa
