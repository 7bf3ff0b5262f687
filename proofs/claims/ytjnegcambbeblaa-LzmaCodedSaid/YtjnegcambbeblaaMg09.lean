/- Texts of this proof, one behind the other. -/
import Derived.Test.YtjnegcambbeblaaMg06
import Derived.Test.YtjnegcambbeblaaMg08
import Derived.Test.YtjnegcambbeblaaMg05
import Derived.Defers
import Derived.Test.YtjnegcambbeblaaMg04
import Derived.Test.YtjnegcambbeblaaMg02

/- lzma: Begin, Whole, over. -/
namespace Go.Proofs.Ytjnegcambbeblaa
open Go.RowKit

/-- what a source that was asked ahead answers. -/
def anx {S : Type} (nx : S → Int × Bool × S) (x : AhS S) : Int × Bool × AhS S := ((ahNx nx x).1 % 256, (ahNx nx x).2)
theorem ahead_nx {S : Type} (t : Sour S) (g : Nat) : (ahead t g).nx = anx t.nx := rfl
theorem LIs.lt {L : LL} {sp rp : Value} {w : World} {s : LS} (h : LIs L sp rp w s) : ∀ k, L.foot k → k < w.heap.size := by
  have h1 := blk_lt h.at_
  have h2 := blk_lt h.lit
  have h3 := h.win.lt
  rintro k (e | e | e | e) <;> omega
def LBeginPost {S : Type} (L : LL) (t : Sour S) (s : LS) (s0 : S) (w : World) (e : Ending) (w' : World) : Prop :=
  ∃ ga gr, e = .returned (.tuple #[]) ∧ Fr (fun k => k = L.gd ∨ t.foot k) w w' ∧ LOn L t ga gr w' s (RD.new (anx t.nx) ⟨s0, 0, false⟩) ∧ w.heap.size ≤ ga ∧ ga < w'.heap.size ∧ w.heap.size ≤ gr ∧ gr < w'.heap.size
set_option maxRecDepth 100000 in
set_option maxHeartbeats 800000 in
theorem lbegin_any {S : Type} (L : LL) (t : Sour S) (sp rp : Value) (s : LS) (s0 : S) (w : World) (h : LIs L sp rp w s) (ht : t.I w s0) (hlt : ∀ k, t.foot k → k < w.heap.size) (hap : ∀ k, L.foot k → ¬ t.foot k) :
    Calls Try.prog 21 #[.pointer (some ⟨L.gd, 0, none⟩), .iface t.ty t.val] w (LBeginPost L t s s0 w) := by
  have hgd : L.gd < w.heap.size := h.lt _ (.inl rfl)
  have z7 := blk_frozen h.at_ 7
  have c7 := h.headC 7 (v := sp) (by decide) rfl
  obtain ⟨g, hg⟩ : ∃ g, g = w.heap.size := ⟨_, rfl⟩
  have H := hid h
  have HT := hid ht
  have HLT := hid hlt
  have HAP := hid hap
  have HGD := hid hgd
  have HG := hid hg
  clear h ht hlt hap hg
  go_enter Try.func21, Try.ntmps21
  go_upto_region 1 with fail
  rw [← HG.out]
  obtain ⟨w1, hw1⟩ : ∃ w1, w1 = (w.setCell ⟨L.gd, 7, none⟩ (.pointer (some ⟨g, 0, none⟩))).alloc (.cells #[.iface t.ty t.val, .int .u8 0, .bool false] 120) := ⟨_, rfl⟩
  have hne : g ≠ L.gd := by have := HG.out; omega
  have hl1 : LIs L (.pointer (some ⟨g, 0, none⟩)) rp w1 s := by
    rw [hw1]
    exact (H.out.setH (i := 7) (by decide) rfl rfl rfl rfl H.out.ok).keep ((Fr.refl Non _).alloc _) (fun _ _ e => e)
  have hf1 : Fr (fun k => k = L.gd) w w1 := by rw [hw1]; exact ((Fr.refl _ _).setOne _ _).alloc _
  have hs1 : w1.heap.size = g + 1 := by rw [hw1, HG.out]; simp
  have ha1 : (ahead t g).I w1 ⟨s0, 0, false⟩ := by
    refine ⟨?_, t.keep _ _ _ _ HT.out hf1 (fun k hk e => HAP.out k (.inl e) hk), fun e => by have := HLT.out _ e; have := HG.out; omega, by show (0 : Int) ≤ 0 ∧ (0 : Int) < 256; decide⟩
    rw [hw1]
    have e := blk_new (w.setCell ⟨L.gd, 7, none⟩ (.pointer (some ⟨g, 0, none⟩))) (.cells #[.iface t.ty t.val, .int .u8 0, .bool false] 120)
    have hz : (w.setCell ⟨L.gd, 7, none⟩ (.pointer (some ⟨g, 0, none⟩))).heap.size = g := by rw [HG.out]; simp
    rw [hz] at e
    exact e
  have c7' := hl1.headC 7 (v := .pointer (some ⟨g, 0, none⟩)) (by decide) rfl
  have z8 := blk_frozen hl1.at_ 8
  have c8 := hl1.headC 8 (v := rp) (by decide) rfl
  have L1 := hid hl1
  have F1 := hid hf1
  have A1 := hid ha1
  have S1 := hid hs1
  rw [← hw1]
  clear hw1 hl1 hf1 hs1 ha1 c7 z7
  go_wp2_with fail
  refine (show Calls Try.prog 58 #[.iface (ahead t g).ty (ahead t g).val] w1 (NewPost (ahead t g) w1 (RD.new (anx t.nx) ⟨s0, 0, false⟩)) from dnew_any (ahead t g) ⟨s0, 0, false⟩ w1 A1.out (by
    rintro k (e | e)
    · have := S1.out; omega
    · have := HLT.out k e; have := S1.out; have := HG.out; omega)).mono ?_
  rintro e w2 ⟨gr, hgr0, hgr1, rfl, hf2, hd2⟩
  have hl2 : LIs L (.pointer (some ⟨g, 0, none⟩)) rp w2 s := L1.out.keep hf2 (fun k hk e => e.elim (fun e => by have := H.out.lt k hk; have := HG.out; omega) (fun e => HAP.out k hk e))
  have hgrs : g < gr := by have := S1.out; omega
  have z8 := blk_frozen hl2.at_ 8
  have c8 := hl2.headC 8 (v := rp) (by decide) rfl
  have L2 := hid hl2
  have F2 := hid hf2
  have D2 := hid hd2
  clear hl2 hf2 hd2
  go_wp2_with fail
  go_end0
  have hgg := HG.out
  have hsz := F2.out.size
  have hs1 := S1.out
  have hap' : ∀ k, L.foot k → ¬ decFoot (ahead t g) gr k := by
    intro k hk e
    have := H.out.lt k hk
    rcases e with e | e | e
    · omega
    · omega
    · exact HAP.out k hk e
  have hf3 : Fr (fun k => k = L.gd) w2 (w2.setCell ⟨L.gd, 8, none⟩ (.pointer (some ⟨gr, 0, none⟩))) := (Fr.refl _ _).setOne _ _
  refine ⟨g, gr, rfl, ?_, ⟨L2.out.setH (i := 8) (by decide) rfl rfl rfl rfl L2.out.ok, D2.out.keep hf3 (fun k hk e => hap' L.gd (.inl rfl) (by rw [← (show k = L.gd from e)]; exact hk)), hap'⟩, by omega, by simp; omega, by omega, by simp; omega⟩
  refine Fr.setCell (p := ⟨L.gd, 8, none⟩) (Fr.then (S := fun k => k = L.gd ∨ t.foot k) (F1.out.mono (fun _ _ e => .inl e)) F2.out ?_) (fun _ => .inl rfl) _
  intro k hk e
  rcases e with e | e
  · omega
  · exact .inr e

/-- whether no packet has more to tell, and the range decoder is done. -/
def lwhole {S : Type} (s : LS) (d : RD S) : Bool := !s.bad && decide (s.left = 0) && d.done
set_option maxRecDepth 100000 in
set_option maxHeartbeats 800000 in
theorem lwhole_any {S : Type} (L : LL) (t : Sour S) (ga gr : Nat) (s : LS) (d : RD (AhS S)) (w : World) (h : LOn L t ga gr w s d) :
    Calls Try.prog 29 #[.pointer (some ⟨L.gd, 0, none⟩)] w fun e w' => e = .returned (.bool (lwhole s d)) ∧ w = w' := by
  have k8 := h.is_.headC 8 (v := .pointer (some ⟨gr, 0, none⟩)) (by decide) rfl
  have t7 := h.is_.tailC 7 (v := .int .i64 s.left) rfl
  have t9 := h.is_.tailC 9 (v := .bool s.bad) rfl
  have H := hid h
  unfold lwhole
  obtain ⟨b, hb⟩ : ∃ b, b = s.bad := ⟨_, rfl⟩
  obtain ⟨l, hl⟩ : ∃ l, l = s.left := ⟨_, rfl⟩
  rw [← hb] at t9 ⊢
  rw [← hl] at t7 ⊢
  clear h hb hl
  cases b with
  | true =>
    go_enter Try.func29, Try.ntmps29
    go_wp2_with fail
    go_ret
    exact ⟨rfl, rfl⟩
  | false =>
    by_cases hl0 : l = 0
    · subst hl0
      go_enter Try.func29, Try.ntmps29
      go_wp2_with fail
      refine (ddone_any (ahead t ga) gr d _ H.out.dec).mono ?_
      rintro e w4 ⟨rfl, rfl⟩
      go_wp2_with fail
      go_ret
      exact ⟨by simp, rfl⟩
    · have hlb : ((l : Int) == 0) = false := by simp; omega
      have HL := hid hl0
      clear hl0
      go_enter Try.func29, Try.ntmps29
      go_wp2_with fail
      go_ret
      exact ⟨by simp [HL.out], rfl⟩
/-- whether all is whole, and no byte is left. -/
def lover {S : Type} (nx : S → Int × Bool × S) (s : LS) (d : RD (AhS S)) : Bool × RD (AhS S) :=
  if lwhole s d = true then (!(ahMore nx d.src).1, ⟨(ahMore nx d.src).2, d.rng, d.code, d.bad⟩) else (false, d)
set_option maxRecDepth 100000 in
set_option maxHeartbeats 800000 in
theorem lover_any {S : Type} (L : LL) (t : Sour S) (ga gr : Nat) (s : LS) (d : RD (AhS S)) (w : World) (h : LOn L t ga gr w s d) :
    Calls Try.prog 68 #[.pointer (some ⟨L.gd, 0, none⟩)] w (LOPost L t ga gr (.bool (lover t.nx s d).1) s (lover t.nx s d).2 w) := by
  have k7 := h.is_.headC 7 (v := .pointer (some ⟨ga, 0, none⟩)) (by decide) rfl
  have H := hid h
  have HW := hid (lwhole_any L t ga gr s d w h)
  unfold lover
  clear h
  generalize lwhole s d = b at HW ⊢
  cases b with
  | true =>
    rw [if_pos rfl]
    go_enter Try.func68, Try.ntmps68
    go_wp2_with fail
    refine HW.out.mono ?_
    rintro e w4 ⟨rfl, rfl⟩
    go_wp2_with fail
    refine (ahMore_any t ga d.src _ H.out.dec.src).mono ?_
    rintro e w4 ⟨rfl, hf4, h4⟩
    have HF4 := hid hf4
    have H4 := hid h4
    clear hf4 h4
    go_wp2_with fail
    go_ret
    refine ⟨rfl, HF4.out.mono (fun _ _ e => .inr (.inr e)), H.out.is_.keep HF4.out (fun k hk e => H.out.ap k hk (.inr e)), ⟨HF4.out.blk H.out.dec.at_ H.out.dec.apart, H4.out, H.out.dec.ok, H.out.dec.apart⟩, H.out.ap⟩
  | false =>
    rw [if_neg (by decide)]
    go_enter Try.func68, Try.ntmps68
    go_wp2_with fail
    refine HW.out.mono ?_
    rintro e w4 ⟨rfl, rfl⟩
    go_wp2_with fail
    go_ret
    exact ⟨rfl, Fr.refl _ _, H.out⟩
end Go.Proofs.Ytjnegcambbeblaa

/- lzma: Finish. -/
namespace Go.Proofs.Ytjnegcambbeblaa
open Go.RowKit

def LS.spoil (s : LS) : LS := { s with bad := true }
/-- whether the stream ends; the decoder behind it. -/
def lfinish {S : Type} (nx : S → Int × Bool × S) (L : LL) (s : LS) (d : RD (AhS S)) : Bool × LS × RD (AhS S) :=
  if s.bad = true ∨ s.left ≠ 0 then (false, s, d)
  else if (lover nx s d).1 = true ∨ s.ended = true then ((lover nx s d).1, s.spoil, (lover nx s d).2)
  else
    if (lpacket (anx nx) L s (lover nx s d).2).2.1.ended = true then
      ((lover nx (lpacket (anx nx) L s (lover nx s d).2).2.1 (lpacket (anx nx) L s (lover nx s d).2).2.2).1, (lpacket (anx nx) L s (lover nx s d).2).2.1.spoil, (lover nx (lpacket (anx nx) L s (lover nx s d).2).2.1 (lpacket (anx nx) L s (lover nx s d).2).2.2).2)
    else (false, (lpacket (anx nx) L s (lover nx s d).2).2.1.spoil, (lpacket (anx nx) L s (lover nx s d).2).2.2)
def LFPost {S : Type} (L : LL) (t : Sour S) (ga gr : Nat) (R : Bool × LS × RD (AhS S)) (w : World) (e : Ending) (w' : World) : Prop :=
  LOPost L t ga gr (.bool R.1) R.2.1 R.2.2 w e w'
set_option maxRecDepth 100000 in
set_option maxHeartbeats 800000 in
theorem lfinish_any {S : Type} (L : LL) (t : Sour S) (ga gr : Nat) (s : LS) (d : RD (AhS S)) (w : World) (h : LOn L t ga gr w s d) (hp : s.place ≤ 1000000) :
    Calls Try.prog 30 #[.pointer (some ⟨L.gd, 0, none⟩)] w (LFPost L t ga gr (lfinish t.nx L s d) w) := by
  obtain ⟨R, hR⟩ : ∃ R, R = lfinish t.nx L s d := ⟨_, rfl⟩
  rw [← hR]
  unfold lfinish at hR
  have k8 := h.is_.headC 8 (v := .pointer (some ⟨gr, 0, none⟩)) (by decide) rfl
  have t7 := h.is_.tailC 7 (v := .int .i64 s.left) rfl
  have t9 := h.is_.tailC 9 (v := .bool s.bad) rfl
  have H := hid h
  obtain ⟨b, hb⟩ : ∃ b, b = s.bad := ⟨_, rfl⟩
  obtain ⟨en, hen⟩ : ∃ en, en = s.ended := ⟨_, rfl⟩
  obtain ⟨l, hl⟩ : ∃ l, l = s.left := ⟨_, rfl⟩
  rw [← hb, ← hl, ← hen] at hR
  rw [← hb] at t9
  rw [← hl] at t7
  have HR := hid hR
  have HPL := hid hp
  have HEN := hid hen
  have C1 := hid (lover_any L t ga gr s d w h)
  clear h hR hb hl hp hen
  go_enter Try.func30, Try.ntmps30
  cases b with
  | true =>
    have hR := HR.out
    rw [if_pos (.inl rfl)] at hR
    have HR2 := hid hR
    clear hR
    go_wp2_with fail
    go_ret
    rw [HR2.out]
    exact ⟨rfl, Fr.refl _ _, H.out⟩
  | false =>
    by_cases hl0 : l = 0
    · subst hl0
      have hR := HR.out
      rw [if_neg (by decide)] at hR
      generalize lover t.nx s d = o at C1 hR
      obtain ⟨ob, d1⟩ := o
      dsimp only at C1 hR
      have HR2 := hid hR
      clear hR
      go_wp2_with fail
      refine C1.out.mono ?_
      rintro e w4 ⟨rfl, hf4, h4⟩
      have t8 := h4.is_.tailC 8 (v := .bool s.ended) rfl
      rw [← HEN.out] at t8
      have t9 := h4.is_.tailC 9 (v := .bool s.bad) rfl
      have z9 := blk_frozen h4.is_.at_ (1856 + 9)
      have HF4 := hid hf4
      have H4 := hid h4
      clear hf4 h4
      cases ob with
      | true =>
        have hR := HR2.out
        rw [if_pos (.inl rfl)] at hR
        have HR3 := hid hR
        clear hR
        go_wp2_with fail
        go_ret
        rw [HR3.out]
        exact ⟨rfl, HF4.out.setCell (p := ⟨L.gd, 1865, none⟩) (fun _ => .inl (.inl rfl)) _, H4.out.bad_ true⟩
      | false =>
        cases en with
        | true =>
          have hR := HR2.out
          rw [if_pos (.inr rfl)] at hR
          have HR3 := hid hR
          clear hR
          go_wp2_with fail
          go_ret
          rw [HR3.out]
          exact ⟨rfl, HF4.out.setCell (p := ⟨L.gd, 1865, none⟩) (fun _ => .inl (.inl rfl)) _, H4.out.bad_ true⟩
        | false =>
          have hR := HR2.out
          rw [if_neg (by decide)] at hR
          have C2 := hid (lpacket_any L t ga gr s d1 w4 H4.out HPL.out)
          rw [ahead_nx] at C2
          generalize lpacket (anx t.nx) L s d1 = q at C2 hR
          obtain ⟨⟨x, ok⟩, s1, d2⟩ := q
          dsimp only at C2 hR
          have HR3 := hid hR
          clear hR
          go_wp2_with fail
          refine C2.out.mono ?_
          rintro e w5 ⟨rfl, hf5, h5⟩
          dsimp only at hf5 h5
          have t8 := h5.is_.tailC 8 (v := .bool s1.ended) rfl
          have t9 := h5.is_.tailC 9 (v := .bool s1.bad) rfl
          have z9 := blk_frozen h5.is_.at_ (1856 + 9)
          have C3 := hid (lover_any L t ga gr s1 d2 w5 h5)
          have HF5 := hid (HF4.out.trans hf5)
          have H5 := hid h5
          obtain ⟨e1, he1⟩ : ∃ e1, e1 = s1.ended := ⟨_, rfl⟩
          rw [← he1] at t8
          have hR := HR3.out
          rw [← he1] at hR
          clear hf5 h5 he1
          cases e1 with
          | true =>
            rw [if_pos rfl] at hR
            generalize lover t.nx s1 d2 = o2 at C3 hR
            obtain ⟨ob2, d3⟩ := o2
            dsimp only at C3 hR
            have HR4 := hid hR
            clear hR
            go_wp2_with fail
            refine C3.out.mono ?_
            rintro e w6 ⟨rfl, hf6, h6⟩
            have t9 := h6.is_.tailC 9 (v := .bool s1.bad) rfl
            have z9 := blk_frozen h6.is_.at_ (1856 + 9)
            have HF6 := hid (HF5.out.trans hf6)
            have H6 := hid h6
            clear hf6 h6
            go_wp2_with fail
            go_ret
            rw [HR4.out]
            exact ⟨rfl, HF6.out.setCell (p := ⟨L.gd, 1865, none⟩) (fun _ => .inl (.inl rfl)) _, H6.out.bad_ true⟩
          | false =>
            rw [if_neg (by decide)] at hR
            have HR4 := hid hR
            clear hR
            go_wp2_with fail
            go_ret
            rw [HR4.out]
            exact ⟨rfl, HF5.out.setCell (p := ⟨L.gd, 1865, none⟩) (fun _ => .inl (.inl rfl)) _, H5.out.bad_ true⟩
    · have hR := HR.out
      rw [if_pos (.inr hl0)] at hR
      have HR2 := hid hR
      have hlb : (0 : Int) < (l : Int) := by omega
      clear hR
      go_wp2_with fail
      go_ret
      rw [HR2.out]
      exact ⟨rfl, Fr.refl _ _, H.out⟩
end Go.Proofs.Ytjnegcambbeblaa

/- lzma: Close, called and deferred. -/
namespace Go.Proofs.Ytjnegcambbeblaa
open Go.RowKit

theorem MS.free_ok {m : MS} (h : m.Ok) (n : Nat) : (m.free n).Ok := ⟨by have := h.now; show m.now - n ≤ m.most; omega, h.most, by have := h.peak; show m.now - n ≤ m.peak; omega⟩
/-- a decoder as it lies, and its window; what Close needs. -/
structure LRaw (L : LL) (lv sp rp : Value) (s : LS) (a : Option Addr) (n next count : Nat) (m : MS) (w : World) : Prop where
  at_ : w.heap[L.gd]? = some (.cells (s.cells L lv sp rp) 115)
  win : w.heap[L.gw]? = some (.cells #[.slice a n n, .int .i64 next, .int .i64 count, .pointer (some ⟨L.gm, 0, none⟩)] 159)
  met : MAt w L.gm m
  ok : m.Ok
  lim : n ≤ 1048576
  tk : s.taken ≤ 1048576
  dw : L.gd ≠ L.gw
  md : L.gm ≠ L.gd
  mw : L.gm ≠ L.gw
def LClosed (L : LL) (sp rp : Value) (s : LS) (n : Nat) (m : MS) (w w' : World) : Prop :=
  Fr (fun k => k = L.gd ∨ k = L.gw ∨ k = L.gm) w w' ∧ LRaw L (.slice none 0 0) sp rp { s with taken := 0, bad := true } none 0 0 0 ((m.free s.taken).free n) w'
set_option maxRecDepth 100000 in
set_option maxHeartbeats 800000 in
theorem lclose_raw (L : LL) (lv sp rp : Value) (s : LS) (a : Option Addr) (n next count : Nat) (m : MS) (w : World) (h : LRaw L lv sp rp s a n next count m w) :
    Calls Try.prog 28 #[.pointer (some ⟨L.gd, 0, none⟩)] w fun e w' => e = .returned (.tuple #[]) ∧ LClosed L sp rp s n m w w' := by
  have c4 := blk_cell h.at_ (j := 4) (v := .pointer (some ⟨L.gm, 0, none⟩)) (by rw [cellsL_head _ _ _ _ _ (by decide)]; rfl)
  have c5 := blk_cell h.at_ (j := 5) (v := .int .i64 s.taken) (by rw [cellsL_head _ _ _ _ _ (by decide)]; rfl)
  have H := hid h
  clear h
  go_enter Try.func28, Try.ntmps28
  go_upto_region 0 with fail
  go_cut [] (fun wx => Fr (fun k => k = L.gm) w wx ∧ MAt wx L.gm (m.free s.taken))
  case first =>
    go_region_with (first | (go_at_call 56; refine (free_m L.gm m s.taken _ (by exact H.out.met) H.out.ok (by have := H.out.tk; omega)).mono ?_; rintro e w1 ⟨rfl, hf1, hm1⟩; have HF1 := hid hf1; have HM1 := hid hm1; clear hf1 hm1) | fail)
    all_goals
      go_wp2_with fail
      go_meet
      exact ⟨by first | exact HF1.out | exact ((Fr.refl _ _).drew).trans HF1.out, HM1.out⟩
  case rest =>
  obtain ⟨hf1, hm1⟩ := hcut
  have hg1 := hf1.blk H.out.at_ (fun e => H.out.md e.symm)
  have c6 := blk_cell hg1 (j := 6) (v := .pointer (some ⟨L.gw, 0, none⟩)) (by rw [cellsL_head _ _ _ _ _ (by decide)]; rfl)
  have hw1 := hf1.blk H.out.win (fun e => H.out.mw e.symm)
  clear c4 c5
  have HF1 := hid hf1
  have HM1 := hid hm1
  have HG1 := hid hg1
  have HW1 := hid hw1
  clear hf1 hm1 hg1 hw1
  go_wp2_with fail
  refine (wclose_raw L.gw L.gm n next count a (m.free s.taken) _ HW1.out HM1.out (MS.free_ok H.out.ok _) H.out.lim (fun e => H.out.mw e.symm)).mono ?_
  rintro e w2 ⟨rfl, hf2, hm2, hw2⟩
  have hg2 := hf2.blk HG1.out (fun e => e.elim (fun e => H.out.dw e) (fun e => H.out.md e.symm))
  have z5 := blk_frozen hg2 5
  have z56 := blk_frozen hg2 1856
  have z65 := blk_frozen hg2 1865
  have c5 := blk_cell hg2 (j := 5) (v := .int .i64 s.taken) (by rw [cellsL_head _ _ _ _ _ (by decide)]; rfl)
  have c56 := blk_cell hg2 (j := 1856) (v := lv) (by rw [show (1856 : Nat) = 1856 + 0 from rfl, cellsL_tail]; rfl)
  have c65 := blk_cell hg2 (j := 1865) (v := .bool s.bad) (by rw [show (1865 : Nat) = 1856 + 9 from rfl, cellsL_tail]; rfl)
  have HF2 := hid hf2
  have HM2 := hid hm2
  have HW2 := hid hw2
  have HG2 := hid hg2
  clear hf2 hm2 hw2 hg2 c6
  go_wp2_with fail
  go_end0
  refine ⟨rfl, ?_, ?_⟩
  · exact Fr.setCell (p := ⟨L.gd, 1865, none⟩) (Fr.setCell (p := ⟨L.gd, 1856, none⟩) (Fr.setCell (p := ⟨L.gd, 5, none⟩) ((HF1.out.mono (fun _ _ e => .inr (.inr e))).trans (HF2.out.mono (fun _ _ e => e.elim (fun e => .inr (.inl e)) (fun e => .inr (.inr e))))) (fun _ => .inl rfl) _) (fun _ => .inl rfl) _) (fun _ => .inl rfl) _
  · refine ⟨?_, blk_set_ne (blk_set_ne (blk_set_ne HW2.out (fun e => H.out.dw e.symm)) (fun e => H.out.dw e.symm)) (fun e => H.out.dw e.symm), blk_set_ne (blk_set_ne (blk_set_ne HM2.out H.out.md) H.out.md) H.out.md, MS.free_ok (MS.free_ok H.out.ok _) _, by decide, by show 0 ≤ _; decide, H.out.dw, H.out.md, H.out.mw⟩
    have e := blk_set (i := 1865) (v := .bool true) (blk_set (i := 1856) (v := .slice none 0 0) (blk_set (i := 5) (v := .int .i64 0) HG2.out))
    rw [cellsL_setH L lv sp rp sp rp s { s with taken := 0 } (i := 5) (v := .int .i64 0) (by decide) rfl rfl rfl] at e
    rw [show (1856 : Nat) = 1856 + 0 from rfl, cellsL_setT L lv (.slice none 0 0) sp rp { s with taken := 0 } { s with taken := 0 } (i := 0) (v := .slice none 0 0) rfl rfl rfl] at e
    rw [show (1865 : Nat) = 1856 + 9 from rfl, cellsL_setT L (.slice none 0 0) (.slice none 0 0) sp rp { s with taken := 0 } { s with taken := 0, bad := true } (i := 9) (v := .bool true) rfl rfl rfl] at e
    exact e
set_option maxRecDepth 100000 in
set_option maxHeartbeats 800000 in
theorem lcloseD_raw (L : LL) (lv sp rp : Value) (s : LS) (a : Option Addr) (n next count : Nat) (m : MS) (u : FrameMode) (w : World) (h : LRaw L lv sp rp s a n next count m w) :
    CallsD Try.prog 28 #[.pointer (some ⟨L.gd, 0, none⟩)] u w fun e u' w' => u' = u ∧ e = .returned (.tuple #[]) ∧ LClosed L sp rp s n m w w' := by
  have c4 := blk_cell h.at_ (j := 4) (v := .pointer (some ⟨L.gm, 0, none⟩)) (by rw [cellsL_head _ _ _ _ _ (by decide)]; rfl)
  have c5 := blk_cell h.at_ (j := 5) (v := .int .i64 s.taken) (by rw [cellsL_head _ _ _ _ _ (by decide)]; rfl)
  have H := hid h
  clear h
  go_enter_d Try.func28, Try.ntmps28
  go_upto_region 0 with fail
  go_cut [] (fun wx => Fr (fun k => k = L.gm) w wx ∧ MAt wx L.gm (m.free s.taken))
  case first =>
    go_region_with (first | (go_at_call 56; refine (free_m L.gm m s.taken _ (by exact H.out.met) H.out.ok (by have := H.out.tk; omega)).mono ?_; rintro e w1 ⟨rfl, hf1, hm1⟩; have HF1 := hid hf1; have HM1 := hid hm1; clear hf1 hm1) | fail)
    all_goals
      go_wp2_with fail
      go_meet
      exact ⟨by first | exact HF1.out | exact ((Fr.refl _ _).drew).trans HF1.out, HM1.out⟩
  case rest =>
  obtain ⟨hf1, hm1⟩ := hcut
  have hg1 := hf1.blk H.out.at_ (fun e => H.out.md e.symm)
  have c6 := blk_cell hg1 (j := 6) (v := .pointer (some ⟨L.gw, 0, none⟩)) (by rw [cellsL_head _ _ _ _ _ (by decide)]; rfl)
  have hw1 := hf1.blk H.out.win (fun e => H.out.mw e.symm)
  clear c4 c5
  have HF1 := hid hf1
  have HM1 := hid hm1
  have HG1 := hid hg1
  have HW1 := hid hw1
  clear hf1 hm1 hg1 hw1
  go_wp2_with fail
  refine (wclose_raw L.gw L.gm n next count a (m.free s.taken) _ HW1.out HM1.out (MS.free_ok H.out.ok _) H.out.lim (fun e => H.out.mw e.symm)).mono ?_
  rintro e w2 ⟨rfl, hf2, hm2, hw2⟩
  have hg2 := hf2.blk HG1.out (fun e => e.elim (fun e => H.out.dw e) (fun e => H.out.md e.symm))
  have z5 := blk_frozen hg2 5
  have z56 := blk_frozen hg2 1856
  have z65 := blk_frozen hg2 1865
  have c5 := blk_cell hg2 (j := 5) (v := .int .i64 s.taken) (by rw [cellsL_head _ _ _ _ _ (by decide)]; rfl)
  have c56 := blk_cell hg2 (j := 1856) (v := lv) (by rw [show (1856 : Nat) = 1856 + 0 from rfl, cellsL_tail]; rfl)
  have c65 := blk_cell hg2 (j := 1865) (v := .bool s.bad) (by rw [show (1865 : Nat) = 1856 + 9 from rfl, cellsL_tail]; rfl)
  have HF2 := hid hf2
  have HM2 := hid hm2
  have HW2 := hid hw2
  have HG2 := hid hg2
  clear hf2 hm2 hw2 hg2 c6
  go_wp2_with fail
  go_end0
  refine ⟨rfl, ?_, ?_⟩
  · exact Fr.setCell (p := ⟨L.gd, 1865, none⟩) (Fr.setCell (p := ⟨L.gd, 1856, none⟩) (Fr.setCell (p := ⟨L.gd, 5, none⟩) ((HF1.out.mono (fun _ _ e => .inr (.inr e))).trans (HF2.out.mono (fun _ _ e => e.elim (fun e => .inr (.inl e)) (fun e => .inr (.inr e))))) (fun _ => .inl rfl) _) (fun _ => .inl rfl) _) (fun _ => .inl rfl) _
  · refine ⟨?_, blk_set_ne (blk_set_ne (blk_set_ne HW2.out (fun e => H.out.dw e.symm)) (fun e => H.out.dw e.symm)) (fun e => H.out.dw e.symm), blk_set_ne (blk_set_ne (blk_set_ne HM2.out H.out.md) H.out.md) H.out.md, MS.free_ok (MS.free_ok H.out.ok _) _, by decide, by show 0 ≤ _; decide, H.out.dw, H.out.md, H.out.mw⟩
    have e := blk_set (i := 1865) (v := .bool true) (blk_set (i := 1856) (v := .slice none 0 0) (blk_set (i := 5) (v := .int .i64 0) HG2.out))
    rw [cellsL_setH L lv sp rp sp rp s { s with taken := 0 } (i := 5) (v := .int .i64 0) (by decide) rfl rfl rfl] at e
    rw [show (1856 : Nat) = 1856 + 0 from rfl, cellsL_setT L lv (.slice none 0 0) sp rp { s with taken := 0 } { s with taken := 0 } (i := 0) (v := .slice none 0 0) rfl rfl rfl] at e
    rw [show (1865 : Nat) = 1856 + 9 from rfl, cellsL_setT L (.slice none 0 0) (.slice none 0 0) sp rp { s with taken := 0 } { s with taken := 0, bad := true } (i := 9) (v := .bool true) rfl rfl rfl] at e
    exact e
/-- a decoder that is whole, as it lies. -/
theorem LIs.raw {L : LL} {sp rp : Value} {w : World} {s : LS} {m : MS} (h : LIs L sp rp w s) (hm : MAt w L.gm m) (hok : m.Ok) (ht : s.taken ≤ 1048576) : ∃ next, LRaw L L.lit sp rp s (some ⟨L.gn, 0, none⟩) L.n next (min s.H.length L.n) m w := by
  obtain ⟨⟨nx, ri, h1, h2⟩, h3, h4⟩ := h.win
  exact ⟨nx, h.at_, h1.st, hm, hok, h3, ht, h.ap.dw, h.ap.md, h.ap.mw⟩
end Go.Proofs.Ytjnegcambbeblaa

/- lzma.New. -/
namespace Go.Proofs.Ytjnegcambbeblaa
open Go.RowKit

def LS.zero (p : Lset) (taken : Nat) : LS := ⟨p.lc.toNat, p.lp.toNat, p.pb.toNat, p.dict.toNat, taken, fun _ => 0, 0, fun _ => 0, 0, 0, false, false, []⟩
def LS.new (p : Lset) (taken : Nat) : LS := (LS.zero p taken).reset p.lc.toNat p.lp.toNat p.pb.toNat
structure Lset.Light (p : Lset) : Prop where
  may : p.May
  li : p.lc + p.lp ≤ 6
def Lset.nl (p : Lset) : Nat := 768 * 2 ^ (p.lc + p.lp).toNat
theorem Lset.Light.nl_le {p : Lset} (h : p.Light) : p.nl ≤ 49152 := by
  have : 2 ^ (p.lc + p.lp).toNat ≤ 2 ^ 6 := Nat.pow_le_pow_right (by decide) (by have := h.li; omega)
  unfold Lset.nl
  omega
theorem Lset.Light.set {p : Lset} (h : p.Light) (L : LL) (hl : L.nl = p.nl) : SetOk L p.lc.toNat p.lp.toNat p.pb.toNat := by
  have m := h.may
  refine ⟨by have := m.lc1; omega, by have := m.lp1; omega, by have := m.pb1; omega, ?_⟩
  rw [hl]
  unfold Lset.nl
  rw [show (p.lc + p.lp).toNat = p.lc.toNat + p.lp.toNat by have := m.lc0; have := m.lp0; omega]
  exact Nat.le_refl _
/-- how much memory is asked for. -/
def Lset.need (p : Lset) : Nat := 2 * p.probs
def LNewPost (gm : Nat) (m : MS) (p : Lset) (size : Int) (w : World) (e : Ending) (w' : World) : Prop :=
  (∃ c m', (¬ ((m.mem p.need).1 = true ∧ ((m.mem p.need).2.mem (wsize (min p.dict size))).1 = true)) ∧ e = .returned (.tuple #[.pointer none, .int .i64 c]) ∧ Fr (fun k => k = gm) w w' ∧ MAt w' gm m' ∧
     (((m.mem p.need).1 = false ∧ m' = (m.mem p.need).2 ∧ c = m'.code) ∨ ((m.mem p.need).1 = true ∧ m' = ((m.mem p.need).2.mem (wsize (min p.dict size))).2.free p.need ∧ c = m'.code))) ∨
  ((m.mem p.need).1 = true ∧ ((m.mem p.need).2.mem (wsize (min p.dict size))).1 = true ∧ ∃ L : LL, e = .returned (.tuple #[.pointer (some ⟨L.gd, 0, none⟩), .int .i64 0]) ∧ Fr (fun k => k = gm) w w' ∧ MAt w' gm ((m.mem p.need).2.mem (wsize (min p.dict size))).2 ∧
     LIs L (.pointer none) (.pointer none) w' (LS.new p p.need) ∧ L.gm = gm ∧ L.n = wsize (min p.dict size) ∧ L.nl = p.nl ∧ ∀ k, L.foot k → w.heap.size ≤ k ∧ k < w'.heap.size)
set_option maxRecDepth 1000000 in
theorem lz_zero : (Try.prog.info? 115).map (fun i => (i.zero.map (fun z => z.cells.toList))) = some (some ([.int .i64 0, .int .i64 0, .int .i64 0, .int .i64 0, .pointer none, .int .i64 0, .pointer none, .pointer none, .pointer none] ++ List.replicate 1847 (.int .u16 0) ++ [.slice none 0 0, .int .i64 0, .int .u32 0, .int .u32 0, .int .u32 0, .int .u32 0, .int .i64 0, .int .i64 0, .bool false, .bool false])) := by kernel_rfl
theorem lz_places : (match Try.prog.underlying 115 with | some (.struct fs) => fs.toList.mapM (fun f => (Try.prog.info? f.type).map fun i => (f.offset, i.size)) | _ => none) = some [(0, 4), (4, 1), (5, 1), (6, 1), (7, 1), (8, 1), (9, 1847), (1856, 1), (1857, 1), (1858, 4), (1862, 1), (1863, 1), (1864, 1), (1865, 1)] := by kernel_rfl
def lzZ (n : Nat) (hd : Array Value) (lv : Value) : Array Value := (hd ++ arr .u16 n (fun _ => 0)) ++ #[lv, .int .i64 0, .int .u32 0, .int .u32 0, .int .u32 0, .int .u32 0, .int .i64 0, .int .i64 0, .bool false, .bool false]
theorem arr_rep (n : Nat) (c : Int) : arr .u16 n (fun _ => c) = (List.replicate n (Value.int .u16 c)).toArray := by
  unfold arr
  apply Array.ext_getElem?
  intro i
  by_cases hi : i < n
  · simp [hi]
  · rw [Array.getElem?_eq_none (by simp; omega), Array.getElem?_eq_none (by simp; omega)]
theorem lzZ_zero (n : Nat) : (([.int .i64 0, .int .i64 0, .int .i64 0, .int .i64 0, .pointer none, .int .i64 0, .pointer none, .pointer none, .pointer none] ++ List.replicate n (.int .u16 0) ++ [.slice none 0 0, .int .i64 0, .int .u32 0, .int .u32 0, .int .u32 0, .int .u32 0, .int .i64 0, .int .i64 0, .bool false, .bool false] : List Value)).toArray = lzZ n #[.int .i64 0, .int .i64 0, .int .i64 0, .int .i64 0, .pointer none, .int .i64 0, .pointer none, .pointer none, .pointer none] (.slice none 0 0) := by
  unfold lzZ
  rw [arr_rep]
  simp
theorem lzZ_size (n : Nat) (hd : Array Value) (lv : Value) (h : hd.size = 9) : (lzZ n hd lv).size = n + 19 := by simp [lzZ, arr_size, h]; omega
theorem lzZ_setH (n : Nat) (hd : Array Value) (lv : Value) (h : hd.size = 9) (i : Nat) (v : Value) (hi : i < 9) : (lzZ n hd lv).setIfInBounds i v = lzZ n (hd.setIfInBounds i v) lv := by
  unfold lzZ
  rw [Array.setIfInBounds_append_left (by simp [arr_size]; omega), Array.setIfInBounds_append_left (by omega)]
theorem lzZ_setL (n : Nat) (hd : Array Value) (lv lv' : Value) (h : hd.size = 9) : (lzZ n hd lv).setIfInBounds (9 + n) lv' = lzZ n hd lv' := by
  unfold lzZ
  rw [Array.setIfInBounds_append_right (by simp [arr_size, h])]
  have e : 9 + n - (hd ++ arr .u16 n (fun _ => 0)).size = 0 := by simp [arr_size, h]
  rw [e]
  rfl
theorem fill_step (pl : Nat → Option (Nat × Nat)) (cells : Array Value) (i off size : Nat) (v : Value) (rest : List (Nat × Value)) (hp : pl i = some (off, size)) (hs : v.cells.size = size) (hf : off + size ≤ cells.size) :
    Instr.fill pl cells ((i, v) :: rest) = Instr.fill pl (v.cells.zipIdx.foldl (fun cs (x : Value × Nat) => cs.setIfInBounds (off + x.2) x.1) cells) rest := by
  rw [Instr.fill, hp]
  dsimp only
  rw [if_neg (by rw [hs]; simp; omega)]
theorem fold4 {β : Type} (f : β → Value × Nat → β) (z : β) (x0 x1 x2 x3 : Value) : (#[x0, x1, x2, x3].zipIdx).foldl f z = f (f (f (f z (x0, 0)) (x1, 1)) (x2, 2)) (x3, 3) := by simp
theorem fold1 {β : Type} (f : β → Value × Nat → β) (z : β) (x0 : Value) : (#[x0].zipIdx).foldl f z = f z (x0, 0) := by simp
theorem lz_fill (n : Nat) (a b c d : Int) (gm gw gl nl taken : Nat) (pl : Nat → Option (Nat × Nat)) (p0 : pl 0 = some (0, 4)) (p1 : pl 1 = some (4, 1)) (p2 : pl 2 = some (5, 1)) (p3 : pl 3 = some (6, 1)) (p7 : pl 7 = some (9 + n, 1)) :
    Instr.fill pl (lzZ n #[.int .i64 0, .int .i64 0, .int .i64 0, .int .i64 0, .pointer none, .int .i64 0, .pointer none, .pointer none, .pointer none] (.slice none 0 0)) [(0, .agg #[.int .i64 a, .int .i64 b, .int .i64 c, .int .i64 d]), (1, .pointer (some ⟨gm, 0, none⟩)), (2, .int .i64 taken), (3, .pointer (some ⟨gw, 0, none⟩)), (7, .slice (some ⟨gl, 0, none⟩) nl nl)] = some (lzZ n #[.int .i64 a, .int .i64 b, .int .i64 c, .int .i64 d, .pointer (some ⟨gm, 0, none⟩), .int .i64 taken, .pointer (some ⟨gw, 0, none⟩), .pointer none, .pointer none] (.slice (some ⟨gl, 0, none⟩) nl nl)) := by
  rw [fill_step pl _ 0 0 4 _ _ p0 rfl (by rw [lzZ_size _ _ _ rfl]; omega)]
  have f0 : (Value.agg #[.int .i64 a, .int .i64 b, .int .i64 c, .int .i64 d]).cells.zipIdx.foldl (fun cs (x : Value × Nat) => cs.setIfInBounds (0 + x.2) x.1) (lzZ n #[.int .i64 0, .int .i64 0, .int .i64 0, .int .i64 0, .pointer none, .int .i64 0, .pointer none, .pointer none, .pointer none] (.slice none 0 0)) = lzZ n #[.int .i64 a, .int .i64 b, .int .i64 c, .int .i64 d, .pointer none, .int .i64 0, .pointer none, .pointer none, .pointer none] (.slice none 0 0) := by
    refine (fold4 _ _ _ _ _ _).trans ?_
    show ((((lzZ n #[.int .i64 0, .int .i64 0, .int .i64 0, .int .i64 0, .pointer none, .int .i64 0, .pointer none, .pointer none, .pointer none] (.slice none 0 0)).setIfInBounds 0 (.int .i64 a)).setIfInBounds 1 (.int .i64 b)).setIfInBounds 2 (.int .i64 c)).setIfInBounds 3 (.int .i64 d) = _
    rw [lzZ_setH _ _ _ rfl 0 _ (by decide), lzZ_setH _ _ _ rfl 1 _ (by decide), lzZ_setH _ _ _ rfl 2 _ (by decide), lzZ_setH _ _ _ rfl 3 _ (by decide)]
    rfl
  rw [f0, fill_step pl _ 1 4 1 _ _ p1 rfl (by rw [lzZ_size _ _ _ rfl]; omega)]
  have f1 : (Value.pointer (some ⟨gm, 0, none⟩)).cells.zipIdx.foldl (fun cs (x : Value × Nat) => cs.setIfInBounds (4 + x.2) x.1) (lzZ n #[.int .i64 a, .int .i64 b, .int .i64 c, .int .i64 d, .pointer none, .int .i64 0, .pointer none, .pointer none, .pointer none] (.slice none 0 0)) = lzZ n #[.int .i64 a, .int .i64 b, .int .i64 c, .int .i64 d, .pointer (some ⟨gm, 0, none⟩), .int .i64 0, .pointer none, .pointer none, .pointer none] (.slice none 0 0) := by
    refine (fold1 _ _ _).trans ?_
    show (lzZ n #[.int .i64 a, .int .i64 b, .int .i64 c, .int .i64 d, .pointer none, .int .i64 0, .pointer none, .pointer none, .pointer none] (.slice none 0 0)).setIfInBounds 4 (.pointer (some ⟨gm, 0, none⟩)) = _
    rw [lzZ_setH _ _ _ rfl 4 _ (by decide)]
    rfl
  rw [f1, fill_step pl _ 2 5 1 _ _ p2 rfl (by rw [lzZ_size _ _ _ rfl]; omega)]
  have f2 : (Value.int .i64 taken).cells.zipIdx.foldl (fun cs (x : Value × Nat) => cs.setIfInBounds (5 + x.2) x.1) (lzZ n #[.int .i64 a, .int .i64 b, .int .i64 c, .int .i64 d, .pointer (some ⟨gm, 0, none⟩), .int .i64 0, .pointer none, .pointer none, .pointer none] (.slice none 0 0)) = lzZ n #[.int .i64 a, .int .i64 b, .int .i64 c, .int .i64 d, .pointer (some ⟨gm, 0, none⟩), .int .i64 taken, .pointer none, .pointer none, .pointer none] (.slice none 0 0) := by
    refine (fold1 _ _ _).trans ?_
    show (lzZ n #[.int .i64 a, .int .i64 b, .int .i64 c, .int .i64 d, .pointer (some ⟨gm, 0, none⟩), .int .i64 0, .pointer none, .pointer none, .pointer none] (.slice none 0 0)).setIfInBounds 5 (.int .i64 taken) = _
    rw [lzZ_setH _ _ _ rfl 5 _ (by decide)]
    rfl
  rw [f2, fill_step pl _ 3 6 1 _ _ p3 rfl (by rw [lzZ_size _ _ _ rfl]; omega)]
  have f3 : (Value.pointer (some ⟨gw, 0, none⟩)).cells.zipIdx.foldl (fun cs (x : Value × Nat) => cs.setIfInBounds (6 + x.2) x.1) (lzZ n #[.int .i64 a, .int .i64 b, .int .i64 c, .int .i64 d, .pointer (some ⟨gm, 0, none⟩), .int .i64 taken, .pointer none, .pointer none, .pointer none] (.slice none 0 0)) = lzZ n #[.int .i64 a, .int .i64 b, .int .i64 c, .int .i64 d, .pointer (some ⟨gm, 0, none⟩), .int .i64 taken, .pointer (some ⟨gw, 0, none⟩), .pointer none, .pointer none] (.slice none 0 0) := by
    refine (fold1 _ _ _).trans ?_
    show (lzZ n #[.int .i64 a, .int .i64 b, .int .i64 c, .int .i64 d, .pointer (some ⟨gm, 0, none⟩), .int .i64 taken, .pointer none, .pointer none, .pointer none] (.slice none 0 0)).setIfInBounds 6 (.pointer (some ⟨gw, 0, none⟩)) = _
    rw [lzZ_setH _ _ _ rfl 6 _ (by decide)]
    rfl
  rw [f3, fill_step pl _ 7 (9 + n) 1 _ _ p7 rfl (by rw [lzZ_size _ _ _ rfl]; omega)]
  have f7 : (Value.slice (some ⟨gl, 0, none⟩) nl nl).cells.zipIdx.foldl (fun cs (x : Value × Nat) => cs.setIfInBounds (9 + n + x.2) x.1) (lzZ n #[.int .i64 a, .int .i64 b, .int .i64 c, .int .i64 d, .pointer (some ⟨gm, 0, none⟩), .int .i64 taken, .pointer (some ⟨gw, 0, none⟩), .pointer none, .pointer none] (.slice none 0 0)) = lzZ n #[.int .i64 a, .int .i64 b, .int .i64 c, .int .i64 d, .pointer (some ⟨gm, 0, none⟩), .int .i64 taken, .pointer (some ⟨gw, 0, none⟩), .pointer none, .pointer none] (.slice (some ⟨gl, 0, none⟩) nl nl) := by
    refine (fold1 _ _ _).trans ?_
    show (lzZ n #[.int .i64 a, .int .i64 b, .int .i64 c, .int .i64 d, .pointer (some ⟨gm, 0, none⟩), .int .i64 taken, .pointer (some ⟨gw, 0, none⟩), .pointer none, .pointer none] (.slice none 0 0)).setIfInBounds (9 + n) (.slice (some ⟨gl, 0, none⟩) nl nl) = _
    rw [lzZ_setL _ _ _ _ rfl]
  rw [f7]
  rfl
set_option maxRecDepth 1000000 in
theorem lz_built (a b c d : Int) (gm gw gl nl taken : Nat) (r : Operand → Value) (t1 t2 t3 t4 t5 : Nat) (h1 : r (.tmp t1) = .agg #[.int .i64 a, .int .i64 b, .int .i64 c, .int .i64 d]) (h2 : r (.tmp t2) = .pointer (some ⟨gm, 0, none⟩)) (h3 : r (.tmp t3) = .int .i64 taken) (h4 : r (.tmp t4) = .pointer (some ⟨gw, 0, none⟩)) (h5 : r (.tmp t5) = (.slice (some ⟨gl, 0, none⟩) nl nl)) :
    Try.prog.built 115 ((#[(0, Operand.tmp t1), (1, Operand.tmp t2), (2, Operand.tmp t3), (3, Operand.tmp t4), (7, Operand.tmp t5)].map fun (i, x) => (i, r x)).toList) = some (lzZ 1847 #[.int .i64 a, .int .i64 b, .int .i64 c, .int .i64 d, .pointer (some ⟨gm, 0, none⟩), .int .i64 taken, .pointer (some ⟨gw, 0, none⟩), .pointer none, .pointer none] (.slice (some ⟨gl, 0, none⟩) nl nl)) := by
  have : Try.prog.built 115 [(0, .agg #[.int .i64 a, .int .i64 b, .int .i64 c, .int .i64 d]), (1, .pointer (some ⟨gm, 0, none⟩)), (2, .int .i64 taken), (3, .pointer (some ⟨gw, 0, none⟩)), (7, .slice (some ⟨gl, 0, none⟩) nl nl)] = some (lzZ 1847 #[.int .i64 a, .int .i64 b, .int .i64 c, .int .i64 d, .pointer (some ⟨gm, 0, none⟩), .int .i64 taken, .pointer (some ⟨gw, 0, none⟩), .pointer none, .pointer none] (.slice (some ⟨gl, 0, none⟩) nl nl)) := by
    have hz := lz_zero
    have hp := lz_places
    unfold Program.built
    cases hi : Try.prog.info? 115 with
    | none => rw [hi] at hz; cases hz
    | some it =>
      rw [hi] at hz
      cases hzz : it.zero with
      | none => rw [Option.map_some, hzz] at hz; injection hz with hz; cases hz
      | some z =>
        rw [Option.map_some, hzz] at hz
        injection hz with hz
        injection hz with hz
        have hze : z.cells = (z.cells.toList).toArray := by simp
        have hzc : z.cells = lzZ 1847 #[.int .i64 0, .int .i64 0, .int .i64 0, .int .i64 0, .pointer none, .int .i64 0, .pointer none, .pointer none, .pointer none] (.slice none 0 0) := hze.trans ((congrArg List.toArray hz).trans (lzZ_zero 1847))
        cases hu : Try.prog.underlying 115 with
        | none => rw [hu] at hp; cases hp
        | some ud =>
          rw [hu] at hp
          cases ud with
          | struct fs =>
            dsimp only at hp ⊢
            rw [hzz, hp]
            dsimp only
            rw [hzc]
            exact lz_fill 1847 a b c d gm gw gl nl taken _ rfl rfl rfl rfl rfl
          | _ => cases hp
  simpa [h1, h2, h3, h4, h5] using this
theorem lz_box (w : World) (cs : Array Value) : (Instr.box 115 (.agg cs)).run Try.prog w = .ok (.pointer (some ⟨w.heap.size, 0, none⟩)) (w.alloc (.cells cs 115)) := by
  kernel_rfl
theorem mem_code {m : MS} {n : Nat} (h : (m.mem n).1 = false) : (m.mem n).2.code ≠ 0 := by
  revert h
  unfold MS.mem
  split
  · intro _; assumption
  · split
    · intro _; show 101 ≠ 0; decide
    · intro h; cases h
/-- an operation of a drawn region whose run is known. -/
theorem step_run {P : Program} {ops : Array Oper} {o : Oper} {a : Act} {w : World} {K : Act → World → Prop} {Q : Exit → Act → World → Prop} {E : Prop} (d : Option Tmp) (hgd : o.guard = none) (hd : o.dst = d)
    (v : Value) (w' : World) (hr : (execOp a.eval o).run P w = .ok (.value v) w') (h : K (a.put d v) w') : if Region.wanted o (yielded ops a.tmps) = true then Oper.wp P o a w K Q else E := by
  have hw : Region.wanted o (yielded ops a.tmps) = true := by simp [Region.wanted, hgd]
  rw [if_pos hw]
  show o.upon P a K Q ((execOp a.eval o).run P w)
  rw [hr, Oper.upon_value, hd]
  exact h
theorem shl_nl {p : Lset} (h1 : 0 ≤ p.lc) (h2 : 0 ≤ p.lp) (h3 : p.lc + p.lp ≤ 6) : IntKind.i64.wrap (768 * 2 ^ min (IntKind.u64.wrap (IntKind.i64.wrap (p.lc + p.lp))).toNat 64) = ((p.nl : Nat) : Int) := by
  have e1 : IntKind.i64.wrap (p.lc + p.lp) = p.lc + p.lp := by rw [IntKind.wrap_i64]; omega
  have e2 : IntKind.u64.wrap (p.lc + p.lp) = p.lc + p.lp := by rw [IntKind.wrap_u64]; omega
  rw [e1, e2, show min (p.lc + p.lp).toNat 64 = (p.lc + p.lp).toNat by omega]
  have hp : 2 ^ (p.lc + p.lp).toNat ≤ 64 := by
    have : 2 ^ (p.lc + p.lp).toNat ≤ 2 ^ 6 := Nat.pow_le_pow_right (by decide) (by omega)
    exact this
  have e3 : (768 : Int) * 2 ^ (p.lc + p.lp).toNat = ((768 * 2 ^ (p.lc + p.lp).toNat : Nat) : Int) := by simp
  rw [e3, IntKind.wrap_i64]
  unfold Lset.nl
  omega
set_option maxRecDepth 1000000 in
theorem zero115_list : (Try.zeroCells115 : Array Value).toList = [.int .i64 0, .int .i64 0, .int .i64 0, .int .i64 0, .pointer none, .int .i64 0, .pointer none, .pointer none, .pointer none] ++ List.replicate 1847 (.int .u16 0) ++ [.slice none 0 0, .int .i64 0, .int .u32 0, .int .u32 0, .int .u32 0, .int .u32 0, .int .i64 0, .int .i64 0, .bool false, .bool false] := by kernel_rfl
theorem zero115_eq : (Try.zeroCells115 : Array Value) = lzZ 1847 #[.int .i64 0, .int .i64 0, .int .i64 0, .int .i64 0, .pointer none, .int .i64 0, .pointer none, .pointer none, .pointer none] (.slice none 0 0) := by
  have e : (Try.zeroCells115 : Array Value) = (Try.zeroCells115 : Array Value).toList.toArray := by simp
  exact e.trans ((congrArg List.toArray zero115_list).trans (lzZ_zero 1847))
theorem zero115 (a b c d : Int) (gm gw gl nl taken : Nat) : ((((((((Try.zeroCells115.setIfInBounds 0 (.int .i64 a)).setIfInBounds 1 (.int .i64 b)).setIfInBounds 2 (.int .i64 c)).setIfInBounds 3 (.int .i64 d)).setIfInBounds 4 (.pointer (some ⟨gm, 0, none⟩))).setIfInBounds 5 (.int .i64 ((taken : Nat) : Int))).setIfInBounds 6 (.pointer (some ⟨gw, 0, none⟩))).setIfInBounds 1856 (.slice (some ⟨gl, 0, none⟩) nl nl)) =
    lzZ 1847 #[.int .i64 a, .int .i64 b, .int .i64 c, .int .i64 d, .pointer (some ⟨gm, 0, none⟩), .int .i64 ((taken : Nat) : Int), .pointer (some ⟨gw, 0, none⟩), .pointer none, .pointer none] (.slice (some ⟨gl, 0, none⟩) nl nl) := by
  rw [zero115_eq, lzZ_setH _ _ _ rfl 0 _ (by decide), lzZ_setH _ _ _ rfl 1 _ (by decide), lzZ_setH _ _ _ rfl 2 _ (by decide), lzZ_setH _ _ _ rfl 3 _ (by decide), lzZ_setH _ _ _ rfl 4 _ (by decide), lzZ_setH _ _ _ rfl 5 _ (by decide), lzZ_setH _ _ _ rfl 6 _ (by decide)]
  exact lzZ_setL 1847 _ _ _ rfl
theorem zero_cells (p : Lset) (taken : Nat) (L : LL) (lv : Value) (h1 : 0 ≤ p.lc) (h2 : 0 ≤ p.lp) (h3 : 0 ≤ p.pb) (h4 : 0 ≤ p.dict) :
    (LS.zero p taken).cells L lv (.pointer none) (.pointer none) = lzZ 1847 #[.int .i64 p.lc, .int .i64 p.lp, .int .i64 p.pb, .int .i64 p.dict, .pointer (some ⟨L.gm, 0, none⟩), .int .i64 ((taken : Nat) : Int), .pointer (some ⟨L.gw, 0, none⟩), .pointer none, .pointer none] lv := by
  show (#[.int .i64 ((p.lc.toNat : Nat) : Int), .int .i64 ((p.lp.toNat : Nat) : Int), .int .i64 ((p.pb.toNat : Nat) : Int), .int .i64 ((p.dict.toNat : Nat) : Int), .pointer (some ⟨L.gm, 0, none⟩), .int .i64 ((taken : Nat) : Int), .pointer (some ⟨L.gw, 0, none⟩), .pointer none, .pointer none] ++ arr .u16 1847 (fun _ => 0)) ++ _ = _
  rw [Int.toNat_of_nonneg h1, Int.toNat_of_nonneg h2, Int.toNat_of_nonneg h3, Int.toNat_of_nonneg h4]
  rfl
theorem lmake_u16 (n : Nat) (hn : n ≤ 1048576) (w : World) : (Instr.makeSlice 82 (.int .i64 n) (.int .i64 n)).run Try.prog w = .ok (.slice (some ⟨w.heap.size, 0, none⟩) n n) (w.alloc (.cells (arr .u16 n (fun _ => 0)) 40)) := make_u16 n hn w
set_option maxRecDepth 100000 in
set_option maxHeartbeats 4000000 in
theorem lnew_any (gm : Nat) (m : MS) (p : Lset) (size : Int) (w : World) (h : MAt w gm m) (hok : m.Ok) (hp : p.Light) (hs : size ≤ 1048576) (hs0 : -9223372036854775808 ≤ size) :
    Calls Try.prog 20 #[p.val, .int .i64 size, .pointer (some ⟨gm, 0, none⟩)] w (LNewPost gm m p size w) := by
  have hm : p.may = true := Lset.may_iff.2 hp.may
  have hnl := hp.nl_le
  have hprob : p.probs = 1847 + p.nl := by unfold Lset.probs Lset.nl; rw [if_pos hm]
  have hpb : (p.probs : Int) ≤ 60000 := by omega
  have hpb0 : (0 : Int) ≤ (p.probs : Int) := by omega
  have hneed : (2 : Int) * (p.probs : Int) = ((p.need : Nat) : Int) := by unfold Lset.need; simp
  have HM := hid hm
  have HP := hid hp
  have HNEED := hid hneed
  have H := hid h
  have HO := hid hok
  have HPR := hid hprob
  have HNL := hid hnl
  obtain ⟨hm1, hm2, hm3, hm4, hm5, hm6, hm7, hm8⟩ := hp.may
  have hli := hp.li
  clear hm hp hneed h hok hprob hnl hm6
  have HV := hid (show p.val = .agg #[.int .i64 p.lc, .int .i64 p.lp, .int .i64 p.pb, .int .i64 p.dict] from rfl)
  rw [HV.out]
  go_enter Try.func20, Try.ntmps20
  go_wp2_with fail
  refine (lmay_any p _).mono ?_
  rintro e w1 ⟨rfl, hf1⟩
  rw [HM.out]
  have hb1 := hf1.blk (blk_new w (.cells #[.int .i64 p.lc, .int .i64 p.lp, .int .i64 p.pb, .int .i64 p.dict] 23)) id
  have c0 := blk_cell hb1 (j := 0) (v := .int .i64 p.lc) rfl
  have c1 := blk_cell hb1 (j := 1) (v := .int .i64 p.lp) rfl
  have c2 := blk_cell hb1 (j := 2) (v := .int .i64 p.pb) rfl
  have c3 := blk_cell hb1 (j := 3) (v := .int .i64 p.dict) rfl
  have F1 := hid (((Fr.refl Non w).alloc (.cells #[.int .i64 p.lc, .int .i64 p.lp, .int .i64 p.pb, .int .i64 p.dict] 23)).trans hf1)
  have HB1 := hid hb1
  clear hf1 hb1
  go_wp2_with fail
  refine (lprobs_any p _).mono ?_
  rintro e w2 ⟨rfl, hf2⟩
  have HB2 := hid (hf2.blk HB1.out id)
  have F2 := hid (F1.out.trans hf2)
  clear c0 c1 c2 c3 hf2
  go_upto_region 4 with fail
  rw [HNEED.out]
  go_wp2_with fail
  refine (mem_m gm m p.need _ (by exact F2.out.blk H.out id) HO.out (by have := HNEED.out; omega)).mono ?_
  rintro e w3 ⟨rfl, hf3, hm3'⟩
  have hlt : gm < w.heap.size := blk_lt H.out
  have HLT := hid hlt
  have F3 := hid (show Fr (fun k => k = gm) w w3 from (F2.out.any).trans hf3)
  have HB3 := hid (hf3.blk HB2.out (fun e => by have : w.heap.size = gm := e; omega))
  have M3 := hid hm3'
  clear hf3 hm3' hlt
  cases hc : (m.mem p.need).1 with
  | false =>
    have HC := hid hc
    clear hc
    go_wp2_with fail
    refine (mcode_m gm _ _ M3.out).mono ?_
    rintro e w4 ⟨rfl, rfl⟩
    go_wp2_with fail
    go_ret2
    exact .inl ⟨_, _, (fun e => by rw [HC.out] at e; cases e.1), rfl, F3.out, M3.out, .inl ⟨HC.out, rfl, rfl⟩⟩
  | true =>
    have HC := hid hc
    clear hc
    have c3 := blk_cell HB3.out (j := 3) (v := .int .i64 p.dict) rfl
    have hm1ok : (m.mem p.need).2.Ok := MS.mem_ok HO.out _
    have HM1 := hid hm1ok
    have KEY := hid (show ∀ v : Int, v = min p.dict size → Calls Try.prog 55 #[.int .i64 v, .pointer (some ⟨gm, 0, none⟩)] w3 (WNewPost gm (m.mem p.need).2 (min p.dict size) w3) from fun v hv => by
      subst hv
      exact wnew_any gm _ _ w3 M3.out HM1.out (by omega))
    clear hm1ok
    go_wp2_with fail
    all_goals
      refine (KEY.out _ (by omega)).mono ?_
      rintro e w4 ⟨hf4, hm4', hcase⟩
      have M4 := hid hm4'
      have F4 := hid (F3.out.trans hf4)
      have HB4 := hid (hf4.blk HB3.out (fun e => by have : w.heap.size = gm := e; have := HLT.out; omega))
      have s3 := F3.out.size
      clear hf4 hm4' c3
      rcases hcase with ⟨hc4, rfl⟩ | ⟨hc4, gw, gn, rfl, hgw, hgn, hwin⟩
      · have HC4 := hid hc4
        have q1 : (((((m.mem p.need).2.mem (wsize (min p.dict size))).2.code : Nat) : Int) != 0) = true := by
          have e := mem_code HC4.out
          simp; omega
        have M5ok := hid (MS.mem_ok HM1.out (wsize (min p.dict size)))
        clear hc4
        go_wp2_with fail
        refine (free_m gm _ p.need _ (by exact M4.out) M5ok.out (by have := HNEED.out; omega)).mono ?_
        rintro e w5 ⟨rfl, hf5, hm5'⟩
        have F5 := hid (F4.out.trans hf5)
        have M5 := hid hm5'
        clear hf5 hm5'
        go_wp2_with fail
        go_ret2
        exact .inl ⟨_, _, (fun e => by rw [HC4.out] at e; cases e.2), rfl, F5.out, M5.out, .inr ⟨HC.out, rfl, rfl⟩⟩
      · have HC4 := hid hc4
        have hlt4 : gw < w4.heap.size ∧ gn < w4.heap.size := ⟨hwin.lt.1, hwin.lt.2.1⟩
        have hne4 : gw ≠ gn := hwin.lt.2.2
        have HWIN := hid hwin
        have c0 := blk_cell HB4.out (j := 0) (v := .int .i64 p.lc) rfl
        have c1 := blk_cell HB4.out (j := 1) (v := .int .i64 p.lp) rfl
        have c2 := blk_cell HB4.out (j := 2) (v := .int .i64 p.pb) rfl
        have c3 := blk_cell HB4.out (j := 3) (v := .int .i64 p.dict) rfl
        clear hc4 hwin
        go_upto_region 10 with fail
        have hsh : IntKind.i64.wrap (768 * 2 ^ min (IntKind.u64.wrap (IntKind.i64.wrap (p.lc + p.lp))).toNat 64) = ((p.nl : Nat) : Int) := shl_nl hm1 hm3 hli
        have hmk : ∀ w : World, (Instr.makeSlice 82 (.int .i64 ((p.nl : Nat) : Int)) (.int .i64 ((p.nl : Nat) : Int))).run Try.prog w = .ok (.slice (some ⟨w.heap.size, 0, none⟩) p.nl p.nl) (w.alloc (.cells (arr .u16 p.nl (fun _ => 0)) 40)) := fun w => lmake_u16 p.nl (by have := HNL.out; omega) w
        go_region_held3 (fun wx => wx.cell? ⟨w.heap.size, 0, none⟩ = some (.int .i64 p.lc) ∧ wx.cell? ⟨w.heap.size, 1, none⟩ = some (.int .i64 p.lp) ∧ wx.cell? ⟨w.heap.size, 2, none⟩ = some (.int .i64 p.pb) ∧ wx.cell? ⟨w.heap.size, 3, none⟩ = some (.int .i64 p.dict)) (exact ⟨Fr.cell (S := Non) (by repeat (first | exact Fr.refl _ _ | refine Fr.drewN ?_ _ | refine Fr.drew ?_ | refine Fr.alloc ?_ _)) c0 (fun e => e), Fr.cell (S := Non) (by repeat (first | exact Fr.refl _ _ | refine Fr.drewN ?_ _ | refine Fr.drew ?_ | refine Fr.alloc ?_ _)) c1 (fun e => e), Fr.cell (S := Non) (by repeat (first | exact Fr.refl _ _ | refine Fr.drewN ?_ _ | refine Fr.drew ?_ | refine Fr.alloc ?_ _)) c2 (fun e => e), Fr.cell (S := Non) (by repeat (first | exact Fr.refl _ _ | refine Fr.drewN ?_ _ | refine Fr.drew ?_ | refine Fr.alloc ?_ _)) c3 (fun e => e)⟩) (fail)
        all_goals
          clear hsh hmk c0 c1 c2 c3
          rw [zero115 p.lc p.lp p.pb p.dict gm gw w4.heap.size p.nl p.need]
          obtain ⟨w5, hw5⟩ : ∃ w5, w5 = ((w4.alloc (.cells (arr .u16 p.nl (fun _ => 0)) 40)).alloc (.cells (lzZ 1847 #[.int .i64 p.lc, .int .i64 p.lp, .int .i64 p.pb, .int .i64 p.dict, .pointer (some ⟨gm, 0, none⟩), .int .i64 ((p.need : Nat) : Int), .pointer (some ⟨gw, 0, none⟩), .pointer none, .pointer none] (.slice (some ⟨w4.heap.size, 0, none⟩) p.nl p.nl)) 115)).drew := ⟨_, rfl⟩
          rw [← hw5]
          have hf5 : Fr Non w4 w5 := by rw [hw5]; exact (((Fr.refl _ _).alloc _).alloc _).drew
          obtain ⟨L, hL⟩ : ∃ L : LL, L = ⟨w4.heap.size + 1, w4.heap.size, gw, gn, gm, wsize (min p.dict size), p.nl⟩ := ⟨_, rfl⟩
          have hmem : LMem L (.pointer none) (.pointer none) w5 (LS.zero p p.need) := by
            have hg : gm < w4.heap.size := blk_lt M4.out
            have hg2 := HLT.out
            refine ⟨?_, ?_, ?_, ?_, ?_⟩
            · rw [zero_cells p p.need L _ hm1 hm3 (by omega) (by omega), hL, hw5]
              have hb := blk_new (w4.alloc (.cells (arr .u16 p.nl (fun _ => 0)) 40)) (.cells (lzZ 1847 #[.int .i64 p.lc, .int .i64 p.lp, .int .i64 p.pb, .int .i64 p.dict, .pointer (some ⟨gm, 0, none⟩), .int .i64 ((p.need : Nat) : Int), .pointer (some ⟨gw, 0, none⟩), .pointer none, .pointer none] (.slice (some ⟨w4.heap.size, 0, none⟩) p.nl p.nl)) 115)
              have hz : (w4.alloc (.cells (arr .u16 p.nl (fun _ => 0)) 40)).heap.size = w4.heap.size + 1 := by simp
              rw [hz] at hb
              exact blk_drew hb
            · rw [hL, hw5]
              exact blk_drew (blk_alloc (blk_new _ _))
            · rw [hL]
              exact HWIN.out.keep hf5 id id
            · rw [hL]
              exact ⟨by show w4.heap.size + 1 ≠ w4.heap.size; omega, by show w4.heap.size + 1 ≠ gw; omega, by show w4.heap.size + 1 ≠ gn; omega, by show w4.heap.size ≠ gw; omega, by show w4.heap.size ≠ gn; omega, hne4, by show gm ≠ w4.heap.size + 1; omega, by show gm ≠ w4.heap.size; omega, by show gm ≠ gw; omega, by show gm ≠ gn; omega⟩
            · rw [hL]; exact HNL.out
          have hset : SetOk L p.lc.toNat p.lp.toNat p.pb.toNat := Lset.Light.set HP.out L (by rw [hL])
          have hLd : L.gd = w4.heap.size + 1 := by rw [hL]
          have hLf : ∀ k, L.foot k → w.heap.size ≤ k ∧ k < w5.heap.size ∧ k ≠ gm := by
            have h2 := HLT.out
            have h5 : w5.heap.size = w4.heap.size + 1 + 1 := by rw [hw5]; simp
            rintro k (e | e | e | e)
            · have : k = w4.heap.size + 1 := by rw [e, hL]
              omega
            · have : k = w4.heap.size := by rw [e, hL]
              omega
            · have : k = gw := by rw [e, hL]
              omega
            · have : k = gn := by rw [e, hL]
              omega
          have hLx : L.gm = gm ∧ L.n = wsize (min p.dict size) ∧ L.nl = p.nl := by rw [hL]; exact ⟨rfl, rfl, rfl⟩
          have HLX := hid hLx
          have HLF := hid hLf
          have HSET := hid hset
          have HMEM := hid hmem
          have F5 := hid (F4.out.trans hf5.any)
          have M5 := hid (hf5.blk M4.out id)
          have HB5 := hid (hf5.blk HB4.out id)
          rw [← hLd]
          clear hL hw5 hf5 hmem hset hLd hLf hLx
          go_wp2_with (refine wpList_load_row rfl 23 _ rfl w.heap.size rfl 23 #[.int .i64 p.lc, .int .i64 p.lp, .int .i64 p.pb, .int .i64 p.dict] (0, 0) _ (by exact HB5.out) Try.underlying23 rfl (by kernel_rfl) ?_)
          have hrs := lreset_raw L (.pointer none) (.pointer none) (LS.zero p p.need) p.lc.toNat p.lp.toNat p.pb.toNat p.dict w5 HMEM.out ⟨(fun x hx => by cases hx), by show p.dict.toNat ≤ _; omega, by show 0 ≤ 273; decide⟩ HSET.out
          rw [Int.toNat_of_nonneg hm1, Int.toNat_of_nonneg hm3, Int.toNat_of_nonneg hm5] at hrs
          refine hrs.mono ?_
          clear hrs
          rintro e w6 ⟨rfl, hf6, hl6⟩
          have hM6 : MAt w6 gm ((m.mem p.need).2.mem (wsize (min p.dict size))).2 := hf6.blk M5.out (fun e => (HLF.out _ e).2.2 rfl)
          have F6 := hid (F5.out.then hf6 (fun k hk e => by have := (HLF.out _ e).1; omega))
          have M6 := hid hM6
          have L6 := hid hl6
          have s6 := hf6.size
          clear hf6 hl6 hM6
          go_wp2_with fail
          go_ret2
          exact .inr ⟨HC.out, HC4.out, L, rfl, F6.out, M6.out, L6.out, HLX.out.1, HLX.out.2.1, HLX.out.2.2, fun k hk => ⟨(HLF.out k hk).1, by have := (HLF.out k hk).2.1; omega⟩⟩
end Go.Proofs.Ytjnegcambbeblaa

/- lzma: how a decoder runs, plain; small helps for Unpack. -/
namespace Go.Proofs.Ytjnegcambbeblaa
open Go.RowKit

theorem feedNew_q (w : World) (n : Nat) (f : Nat → Int) (hf : ∀ i, i < n → 0 ≤ f i ∧ f i < 256) (hn : n ≤ 1048576) (e : Ending) (w' : World) (h : NewFeedPost w n f e w') :
    ∃ g a' c', e = .returned (.pointer (some ⟨g, 0, none⟩)) ∧ Fr Non w w' ∧ (feed g a' n c' f hf).I w' 0 ∧ ∀ k, (feed g a' n c' f hf).foot k → w.heap.size ≤ k ∧ k < w'.heap.size := by
  obtain ⟨g, a', c', h1, h2, h3, h4, h5⟩ := h
  exact ⟨g, a', c', h1, h2, ⟨Nat.zero_le _, hn, h3, h4⟩, h5⟩
def lenV : Value → Nat
  | .slice _ n _ => n
  | _ => 0
theorem Own.lenV {w : World} {base : Nat} {k : IntKind} {e : TypeId} {v : Value} {xs : List Int} (h : Own w base k e v xs) : Go.Proofs.Ytjnegcambbeblaa.lenV v = xs.length := by
  obtain ⟨a, c, rfl, _⟩ := h.row
  rfl
theorem Own.low {w : World} {base b2 : Nat} {k : IntKind} {e : TypeId} {v : Value} {xs : List Int} (h : Own w base k e v xs) (hb : b2 ≤ base) : Own w b2 k e v xs := by
  obtain ⟨h1, h2⟩ := h
  refine ⟨h1, ?_⟩
  rcases h2 with h2 | ⟨g, cap, cur, hv, hg, r⟩
  · exact .inl h2
  · exact .inr ⟨g, cap, cur, hv, by omega, r⟩
theorem Try.info_u8q : (Try.prog.info? 5).map (fun i => (i.zero, i.size, i.bytes)) = some (some (.int .u8 0), 1, 1) := by kernel_rfl

/-! ### a decoder's run -/
def lrun {T : Type} (nx : T → Int × Bool × T) (L : LL) : Nat → LS → RD T → LS × RD T
  | 0, s, d => (s, d)
  | k + 1, s, d => (lnext nx L (lrun nx L k s d).1 (lrun nx L k s d).2).2
/-- the k-th byte, and whether it is there. -/
def lbyte {T : Type} (nx : T → Int × Bool × T) (L : LL) (s : LS) (d : RD T) (k : Nat) : Int := (lnext nx L (lrun nx L k s d).1 (lrun nx L k s d).2).1.1
def lok {T : Type} (nx : T → Int × Bool × T) (L : LL) (s : LS) (d : RD T) (k : Nat) : Bool := (lnext nx L (lrun nx L k s d).1 (lrun nx L k s d).2).1.2
def lbytes {T : Type} (nx : T → Int × Bool × T) (L : LL) (s : LS) (d : RD T) (k : Nat) : List Int := (List.range k).map (lbyte nx L s d)
theorem lbytes_snoc {T : Type} (nx : T → Int × Bool × T) (L : LL) (s : LS) (d : RD T) (k : Nat) : lbytes nx L s d (k + 1) = lbytes nx L s d k ++ [lbyte nx L s d k] := by
  unfold lbytes; rw [List.range_succ, List.map_append]; rfl
theorem lbytes_len {T : Type} (nx : T → Int × Bool × T) (L : LL) (s : LS) (d : RD T) (k : Nat) : (lbytes nx L s d k).length = k := by simp [lbytes]
theorem lrun_fit {T : Type} (nx : T → Int × Bool × T) (L : LL) (s : LS) (d : RD T) (h : s.Fit L) : ∀ k, (lrun nx L k s d).1.Fit L
  | 0 => h
  | k + 1 => lnext_fit nx L _ _ (lrun_fit nx L s d h k)
theorem lrun_place {T : Type} (nx : T → Int × Bool × T) (L : LL) (s : LS) (d : RD T) : ∀ k, (lrun nx L k s d).1.place ≤ s.place + k
  | 0 => Nat.le_refl _
  | k + 1 => by
    have h1 := lnext_place nx L (lrun nx L k s d).1 (lrun nx L k s d).2
    have h2 := lrun_place nx L s d k
    show (lnext nx L (lrun nx L k s d).1 (lrun nx L k s d).2).2.1.place ≤ _
    omega
theorem lnext_same {T : Type} (nx : T → Int × Bool × T) (L : LL) (s : LS) (d : RD T) : (lnext nx L s d).2.1.taken = s.taken ∧ (lnext nx L s d).2.1.dict = s.dict := by
  have e := lpacket_same nx L s d
  have h2 : ∀ (s : LS) (d : RD T), (lnext2 L s d).2.1.taken = s.taken ∧ (lnext2 L s d).2.1.dict = s.dict := by
    intro s d
    unfold lnext2
    split <;> exact ⟨rfl, rfl⟩
  unfold lnext
  split
  · exact ⟨rfl, rfl⟩
  · split
    · split
      · exact ⟨e.taken, e.dict⟩
      · exact ⟨(h2 _ _).1.trans e.taken, (h2 _ _).2.trans e.dict⟩
    · exact h2 _ _
theorem lrun_taken {T : Type} (nx : T → Int × Bool × T) (L : LL) (s : LS) (d : RD T) : ∀ k, (lrun nx L k s d).1.taken = s.taken
  | 0 => rfl
  | k + 1 => (lnext_same nx L _ _).1.trans (lrun_taken nx L s d k)
theorem lfinish_taken {S : Type} (nx : S → Int × Bool × S) (L : LL) (s : LS) (d : RD (AhS S)) : (lfinish nx L s d).2.1.taken = s.taken := by
  have e := lpacket_same (anx nx) L s (lover nx s d).2
  unfold lfinish
  split
  · rfl
  · split
    · rfl
    · split
      · exact e.taken
      · exact e.taken
/-- a decoder's ring alone counts. -/
def LL.of (n : Nat) : LL := ⟨0, 0, 0, 0, 0, n, 0⟩
theorem lnext_of {T : Type} (nx : T → Int × Bool × T) (L : LL) (s : LS) (d : RD T) : lnext nx L s d = lnext nx (LL.of L.n) s d := rfl
theorem lrun_of {T : Type} (nx : T → Int × Bool × T) (L : LL) (s : LS) (d : RD T) : ∀ k, lrun nx L k s d = lrun nx (LL.of L.n) k s d
  | 0 => rfl
  | k + 1 => by
    show (lnext nx L _ _).2 = (lnext nx (LL.of L.n) _ _).2
    rw [lrun_of nx L s d k, lnext_of]
theorem lbyte_of {T : Type} (nx : T → Int × Bool × T) (L : LL) (s : LS) (d : RD T) (k : Nat) : lbyte nx L s d k = lbyte nx (LL.of L.n) s d k := by
  unfold lbyte
  rw [lrun_of, lnext_of]
theorem lok_of {T : Type} (nx : T → Int × Bool × T) (L : LL) (s : LS) (d : RD T) (k : Nat) : lok nx L s d k = lok nx (LL.of L.n) s d k := by
  unfold lok
  rw [lrun_of, lnext_of]
theorem lfinish_of {S : Type} (nx : S → Int × Bool × S) (L : LL) (s : LS) (d : RD (AhS S)) : lfinish nx L s d = lfinish nx (LL.of L.n) s d := rfl
/-- a new decoder over a source. -/
def lstart (p : Lset) : LS := LS.new p p.need
/-- what a stream is unpacked to: its bytes, or nothing. -/
def lunpack {S : Type} (nx : S → Int × Bool × S) (s0 : S) (p : Lset) (N size : Nat) : Option (List Int) :=
  if (List.range size).all (lok (anx nx) (LL.of N) (lstart p) (RD.new (anx nx) ⟨s0, 0, false⟩)) = true ∧
     (lfinish nx (LL.of N) (lrun (anx nx) (LL.of N) size (lstart p) (RD.new (anx nx) ⟨s0, 0, false⟩)).1 (lrun (anx nx) (LL.of N) size (lstart p) (RD.new (anx nx) ⟨s0, 0, false⟩)).2).1 = true
  then some (lbytes (anx nx) (LL.of N) (lstart p) (RD.new (anx nx) ⟨s0, 0, false⟩) size) else none
theorem lstart_fit (p : Lset) (L : LL) : (lstart p).Fit L := fun h => absurd rfl h
theorem lstart_place (p : Lset) : (lstart p).place = 0 := rfl
theorem lstart_taken (p : Lset) : (lstart p).taken = p.need := rfl
set_option maxRecDepth 100000 in
theorem clip_any (a : Option Addr) (n c : Nat) (w : World) (hc : n ≤ c) (hz : a = none → c = 0) (hn : n ≤ 1048576) :
    Calls Try.prog 52 #[.slice a n c] w fun e w' => e = .returned (.slice a n n) ∧ w = w' := by
  cases a with
  | none =>
    have : c = 0 := hz rfl
    subst this
    have : n = 0 := by omega
    subst this
    go_enter Try.func52, Try.ntmps52
    go_wp2_with fail
    go_ret
    exact ⟨rfl, rfl⟩
  | some ad =>
    have h1 : (n : Int) ≤ (c : Int) := by omega
    have h0 : (0 : Int) ≤ (n : Int) := by omega
    clear hz
    go_enter Try.func52, Try.ntmps52
    go_wp2_with fail
    go_ret
    exact ⟨rfl, rfl⟩
end Go.Proofs.Ytjnegcambbeblaa
