/- Texts of this proof, one behind the other. -/
import Derived.Test.YtjnegcambbeblaaMg18
import Derived.Test.YtjnegcambbeblaaKzP2Q
import Derived.Test.YtjnegcambbeblaaMg05
import Derived.Lib.SmallJoins
import Derived.ProofKit
import Derived.OpenShut
import Derived.Test.YtjnegcambbeblaaMg14
import Derived.Test.YtjnegcambbeblaaMg17

/- The document's Unpack. -/
namespace Go.Proofs.Ytjnegcambbeblaa
open Go.RowKit

def pz : PkV := ⟨0, 0, 0, 0⟩
theorem pz_ok (a : Option Addr) (n cap : Nat) (f : Nat → Int) (lo gd k : Nat) : PkOk (cdrD a n cap f lo gd) pz k :=
  ⟨by decide, by decide, by decide, by decide, by decide, by decide, by decide, fun _ _ => ⟨.inl trivial, by decide, by decide⟩, fun _ _ => ⟨.inl trivial, by decide, by decide⟩⟩
set_option maxRecDepth 100000 in
set_option maxHeartbeats 3200000 in
theorem kunpack_any (p : Lset) (hp : p.Light) (x : Int) (size : Nat) (hx : x.toNat = size) (hx5 : x ≤ 5000) (a : Option Addr) (n cap : Nat) (f : Nat → Int) (hf : ∀ i, i < n → 0 ≤ f i ∧ f i < 256) (w : World) (hn : n ≤ 20000) (hr : RowIn w.heap.size .u8 w a n f) :
    Calls Try.prog 24 #[.slice a n cap, p.val, .int .i64 x] w (KUnPost (lunpack (feedNx f n) 0 p p.dict.toNat size) w) := by
  obtain ⟨R, hR⟩ : ∃ R, R = lunpack (feedNx f n) 0 p p.dict.toNat size := ⟨_, rfl⟩
  rw [← hR]
  have HV := hid (show p.val = .agg #[.int .i64 p.lc, .int .i64 p.lp, .int .i64 p.pb, .int .i64 p.dict] from rfl)
  have HPL := hid hp
  have HMAY := hid (Lset.may_iff.2 hp.may)
  have HX := hid hx
  have hs5 : size ≤ 5000 := by omega
  have HF := hid hf
  have HROW := hid hr
  have HR := hid hR
  have HN := hid hn
  clear hR hp hx hf hr hn
  rw [HV.out]
  go_enter Try.func24, Try.ntmps24
  go_upto_region 1 with fail
  go_wp2_with (refine wpList_load_row rfl 23 _ rfl w.heap.size rfl 23 #[.int .i64 p.lc, .int .i64 p.lp, .int .i64 p.pb, .int .i64 p.dict] (0, 0) _ (by exact blk_new w _) Try.underlying23 rfl (by kernel_rfl) ?_)
  rw [← HV.out]
  refine (rmay_any p _).mono ?_
  rintro e w1 ⟨rfl, hf1⟩
  rw [HMAY.out]
  have HB1 := hid (hf1.blk (blk_new w (.cells #[.int .i64 p.lc, .int .i64 p.lp, .int .i64 p.pb, .int .i64 p.dict] 23)) id)
  have F1 := hid (((Fr.refl Non w).alloc (.cells #[.int .i64 p.lc, .int .i64 p.lp, .int .i64 p.pb, .int .i64 p.dict] 23)).trans hf1)
  clear hf1
  go_wp2_with (refine wpList_load_row rfl 23 _ rfl w.heap.size rfl 23 #[.int .i64 p.lc, .int .i64 p.lp, .int .i64 p.pb, .int .i64 p.dict] (0, 0) _ (by exact HB1.out) Try.underlying23 rfl (by kernel_rfl) ?_)
  rw [← HV.out]
  refine (knew_any p HPL.out _).mono ?_
  rintro e w2 ⟨g, gp, cpp, rfl, hf2, hg1, hgp1, hne, hg2, hgp2, hat, hown⟩
  have F2 := hid (F1.out.trans hf2)
  have HAT := hid hat
  have HOWN := hid hown
  have HG1 := hid (And.intro (Nat.le_trans F1.out.size hg1) (And.intro hg2 (And.intro (Nat.le_trans F1.out.size hgp1) (And.intro hgp2 hne))))
  clear hf2 hat hown hg1 hgp1 hne hg2 hgp2
  go_wp2_with fail
  refine (rnew_any a n cap f HF.out w.heap.size w2 (by have := HN.out; omega) (HROW.out.fr F2.out (fun _ _ => id)) F2.out.size).mono ?_
  rintro e w3 ⟨gd, hgd1, hgd2, rfl, hf3, hd3⟩
  have F3 := hid (F2.out.trans hf3)
  have hat3 := hf3.blk HAT.out id
  have c4 := blk_cell hat3 (j := 4) (v := .pointer none) rfl
  have z4 := blk_frozen hat3 4
  have HK := hid (kfresh p HPL.out a n cap f w.heap.size g gp cpp gd w3 hat3 (HOWN.out.fr hf3 (fun _ _ => id)) HG1.out.2.2.2.2 ⟨HG1.out.1, by have := HG1.out.2.1; omega, by have := HG1.out.2.1; have := hf3.size; omega⟩ ⟨HG1.out.2.2.1, by have := HG1.out.2.2.2.1; omega, by have := HG1.out.2.2.2.1; have := hf3.size; omega⟩ hd3)
  have F4 := hid (show Fr Non w (w3.setCell ⟨g, 4, none⟩ (.pointer (some ⟨gd, 0, none⟩))) from F3.out.then ((Fr.refl (fun k => k = g) _).setOne _ _) (fun k hk e => by have e' : k = g := e; have := HG1.out.1; omega))
  have HGD := hid hgd1
  clear hf3 hd3 hat3 hgd1 hgd2
  obtain ⟨K, hK⟩ : ∃ K, K = cdrD a n cap f w.heap.size gd := ⟨_, rfl⟩
  have HG := hid (show K.Good by rw [hK]; exact cdrD_good a n cap f HF.out (by have := HN.out; omega) w.heap.size gd)
  have HKE := hid hK
  rw [← hK] at HK
  have hKF : ∀ W W', Fr Non w W → Fr (KF K (fun _ => False)) W W' → Fr Non w W' := fun W W' h1 h2 => h1.then h2 (fun k hk e => by
    have e1 : K.lo ≤ k := e.1
    rw [HKE.out] at e1
    have e2 : w.heap.size ≤ k := e1
    omega)
  have HKF := hid hKF
  have HRK := hid (show R = kfin a n cap f w.heap.size gd pz (kgo K pz size size (bare (lstart p)) (RD.new (feedNx f n) 0)) by
    rw [HR.out, HKE.out, ← kunp_fin, kunp_is]
    have := HPL.out.may.d0
    omega)
  have HPKT := hid (fun (s : LS) (c : RD Nat) (W : World) (h : KIs K (fun _ => False) g gp p.probs cpp W s c) (hl : s.H.length ≤ 59000) => (show Calls Try.prog 51 #[.pointer (some ⟨g, 0, none⟩), .agg #[.int .i64 0, .int .u8 0, .int .i64 0, .int .u32 0]] W (KPost K (fun _ => False) g gp p.probs cpp (.int .i64 (kpacket K s c pz).2.2) (kpacket K s c pz).1 (kpacket K s c pz).2.1 W) from
    kpacket_any HG.out g gp p.probs cpp s c pz W h hl (by rw [HKE.out]; exact pz_ok ..) (by rw [HKE.out]; trivial)))
  have HLEFT := hid (fun (s : LS) (c : RD Nat) (W : World) (h : KIs K (fun _ => False) g gp p.probs cpp W s c) => (show Calls Try.prog 64 #[.pointer (some ⟨g, 0, none⟩)] W (fun e w' => e = .returned (.bool (kleft n c)) ∧ Fr Non W w') from
    kleft_any (U := fun _ => False) a n cap f w.heap.size gd g gp p.probs cpp s c W (by rw [← HKE.out]; exact h) (by have := HN.out; omega)))
  have hKdv : K.dv = .pointer (some ⟨gd, 0, none⟩) := by rw [HKE.out]; rfl
  have hKgd : K.gd = some gd := by rw [HKE.out]; rfl
  have hKlo : K.lo = w.heap.size := by rw [HKE.out]; rfl
  have HKD := hid (And.intro hKdv (And.intro hKgd hKlo))
  clear hK hKF hKdv hKgd hKlo
  go_wp2_with fail
  go_loopw [] (fun wr => ∃ (s : LS) (c : RD Nat) (k : Nat), R = kfin a n cap f w.heap.size gd pz (kgo K pz size k s c) ∧ size - s.H.length ≤ k ∧ s.H.length ≤ size ∧ KIs K (fun _ => False) g gp p.probs cpp wr s c ∧ Fr Non w wr) (fun wr => size - hlenW g wr)
  case atStart => exact ⟨bare (lstart p), RD.new (feedNx f n) 0, size, HRK.out, Nat.sub_le _ _, Nat.zero_le _, HK.out, F4.out⟩
  case round =>
    obtain ⟨s, c, k, hRk, hks, hle, hkis, hfr⟩ := hrel
    have HKIS := hid hkis
    have HFR := hid hfr
    have HRK2 := hid hRk
    obtain ⟨A5, v5, hv5⟩ := hkis
    obtain ⟨ao5, cp5, hov5, _⟩ := hv5.own.rowO
    have c7 := hv5.cellC 7 (x := .slice ao5 s.H.length cp5) (by rw [hov5]; rfl)
    obtain ⟨l, hl⟩ : ∃ l, l = s.H.length := ⟨_, rfl⟩
    rw [← hl] at c7 hks hle
    have HL := hid hl
    have hmeas : hlenW g wr = l := by unfold hlenW; rw [c7]
    have HMS := hid hmeas
    have HKS := hid hks
    clear hRk hfr hv5 hov5 hl c4 z4 hks hmeas
    by_cases hlt : l < size
    · have hxe : x = (size : Int) := by have := HX.out; omega
      have HXE := hid hxe
      have hlx : (l : Int) < x := by omega
      obtain ⟨X, hX⟩ : ∃ X, X = kpacket K s c pz := ⟨_, rfl⟩
      have hstep := kgo_step K pz size (k := k) (s := s) (c := c) (by rw [← HL.out]; exact HKS.out) (by rw [← HL.out]; exact hlt) X hX
      have HSTEP := hid hstep
      have HPK := hid (HPKT.out s c wr HKIS.out (by rw [← HL.out]; omega))
      rw [← hX] at HPK
      clear hstep hxe hX hle hlt
      go_wp2_with fail
      refine HPK.out.mono ?_
      rintro e w5 ⟨rfl, hf5, h5⟩
      have F5 := hid (HKF.out _ _ HFR.out hf5)
      have H5 := hid h5
      obtain ⟨A6, v6, hv6⟩ := h5
      obtain ⟨bb, hbb⟩ : ∃ b, b = X.1.bad := ⟨_, rfl⟩
      obtain ⟨ee, hee⟩ : ∃ b, b = X.1.ended := ⟨_, rfl⟩
      obtain ⟨dd, hdd⟩ : ∃ b, b = K.bad X.2.1 := ⟨_, rfl⟩
      obtain ⟨ao6, cp6, hov6, _⟩ := hv6.own.rowO
      obtain ⟨l1, hl1⟩ : ∃ l, l = X.1.H.length := ⟨_, rfl⟩
      have c7 := hv6.cellC 7 (x := .slice ao6 l1 cp6) (by rw [hl1, ← hov6]; rfl)
      have c14 := hv6.cellC 14 (x := .bool bb) (by rw [hbb]; rfl)
      have c13 := hv6.cellC 13 (x := .bool ee) (by rw [hee]; rfl)
      have c4 := hv6.cellC 4 (x := .pointer (some ⟨gd, 0, none⟩)) (by rw [← HKD.out.1]; rfl)
      have cd4 := HG.out.ok.cell _ _ _ gd HKD.out.2.1 hv6.co
      rw [← hdd] at cd4
      have hno : ((bb || ee || dd) = true ∨ size < l1) → R = none := fun h => by
        rw [HRK2.out]
        rcases h with h | h
        · rw [HSTEP.out.1 (by rw [← hbb, ← hee, ← hdd]; exact h)]; rfl
        · rw [HSTEP.out.2.1 (by rw [← hl1]; exact h)]; rfl
      have hgo : bb = false → ee = false → dd = false → ¬ size < l1 → ∃ k', R = kfin a n cap f w.heap.size gd pz (kgo K pz size k' X.1 X.2.1) ∧ size - l1 ≤ k' ∧ l < l1 := fun h1 h2 h3 h4 => by
        obtain ⟨k', q1, q2, q3⟩ := HSTEP.out.2.2 (by rw [← hbb]; exact h1) (by rw [← hee]; exact h2) (by rw [← hdd]; exact h3) (by rw [← hl1]; exact h4)
        exact ⟨k', by rw [HRK2.out, q1], by rw [hl1]; exact q2, by rw [HL.out, hl1]; exact q3⟩
      have HNO := hid hno
      have HGO := hid hgo
      have HL1 := hid hl1
      clear hf5 hv6 hbb hee hdd hov6 hl1 hno hgo
      cases bb with
      | true =>
        clear c13 c4 cd4 c7
        go_wp2_with fail
        go_ret2
        exact ⟨F5.out, .inl ⟨HNO.out (.inl rfl), rfl⟩⟩
      | false =>
        cases ee with
        | true =>
          clear c4 cd4 c7
          go_wp2_with fail
          go_ret2
          exact ⟨F5.out, .inl ⟨HNO.out (.inl rfl), rfl⟩⟩
        | false =>
          cases dd with
          | true =>
            clear c7
            go_wp2_with fail
            go_ret2
            exact ⟨F5.out, .inl ⟨HNO.out (.inl rfl), rfl⟩⟩
          | false =>
            by_cases hov : size < l1
            · have hov' : x < (l1 : Int) := by have := HXE.out; omega
              have HOV := hid hov
              clear hov
              go_wp2_with fail
              go_ret2
              exact ⟨F5.out, .inl ⟨HNO.out (.inr HOV.out), rfl⟩⟩
            · have hov' : ¬ x < (l1 : Int) := by have := HXE.out; omega
              have HOV := hid hov
              have hmeas : hlenW g w5 = l1 := by unfold hlenW; rw [c7]
              have HMS2 := hid hmeas
              clear hov hmeas
              go_wp2_with fail
              obtain ⟨k', q1, q2, q3⟩ := HGO.out (by first | rfl | trivial) (by first | rfl | trivial) (by first | rfl | trivial) HOV.out
              refine ⟨⟨X.1, X.2.1, k', q1, by rw [← HL1.out]; exact q2, by rw [← HL1.out]; have := HOV.out; omega, H5.out, F5.out⟩, ?_⟩
              rw [HMS.out, HMS2.out]
              have := HOV.out
              omega
    · have hlx : ¬ (l : Int) < x := by have := HX.out; omega
      have hR1 : R = kfin a n cap f w.heap.size gd pz (some (s, c)) := by
        rw [HRK2.out, kgo_end K pz size (by rw [← HL.out]; omega)]
      obtain ⟨X, hX⟩ : ∃ X, X = kpacket K s c pz := ⟨_, rfl⟩
      obtain ⟨lf, hlf⟩ : ∃ b, b = kleft n c := ⟨_, rfl⟩
      have HLF := hid (HLEFT.out s c wr HKIS.out)
      rw [← hlf] at HLF
      have HPK := hid (fun (W : World) (hW : KIs K (fun _ => False) g gp p.probs cpp W s c) => HPKT.out s c W hW (by rw [← HL.out]; omega))
      rw [← hX] at HPK
      have hR2 : R = if lf = true then some s.H else if (X.1.ended && !X.1.bad && decide (X.1.H.length = s.H.length) && kleft n X.2.1) = true then some X.1.H else none := by
        rw [hR1, hlf, hX, HKE.out]
        rfl
      have HR2 := hid hR2
      clear hR1 hR2 hX hlf hlt hle
      go_wp2_with fail
      refine HLF.out.mono ?_
      rintro e w5 ⟨rfl, hf5⟩
      have F5 := hid (HFR.out.trans hf5)
      have H5 := hid (HKIS.out.any HG.out.ok hf5)
      obtain ⟨A6, v6, hv6⟩ := H5.out
      have HRO := hid (hv6.rowO HG.out.ok)
      obtain ⟨ao6, cp6, hov6, _⟩ := hv6.own.rowO
      rw [← HL.out] at hov6
      clear c7
      have c7 := hv6.cellC 7 (x := .slice ao6 l cp6) (by rw [← hov6]; rfl)
      rw [hov6] at HRO
      clear hf5 hv6 hov6
      cases lf with
      | true =>
        go_wp2_with fail
        go_ret2
        exact ⟨F5.out, .inr ⟨s.H, _, by rw [HR2.out]; rfl, rfl, by have := HRO.out; rw [HKD.out.2.2] at this; exact this⟩⟩
      | false =>
        go_wp2_with fail
        refine (HPK.out _ H5.out).mono ?_
        rintro e w6 ⟨rfl, hf6, h6⟩
        clear c7
        have F6 := hid (HKF.out _ _ F5.out hf6)
        have H6 := hid h6
        obtain ⟨A7, v7, hv7⟩ := h6
        have HRO7 := hid (hv7.rowO HG.out.ok)
        obtain ⟨bb, hbb⟩ : ∃ b, b = X.1.bad := ⟨_, rfl⟩
        obtain ⟨ee, hee⟩ : ∃ b, b = X.1.ended := ⟨_, rfl⟩
        obtain ⟨ao7, cp7, hov7, _⟩ := hv7.own.rowO
        obtain ⟨l1, hl1⟩ : ∃ l, l = X.1.H.length := ⟨_, rfl⟩
        rw [← hl1] at hov7
        have c7 := hv7.cellC 7 (x := .slice ao7 l1 cp7) (by rw [← hov7]; rfl)
        have c14 := hv7.cellC 14 (x := .bool bb) (by rw [hbb]; rfl)
        have c13 := hv7.cellC 13 (x := .bool ee) (by rw [hee]; rfl)
        rw [hov7] at HRO7
        obtain ⟨lg, hlg⟩ : ∃ b, b = kleft n X.2.1 := ⟨_, rfl⟩
        have HLG := hid (fun (W : World) (hW : KIs K (fun _ => False) g gp p.probs cpp W X.1 X.2.1) => HLEFT.out X.1 X.2.1 W hW)
        rw [← hlg] at HLG
        have HR3 := hid (show R = if (ee && !bb && decide (l1 = l) && lg) = true then some X.1.H else none by
          rw [HR2.out, if_neg (by decide), ← hbb, ← hee, ← hl1, ← hlg, ← HL.out])
        clear hf6 hv7 hbb hee hov7 hl1 hlg
        cases ee with
        | false =>
          clear c14 c7
          go_wp2_with fail
          go_ret2
          exact ⟨F6.out, .inl ⟨by rw [HR3.out]; rfl, rfl⟩⟩
        | true =>
          cases bb with
          | true =>
            clear c7
            go_wp2_with fail
            go_ret2
            exact ⟨F6.out, .inl ⟨by rw [HR3.out]; rfl, rfl⟩⟩
          | false =>
            by_cases hll : l1 = l
            · subst hll
              go_wp2_with fail
              refine (HLG.out _ H6.out).mono ?_
              rintro e w7 ⟨rfl, hf7⟩
              have F7 := hid (F6.out.trans hf7)
              have c7' := hf7.cell c7 id
              have HRO8 := hid (HRO7.out.fr hf7 (fun _ _ _ => id))
              clear hf7 c7
              cases lg with
              | true =>
                go_wp2_with fail
                go_ret2
                exact ⟨F7.out, .inr ⟨X.1.H, _, by rw [HR3.out]; simp, rfl, by have := HRO8.out; rw [HKD.out.2.2] at this; exact this⟩⟩
              | false =>
                go_wp2_with fail
                go_ret2
                exact ⟨F7.out, .inl ⟨by rw [HR3.out]; simp, rfl⟩⟩
            · have hll' : ¬ (l1 : Int) = (l : Int) := by omega
              have HLL := hid (show decide (l1 = l) = false from decide_eq_false hll)
              clear hll
              go_wp2_with fail
              go_ret2
              exact ⟨F6.out, .inl ⟨by rw [HR3.out, HLL.out]; rfl, rfl⟩⟩
end Go.Proofs.Ytjnegcambbeblaa

/- A setting of LZMA that came in, opened. -/
namespace Go.Proofs.Ytjnegcambbeblaa
open Go.Joins Go.ChangeShapes Go.WideShapes Go.Deep Go.RowKit

theorem lset_cells : Try.prog.cellsOf 23 = 4 := by kernel_rfl
theorem lint_cells : Try.prog.cellsOf 3 = 1 := by kernel_rfl
set_option maxRecDepth 100000 in
theorem lset_open {H : Type} {enc : TypeId × Value → H} {w : World} {held : Bool} {r : Go.Reach} {b0 : Nat} {v : Value} {d : DataW H} {p : List MemPlace}
    (hv : Value.okWide Try.prog w r b0 23 v) (h : DataW.Trod enc Try.prog w 0 (fun _ => true) held 23 v d p) : ∃ q : Lset, v = q.val ∧ q.wf := by
  obtain ⟨cs, rfl, hsz⟩ := okWide_struct Try.underlying23 hv
  obtain ⟨l⟩ := cs
  match l, hsz.trans lset_cells with
  | [c0, c1, c2, c3], _ =>
    obtain ⟨fuel, hf⟩ := h
    obtain ⟨xs, n, _, hx, _, hlen, hg⟩ := DataW.trod_struct Try.underlying23 hf
    match xs, hlen with
    | [y0, y1, y2, y3], _ =>
      have t0 := hg 0 _ rfl
      have t1 := hg 1 _ rfl
      have t2 := hg 2 _ rfl
      have t3 := hg 3 _ rfl
      simp [Value.cells, lint_cells] at t0 t1 t2 t3
      obtain ⟨x0, e0, _, b0⟩ := DataW.trod_int Try.underlying3 t0
      obtain ⟨x1, e1, _, b1⟩ := DataW.trod_int Try.underlying3 t1
      obtain ⟨x2, e2, _, b2⟩ := DataW.trod_int Try.underlying3 t2
      obtain ⟨x3, e3, _, b3⟩ := DataW.trod_int Try.underlying3 t3
      simp only [List.cons.injEq, and_true] at e0 e1 e2 e3
      subst e0 e1 e2 e3
      exact ⟨⟨x0, x1, x2, x3⟩, rfl, wf_i64 b0, wf_i64 b1, wf_i64 b2, wf_i64 b3⟩
end Go.Proofs.Ytjnegcambbeblaa

/- LzmaFront's walk. -/
namespace Go.Proofs.Ytjnegcambbeblaa
open Go.RowKit

/-- lzma.New with a meter that is enough. -/
def LNewM (p : Lset) (x : Int) (W : World) (e : Ending) (w' : World) : Prop :=
  ∃ L : LL, e = .returned (.tuple #[.pointer (some ⟨L.gd, 0, none⟩), .int .i64 0]) ∧ Fr Non W w' ∧ LIs L (.pointer none) (.pointer none) w' (lstart p) ∧ L.n = wsize (min p.dict x) ∧ ∀ k, L.foot k → W.heap.size ≤ k ∧ k < w'.heap.size
theorem Lset.Light.need_le {p : Lset} (h : p.Light) : p.need ≤ 200000 := by
  have h1 := h.nl_le
  have h2 : p.probs = 1847 + p.nl := by unfold Lset.probs Lset.nl; rw [if_pos (Lset.may_iff.2 h.may)]
  unfold Lset.need
  omega
theorem lnew_much (p : Lset) (hp : p.Light) (x : Int) (hx : x ≤ 1048576) (hx0 : 0 ≤ x) (gm : Nat) (W w : World) (hW : Fr Non W w) (hg : W.heap.size ≤ gm) (hm : MAt w gm MUCH) :
    Calls Try.prog 20 #[.agg #[.int .i64 p.lc, .int .i64 p.lp, .int .i64 p.pb, .int .i64 p.dict], .int .i64 x, .pointer (some ⟨gm, 0, none⟩)] w (LNewM p x W) := by
  have hM := much_mem (a := p.need) (b := wsize (min p.dict x)) hp.need_le (by unfold wsize; omega)
  refine (show Calls Try.prog 20 #[p.val, .int .i64 x, .pointer (some ⟨gm, 0, none⟩)] w _ from lnew_any gm MUCH p x w hm MUCH_ok hp hx (by omega)).mono ?_
  intro e w' hq
  rcases hq with ⟨_, _, hno, _⟩ | ⟨_, _, L, rfl, hf1, hm1, hl1, hLgm, hLn, hLnl, hLf⟩
  · exact absurd hM hno
  · exact ⟨L, rfl, hW.then hf1 (fun i hi e => by have e' : i = gm := e; omega), hl1, hLn, fun k hk => ⟨Nat.le_trans hW.size (hLf k hk).1, (hLf k hk).2⟩⟩
theorem front_sim (f g : Nat → Int) (n m : Nat) (hnm : n ≤ m) (hfg : ∀ i, i < n → f i = g i) : SimS Eq (anx (feedNx f n)) (anx (feedNx g m)) where
  go a b hab h := by
    subst hab
    unfold anx ahNx at h ⊢
    by_cases hf : a.full = true
    · rw [if_pos hf, if_pos hf]; exact ⟨rfl, rfl, rfl⟩
    · rw [if_neg hf] at h
      rw [if_neg hf, if_neg hf]
      unfold feedNx at h ⊢
      by_cases hl : a.s < n
      · rw [if_pos hl, if_pos (by omega), hfg _ hl]
        exact ⟨rfl, rfl, rfl⟩
      · rw [if_neg hl] at h; cases h
set_option maxRecDepth 100000 in
set_option maxHeartbeats 800000 in
theorem lzmaFront_walk (a : Option Addr) (n cap : Nat) (f : Nat → Int) (p : Lset) (sz : Int) (w : World) (hnc : n ≤ cap) (hcm : cap ≤ 9223372036854775807) (hnil : a = none → cap = 0) (hr : RowIn w.heap.size .u8 w a n f) (hf : ∀ i, i < n → 0 ≤ f i ∧ f i < 256) (hz : 0 ≤ sz ∧ sz < 65536) :
    Calls Try.prog 4 #[.slice a n cap, p.val, .int .u16 sz] w fun e w' => e = .returned (.bool true) ∧ Fr Non w w' := by
  have HV := hid (show p.val = .agg #[.int .i64 p.lc, .int .i64 p.lp, .int .i64 p.pb, .int .i64 p.dict] from rfl)
  rw [HV.out]
  have HR := hid hr
  have Hf := hid hf
  have HNIL := hid hnil
  have HNC := hid hnc
  have HZ := hid hz
  have hn63 : (n : Int) ≤ 9223372036854775807 := by omega
  clear hr hf hnil hnc hz hcm
  go_enter Try.func4, Try.ntmps4
  go_wp2_with fail
  refine (awake08_any _).mono ?_
  rintro e w1 ⟨rfl, hf1⟩
  have hb1 := hf1.blk (blk_new w (.cells #[.int .i64 p.lc, .int .i64 p.lp, .int .i64 p.pb, .int .i64 p.dict] 23)) id
  have F1 := hid (((Fr.refl Non w).alloc _).trans hf1)
  have HB1 := hid hb1
  clear hf1 hb1
  by_cases hlong : 16384 < n
  · have hl : (16384 : Int) < (n : Int) := by omega
    clear hlong
    go_wp2_with fail
    go_ret
    exact ⟨rfl, F1.out⟩
  have hl : ¬ (16384 : Int) < (n : Int) := by omega
  have HN := hid (show n ≤ 16384 by omega)
  clear hlong
  have k0 := blk_cell HB1.out (j := 0) (v := .int .i64 p.lc) rfl
  have k1 := blk_cell HB1.out (j := 1) (v := .int .i64 p.lp) rfl
  have k2 := blk_cell HB1.out (j := 2) (v := .int .i64 p.pb) rfl
  have k3 := blk_cell HB1.out (j := 3) (v := .int .i64 p.dict) rfl
  cases hmay : p.may with
  | false =>
    have HMY := hid hmay
    clear hmay
    go_wp2_with fail
    refine (show Calls Try.prog 14 #[.agg #[.int .i64 p.lc, .int .i64 p.lp, .int .i64 p.pb, .int .i64 p.dict]] _ _ from rmay_any p _).mono ?_
    rintro e w2 ⟨rfl, hf2⟩
    rw [HMY.out]
    have F2 := hid (F1.out.trans hf2)
    clear hf2
    go_wp2_with fail
    go_ret
    exact ⟨rfl, F2.out⟩
  | true =>
    have HMY := hid hmay
    clear hmay
    go_wp2_with fail
    refine (show Calls Try.prog 14 #[.agg #[.int .i64 p.lc, .int .i64 p.lp, .int .i64 p.pb, .int .i64 p.dict]] _ _ from rmay_any p _).mono ?_
    rintro e w2 ⟨rfl, hf2⟩
    rw [HMY.out]
    have F2 := hid (F1.out.trans hf2)
    have hb2 := hf2.blk HB1.out id
    have HB2 := hid hb2
    clear hf2 hb2 k0 k1 k2 k3
    have k0 := blk_cell HB2.out (j := 0) (v := .int .i64 p.lc) rfl
    have k1 := blk_cell HB2.out (j := 1) (v := .int .i64 p.lp) rfl
    have k2 := blk_cell HB2.out (j := 2) (v := .int .i64 p.pb) rfl
    have k3 := blk_cell HB2.out (j := 3) (v := .int .i64 p.dict) rfl
    go_wp2_with fail
    refine (show Calls Try.prog 15 #[.agg #[.int .i64 p.lc, .int .i64 p.lp, .int .i64 p.pb, .int .i64 p.dict]] _ _ from light_any p _).mono ?_
    rintro e w3 ⟨rfl, hf3⟩
    rw [HMY.out]
    have F3 := hid (F2.out.trans hf3)
    have hb3 := hf3.blk HB2.out id
    have HB3 := hid hb3
    clear hf3 hb3 k0 k1 k2 k3
    have k0 := blk_cell HB3.out (j := 0) (v := .int .i64 p.lc) rfl
    have k1 := blk_cell HB3.out (j := 1) (v := .int .i64 p.lp) rfl
    have k2 := blk_cell HB3.out (j := 2) (v := .int .i64 p.pb) rfl
    have k3 := blk_cell HB3.out (j := 3) (v := .int .i64 p.dict) rfl
    obtain ⟨li, hli⟩ : ∃ li, li = (!true || decide (p.lc + p.lp ≤ 6)) := ⟨_, rfl⟩
    rw [← hli]
    have HLI := hid hli
    clear hli
    cases li with
    | false =>
      go_wp2_with fail
      go_ret
      exact ⟨rfl, F3.out⟩
    | true =>
      have HP := hid (show p.Light from ⟨Lset.may_iff.1 HMY.out, of_decide_eq_true HLI.out.symm⟩)
      obtain ⟨x, hx⟩ : ∃ x : Int, x = sz % 5000 := ⟨_, rfl⟩
      have hx0 : 0 ≤ x := by have := HZ.out.1; omega
      have hx5 : x ≤ 1048576 := by omega
      have HX9 := hid (show x < 5000 by omega)
      have hc1 : IntKind.i64.wrap sz = sz := by have := HZ.out; rw [IntKind.wrap_i64]; omega
      go_upto_region 6 with fail
      rw [show sz.tmod 5000 = x by rw [Int.tmod_eq_emod_of_nonneg HZ.out.1]; exact hx.symm]
      clear hx hc1
      go_cut [8, 9] (fun v q wx => q = .int .i64 0 ∧ ∃ L : LL, v = .pointer (some ⟨L.gd, 0, none⟩) ∧ Fr Non w3 wx ∧ LIs L (.pointer none) (.pointer none) wx (lstart p) ∧ L.n = wsize (min p.dict x) ∧ ∀ k, L.foot k → w3.heap.size ≤ k ∧ k < wx.heap.size)
      case first =>
        go_region_held3 (fun wx => wx.cell? ⟨w.heap.size, 0, none⟩ = some (.int .i64 p.lc) ∧ wx.cell? ⟨w.heap.size, 1, none⟩ = some (.int .i64 p.lp) ∧ wx.cell? ⟨w.heap.size, 2, none⟩ = some (.int .i64 p.pb) ∧ wx.cell? ⟨w.heap.size, 3, none⟩ = some (.int .i64 p.dict)) (first | (show World.cell? wn _ = _ ∧ _; exact ⟨hWn.cell k0 id, hWn.cell k1 id, hWn.cell k2 id, hWn.cell k3 id⟩) | exact ⟨Fr.cell (S := Non) (w := w3) (by repeat (first | exact Fr.refl _ _ | refine Fr.drew ?_ | refine Fr.trans ?_ (by assumption))) k0 id, Fr.cell (S := Non) (w := w3) (by repeat (first | exact Fr.refl _ _ | refine Fr.drew ?_ | refine Fr.trans ?_ (by assumption))) k1 id, Fr.cell (S := Non) (w := w3) (by repeat (first | exact Fr.refl _ _ | refine Fr.drew ?_ | refine Fr.trans ?_ (by assumption))) k2 id, Fr.cell (S := Non) (w := w3) (by repeat (first | exact Fr.refl _ _ | refine Fr.drew ?_ | refine Fr.trans ?_ (by assumption))) k3 id⟩) (first
          | (go_at_call 18; refine (much_any _).mono ?_; rintro e wm ⟨gm, rfl, hgm, hfm, hmm⟩; have hgW : w3.heap.size ≤ gm := Nat.le_trans (Fr.size (S := Non) (by repeat (first | exact Fr.refl _ _ | refine Fr.drew ?_ | refine Fr.trans ?_ (by assumption)))) hgm)
          | (go_at_call 20; refine (lnew_much p HP.out x hx5 hx0 gm w3 _ (by repeat (first | exact Fr.refl _ _ | refine Fr.drew ?_ | refine Fr.trans ?_ (by assumption))) hgW (by exact hmm)).mono ?_; rintro e wn ⟨L, rfl, hWn, hL1, hL2, hL3⟩))
        all_goals
          have HW := hid hWn
          have HL1 := hid hL1
          have HL2 := hid hL2
          have HL3 := hid hL3
          clear hWn hL1 hL2 hL3 hfm hmm hgm hgW k0 k1 k2 k3
          go_wp2_with fail
          go_meet
          exact ⟨rfl, L, rfl, HW.out, HL1.out, HL2.out, HL3.out⟩
      case rest =>
        obtain ⟨rfl, L, rfl, hf4, hl4, hn4, hft4⟩ := hcut
        obtain ⟨w4, hw4⟩ : ∃ w4, w4 = wc := ⟨_, rfl⟩
        rw [← hw4] at hf4 hl4 hft4 ⊢
        have hb4 := hf4.blk HB3.out id
        have F4 := hid (F3.out.trans hf4)
        have HB4 := hid hb4
        have hs34 := hf4.size
        have HL4 := hid hl4
        have HN4 := hid hn4
        have HFT4 := hid hft4
        clear hf4 hl4 hn4 hft4 hb4 hw4 k0 k1 k2 k3
        have k0 := blk_cell HB4.out (j := 0) (v := .int .i64 p.lc) rfl
        have k1 := blk_cell HB4.out (j := 1) (v := .int .i64 p.lp) rfl
        have k2 := blk_cell HB4.out (j := 2) (v := .int .i64 p.pb) rfl
        have k3 := blk_cell HB4.out (j := 3) (v := .int .i64 p.dict) rfl
        go_upto_region 7 with fail
        go_cut [10, 11] (fun v q wx => q = .int .i64 0 ∧ ∃ L : LL, v = .pointer (some ⟨L.gd, 0, none⟩) ∧ Fr Non w4 wx ∧ LIs L (.pointer none) (.pointer none) wx (lstart p) ∧ L.n = wsize (min p.dict x) ∧ ∀ k, L.foot k → w4.heap.size ≤ k ∧ k < wx.heap.size)
        case first =>
          go_region_held3 (fun wx => wx.cell? ⟨w.heap.size, 0, none⟩ = some (.int .i64 p.lc) ∧ wx.cell? ⟨w.heap.size, 1, none⟩ = some (.int .i64 p.lp) ∧ wx.cell? ⟨w.heap.size, 2, none⟩ = some (.int .i64 p.pb) ∧ wx.cell? ⟨w.heap.size, 3, none⟩ = some (.int .i64 p.dict)) (first | (show World.cell? wn _ = _ ∧ _; exact ⟨hWn.cell k0 id, hWn.cell k1 id, hWn.cell k2 id, hWn.cell k3 id⟩) | exact ⟨Fr.cell (S := Non) (w := w4) (by repeat (first | exact Fr.refl _ _ | refine Fr.drew ?_ | refine Fr.trans ?_ (by assumption))) k0 id, Fr.cell (S := Non) (w := w4) (by repeat (first | exact Fr.refl _ _ | refine Fr.drew ?_ | refine Fr.trans ?_ (by assumption))) k1 id, Fr.cell (S := Non) (w := w4) (by repeat (first | exact Fr.refl _ _ | refine Fr.drew ?_ | refine Fr.trans ?_ (by assumption))) k2 id, Fr.cell (S := Non) (w := w4) (by repeat (first | exact Fr.refl _ _ | refine Fr.drew ?_ | refine Fr.trans ?_ (by assumption))) k3 id⟩) (first
            | (go_at_call 18; refine (much_any _).mono ?_; rintro e wm ⟨gm, rfl, hgm, hfm, hmm⟩; have hgW : w4.heap.size ≤ gm := Nat.le_trans (Fr.size (S := Non) (by repeat (first | exact Fr.refl _ _ | refine Fr.drew ?_ | refine Fr.trans ?_ (by assumption)))) hgm)
            | (go_at_call 20; refine (lnew_much p HP.out x hx5 hx0 gm w4 _ (by repeat (first | exact Fr.refl _ _ | refine Fr.drew ?_ | refine Fr.trans ?_ (by assumption))) hgW (by exact hmm)).mono ?_; rintro e wn ⟨K, rfl, hWn, hL1, hL2, hL3⟩))
          all_goals
            have HW := hid hWn
            have HL1 := hid hL1
            have HL2 := hid hL2
            have HL3 := hid hL3
            clear hWn hL1 hL2 hL3 hfm hmm hgm hgW k0 k1 k2 k3
            go_wp2_with fail
            go_meet
            exact ⟨rfl, K, rfl, HW.out, HL1.out, HL2.out, HL3.out⟩
        case rest =>
          obtain ⟨rfl, K, rfl, hf5, hl5, hn5, hft5⟩ := hcut
          obtain ⟨w5, hw5⟩ : ∃ w5, w5 = wc := ⟨_, rfl⟩
          rw [← hw5] at hf5 hl5 hft5 ⊢
          have F5 := hid (F4.out.trans hf5)
          have hs45 := hf5.size
          have HL5 := hid (HL4.out.keep hf5 (fun _ _ e => e))
          have HK5 := hid hl5
          have HNK := hid hn5
          have HFTK := hid hft5
          clear hf5 hl5 hn5 hft5 hw5 k0 k1 k2 k3
          go_wp2_with fail
          have hs03 : w.heap.size < w3.heap.size := blk_lt HB3.out
          refine (newFeed_any a n cap f w5 (by have := HN.out; omega) HNC.out HNIL.out (by exact (HR.out.fr F5.out (fun _ _ e => e)).mono F5.out.size)).mono ?_
          intro e w6 hq
          obtain ⟨fg, fa, fc, rfl, hf6, hi6, hl6⟩ := feedNew_q _ _ _ Hf.out (by have := HN.out; omega) _ _ hq
          obtain ⟨t, ht⟩ : ∃ t, t = feed fg fa n fc f Hf.out := ⟨_, rfl⟩
          have HT := hid (show Value.iface 45 (.pointer (some ⟨fg, 0, none⟩)) = Value.iface t.ty t.val from by rw [ht]; rfl)
          have HTN := hid (show t.nx = feedNx f n from by rw [ht]; rfl)
          rw [← ht] at hi6 hl6
          have HI6 := hid hi6
          have HFE := hid hl6
          have F6 := hid (F5.out.trans hf6)
          have HL6 := hid (HL5.out.keep hf6 (fun _ _ e => e))
          have HK6 := hid (HK5.out.keep hf6 (fun _ _ e => e))
          have hs56 := hf6.size
          clear hq hf6 hi6 hl6 ht
          go_wp2_with fail
          rw [HT.out]
          refine (lbegin_any L t _ _ _ 0 w6 HL6.out HI6.out (fun k hk => (HFE.out k hk).2) (fun k hk e => by have := (HFT4.out k hk).2; have := (HFE.out k e).1; omega)).mono ?_
          rintro e w7 ⟨ga, gr, rfl, hf7, hon7, hga0, hga1, hgr0, hgr1⟩
          rw [HTN.out] at hon7
          have hs67 := hf7.size
          have HFL := hid (show ∀ k, LFt L t ga gr k → (w3.heap.size ≤ k ∧ k < w4.heap.size) ∨ (w5.heap.size ≤ k ∧ k < w7.heap.size) from by
            rintro k (e | e | e | e)
            · exact .inl (HFT4.out k e)
            · have e' : k = gr := e; omega
            · have e' : k = ga := e; omega
            · have := HFE.out k e; omega)
          have F7 := hid (F6.out.then hf7 (fun k hk e => by
            rcases e with e | e
            · have := HFT4.out L.gd (.inl rfl); omega
            · have := HFE.out k e; omega))
          have HK7 := hid (HK6.out.keep hf7 (fun k hk e => by
            have h1 := HFTK.out k hk
            rcases e with e | e
            · have := HFT4.out L.gd (.inl rfl); omega
            · have := HFE.out k e; omega))
          have ON7 := hid hon7
          have HR7 := hid ((HR.out.fr F7.out (fun _ _ e => e)).mono F7.out.size)
          clear hf7 hon7 hga0 hga1 hgr0 hgr1
          go_wp2_with (first
            | (refine opAppendRow (some 71) rfl rfl (.tmp 69) (.tmp 70) 30 rfl w7.heap.size .u8 5 1 Try.underlying30 Try.info_u8q (.slice (some ⟨w7.heap.size, 0, none⟩) 0 0) [] rfl (Own.empty _ _ .u8 5 (Nat.le_refl _)) w7.heap.size a n cap f rfl HNIL.out HNC.out (HR7.out.fr ((Fr.refl Non _).alloc _) (fun _ _ => id)) (by decide) (by simp; have := HN.out; omega) (by simp) ?_; intro v8 w8 hown8 hg8; have F8 := clone_fr hg8; have s8 := F8.size)
            | (refine opAppendRow (some 73) rfl rfl (.tmp 71) (.tmp 72) 30 rfl w7.heap.size .u8 5 1 Try.underlying30 Try.info_u8q v8 _ rfl (by exact hown8.alloc _) (w8.heap.size + 1) (some ⟨w8.heap.size, 0, none⟩) 3 3 (fun i => [1, 2, 3].getD i 0) rfl (fun e => by cases e) (Nat.le_refl _) (.inr ⟨_, 0, rfl, by omega, fun i hi => blk_cell (blk_new _ _) (by
                rw [Nat.zero_add]
                match i, hi with
                | 0, _ => rfl
                | 1, _ => rfl
                | 2, _ => rfl)⟩) (by decide) (by simp; have := HN.out; omega) (by simp; omega) ?_; intro v9 w9 hown9 hg9))
          obtain ⟨gg, hgg⟩ : ∃ gg : Nat → Int, gg = fun i => ([] ++ (List.range n).map f ++ (List.range 3).map (fun i => [1, 2, 3].getD i 0)).getD i 0 := ⟨_, rfl⟩
          obtain ⟨ao, co, rfl, hlo, hcz, hro, hao⟩ := hown9.rowO
          have hlen : ([] ++ (List.range n).map f ++ (List.range 3).map (fun i => ([1, 2, 3] : List Int).getD i 0)).length = n + 3 := by simp
          rw [hlen] at hlo hro ⊢
          rw [← hgg] at hro
          have hg1 : ∀ i, i < n → f i = gg i := by
            intro i hi
            rw [hgg]
            simp [List.getD, List.getElem?_append, hi]
          have hg2 : ∀ i, i < n + 3 → 0 ≤ gg i ∧ gg i < 256 := by
            intro i hi
            by_cases h : i < n
            · rw [← hg1 i h]; exact Hf.out i h
            · have e : gg i = ([1, 2, 3] : List Int).getD (i - n) 0 := by
                rw [hgg]
                simp [List.getD, List.getElem?_append, h, show i - n < 3 by omega]
              rw [e]
              have h3 : i - n < 3 := by omega
              match i - n, h3 with
              | 0, _ => exact ⟨by decide, by decide⟩
              | 1, _ => exact ⟨by decide, by decide⟩
              | 2, _ => exact ⟨by decide, by decide⟩
          have hf79 : Fr Non w7 w9 := (F8.alloc _).grown hg9 (fun i hi hlt => absurd (hown8.block i hi).1 (by omega))
          have hs79 := hf79.size
          have F9 := hid (F7.out.trans hf79)
          have ON9 := hid (ON7.out.any hf79)
          have HK9 := hid (HK7.out.keep hf79 (fun _ _ e => e))
          have HRO := hid hro
          have HG1 := hid hg1
          have HG2 := hid hg2
          have HCZ := hid hcz
          have HLO := hid hlo
          clear hown9 hg9 hown8 hg8 F8 s8 hgg hlen hao hro hg1 hg2 hf79 hcz hlo
          refine (newFeed_any ao (n + 3) co gg w9 (by have := HN.out; omega) HLO.out HCZ.out HRO.out).mono ?_
          intro e w10 hq
          obtain ⟨fg2, fa2, fc2, rfl, hf10, hi10, hl10⟩ := feedNew_q _ _ _ HG2.out (by have := HN.out; omega) _ _ hq
          obtain ⟨t2, ht2⟩ : ∃ t2, t2 = feed fg2 fa2 (n + 3) fc2 gg HG2.out := ⟨_, rfl⟩
          have HT2 := hid (show Value.iface 45 (.pointer (some ⟨fg2, 0, none⟩)) = Value.iface t2.ty t2.val from by rw [ht2]; rfl)
          have HTN2 := hid (show t2.nx = feedNx gg (n + 3) from by rw [ht2]; rfl)
          rw [← ht2] at hi10 hl10
          have HI10 := hid hi10
          have HFE2 := hid hl10
          have F10 := hid (F9.out.trans hf10)
          have ON10 := hid (ON9.out.any hf10)
          have HK10 := hid (HK9.out.keep hf10 (fun _ _ e => e))
          have hs910 := hf10.size
          clear hq hf10 hi10 hl10 ht2
          go_wp2_with fail
          rw [HT2.out]
          refine (lbegin_any K t2 _ _ _ 0 w10 HK10.out HI10.out (fun k hk => (HFE2.out k hk).2) (fun k hk e => by have := (HFTK.out k hk).2; have := (HFE2.out k e).1; omega)).mono ?_
          rintro e w11 ⟨ga2, gr2, rfl, hf11, hon11, hga0, hga1, hgr0, hgr1⟩
          rw [HTN2.out] at hon11
          have hs1011 := hf11.size
          have HFK := hid (show ∀ k, LFt K t2 ga2 gr2 k → (w4.heap.size ≤ k ∧ k < w5.heap.size) ∨ (w7.heap.size ≤ k ∧ k < w11.heap.size) from by
            rintro k (e | e | e | e)
            · exact .inl (HFTK.out k e)
            · have e' : k = gr2 := e; omega
            · have e' : k = ga2 := e; omega
            · have := HFE2.out k e; omega)
          have F11 := hid (F10.out.then hf11 (fun k hk e => by
            rcases e with e | e
            · have := HFTK.out K.gd (.inl rfl); omega
            · have := HFE2.out k e; omega))
          have ON11 := hid (ON10.out.keep hf11 (fun k hk e => by
            have h1 := HFL.out k hk
            rcases e with e | e
            · have := HFTK.out K.gd (.inl rfl); omega
            · have := HFE2.out k e; omega))
          have OK11 := hid hon11
          clear hf11 hon11 hga0 hga1 hgr0 hgr1
          obtain ⟨X, hX⟩ : ∃ X : Nat, X = x.toNat := ⟨_, rfl⟩
          have hXi : x = (X : Int) := by omega
          have HXX := hid hXi
          have hX5 : X ≤ 5000 := by have := HX9.out; omega
          have HKN := hid (show K.n = L.n by rw [HNK.out, HN4.out])
          obtain ⟨s0, hs0⟩ : ∃ s, s = lstart p := ⟨_, rfl⟩
          obtain ⟨d0, hd0⟩ : ∃ d, d = RD.new (anx (feedNx f n)) ⟨0, 0, false⟩ := ⟨_, rfl⟩
          obtain ⟨e0, he0⟩ : ∃ d, d = RD.new (anx (feedNx gg (n + 3))) ⟨0, 0, false⟩ := ⟨_, rfl⟩
          have HSIM := hid (front_sim f gg n (n + 3) (by omega) HG1.out)
          have HD0 := hid (show d0.bad = false → Sim1 Eq d0 e0 from fun h => by rw [hd0] at h ⊢; rw [he0]; exact new_sim HSIM.out rfl h)
          rw [← hs0, ← hd0] at ON11
          rw [← hs0, ← he0] at OK11
          have HFITL := hid (lrun_fit (anx (feedNx f n)) L s0 d0 (by rw [hs0]; exact lstart_fit p L))
          have HFITK := hid (lrun_fit (anx (feedNx gg (n + 3))) K s0 e0 (by rw [hs0]; exact lstart_fit p K))
          have HPLL := hid (lrun_place (anx (feedNx f n)) L s0 d0)
          have HPLK := hid (lrun_place (anx (feedNx gg (n + 3))) K s0 e0)
          have HPL0 := hid (show s0.place = 0 by rw [hs0]; rfl)
          clear hs0 hd0 he0 hX hXi
          go_wp2_with fail
          go_loopw [12] (fun v wr => ∃ k, k ≤ X ∧ v = .int .i64 ((k : Nat) : Int) ∧ (∀ i, i < k → lok (anx (feedNx f n)) L s0 d0 i = true) ∧ LOn L t ga gr wr (lrun (anx (feedNx f n)) L k s0 d0).1 (lrun (anx (feedNx f n)) L k s0 d0).2 ∧ LOn K t2 ga2 gr2 wr (lrun (anx (feedNx gg (n + 3))) K k s0 e0).1 (lrun (anx (feedNx gg (n + 3))) K k s0 e0).2 ∧ Fr Non w wr) (fun v _ => X - (intOf v).toNat)
          case atStart => exact ⟨0, Nat.zero_le _, rfl, (fun i hi => by omega), ON11.out, OK11.out, F11.out⟩
          case round =>
            obtain ⟨k, hk, rfl, hks, hon, hok, hfr⟩ := hrel
            have HKS := hid hks
            have HON := hid hon
            have HOK := hid hok
            have HFR := hid hfr
            have C1 := lnext_any L t ga gr _ _ wr hon (by have := HPLL.out k; have := HPL0.out; omega) (HFITL.out k)
            rw [ahead_nx, HTN.out] at C1
            have C1 := hid C1
            clear hks hon hok hfr
            by_cases hlt : k < X
            · have hlx : (k : Int) < x := by have := HXX.out; omega
              obtain ⟨ok, hok⟩ : ∃ ok, ok = lok (anx (feedNx f n)) L s0 d0 k := ⟨_, rfl⟩
              obtain ⟨b, hb⟩ : ∃ b, b = lbyte (anx (feedNx f n)) L s0 d0 k := ⟨_, rfl⟩
              have HLX := hid hlx
              have HOKE := hid hok
              have HBE := hid hb
              go_wp2_with fail
              refine C1.out.mono ?_
              rintro e w12 ⟨rfl, hf12, hon12⟩
              rw [show (lnext (anx (feedNx f n)) L (lrun (anx (feedNx f n)) L k s0 d0).1 (lrun (anx (feedNx f n)) L k s0 d0).2).1.2 = ok from hok.symm, show (lnext (anx (feedNx f n)) L (lrun (anx (feedNx f n)) L k s0 d0).1 (lrun (anx (feedNx f n)) L k s0 d0).2).1.1 = b from hb.symm]
              have ON12 := hid (show LOn L t ga gr w12 (lrun (anx (feedNx f n)) L (k + 1) s0 d0).1 (lrun (anx (feedNx f n)) L (k + 1) s0 d0).2 from hon12)
              have F12 := hid (HFR.out.then hf12 (fun i hi e => by have := HFL.out i e; omega))
              have OK12 := hid (HOK.out.keep hf12 (fun i hi e => by have := HFL.out i e; have := HFK.out i hi; omega))
              clear hf12 hon12 hok hb C1
              cases ok with
              | false =>
                have hb0 : b = 0 := by rw [HBE.out]; exact lnext_no _ _ _ _ HOKE.out.symm
                subst hb0
                go_wp2_with fail
                go_ret
                exact ⟨rfl, F12.out⟩
              | true =>
                have HKS' := hid (show ∀ i, i < k + 1 → lok (anx (feedNx f n)) L s0 d0 i = true from fun i hi => by
                  by_cases e : i = k
                  · rw [e]; exact HOKE.out.symm
                  · exact HKS.out i (by omega))
                have h2 := lok_sim HSIM.out L s0 HD0.out k HKS'.out
                rw [lok_of (anx (feedNx gg (n + 3))) L, lbyte_of (anx (feedNx gg (n + 3))) L, ← HKN.out, ← lok_of, ← lbyte_of, ← HBE.out] at h2
                have H2 := hid h2
                have C2 := lnext_any K t2 ga2 gr2 _ _ w12 OK12.out (by have := HPLK.out k; have := HPL0.out; omega) (HFITK.out k)
                rw [ahead_nx, HTN2.out] at C2
                have C2 := hid C2
                clear h2
                go_wp2_with fail
                refine C2.out.mono ?_
                rintro e w13 ⟨rfl, hf13, hon13⟩
                rw [show (lnext (anx (feedNx gg (n + 3))) K (lrun (anx (feedNx gg (n + 3))) K k s0 e0).1 (lrun (anx (feedNx gg (n + 3))) K k s0 e0).2).1.2 = true from H2.out.1, show (lnext (anx (feedNx gg (n + 3))) K (lrun (anx (feedNx gg (n + 3))) K k s0 e0).1 (lrun (anx (feedNx gg (n + 3))) K k s0 e0).2).1.1 = b from H2.out.2]
                have OK13 := hid (show LOn K t2 ga2 gr2 w13 (lrun (anx (feedNx gg (n + 3))) K (k + 1) s0 e0).1 (lrun (anx (feedNx gg (n + 3))) K (k + 1) s0 e0).2 from hon13)
                have F13 := hid (F12.out.then hf13 (fun i hi e => by have := HFK.out i e; omega))
                have ON13 := hid (ON12.out.keep hf13 (fun i hi e => by have := HFK.out i e; have := HFL.out i hi; omega))
                clear hf13 hon13 C2
                go_wp2_with fail
                go_roundw
                case rel => exact ⟨k + 1, by omega, by go_num, HKS'.out, ON13.out, OK13.out, F13.out⟩
                case measure => simp [intOf]; omega
            · have hlx : ¬ (k : Int) < x := by have := HXX.out; omega
              go_wp2_with fail
              go_ret
              exact ⟨rfl, HFR.out⟩
end Go.Proofs.Ytjnegcambbeblaa

/- LzmaUnpacks' walk. -/
namespace Go.Proofs.Ytjnegcambbeblaa
open Go.RowKit

/-- an operation whose value is known. -/
theorem upon_val {P : Program} {o : Oper} {a : Act} {next : Act → World → Prop} {Q : Exit → Act → World → Prop} {r : Result Next} (v : Value) {w' : World} (h : r = .ok (.value v) w') (hn : next (a.put o.dst v) w') : Oper.upon P o a next Q r := by
  rw [h]
  exact hn
theorem mem_now {m : MS} {n : Nat} (h : (m.mem n).1 = true) : (m.mem n).2.now = m.now + n := by
  unfold MS.mem at h ⊢
  split at h
  · cases h
  · rename_i h0
    rw [if_neg h0]
    split at h
    · cases h
    · rename_i h1
      rw [if_neg h1]
theorem lmet_now {p : Lset} {N : Nat} (h1 : (MUCH.mem p.need).1 = true) (h2 : ((MUCH.mem p.need).2.mem N).1 = true) : (lmet MUCH p N).now = 0 := by
  show ((MUCH.mem p.need).2.mem N).2.now - p.need - N = 0
  rw [mem_now h2, mem_now h1]
  show 0 + p.need + N - p.need - N = 0
  omega
/-- the ring that is taken does as well as one of the whole dictionary. -/
theorem lunpack_size {S : Type} (nx : S → Int × Bool × S) (s0 : S) (p : Lset) (x : Int) (size : Nat) (hx : x.toNat = size) (hd : 0 < p.dict) : lunpack nx s0 p (wsize (min p.dict x)) size = lunpack nx s0 p p.dict.toNat size := by
  by_cases h : p.dict ≤ x
  · have e : wsize (min p.dict x) = p.dict.toNat := by unfold wsize; omega
    rw [e]
  · exact lunpack_ring nx s0 p (by unfold wsize; omega) (by omega)
theorem lunpack_len {S : Type} {nx : S → Int × Bool × S} {s0 : S} {p : Lset} {N size : Nat} {xs : List Int} (h : lunpack nx s0 p N size = some xs) : xs.length = size := by
  unfold lunpack at h
  split at h
  · injection h with h
    rw [← h, lbytes_len]
  · cases h
set_option maxRecDepth 100000 in
set_option maxHeartbeats 800000 in
theorem lunpack_not (p : Lset) (hp : p.may = false) (x : Int) (a : Option Addr) (n c gm : Nat) (w : World) : Calls Try.prog 17 #[.slice a n c, p.val, .int .i64 x, .pointer (some ⟨gm, 0, none⟩)] w fun e w' => e = .returned (.tuple #[.slice none 0 0, .int .i64 11]) ∧ Fr Non w w' := by
  have HV := hid (show p.val = .agg #[.int .i64 p.lc, .int .i64 p.lp, .int .i64 p.pb, .int .i64 p.dict] from rfl)
  have HM := hid hp
  clear hp
  rw [HV.out]
  go_enter Try.func17, Try.ntmps17
  go_upto_region 1 with fail
  go_wp2_with (refine wpList_load_row rfl 23 _ rfl w.heap.size rfl 23 #[.int .i64 p.lc, .int .i64 p.lp, .int .i64 p.pb, .int .i64 p.dict] (0, 0) _ (by exact blk_new w _) Try.underlying23 rfl (by kernel_rfl) ?_)
  rw [← HV.out]
  refine (lnew_not p x _ _ HM.out).mono ?_
  rintro e w1 ⟨rfl, hf1⟩
  have F1 := hid (((Fr.refl Non w).alloc (.cells #[.int .i64 p.lc, .int .i64 p.lp, .int .i64 p.pb, .int .i64 p.dict] 23)).trans hf1)
  clear hf1
  go_wp2_with fail
  go_ret2
  exact ⟨rfl, F1.out⟩
set_option maxRecDepth 100000 in
set_option maxHeartbeats 800000 in
theorem kunpack_not (p : Lset) (hp : p.may = false) (x : Int) (a : Option Addr) (n c : Nat) (w : World) : Calls Try.prog 24 #[.slice a n c, p.val, .int .i64 x] w fun e w' => e = .returned (.tuple #[.slice none 0 0, .int .i64 11]) ∧ Fr Non w w' := by
  have HV := hid (show p.val = .agg #[.int .i64 p.lc, .int .i64 p.lp, .int .i64 p.pb, .int .i64 p.dict] from rfl)
  have HM := hid hp
  clear hp
  rw [HV.out]
  go_enter Try.func24, Try.ntmps24
  go_upto_region 1 with fail
  go_wp2_with (refine wpList_load_row rfl 23 _ rfl w.heap.size rfl 23 #[.int .i64 p.lc, .int .i64 p.lp, .int .i64 p.pb, .int .i64 p.dict] (0, 0) _ (by exact blk_new w _) Try.underlying23 rfl (by kernel_rfl) ?_)
  rw [← HV.out]
  refine (rmay_any p _).mono ?_
  rintro e w1 ⟨rfl, hf1⟩
  rw [HM.out]
  have F1 := hid (((Fr.refl Non w).alloc (.cells #[.int .i64 p.lc, .int .i64 p.lp, .int .i64 p.pb, .int .i64 p.dict] 23)).trans hf1)
  clear hf1
  go_wp2_with fail
  go_ret2
  exact ⟨rfl, F1.out⟩
set_option maxRecDepth 100000 in
set_option maxHeartbeats 1600000 in
theorem lzmaUnpacks_walk (a : Option Addr) (n cap : Nat) (f : Nat → Int) (p : Lset) (x : Int) (w : World) (hnc : n ≤ cap) (hcm : cap ≤ 9223372036854775807) (hnil : a = none → cap = 0) (hr : RowIn w.heap.size .u8 w a n f) (hf : ∀ i, i < n → 0 ≤ f i ∧ f i < 256) (hx : i64r x) :
    Calls Try.prog 5 #[.slice a n cap, p.val, .int .i64 x] w fun e w' => e = .returned (.bool true) ∧ Fr Non w w' := by
  have HV := hid (show p.val = .agg #[.int .i64 p.lc, .int .i64 p.lp, .int .i64 p.pb, .int .i64 p.dict] from rfl)
  rw [HV.out]
  have HR := hid hr
  have Hf := hid hf
  have HNIL := hid hnil
  have HNC := hid hnc
  have HX := hid hx
  have hn63 : (n : Int) ≤ 9223372036854775807 := by omega
  clear hr hf hnil hnc hcm hx
  go_enter Try.func5, Try.ntmps5
  go_wp2_with fail
  refine (awake08_any _).mono ?_
  rintro e w1 ⟨rfl, hf1⟩
  have hb1 := hf1.blk (blk_new w (.cells #[.int .i64 p.lc, .int .i64 p.lp, .int .i64 p.pb, .int .i64 p.dict] 23)) id
  have F1 := hid (((Fr.refl Non w).alloc _).trans hf1)
  have HB1 := hid hb1
  clear hf1 hb1
  by_cases hlong : 16384 < n
  · have hl : (16384 : Int) < (n : Int) := by omega
    clear hlong
    go_wp2_with fail
    go_ret
    exact ⟨rfl, F1.out⟩
  have hl : ¬ (16384 : Int) < (n : Int) := by omega
  have HN := hid (show n ≤ 16384 by omega)
  clear hlong
  by_cases hbig : 5000 < x
  · go_wp2_with fail
    go_ret
    exact ⟨rfl, F1.out⟩
  have HX5 := hid (show x ≤ 5000 by omega)
  have k0 := blk_cell HB1.out (j := 0) (v := .int .i64 p.lc) rfl
  have k1 := blk_cell HB1.out (j := 1) (v := .int .i64 p.lp) rfl
  have k2 := blk_cell HB1.out (j := 2) (v := .int .i64 p.pb) rfl
  have k3 := blk_cell HB1.out (j := 3) (v := .int .i64 p.dict) rfl
  go_wp2_with fail
  refine (show Calls Try.prog 15 #[.agg #[.int .i64 p.lc, .int .i64 p.lp, .int .i64 p.pb, .int .i64 p.dict]] _ _ from light_any p _).mono ?_
  rintro e w3 ⟨rfl, hf3⟩
  have F3 := hid (F1.out.trans hf3)
  have HB3 := hid (hf3.blk HB1.out id)
  obtain ⟨li, hli⟩ : ∃ li, li = (!p.may || decide (p.lc + p.lp ≤ 6)) := ⟨_, rfl⟩
  rw [← hli]
  have HLI := hid hli
  clear hli hf3 k0 k1 k2 k3 hn63
  cases li with
  | false =>
    go_wp2_with fail
    go_ret
    exact ⟨rfl, F3.out⟩
  | true =>
    go_wp2_with fail
    clear hbig hl
    refine (much_any _).mono ?_
    rintro e w4 ⟨gm, rfl, hgm, hfm, hmm⟩
    have F4 := hid (F3.out.trans hfm)
    have HB4 := hid (hfm.blk HB3.out id)
    have HM4 := hid hmm
    have HGM := hid (show w.heap.size < gm from Nat.lt_of_lt_of_le (blk_lt HB3.out) hgm)
    have H4 := hid ((HR.out.fr F4.out (fun _ _ => id)).mono F4.out.size)
    clear hfm hmm hgm
    go_wp2_with (at_builtin; refine opAppendRow (some 30) rfl rfl (.tmp 28) (.tmp 29) 30 rfl w4.heap.size .u8 5 1 Try.underlying30 Try.info_u8q (.slice (some ⟨w4.heap.size, 0, none⟩) 0 0) [] rfl (Own.empty w4 _ .u8 5 (Nat.le_refl _)) w4.heap.size a n cap f rfl HNIL.out HNC.out (H4.out.fr ((Fr.refl Non _).alloc _) (fun _ _ => id)) (by decide) (by have := HN.out; simp; omega) (by simp) ?_; intro v2 w5 hown2 hg2; have f5 : Fr Non w4 w5 := Fr.grown ((Fr.refl Non w4).alloc _) hg2 (fun k hk hlt => by simp [Value.ownBlock] at hk; omega); obtain ⟨ao, co, rfl, hlo, zo, ro, _⟩ := hown2.rowO; have e0 : ([] ++ (List.range n).map f).length = n := (by simp); rw [e0] at ro hlo ⊢; have F5 := hid (F4.out.trans f5); have HB5 := hid (f5.blk HB4.out id); have HM5 := hid (show MAt w5 gm MUCH from f5.blk HM4.out id); have O5 := hid (ro.ext (f' := f) (fun i hi => by simp [List.getD, hi])); have HZO := hid zo; have HLO := hid hlo; clear hown2 hg2 ro zo f5 e0 hlo; have k0 := blk_cell HB5.out (j := 0) (v := .int .i64 p.lc) rfl; have k1 := blk_cell HB5.out (j := 1) (v := .int .i64 p.lp) rfl; have k2 := blk_cell HB5.out (j := 2) (v := .int .i64 p.pb) rfl; have k3 := blk_cell HB5.out (j := 3) (v := .int .i64 p.dict) rfl)
    have H5 := hid ((HR.out.fr F5.out (fun _ _ => id)).mono F5.out.size)
    cases hmay : p.may with
    | false =>
      have HMY := hid hmay
      clear hmay
      refine (show Calls Try.prog 17 #[.slice ao n co, .agg #[.int .i64 p.lc, .int .i64 p.lp, .int .i64 p.pb, .int .i64 p.dict], .int .i64 x, .pointer (some ⟨gm, 0, none⟩)] _ _ from lunpack_not p HMY.out x ao n co gm _).mono ?_
      rintro e w6 ⟨rfl, hf6⟩
      have F6 := hid (F5.out.trans hf6)
      have HB6 := hid (hf6.blk HB5.out id)
      have HM6 := hid (show MAt w6 gm MUCH from hf6.blk HM5.out id)
      have f56 := hid hf6
      clear hf6 k0 k1 k2 k3
      have k0 := blk_cell HB6.out (j := 0) (v := .int .i64 p.lc) rfl
      have k1 := blk_cell HB6.out (j := 1) (v := .int .i64 p.lp) rfl
      have k2 := blk_cell HB6.out (j := 2) (v := .int .i64 p.pb) rfl
      have k3 := blk_cell HB6.out (j := 3) (v := .int .i64 p.dict) rfl
      go_wp2_with fail
      refine (show Calls Try.prog 24 #[.slice a n cap, .agg #[.int .i64 p.lc, .int .i64 p.lp, .int .i64 p.pb, .int .i64 p.dict], .int .i64 x] _ _ from kunpack_not p HMY.out x a n cap _).mono ?_
      rintro e w7 ⟨rfl, hf7⟩
      have f57 := hid (f56.out.trans hf7)
      have F7 := hid (F6.out.trans hf7)
      have HM7 := hid (show MAt w7 gm MUCH from hf7.blk HM6.out id)
      clear hf7 k0 k1 k2 k3
      go_wp2_with fail
      refine (bytes_yes none none 0 0 0 (fun _ => 0) (fun _ => 0) w7 (by decide) 0 (.inl rfl) (.inl rfl) (fun _ _ => rfl)).mono ?_
      rintro e w8 ⟨rfl, hf8⟩
      have f58 := hid (f57.out.trans hf8)
      have F8 := hid (F7.out.trans hf8)
      have HM8 := hid (show MAt w8 gm MUCH from hf8.blk HM7.out id)
      clear hf8
      go_wp2_with fail
      refine (bytes_yes ao a n co cap f f w8 (by have := HN.out; omega) w8.heap.size ((O5.out.fr f58.out (fun _ _ => id)).mono f58.out.size) ((H5.out.fr f58.out (fun _ _ => id)).mono f58.out.size) (fun _ _ => rfl)).mono ?_
      rintro e w9 ⟨rfl, hf9⟩
      have F9 := hid (F8.out.trans hf9)
      have HM9 := hid (show MAt w9 gm MUCH from hf9.blk HM8.out id)
      clear hf9
      go_wp2_with fail
      refine (used_m gm _ _ HM9.out).mono ?_
      rintro e w10 ⟨rfl, hf10⟩
      rw [show usedV MUCH = .agg #[.int .i64 0, .int .i64 0, .int .i64 0, .int .i64 0, .int .i64 0, .int .i64 0] from rfl]
      have F10 := hid (F9.out.trans hf10)
      clear hf10
      go_wp2_with fail
      refine upon_val (.int .i64 0) rfl ?_
      go_wp2_with fail
      go_ret
      exact ⟨rfl, F10.out⟩
    | true =>
      have HP := hid (show p.Light from ⟨Lset.may_iff.1 hmay, by have h := HLI.out; rw [hmay] at h; exact of_decide_eq_true h.symm⟩)
      obtain ⟨size, hsize⟩ : ∃ s, s = x.toNat := ⟨_, rfl⟩
      obtain ⟨N, hN⟩ : ∃ N, N = wsize (min p.dict x) := ⟨_, rfl⟩
      have hMM := much_mem (a := p.need) (b := N) HP.out.need_le (by have := HX5.out; rw [hN]; unfold wsize; omega)
      obtain ⟨R, hR⟩ : ∃ R, R = lunpack (feedNx f n) 0 p p.dict.toNat size := ⟨_, rfl⟩
      have hsame : lunpack (feedNx f n) 0 p N size = R := by rw [hR, hN]; exact lunpack_size _ _ p x size hsize.symm (by have := HP.out.may.d0; omega)
      have HU1 := hid (show Calls Try.prog 17 #[.slice ao n co, .agg #[.int .i64 p.lc, .int .i64 p.lp, .int .i64 p.pb, .int .i64 p.dict], .int .i64 x, .pointer (some ⟨gm, 0, none⟩)] w5 (LUnPost gm R (lmet MUCH p N) w5) by
        have := lunpack_any gm MUCH p x size hsize.symm ao n co f Hf.out w5 N hN HM5.out MUCH_ok HP.out HX5.out HX.out.1 (by have := HN.out; omega) HLO.out HZO.out O5.out hMM.1 hMM.2
        rw [hsame] at this
        exact this)
      have HU2 := hid (fun (W : World) (hW : Fr Non w W) => (show Calls Try.prog 24 #[.slice a n cap, .agg #[.int .i64 p.lc, .int .i64 p.lp, .int .i64 p.pb, .int .i64 p.dict], .int .i64 x] W (KUnPost R W) by
        rw [hR]
        exact kunpack_any p HP.out x size hsize.symm HX5.out a n cap f Hf.out W (by have := HN.out; omega) ((HR.out.fr hW (fun _ _ => id)).mono hW.size)))
      have HNOW := hid (lmet_now hMM.1 hMM.2)
      have HXS := hid (fun (xs : List Int) (h : R = some xs) => (show xs.length ≤ 5000 by
        rw [hR] at h
        have := lunpack_len h
        have := HX5.out
        omega))
      have hgm5 : gm < w5.heap.size := blk_lt HM5.out
      clear hmay hsize hN hMM hR hsame
      refine HU1.out.mono ?_
      rintro e w6 ⟨hf6, hm6, _, hq⟩
      have F6 := hid (F5.out.then hf6 (fun k hk e => by have e' : k = gm := e; have := HGM.out; omega))
      have HM6 := hid hm6
      have HF56 := hid hf6
      have HBX := hid (hf6.blk HB5.out (fun e => by have e' : w.heap.size = gm := e; have := HGM.out; omega))
      have HGW := hid hgm5
      clear hf6 hm6 k0 k1 k2 k3 hgm5
      have k0 := blk_cell HBX.out (j := 0) (v := .int .i64 p.lc) rfl
      have k1 := blk_cell HBX.out (j := 1) (v := .int .i64 p.lp) rfl
      have k2 := blk_cell HBX.out (j := 2) (v := .int .i64 p.pb) rfl
      have k3 := blk_cell HBX.out (j := 3) (v := .int .i64 p.dict) rfl
      have O6 := hid ((O5.out.meter HM5.out HF56.out).mono HF56.out.size)
      rcases hq with ⟨hRn, rfl⟩ | ⟨xs, v, hRs, rfl, hro⟩
      · have HRN := hid hRn
        clear hRn
        go_wp2_with fail
        refine (HU2.out _ F6.out).mono ?_
        rintro e w7 ⟨hf7, hq⟩
        rcases hq with ⟨_, rfl⟩ | ⟨xs, v, hRs, _⟩
        rotate_left
        · exact absurd (HRN.out.symm.trans hRs) (by intro h; cases h)
        have F7 := hid (F6.out.trans hf7)
        have HM7 := hid (show MAt w7 gm _ from hf7.blk HM6.out id)
        have O7 := hid ((O6.out.fr hf7 (fun _ _ => id)).mono hf7.size)
        have H7 := hid ((HR.out.fr F7.out (fun _ _ => id)).mono F7.out.size)
        clear hf7 k0 k1 k2 k3
        go_wp2_with fail
        refine (bytes_yes none none 0 0 0 (fun _ => 0) (fun _ => 0) w7 (by decide) 0 (.inl rfl) (.inl rfl) (fun _ _ => rfl)).mono ?_
        rintro e w8 ⟨rfl, hf8⟩
        have F8 := hid (F7.out.trans hf8)
        have HM8 := hid (show MAt w8 gm _ from hf8.blk HM7.out id)
        have O8 := hid ((O7.out.fr hf8 (fun _ _ => id)).mono hf8.size)
        have H8 := hid ((H7.out.fr hf8 (fun _ _ => id)).mono hf8.size)
        clear hf8
        go_wp2_with fail
        refine (bytes_yes ao a n co cap f f w8 (by have := HN.out; omega) w8.heap.size O8.out H8.out (fun _ _ => rfl)).mono ?_
        rintro e w9 ⟨rfl, hf9⟩
        have F9 := hid (F8.out.trans hf9)
        have HM9 := hid (show MAt w9 gm _ from hf9.blk HM8.out id)
        clear hf9
        go_wp2_with fail
        refine (used_m gm _ _ HM9.out).mono ?_
        rintro e w10 ⟨rfl, hf10⟩
        obtain ⟨pk, hu⟩ : ∃ pk : Int, usedV (lmet MUCH p N) = .agg #[.int .i64 0, .int .i64 pk, .int .i64 0, .int .i64 0, .int .i64 0, .int .i64 0] := ⟨((lmet MUCH p N).peak : Nat), by unfold usedV; rw [HNOW.out]; rfl⟩
        rw [hu]
        clear hu
        have F10 := hid (F9.out.trans hf10)
        clear hf10
        go_wp2_with fail
        refine upon_val (.int .i64 0) rfl ?_
        go_wp2_with fail
        go_ret
        exact ⟨rfl, F10.out⟩
      · have HRS := hid hRs
        obtain ⟨av, cv, rfl, _, _, rv, _⟩ := hro
        have HV6 := hid rv
        clear hRs rv
        go_wp2_with fail
        refine (HU2.out _ F6.out).mono ?_
        rintro e w7 ⟨hf7, hq⟩
        rcases hq with ⟨hRn, _⟩ | ⟨xs2, v2, hRs, rfl, hro2⟩
        · exact absurd (HRS.out.symm.trans hRn) (by intro h; cases h)
        have hx2 : xs2 = xs := by have h := HRS.out.symm.trans hRs; injection h with h; exact h.symm
        subst hx2
        obtain ⟨av2, cv2, rfl, _, _, rv2, _⟩ := hro2
        have HV8 := hid rv2
        have HV7 := hid ((HV6.out.fr hf7 (fun _ _ => id)).mono hf7.size)
        have HXL := hid (HXS.out xs2 HRS.out)
        have F7 := hid (F6.out.trans hf7)
        have HM7 := hid (show MAt w7 gm _ from hf7.blk HM6.out id)
        have O7 := hid ((O6.out.fr hf7 (fun _ _ => id)).mono hf7.size)
        have H7 := hid ((HR.out.fr F7.out (fun _ _ => id)).mono F7.out.size)
        clear hf7 k0 k1 k2 k3
        go_wp2_with fail
        refine (bytes_yes av av2 xs2.length cv cv2 (fun i => xs2.getD i 0) (fun i => xs2.getD i 0) w7 (by have := HXL.out; omega) w7.heap.size HV7.out HV8.out (fun _ _ => rfl)).mono ?_
        rintro e w8 ⟨rfl, hf8⟩
        have F8 := hid (F7.out.trans hf8)
        have HM8 := hid (show MAt w8 gm _ from hf8.blk HM7.out id)
        have O8 := hid ((O7.out.fr hf8 (fun _ _ => id)).mono hf8.size)
        have H8 := hid ((H7.out.fr hf8 (fun _ _ => id)).mono hf8.size)
        clear hf8
        go_wp2_with fail
        refine (bytes_yes ao a n co cap f f w8 (by have := HN.out; omega) w8.heap.size O8.out H8.out (fun _ _ => rfl)).mono ?_
        rintro e w9 ⟨rfl, hf9⟩
        have F9 := hid (F8.out.trans hf9)
        have HM9 := hid (show MAt w9 gm _ from hf9.blk HM8.out id)
        clear hf9
        go_wp2_with fail
        refine (used_m gm _ _ HM9.out).mono ?_
        rintro e w10 ⟨rfl, hf10⟩
        obtain ⟨pk, hu⟩ : ∃ pk : Int, usedV (lmet MUCH p N) = .agg #[.int .i64 0, .int .i64 pk, .int .i64 0, .int .i64 0, .int .i64 0, .int .i64 0] := ⟨((lmet MUCH p N).peak : Nat), by unfold usedV; rw [HNOW.out]; rfl⟩
        rw [hu]
        clear hu
        have F10 := hid (F9.out.trans hf10)
        clear hf10
        go_wp2_with fail
        refine upon_val (.int .i64 0) rfl ?_
        go_wp2_with fail
        go_ret
        exact ⟨rfl, F10.out⟩
end Go.Proofs.Ytjnegcambbeblaa
