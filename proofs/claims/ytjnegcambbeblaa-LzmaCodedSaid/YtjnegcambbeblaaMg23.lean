/- Texts of this proof, one behind the other. -/
import Derived.Test.YtjnegcambbeblaaMg22
import Derived.Test.YtjnegcambbeblaaMg14
import Derived.Test.YtjnegcambbeblaaMg20
import Derived.Test.YtjnegcambbeblaaMg03
import Derived.Test.YtjnegcambbeblaaMg10

/- LzmaUnpacks' walk. -/
namespace Go.Proofs.Ytjnegcambbeblaa
open Go.RowKit

/-- an operation whose value is known. -/
theorem upon_val {P : Program} {o : Oper} {a : Act} {next : Act → World → Prop} {Q : Exit → Act → World → Prop} {r : Result Next} (v : Value) {w' : World} (h : r = .ok (.value v) w') (hn : next (a.put o.dst v) w') : Oper.upon P o a next Q r := by
  rw [h]
  exact hn
theorem mem_now {m : MS} {n : Nat} (h : (m.mem n).1 = true) : (m.mem n).2.now = m.now + n := by
  unfold MS.mem at h ⊢
  split at h
  · cases h
  · rename_i h0
    rw [if_neg h0]
    split at h
    · cases h
    · rename_i h1
      rw [if_neg h1]
theorem lmet_now {p : Lset} {N : Nat} (h1 : (MUCH.mem p.need).1 = true) (h2 : ((MUCH.mem p.need).2.mem N).1 = true) : (lmet MUCH p N).now = 0 := by
  show ((MUCH.mem p.need).2.mem N).2.now - p.need - N = 0
  rw [mem_now h2, mem_now h1]
  show 0 + p.need + N - p.need - N = 0
  omega
/-- the ring that is taken does as well as one of the whole dictionary. -/
theorem lunpack_size {S : Type} (nx : S → Int × Bool × S) (s0 : S) (p : Lset) (x : Int) (size : Nat) (hx : x.toNat = size) (hd : 0 < p.dict) : lunpack nx s0 p (wsize (min p.dict x)) size = lunpack nx s0 p p.dict.toNat size := by
  by_cases h : p.dict ≤ x
  · have e : wsize (min p.dict x) = p.dict.toNat := by unfold wsize; omega
    rw [e]
  · exact lunpack_ring nx s0 p (by unfold wsize; omega) (by omega)
theorem lunpack_len {S : Type} {nx : S → Int × Bool × S} {s0 : S} {p : Lset} {N size : Nat} {xs : List Int} (h : lunpack nx s0 p N size = some xs) : xs.length = size := by
  unfold lunpack at h
  split at h
  · injection h with h
    rw [← h, lbytes_len]
  · cases h
set_option maxRecDepth 100000 in
set_option maxHeartbeats 800000 in
theorem lunpack_not (p : Lset) (hp : p.may = false) (x : Int) (a : Option Addr) (n c gm : Nat) (w : World) : Calls Try.prog 17 #[.slice a n c, p.val, .int .i64 x, .pointer (some ⟨gm, 0, none⟩)] w fun e w' => e = .returned (.tuple #[.slice none 0 0, .int .i64 11]) ∧ Fr Non w w' := by
  have HV := hid (show p.val = .agg #[.int .i64 p.lc, .int .i64 p.lp, .int .i64 p.pb, .int .i64 p.dict] from rfl)
  have HM := hid hp
  clear hp
  rw [HV.out]
  go_enter Try.func17, Try.ntmps17
  go_upto_region 1 with fail
  go_wp2_with (refine wpList_load_row rfl 23 _ rfl w.heap.size rfl 23 #[.int .i64 p.lc, .int .i64 p.lp, .int .i64 p.pb, .int .i64 p.dict] (0, 0) _ (by exact blk_new w _) Try.underlying23 rfl (by kernel_rfl) ?_)
  rw [← HV.out]
  refine (lnew_not p x _ _ HM.out).mono ?_
  rintro e w1 ⟨rfl, hf1⟩
  have F1 := hid (((Fr.refl Non w).alloc (.cells #[.int .i64 p.lc, .int .i64 p.lp, .int .i64 p.pb, .int .i64 p.dict] 23)).trans hf1)
  clear hf1
  go_wp2_with fail
  go_ret2
  exact ⟨rfl, F1.out⟩
set_option maxRecDepth 100000 in
set_option maxHeartbeats 800000 in
theorem kunpack_not (p : Lset) (hp : p.may = false) (x : Int) (a : Option Addr) (n c : Nat) (w : World) : Calls Try.prog 24 #[.slice a n c, p.val, .int .i64 x] w fun e w' => e = .returned (.tuple #[.slice none 0 0, .int .i64 11]) ∧ Fr Non w w' := by
  have HV := hid (show p.val = .agg #[.int .i64 p.lc, .int .i64 p.lp, .int .i64 p.pb, .int .i64 p.dict] from rfl)
  have HM := hid hp
  clear hp
  rw [HV.out]
  go_enter Try.func24, Try.ntmps24
  go_upto_region 1 with fail
  go_wp2_with (refine wpList_load_row rfl 23 _ rfl w.heap.size rfl 23 #[.int .i64 p.lc, .int .i64 p.lp, .int .i64 p.pb, .int .i64 p.dict] (0, 0) _ (by exact blk_new w _) Try.underlying23 rfl (by kernel_rfl) ?_)
  rw [← HV.out]
  refine (rmay_any p _).mono ?_
  rintro e w1 ⟨rfl, hf1⟩
  rw [HM.out]
  have F1 := hid (((Fr.refl Non w).alloc (.cells #[.int .i64 p.lc, .int .i64 p.lp, .int .i64 p.pb, .int .i64 p.dict] 23)).trans hf1)
  clear hf1
  go_wp2_with fail
  go_ret2
  exact ⟨rfl, F1.out⟩
set_option maxRecDepth 100000 in
set_option maxHeartbeats 1600000 in
theorem lzmaUnpacks_walk (a : Option Addr) (n cap : Nat) (f : Nat → Int) (p : Lset) (x : Int) (w : World) (hnc : n ≤ cap) (hcm : cap ≤ 9223372036854775807) (hnil : a = none → cap = 0) (hr : RowIn w.heap.size .u8 w a n f) (hf : ∀ i, i < n → 0 ≤ f i ∧ f i < 256) (hx : i64r x) :
    Calls Try.prog 5 #[.slice a n cap, p.val, .int .i64 x] w fun e w' => e = .returned (.bool true) ∧ Fr Non w w' := by
  have HV := hid (show p.val = .agg #[.int .i64 p.lc, .int .i64 p.lp, .int .i64 p.pb, .int .i64 p.dict] from rfl)
  rw [HV.out]
  have HR := hid hr
  have Hf := hid hf
  have HNIL := hid hnil
  have HNC := hid hnc
  have HX := hid hx
  have hn63 : (n : Int) ≤ 9223372036854775807 := by omega
  clear hr hf hnil hnc hcm hx
  go_enter Try.func5, Try.ntmps5
  go_wp2_with fail
  refine (awake08_any _).mono ?_
  rintro e w1 ⟨rfl, hf1⟩
  have hb1 := hf1.blk (blk_new w (.cells #[.int .i64 p.lc, .int .i64 p.lp, .int .i64 p.pb, .int .i64 p.dict] 23)) id
  have F1 := hid (((Fr.refl Non w).alloc _).trans hf1)
  have HB1 := hid hb1
  clear hf1 hb1
  by_cases hlong : 16384 < n
  · have hl : (16384 : Int) < (n : Int) := by omega
    clear hlong
    go_wp2_with fail
    go_ret
    exact ⟨rfl, F1.out⟩
  have hl : ¬ (16384 : Int) < (n : Int) := by omega
  have HN := hid (show n ≤ 16384 by omega)
  clear hlong
  by_cases hbig : 5000 < x
  · go_wp2_with fail
    go_ret
    exact ⟨rfl, F1.out⟩
  have HX5 := hid (show x ≤ 5000 by omega)
  have k0 := blk_cell HB1.out (j := 0) (v := .int .i64 p.lc) rfl
  have k1 := blk_cell HB1.out (j := 1) (v := .int .i64 p.lp) rfl
  have k2 := blk_cell HB1.out (j := 2) (v := .int .i64 p.pb) rfl
  have k3 := blk_cell HB1.out (j := 3) (v := .int .i64 p.dict) rfl
  go_wp2_with fail
  refine (show Calls Try.prog 15 #[.agg #[.int .i64 p.lc, .int .i64 p.lp, .int .i64 p.pb, .int .i64 p.dict]] _ _ from light_any p _).mono ?_
  rintro e w3 ⟨rfl, hf3⟩
  have F3 := hid (F1.out.trans hf3)
  have HB3 := hid (hf3.blk HB1.out id)
  obtain ⟨li, hli⟩ : ∃ li, li = (!p.may || decide (p.lc + p.lp ≤ 6)) := ⟨_, rfl⟩
  rw [← hli]
  have HLI := hid hli
  clear hli hf3 k0 k1 k2 k3 hn63
  cases li with
  | false =>
    go_wp2_with fail
    go_ret
    exact ⟨rfl, F3.out⟩
  | true =>
    go_wp2_with fail
    clear hbig hl
    refine (much_any _).mono ?_
    rintro e w4 ⟨gm, rfl, hgm, hfm, hmm⟩
    have F4 := hid (F3.out.trans hfm)
    have HB4 := hid (hfm.blk HB3.out id)
    have HM4 := hid hmm
    have HGM := hid (show w.heap.size < gm from Nat.lt_of_lt_of_le (blk_lt HB3.out) hgm)
    have H4 := hid ((HR.out.fr F4.out (fun _ _ => id)).mono F4.out.size)
    clear hfm hmm hgm
    go_wp2_with (at_builtin; refine opAppendRow (some 30) rfl rfl (.tmp 28) (.tmp 29) 30 rfl w4.heap.size .u8 5 1 Try.underlying30 Try.info_u8q (.slice (some ⟨w4.heap.size, 0, none⟩) 0 0) [] rfl (Own.empty w4 _ .u8 5 (Nat.le_refl _)) w4.heap.size a n cap f rfl HNIL.out HNC.out (H4.out.fr ((Fr.refl Non _).alloc _) (fun _ _ => id)) (by decide) (by have := HN.out; simp; omega) (by simp) ?_; intro v2 w5 hown2 hg2; have f5 : Fr Non w4 w5 := Fr.grown ((Fr.refl Non w4).alloc _) hg2 (fun k hk hlt => by simp [Value.ownBlock] at hk; omega); obtain ⟨ao, co, rfl, hlo, zo, ro, _⟩ := hown2.rowO; have e0 : ([] ++ (List.range n).map f).length = n := (by simp); rw [e0] at ro hlo ⊢; have F5 := hid (F4.out.trans f5); have HB5 := hid (f5.blk HB4.out id); have HM5 := hid (show MAt w5 gm MUCH from f5.blk HM4.out id); have O5 := hid (ro.ext (f' := f) (fun i hi => by simp [List.getD, hi])); have HZO := hid zo; have HLO := hid hlo; clear hown2 hg2 ro zo f5 e0 hlo; have k0 := blk_cell HB5.out (j := 0) (v := .int .i64 p.lc) rfl; have k1 := blk_cell HB5.out (j := 1) (v := .int .i64 p.lp) rfl; have k2 := blk_cell HB5.out (j := 2) (v := .int .i64 p.pb) rfl; have k3 := blk_cell HB5.out (j := 3) (v := .int .i64 p.dict) rfl)
    have H5 := hid ((HR.out.fr F5.out (fun _ _ => id)).mono F5.out.size)
    cases hmay : p.may with
    | false =>
      have HMY := hid hmay
      clear hmay
      refine (show Calls Try.prog 17 #[.slice ao n co, .agg #[.int .i64 p.lc, .int .i64 p.lp, .int .i64 p.pb, .int .i64 p.dict], .int .i64 x, .pointer (some ⟨gm, 0, none⟩)] _ _ from lunpack_not p HMY.out x ao n co gm _).mono ?_
      rintro e w6 ⟨rfl, hf6⟩
      have F6 := hid (F5.out.trans hf6)
      have HB6 := hid (hf6.blk HB5.out id)
      have HM6 := hid (show MAt w6 gm MUCH from hf6.blk HM5.out id)
      have f56 := hid hf6
      clear hf6 k0 k1 k2 k3
      have k0 := blk_cell HB6.out (j := 0) (v := .int .i64 p.lc) rfl
      have k1 := blk_cell HB6.out (j := 1) (v := .int .i64 p.lp) rfl
      have k2 := blk_cell HB6.out (j := 2) (v := .int .i64 p.pb) rfl
      have k3 := blk_cell HB6.out (j := 3) (v := .int .i64 p.dict) rfl
      go_wp2_with fail
      refine (show Calls Try.prog 24 #[.slice a n cap, .agg #[.int .i64 p.lc, .int .i64 p.lp, .int .i64 p.pb, .int .i64 p.dict], .int .i64 x] _ _ from kunpack_not p HMY.out x a n cap _).mono ?_
      rintro e w7 ⟨rfl, hf7⟩
      have f57 := hid (f56.out.trans hf7)
      have F7 := hid (F6.out.trans hf7)
      have HM7 := hid (show MAt w7 gm MUCH from hf7.blk HM6.out id)
      clear hf7 k0 k1 k2 k3
      go_wp2_with fail
      refine (bytes_yes none none 0 0 0 (fun _ => 0) (fun _ => 0) w7 (by decide) 0 (.inl rfl) (.inl rfl) (fun _ _ => rfl)).mono ?_
      rintro e w8 ⟨rfl, hf8⟩
      have f58 := hid (f57.out.trans hf8)
      have F8 := hid (F7.out.trans hf8)
      have HM8 := hid (show MAt w8 gm MUCH from hf8.blk HM7.out id)
      clear hf8
      go_wp2_with fail
      refine (bytes_yes ao a n co cap f f w8 (by have := HN.out; omega) w8.heap.size ((O5.out.fr f58.out (fun _ _ => id)).mono f58.out.size) ((H5.out.fr f58.out (fun _ _ => id)).mono f58.out.size) (fun _ _ => rfl)).mono ?_
      rintro e w9 ⟨rfl, hf9⟩
      have F9 := hid (F8.out.trans hf9)
      have HM9 := hid (show MAt w9 gm MUCH from hf9.blk HM8.out id)
      clear hf9
      go_wp2_with fail
      refine (used_m gm _ _ HM9.out).mono ?_
      rintro e w10 ⟨rfl, hf10⟩
      rw [show usedV MUCH = .agg #[.int .i64 0, .int .i64 0, .int .i64 0, .int .i64 0, .int .i64 0, .int .i64 0] from rfl]
      have F10 := hid (F9.out.trans hf10)
      clear hf10
      go_wp2_with fail
      refine upon_val (.int .i64 0) rfl ?_
      go_wp2_with fail
      go_ret
      exact ⟨rfl, F10.out⟩
    | true =>
      have HP := hid (show p.Light from ⟨Lset.may_iff.1 hmay, by have h := HLI.out; rw [hmay] at h; exact of_decide_eq_true h.symm⟩)
      obtain ⟨size, hsize⟩ : ∃ s, s = x.toNat := ⟨_, rfl⟩
      obtain ⟨N, hN⟩ : ∃ N, N = wsize (min p.dict x) := ⟨_, rfl⟩
      have hMM := much_mem (a := p.need) (b := N) HP.out.need_le (by have := HX5.out; rw [hN]; unfold wsize; omega)
      obtain ⟨R, hR⟩ : ∃ R, R = lunpack (feedNx f n) 0 p p.dict.toNat size := ⟨_, rfl⟩
      have hsame : lunpack (feedNx f n) 0 p N size = R := by rw [hR, hN]; exact lunpack_size _ _ p x size hsize.symm (by have := HP.out.may.d0; omega)
      have HU1 := hid (show Calls Try.prog 17 #[.slice ao n co, .agg #[.int .i64 p.lc, .int .i64 p.lp, .int .i64 p.pb, .int .i64 p.dict], .int .i64 x, .pointer (some ⟨gm, 0, none⟩)] w5 (LUnPost gm R (lmet MUCH p N) w5) by
        have := lunpack_any gm MUCH p x size hsize.symm ao n co f Hf.out w5 N hN HM5.out MUCH_ok HP.out HX5.out HX.out.1 (by have := HN.out; omega) HLO.out HZO.out O5.out hMM.1 hMM.2
        rw [hsame] at this
        exact this)
      have HU2 := hid (fun (W : World) (hW : Fr Non w W) => (show Calls Try.prog 24 #[.slice a n cap, .agg #[.int .i64 p.lc, .int .i64 p.lp, .int .i64 p.pb, .int .i64 p.dict], .int .i64 x] W (KUnPost R W) by
        rw [hR]
        exact kunpack_any p HP.out x size hsize.symm HX5.out a n cap f Hf.out W (by have := HN.out; omega) ((HR.out.fr hW (fun _ _ => id)).mono hW.size)))
      have HNOW := hid (lmet_now hMM.1 hMM.2)
      have HXS := hid (fun (xs : List Int) (h : R = some xs) => (show xs.length ≤ 5000 by
        rw [hR] at h
        have := lunpack_len h
        have := HX5.out
        omega))
      have hgm5 : gm < w5.heap.size := blk_lt HM5.out
      clear hmay hsize hN hMM hR hsame
      refine HU1.out.mono ?_
      rintro e w6 ⟨hf6, hm6, _, hq⟩
      have F6 := hid (F5.out.then hf6 (fun k hk e => by have e' : k = gm := e; have := HGM.out; omega))
      have HM6 := hid hm6
      have HF56 := hid hf6
      have HBX := hid (hf6.blk HB5.out (fun e => by have e' : w.heap.size = gm := e; have := HGM.out; omega))
      have HGW := hid hgm5
      clear hf6 hm6 k0 k1 k2 k3 hgm5
      have k0 := blk_cell HBX.out (j := 0) (v := .int .i64 p.lc) rfl
      have k1 := blk_cell HBX.out (j := 1) (v := .int .i64 p.lp) rfl
      have k2 := blk_cell HBX.out (j := 2) (v := .int .i64 p.pb) rfl
      have k3 := blk_cell HBX.out (j := 3) (v := .int .i64 p.dict) rfl
      have O6 := hid ((O5.out.meter HM5.out HF56.out).mono HF56.out.size)
      rcases hq with ⟨hRn, rfl⟩ | ⟨xs, v, hRs, rfl, hro⟩
      · have HRN := hid hRn
        clear hRn
        go_wp2_with fail
        refine (HU2.out _ F6.out).mono ?_
        rintro e w7 ⟨hf7, hq⟩
        rcases hq with ⟨_, rfl⟩ | ⟨xs, v, hRs, _⟩
        rotate_left
        · exact absurd (HRN.out.symm.trans hRs) (by intro h; cases h)
        have F7 := hid (F6.out.trans hf7)
        have HM7 := hid (show MAt w7 gm _ from hf7.blk HM6.out id)
        have O7 := hid ((O6.out.fr hf7 (fun _ _ => id)).mono hf7.size)
        have H7 := hid ((HR.out.fr F7.out (fun _ _ => id)).mono F7.out.size)
        clear hf7 k0 k1 k2 k3
        go_wp2_with fail
        refine (bytes_yes none none 0 0 0 (fun _ => 0) (fun _ => 0) w7 (by decide) 0 (.inl rfl) (.inl rfl) (fun _ _ => rfl)).mono ?_
        rintro e w8 ⟨rfl, hf8⟩
        have F8 := hid (F7.out.trans hf8)
        have HM8 := hid (show MAt w8 gm _ from hf8.blk HM7.out id)
        have O8 := hid ((O7.out.fr hf8 (fun _ _ => id)).mono hf8.size)
        have H8 := hid ((H7.out.fr hf8 (fun _ _ => id)).mono hf8.size)
        clear hf8
        go_wp2_with fail
        refine (bytes_yes ao a n co cap f f w8 (by have := HN.out; omega) w8.heap.size O8.out H8.out (fun _ _ => rfl)).mono ?_
        rintro e w9 ⟨rfl, hf9⟩
        have F9 := hid (F8.out.trans hf9)
        have HM9 := hid (show MAt w9 gm _ from hf9.blk HM8.out id)
        clear hf9
        go_wp2_with fail
        refine (used_m gm _ _ HM9.out).mono ?_
        rintro e w10 ⟨rfl, hf10⟩
        obtain ⟨pk, hu⟩ : ∃ pk : Int, usedV (lmet MUCH p N) = .agg #[.int .i64 0, .int .i64 pk, .int .i64 0, .int .i64 0, .int .i64 0, .int .i64 0] := ⟨((lmet MUCH p N).peak : Nat), by unfold usedV; rw [HNOW.out]; rfl⟩
        rw [hu]
        clear hu
        have F10 := hid (F9.out.trans hf10)
        clear hf10
        go_wp2_with fail
        refine upon_val (.int .i64 0) rfl ?_
        go_wp2_with fail
        go_ret
        exact ⟨rfl, F10.out⟩
      · have HRS := hid hRs
        obtain ⟨av, cv, rfl, _, _, rv, _⟩ := hro
        have HV6 := hid rv
        clear hRs rv
        go_wp2_with fail
        refine (HU2.out _ F6.out).mono ?_
        rintro e w7 ⟨hf7, hq⟩
        rcases hq with ⟨hRn, _⟩ | ⟨xs2, v2, hRs, rfl, hro2⟩
        · exact absurd (HRS.out.symm.trans hRn) (by intro h; cases h)
        have hx2 : xs2 = xs := by have h := HRS.out.symm.trans hRs; injection h with h; exact h.symm
        subst hx2
        obtain ⟨av2, cv2, rfl, _, _, rv2, _⟩ := hro2
        have HV8 := hid rv2
        have HV7 := hid ((HV6.out.fr hf7 (fun _ _ => id)).mono hf7.size)
        have HXL := hid (HXS.out xs2 HRS.out)
        have F7 := hid (F6.out.trans hf7)
        have HM7 := hid (show MAt w7 gm _ from hf7.blk HM6.out id)
        have O7 := hid ((O6.out.fr hf7 (fun _ _ => id)).mono hf7.size)
        have H7 := hid ((HR.out.fr F7.out (fun _ _ => id)).mono F7.out.size)
        clear hf7 k0 k1 k2 k3
        go_wp2_with fail
        refine (bytes_yes av av2 xs2.length cv cv2 (fun i => xs2.getD i 0) (fun i => xs2.getD i 0) w7 (by have := HXL.out; omega) w7.heap.size HV7.out HV8.out (fun _ _ => rfl)).mono ?_
        rintro e w8 ⟨rfl, hf8⟩
        have F8 := hid (F7.out.trans hf8)
        have HM8 := hid (show MAt w8 gm _ from hf8.blk HM7.out id)
        have O8 := hid ((O7.out.fr hf8 (fun _ _ => id)).mono hf8.size)
        have H8 := hid ((H7.out.fr hf8 (fun _ _ => id)).mono hf8.size)
        clear hf8
        go_wp2_with fail
        refine (bytes_yes ao a n co cap f f w8 (by have := HN.out; omega) w8.heap.size O8.out H8.out (fun _ _ => rfl)).mono ?_
        rintro e w9 ⟨rfl, hf9⟩
        have F9 := hid (F8.out.trans hf9)
        have HM9 := hid (show MAt w9 gm _ from hf9.blk HM8.out id)
        clear hf9
        go_wp2_with fail
        refine (used_m gm _ _ HM9.out).mono ?_
        rintro e w10 ⟨rfl, hf10⟩
        obtain ⟨pk, hu⟩ : ∃ pk : Int, usedV (lmet MUCH p N) = .agg #[.int .i64 0, .int .i64 pk, .int .i64 0, .int .i64 0, .int .i64 0, .int .i64 0] := ⟨((lmet MUCH p N).peak : Nat), by unfold usedV; rw [HNOW.out]; rfl⟩
        rw [hu]
        clear hu
        have F10 := hid (F9.out.trans hf10)
        clear hf10
        go_wp2_with fail
        refine upon_val (.int .i64 0) rfl ?_
        go_wp2_with fail
        go_ret
        exact ⟨rfl, F10.out⟩
end Go.Proofs.Ytjnegcambbeblaa

/- LzmaCoded, plain: what the program answers. -/
namespace Go.Proofs.Ytjnegcambbeblaa
open Go.RowKit

theorem str1_len {c : RC} {N : Nat} (h : c.Ok N) (b : Nat) : ((c.str1 b).rng * 2 ≤ c.rng ∧ (c.str1 b).len = c.len) ∨ ((c.str1 b).rng * 2 ≤ c.rng * 256 ∧ (c.str1 b).len = c.len + 1) := by
  unfold RC.str1
  obtain ⟨a, ha⟩ : ∃ a, a = (if b = 1 then c.rng / 2 else 0) := ⟨_, rfl⟩
  obtain ⟨r, hr⟩ : ∃ r, r = c.rng / 2 := ⟨_, rfl⟩
  rw [← ha, ← hr]
  have h0 := h.rng0
  have h1 := h.rng1
  by_cases hlt : r < 16777216
  · have e : c.part a r = (⟨c.low + a, r * 256, c.waits, c.more, c.out⟩ : RC).give := by
      show RC.lev 3 ⟨c.low + a, r, c.waits, c.more, c.out⟩ = _
      have e1 : RC.lev 3 ⟨c.low + a, r, c.waits, c.more, c.out⟩ = RC.lev 2 (⟨c.low + a, r * 256, c.waits, c.more, c.out⟩ : RC).give := if_pos hlt
      rw [e1]
      exact lev_stop 2 _ (by rw [give_rng]; show 16777216 ≤ r * 256; omega)
    right
    rw [e, give_rng, give_len]
    refine ⟨by show r * 256 * 2 ≤ c.rng * 256; omega, rfl⟩
  · have e : c.part a r = ⟨c.low + a, r, c.waits, c.more, c.out⟩ := lev_stop 3 _ (by show 16777216 ≤ r; omega)
    left
    rw [e]
    exact ⟨by show r * 2 ≤ c.rng; omega, rfl⟩
theorem strGo_len : ∀ (k : Nat) (c : RC) (v N : Nat), c.Ok N → c.bytes → ∃ j, (RC.strGo k c v).len = c.len + j ∧ (RC.strGo k c v).rng * 2 ^ k ≤ c.rng * 256 ^ j
  | 0, c, v, N, _, _ => ⟨0, rfl, by simp [RC.strGo]⟩
  | k + 1, c, v, N, h, hb => by
    have h1 := strGo_keep 1 c (v / 2 ^ k) N h hb
    have e1 : RC.strGo 1 c (v / 2 ^ k) = c.str1 (v / 2 ^ k % 2) := by
      show RC.strGo 0 (c.str1 (v / 2 ^ k / 2 ^ 0 % 2)) (v / 2 ^ k) = _
      simp [RC.strGo]
    rw [e1] at h1
    obtain ⟨h2, m, h3⟩ := h1
    obtain ⟨j, g1, g2⟩ := strGo_len k (c.str1 (v / 2 ^ k % 2)) v _ h2 (h3.bytes hb)
    have hp : (0 : Int) < 256 ^ j := Int.pow_pos (by decide)
    show ∃ j, (RC.strGo k (c.str1 (v / 2 ^ k % 2)) v).len = c.len + j ∧ (RC.strGo k (c.str1 (v / 2 ^ k % 2)) v).rng * 2 ^ (k + 1) ≤ c.rng * 256 ^ j
    rw [Int.pow_succ, ← Int.mul_assoc]
    rcases str1_len h (v / 2 ^ k % 2) with ⟨q1, q2⟩ | ⟨q1, q2⟩
    · refine ⟨j, by rw [g1, q2], ?_⟩
      have := Int.mul_le_mul_of_nonneg_right q1 (Int.le_of_lt hp)
      have e : (c.str1 (v / 2 ^ k % 2)).rng * 2 * 256 ^ j = (c.str1 (v / 2 ^ k % 2)).rng * 256 ^ j * 2 := by rw [Int.mul_assoc, Int.mul_comm 2, ← Int.mul_assoc]
      omega
    · refine ⟨j + 1, by rw [g1, q2]; omega, ?_⟩
      have := Int.mul_le_mul_of_nonneg_right q1 (Int.le_of_lt hp)
      have e : (c.str1 (v / 2 ^ k % 2)).rng * 2 * 256 ^ j = (c.str1 (v / 2 ^ k % 2)).rng * 256 ^ j * 2 := by rw [Int.mul_assoc, Int.mul_comm 2, ← Int.mul_assoc]
      have e2 : c.rng * 256 ^ (j + 1) = c.rng * 256 * 256 ^ j := by rw [Int.pow_succ, Int.mul_comm ((256 : Int) ^ j), ← Int.mul_assoc]
      omega
theorem str26_len {c : RC} {v N : Nat} (h : c.Ok N) (hb : c.bytes) : c.len + 3 ≤ (RC.strGo 26 c v).len := by
  obtain ⟨j, g1, g2⟩ := strGo_len 26 c v N h hb
  have h1 := (strGo_keep 26 c v N h hb).1.rng0
  have h2 := h.rng1
  have hj : ¬ j < 3 := by
    intro hj
    have e26 : (2 : Int) ^ 26 = 67108864 := by decide
    rw [e26] at g2
    have hj3 : j = 0 ∨ j = 1 ∨ j = 2 := by omega
    rcases hj3 with rfl | rfl | rfl
    · rw [show (256 : Int) ^ 0 = 1 by decide] at g2; omega
    · rw [show (256 : Int) ^ 1 = 256 by decide] at g2; omega
    · rw [show (256 : Int) ^ 2 = 65536 by decide] at g2; omega
  omega
section
variable {most : Nat} (lo ge : Nat)
/-- the end mark takes three bytes at least. -/
theorem end_len {x : LS × RC} (h : CSt most x) {p : PkV} (h7 : p.kind = 7) : x.2.len + 3 ≤ (kpacket (cdrE lo ge) x.1 x.2 p).2.1.len := by
  obtain ⟨N, hN⟩ := h.ok
  have hE := cdrE_echo lo ge
  obtain ⟨sp, hsp⟩ : ∃ sp, sp = x.1.H.length % 2 ^ x.1.pb := ⟨_, rfl⟩
  have hkk := kkind_echo hE x.1 x.2 sp p.kind (by omega) (by omega) (fun _ h6 => absurd h6 (by omega))
  have hk := (step_kind lo ge none 0 0 0 told_any x.1 sp p.kind p.kind).keep x.1.P x.2 N h.allP hN h.by_
  obtain ⟨R, hR⟩ : ∃ R, R = kkind (cdrE lo ge) x.1 x.2 sp p.kind := ⟨_, rfl⟩
  have hk' : AllP R.2.1 ∧ (∃ M, R.2.2.Ok M) ∧ R.2.2.bytes ∧ ∃ k, Reach x.2 R.2.2 k := by rw [hR]; exact hk
  rw [← hR] at hkk
  obtain ⟨a1, ⟨M1, a2⟩, a3, k1, a4⟩ := hk'
  have hlk := (step_len lo ge none 0 0 0 told_any 819 sp 0 0).keep R.2.1 R.2.2 M1 a1 a2 a3
  obtain ⟨L, hL⟩ : ∃ L, L = klen (cdrE lo ge) R.2.1 R.2.2 819 sp 0 := ⟨_, rfl⟩
  have hlk' : AllP L.2.1 ∧ (∃ M, L.2.2.Ok M) ∧ L.2.2.bytes ∧ ∃ k, Reach R.2.2 L.2.2 k := by rw [hL]; exact hlk
  obtain ⟨b1, ⟨M2, b2⟩, b3, k2, b4⟩ := hlk'
  have htk := (step_tree lo ge none 0 0 0 told_any (432 + 64 * min L.1 3) 6 ((slotL 4294967295 : Nat) : Int) 0).keep L.2.1 L.2.2 M2 b1 b2 b3
  have hte := ktree_echo hE.bit L.2.1 L.2.2 (432 + 64 * min L.1 3) 6 (slotL 4294967295) (slotL_lt (by decide))
  obtain ⟨T, hT⟩ : ∃ T, T = ktree (cdrE lo ge) L.2.1 L.2.2 (432 + 64 * min L.1 3) 6 ((slotL 4294967295 : Nat) : Int) := ⟨_, rfl⟩
  rw [← hT] at hte
  have htk' : AllP T.2.1 ∧ (∃ M, T.2.2.Ok M) ∧ T.2.2.bytes ∧ ∃ k, Reach L.2.2 T.2.2 k := by rw [hT]; exact htk
  obtain ⟨c1, ⟨M3, c2⟩, c3, k3, c4⟩ := htk'
  have hs63 : slotL 4294967295 = 63 := by decide
  rw [hs63] at hte
  obtain ⟨v, hv⟩ : ∃ v, v = (restOf 4294967295 63).toNat := ⟨_, rfl⟩
  obtain ⟨S, hS⟩ : ∃ S, S = RC.strGo 26 T.2.2 v := ⟨_, rfl⟩
  have hsk := strGo_keep 26 T.2.2 v M3 c2 c3
  have hsl := str26_len (v := v) c2 c3
  rw [← hS] at hsk hsl
  obtain ⟨d2, k4, d4⟩ := hsk
  have hvk := (step_rev lo ge none 0 0 0 told_any 803 4 ((4294967295 % 16 : Nat) : Int) 0).keep T.2.1 S _ c1 d2 (d4.bytes c3)
  obtain ⟨V, hV⟩ : ∃ V, V = krev (cdrE lo ge) T.2.1 S 803 4 ((4294967295 % 16 : Nat) : Int) := ⟨_, rfl⟩
  have hvk' : ∃ k, Reach S V.2.2 k := by rw [hV]; exact hvk.2.2.2
  obtain ⟨k5, e4⟩ := hvk'
  have hfin : (kpacket (cdrE lo ge) x.1 x.2 p).2.1 = V.2.2 := by
    have e0 : (kpacket (cdrE lo ge) x.1 x.2 p).2.1 = (pk2F (cdrE lo ge) { x.1 with bad := x.1.bad || R.1.2 } sp p R.1.1 R.2.1 R.2.2).2.2 := by rw [hR, hsp]; rfl
    rw [e0, hkk, if_pos h7]
    dsimp only
    rw [pk2_far (cdrE lo ge) _ sp p R.2.1 R.2.2 L (by rw [if_pos h7]; exact hL) _ rfl, if_pos h7]
    dsimp only
    unfold kdist
    rw [← hT]
    unfold kdist2
    rw [hte, if_neg (by decide), if_neg (by decide)]
    unfold kdist3
    have e26 : slotN 63 - 4 = 26 := by decide
    rw [e26, hV, hS, hv]
    generalize restOf 4294967295 63 = rv
    generalize ((4294967295 % 16 : Nat) : Int) = u
    have ens : (cdrE lo ge).ns T.2.2 26 rv = (rv.toNat, RC.strGo 26 T.2.2 rv.toNat) := rfl
    rw [ens]
  rw [hfin]
  have := a4.len
  have := b4.len
  have := c4.len
  have := e4.len
  omega
end
theorem kleft_sync {f : Nat → Int} {n : Nat} {C : RC} {d : RD Nat} (hT : Told f n C) (hs : Sync f C d) (m : Nat) : kleft m d = decide (C.len = m) := by
  unfold kleft
  rw [hs.bad, hs.src, show d.code = 0 by rw [hs.code, hT.val]; omega]
  simp
theorem kleft_src {m : Nat} {d : RD Nat} (h : kleft m d = true) : d.src = m := by
  unfold kleft at h
  simp at h
  exact h.2.2
/-- a decoder whose number is 0 tells a literal. -/
theorem kpacket_zero (a : Option Addr) (n cap : Nat) (f : Nat → Int) (lo gd : Nat) (s : LS) (d : RD Nat) (p : PkV) (hP : AllP s.P) (hb : d.bad = false) (hc : d.code = 0) (hr : 16777216 ≤ d.rng) : (kpacket (cdrD a n cap f lo gd) s d p).1.ended = s.ended := by
  obtain ⟨sp, hsp⟩ : ∃ sp, sp = s.H.length % 2 ^ s.pb := ⟨_, rfl⟩
  have hk : (kkind (cdrD a n cap f lo gd) s d sp p.kind).1 = (0, false) := by
    have hp := hP (16 * s.st + sp)
    have e : (kbit (cdrD a n cap f lo gd) s.P d (16 * s.st + sp) (min p.kind 1)).1 = 0 := by
      show (d.bit (feedNx f n) (s.P (16 * s.st + sp))).1 = 0
      unfold RD.bit
      rw [if_neg (by rw [hb]; decide), if_pos]
      rw [hc]
      have : 8192 ≤ d.rng / 2048 := by omega
      have h2 := Int.mul_le_mul this hp.1 (by decide) (by omega)
      omega
    unfold kkind kkind0
    rw [if_pos e]
  have e0 : kpacket (cdrD a n cap f lo gd) s d p = kpacket2 (cdrD a n cap f lo gd) { s with P := (kkind (cdrD a n cap f lo gd) s d sp p.kind).2.1, bad := s.bad || (kkind (cdrD a n cap f lo gd) s d sp p.kind).1.2 } (kkind (cdrD a n cap f lo gd) s d sp p.kind).2.2 sp p (kkind (cdrD a n cap f lo gd) s d sp p.kind).1.1 := by rw [hsp]; rfl
  rw [e0, hk]
  exact kpacket2_ended (cdrD a n cap f lo gd) _ _ sp p 0 (by decide)
section
variable (lo ge : Nat) (p : Lset) {t : LS → PkV → Bool}
theorem start_st : CSt 0 (bare (lstart p), RC.new) := ⟨fun _ => ⟨by show (31 : Int) ≤ 1024; decide, by show (1024 : Int) ≤ 2017; decide⟩, ⟨0, new_ok 0⟩, new_bytes, rfl, rfl, Nat.le_refl _⟩
/-- the program's answer is the document's walk over its decoder. -/
theorem ans_fin (hd : 0 < p.dict.toNat) (n : Nat) (f : Nat → Int) (size : Nat) : lunpack (feedNx f n) 0 p p.dict.toNat size = kfin none n 0 f 0 0 ⟨0, 0, 0, 0⟩ (kgo (cdrD none n 0 f 0 0) ⟨0, 0, 0, 0⟩ size size (bare (lstart p)) (RD.new (feedNx f n) 0)) := by
  rw [← kunp_fin, kunp_is _ _ _ _ _ _ _ _ _ hd]
/-- fewer bytes: they decode to where more would have come to. -/
theorem ans_fewer (m n : Nat) (hmn : m ≤ n) (f : Nat → Int) (size : Nat) (p0 : PkV) (h : kfin none m 0 f 0 0 p0 (kgo (cdrD none m 0 f 0 0) p0 size size (bare (lstart p)) (RD.new (feedNx f m) 0)) ≠ none) :
    ∃ x, kgo (cdrD none n 0 f 0 0) p0 size size (bare (lstart p)) (RD.new (feedNx f n) 0) = some x ∧ x.2.src ≤ m ∧ (x.2.src = m ∨ ((kpacket (cdrD none n 0 f 0 0) x.1 x.2 p0).2.1.src = m)) := by
  cases hg : kgo (cdrD none m 0 f 0 0) p0 size size (bare (lstart p)) (RD.new (feedNx f m) 0) with
  | none => rw [hg] at h; exact absurd rfl h
  | some x =>
    rw [hg] at h
    have hfr := fr_kpacket none 0 0 0 (fb := f) hmn x.1 x.2 p0 p0
    have hway : x.2.bad = false ∧ (x.2.src = m ∨ (kpacket (cdrD none n 0 f 0 0) x.1 x.2 p0).2.1.src = m) := by
      unfold kfin at h
      dsimp only at h
      by_cases h1 : kleft m x.2 = true
      · exact ⟨kleft_good h1, .inl (kleft_src h1)⟩
      · rw [if_neg h1] at h
        by_cases h2 : ((kpacket (cdrD none m 0 f 0 0) x.1 x.2 p0).1.ended && !(kpacket (cdrD none m 0 f 0 0) x.1 x.2 p0).1.bad && decide ((kpacket (cdrD none m 0 f 0 0) x.1 x.2 p0).1.H.length = x.1.H.length) && kleft m (kpacket (cdrD none m 0 f 0 0) x.1 x.2 p0).2.1) = true
        · rw [Bool.and_eq_true] at h2
          have hb := kleft_good h2.2
          refine ⟨?_, .inr ?_⟩
          · cases q : x.2.bad with
            | false => rfl
            | true => rw [hfr.1 q] at hb; cases hb
          · rw [(hfr.2.1 hb).2]
            exact kleft_src h2.2
        · rw [if_neg h2] at h; exact absurd rfl h
    obtain ⟨g1, g2, g3⟩ := kgo_front none 0 0 0 (fb := f) hmn p0 size size _ _ x hg hway.1 new_below
    have hnew : RD.new (feedNx f n) 0 = RD.new (feedNx f m) 0 := sim_eq (new_sim (feed_sim (fb := f) hmn) (a := 0) (b := 0) rfl g1)
    exact ⟨x, by rw [hnew]; exact g2, g3, hway.2⟩
theorem len_pos (c : RC) : 5 ≤ c.len := by unfold RC.len; omega
/-- packets without the end mark. -/
theorem ans_plain (hd : 0 < p.dict.toNat) (ht : LetIn t) {l : List PkV} (hm : 273 * l.length ≤ 4294967295) (hl : ∀ q ∈ l, PkFine q ∧ q.kind ≠ 7) {y : LS × RC} (hy : y = kcode (cdrE lo ge) t l (bare (lstart p), RC.new)) (f : Nat → Int) (n : Nat) (hf : ∀ i, i < n → 0 ≤ f i ∧ f i < 256) (ho : ∀ i, i < y.2.len → f i = (y.2.gives 5).out.getD i 0) :
    (n = y.2.len → lunpack (feedNx f n) 0 p p.dict.toNat y.1.H.length = some y.1.H) ∧ (n = y.2.len + 1 → lunpack (feedNx f n) 0 p p.dict.toNat y.1.H.length = none) ∧ (n = y.2.len → lunpack (feedNx f (n - 1)) 0 p p.dict.toNat y.1.H.length = none) := by
  obtain ⟨hst, ⟨j, hre⟩, hgrow⟩ := kcode_st lo ge ht l 0 _ (by omega) (start_st p) hl
  rw [← hy] at hst hre hgrow
  obtain ⟨N, hN⟩ := hst.ok
  have main : y.2.len ≤ n → Told f n y.2 ∧ ∃ d', kgo (cdrD none n 0 f 0 0) ⟨0, 0, 0, 0⟩ y.1.H.length y.1.H.length (bare (lstart p)) (RD.new (feedNx f n) 0) = some (y.1, d') ∧ Sync f y.2 d' := by
    intro hn
    have hT : Told f n y.2 := told_rc hN hst.by_ hn hf ho
    refine ⟨hT, ?_⟩
    have h := kcode_dec lo ge none 0 0 0 hT ht ⟨0, 0, 0, 0⟩ y.1.H.length l 0 (bare (lstart p), RC.new) (RD.new (feedNx f n) 0) y.1.H.length (by omega) (start_st p) hl (sync_new hT hre) ⟨0, by rw [← hy]; exact Reach.refl _⟩ (by rw [← hy]) (Nat.sub_le _ _)
    rw [← hy] at h
    exact h
  refine ⟨fun hn => ?_, fun hn => ?_, fun hn => ?_⟩
  · obtain ⟨hT, d', h1, h2⟩ := main (by omega)
    rw [ans_fin p hd, h1]
    unfold kfin
    dsimp only
    rw [kleft_sync hT h2, if_pos (decide_eq_true hn.symm)]
  · obtain ⟨hT, d', h1, h2⟩ := main (by omega)
    rw [ans_fin p hd, h1]
    unfold kfin
    dsimp only
    rw [kleft_sync hT h2, if_neg (by rw [decide_eq_false (by omega)]; decide), kpacket_zero none n 0 f 0 0 y.1 d' _ hst.allP h2.bad (by rw [h2.code, hT.val]; omega) (by rw [h2.rng]; exact hN.rng0), hst.ended]
    rfl
  · obtain ⟨hT, d', h1, h2⟩ := main (by omega)
    rw [ans_fin p hd]
    have h5 := len_pos y.2
    cases hq : kfin none (n - 1) 0 f 0 0 ⟨0, 0, 0, 0⟩ (kgo (cdrD none (n - 1) 0 f 0 0) ⟨0, 0, 0, 0⟩ y.1.H.length y.1.H.length (bare (lstart p)) (RD.new (feedNx f (n - 1)) 0)) with
    | none => rfl
    | some xs =>
      obtain ⟨x, g1, g2, _⟩ := ans_fewer p (n - 1) n (by omega) f y.1.H.length ⟨0, 0, 0, 0⟩ (by rw [hq]; exact fun e => by cases e)
      rw [h1] at g1
      injection g1 with g1
      rw [← g1] at g2
      have := h2.src
      dsimp only at g2
      omega
/-- and with it. -/
theorem ans_end (hd : 0 < p.dict.toNat) (ht : LetIn t) {l : List PkV} (hm : 273 * l.length ≤ 4294967295) (hl : ∀ q ∈ l, PkFine q ∧ q.kind ≠ 7) {y : LS × RC} (hy : y = kcode (cdrE lo ge) t l (bare (lstart p), RC.new)) {pe : PkV} (hpe : PkFine pe) (h7 : pe.kind = 7) {z : LS × RC} (hz : z = ((kpacket (cdrE lo ge) y.1 y.2 pe).1, (kpacket (cdrE lo ge) y.1 y.2 pe).2.1)) (f : Nat → Int) (n : Nat) (hf : ∀ i, i < n → 0 ≤ f i ∧ f i < 256) (ho : ∀ i, i < z.2.len → f i = (z.2.gives 5).out.getD i 0) :
    z.1.H = y.1.H ∧ (n = z.2.len → lunpack (feedNx f n) 0 p p.dict.toNat z.1.H.length = some z.1.H) ∧ (n = z.2.len + 1 → lunpack (feedNx f n) 0 p p.dict.toNat z.1.H.length = none) ∧ (n = z.2.len → lunpack (feedNx f (n - 1)) 0 p p.dict.toNat z.1.H.length = none) := by
  obtain ⟨hst, ⟨j, hre⟩, hgrow⟩ := kcode_st lo ge ht l 0 _ (by omega) (start_st p) hl
  rw [← hy] at hst hre hgrow
  obtain ⟨q1, ⟨M, q2⟩, q3, k, q4⟩ := kpacket_keep lo ge hst hpe
  have hw := kpacket_whole (cdrE_echo lo ge) y.1 y.2 pe hst.bad hst.ended (by omega) (by omega) (by unfold kfit; rw [if_neg (by rw [hst.ended]; decide), if_pos (.inr h7)]) (Nat.le_trans hst.few (by omega))
  have hlen := end_len lo ge hst h7
  have ez1 : z.1 = (kpacket (cdrE lo ge) y.1 y.2 pe).1 := by rw [hz]
  have ez2 : z.2 = (kpacket (cdrE lo ge) y.1 y.2 pe).2.1 := by rw [hz]
  have hH : z.1.H = y.1.H := by rw [ez1]; exact hw.last h7
  rw [← ez2] at q2 q3 q4 hlen
  have main : z.2.len ≤ n → Told f n z.2 ∧ ∃ d', kgo (cdrD none n 0 f 0 0) ⟨0, 0, 0, 0⟩ y.1.H.length y.1.H.length (bare (lstart p)) (RD.new (feedNx f n) 0) = some (y.1, d') ∧ Sync f y.2 d' ∧ (kpacket (cdrD none n 0 f 0 0) y.1 d' ⟨0, 0, 0, 0⟩).1 = z.1 ∧ Sync f z.2 (kpacket (cdrD none n 0 f 0 0) y.1 d' ⟨0, 0, 0, 0⟩).2.1 := by
    intro hn
    have hT : Told f n z.2 := told_rc q2 q3 hn hf ho
    refine ⟨hT, ?_⟩
    have h := kcode_dec lo ge none 0 0 0 hT ht ⟨0, 0, 0, 0⟩ y.1.H.length l 0 (bare (lstart p), RC.new) (RD.new (feedNx f n) 0) y.1.H.length (by omega) (start_st p) hl (sync_new hT (hre.trans q4)) ⟨k, by rw [← hy]; exact q4⟩ (by rw [← hy]) (Nat.sub_le _ _)
    rw [← hy] at h
    obtain ⟨d', h1, h2⟩ := h
    have h3 := kpacket_dec lo ge none 0 0 0 hT hst hpe ⟨0, 0, 0, 0⟩ h2 ⟨0, by rw [← ez2]; exact Reach.refl _⟩
    rw [← ez1, ← ez2] at h3
    exact ⟨d', h1, h2, h3.1, h3.2⟩
  have hl1 : z.1.H.length = y.1.H.length := by rw [hH]
  rw [hl1]
  refine ⟨hH, fun hn => ?_, fun hn => ?_, fun hn => ?_⟩
  · obtain ⟨hT, d', h1, h2, h3, h4⟩ := main (by omega)
    rw [ans_fin p hd, h1]
    unfold kfin
    dsimp only
    have hnl : ¬ kleft n d' = true := fun e => by have := kleft_src e; have := h2.src; omega
    rw [if_neg hnl, h3, kleft_sync hT h4, if_pos]
    rw [ez1, hw.ended, hw.bad, ← ez1, hl1, decide_eq_true h7, decide_eq_true hn.symm]
    simp
  · obtain ⟨hT, d', h1, h2, h3, h4⟩ := main (by omega)
    rw [ans_fin p hd, h1]
    unfold kfin
    dsimp only
    have hnl : ¬ kleft n d' = true := fun e => by have := kleft_src e; have := h2.src; omega
    rw [if_neg hnl, kleft_sync hT h4, if_neg]
    rw [decide_eq_false (show ¬ z.2.len = n by omega)]
    simp
  · obtain ⟨hT, d', h1, h2, h3, h4⟩ := main (by omega)
    rw [ans_fin p hd]
    cases hq : kfin none (n - 1) 0 f 0 0 ⟨0, 0, 0, 0⟩ (kgo (cdrD none (n - 1) 0 f 0 0) ⟨0, 0, 0, 0⟩ y.1.H.length y.1.H.length (bare (lstart p)) (RD.new (feedNx f (n - 1)) 0)) with
    | none => rfl
    | some xs =>
      obtain ⟨x, g1, g2, g3⟩ := ans_fewer p (n - 1) n (by omega) f y.1.H.length ⟨0, 0, 0, 0⟩ (by rw [hq]; exact fun e => by cases e)
      rw [h1] at g1
      injection g1 with g1
      rw [← g1] at g3
      have e2 := h2.src
      have e4 := h4.src
      dsimp only at g3
      omega
end
end Go.Proofs.Ytjnegcambbeblaa

/- LzmaCoded, plain: what a list of packets, coded, is unpacked to. -/
namespace Go.Proofs.Ytjnegcambbeblaa
open Go.RowKit

/-- what the program tells of a coded stream, of one byte more, and of one fewer. -/
def Coded (p : Lset) (y : LS × RC) : Prop := ∀ (f : Nat → Int) (n : Nat), (∀ i, i < n → 0 ≤ f i ∧ f i < 256) → (∀ i, i < y.2.len → f i = (y.2.gives 5).out.getD i 0) →
  (n = y.2.len → lunpack (feedNx f n) 0 p p.dict.toNat y.1.H.length = some y.1.H) ∧ (n = y.2.len + 1 → lunpack (feedNx f n) 0 p p.dict.toNat y.1.H.length = none) ∧ (n = y.2.len → lunpack (feedNx f (n - 1)) 0 p p.dict.toNat y.1.H.length = none)
structure CodedOk (p : Lset) (y : LS × RC) : Prop where
  is_ : Coded p y
  ok : ∃ N, y.2.Ok N
  by_ : y.2.bytes
def pend : PkV := ⟨7, 0, 0, 0⟩
theorem coded_all (lo ge : Nat) (p : Lset) (hd : 0 < p.dict.toNat) {t : LS → PkV → Bool} (ht : LetIn t) (l : List PkV) (hm : l.length ≤ 1048576) (hl : ∀ q ∈ l, PkFine q ∧ q.kind ≠ 7) (e : Bool) : CodedOk p (kcode (cdrE lo ge) t (if e = true then l ++ [pend] else l) (bare (lstart p), RC.new)) := by
  obtain ⟨y, hy⟩ : ∃ y, y = kcode (cdrE lo ge) t l (bare (lstart p), RC.new) := ⟨_, rfl⟩
  have hst := (kcode_st lo ge ht l 0 _ (by omega) (start_st p) hl).1
  rw [← hy] at hst
  have hplain : CodedOk p y := ⟨fun f n hf ho => ans_plain lo ge p hd ht (by omega) hl hy f n hf ho, hst.ok, hst.by_⟩
  cases e with
  | false =>
    rw [if_neg (by decide), ← hy]
    exact hplain
  | true =>
    rw [if_pos rfl]
    have e1 : kcode (cdrE lo ge) t (l ++ [pend]) (bare (lstart p), RC.new) = kone (cdrE lo ge) t y pend := by
      rw [hy]
      unfold kcode
      rw [List.foldl_append]
      rfl
    rw [e1]
    unfold kone
    split
    · obtain ⟨z, hz⟩ : ∃ z, z = ((kpacket (cdrE lo ge) y.1 y.2 pend).1, (kpacket (cdrE lo ge) y.1 y.2 pend).2.1) := ⟨_, rfl⟩
      rw [← hz]
      obtain ⟨k1, k2, k3, _⟩ := kpacket_keep lo ge hst (p := pend) ⟨by decide⟩
      have ez2 : z.2 = (kpacket (cdrE lo ge) y.1 y.2 pend).2.1 := by rw [hz]
      rw [← ez2] at k2 k3
      exact ⟨fun f n hf ho => (ans_end lo ge p hd ht (by omega) hl hy (pe := pend) ⟨by decide⟩ rfl hz f n hf ho).2, k2, k3⟩
    · exact hplain
/-- the three streams, as rows. -/
structure CodedRows (p : Lset) (H B : List Int) : Prop where
  by_ : ∀ b ∈ B, 0 ≤ b ∧ b < 256
  len : 5 ≤ B.length
  same : lunpack (feedNx (fun i => B.getD i 0) B.length) 0 p p.dict.toNat H.length = some H
  more : lunpack (feedNx (fun i => (B ++ [0]).getD i 0) (B ++ [0]).length) 0 p p.dict.toNat H.length = none
  fewer : lunpack (feedNx (fun i => B.getD i 0) (B.length - 1)) 0 p p.dict.toNat H.length = none
theorem getD_by {B : List Int} (h : ∀ b ∈ B, 0 ≤ b ∧ b < 256) (i : Nat) (hi : i < B.length) : 0 ≤ B.getD i 0 ∧ B.getD i 0 < 256 := by
  have e : B.getD i 0 = B[i] := by simp [List.getD, hi]
  rw [e]
  exact h _ (List.getElem_mem hi)
theorem rows_of {p : Lset} {H B : List Int} {c : RC} (hc : ∀ (f : Nat → Int) (n : Nat), (∀ i, i < n → 0 ≤ f i ∧ f i < 256) → (∀ i, i < B.length → f i = B.getD i 0) →
    (n = B.length → lunpack (feedNx f n) 0 p p.dict.toNat H.length = some H) ∧ (n = B.length + 1 → lunpack (feedNx f n) 0 p p.dict.toNat H.length = none) ∧ (n = B.length → lunpack (feedNx f (n - 1)) 0 p p.dict.toNat H.length = none))
    (hb : ∀ b ∈ B, 0 ≤ b ∧ b < 256) (hl : B.length = c.len) : CodedRows p H B := by
  have h1 := hc (fun i => B.getD i 0) B.length (getD_by hb) (fun i _ => rfl)
  have h2 := hc (fun i => (B ++ [0]).getD i 0) (B ++ [0]).length (getD_by (fun b h => by
    rcases List.mem_append.1 h with h1 | h1
    · exact hb b h1
    · rw [List.mem_singleton.1 h1]; decide)) (fun i hi => by simp [List.getD, List.getElem?_append_left hi])
  exact ⟨hb, by rw [hl]; exact len_pos _, h1.1 rfl, h2.2.1 (by rw [List.length_append]; rfl), h1.2.2 rfl⟩
theorem CodedOk.rows {p : Lset} {y : LS × RC} (h : CodedOk p y) : CodedRows p y.1.H (y.2.gives 5).out := by
  obtain ⟨N, hN⟩ := h.ok
  obtain ⟨g1, g2, g3⟩ := gives_out (hN.fin h.by_)
  have hc := h.is_
  unfold Coded at hc
  rw [← g2] at hc
  exact rows_of hc g3 g2
theorem range_getDv (l : List PkV) : (List.range l.length).map (fun i => l.getD i pv0) = l := by
  apply List.ext_getElem
  · simp
  · intro i h1 h2
    rw [List.getElem_map, List.getElem_range]
    simp [List.getD, h2]
theorem range_getDi (xs : List Int) : (List.range xs.length).map (fun i => xs.getD i 0) = xs := by
  apply List.ext_getElem
  · simp
  · intro i h1 h2
    rw [List.getElem_map, List.getElem_range]
    simp [List.getD, h2]
/-- the packets that are no end mark. -/
def keepL (f : Nat → PkV) (i : Nat) : List PkV := ((List.range i).map f).filter (fun q => decide (q.kind ≠ 7))
theorem keepL_yes {f : Nat → PkV} {i : Nat} (h : (f i).kind ≠ 7) : keepL f (i + 1) = keepL f i ++ [f i] := by
  unfold keepL
  rw [List.range_succ, List.map_append, List.filter_append]
  simp [h]
theorem keepL_no {f : Nat → PkV} {i : Nat} (h : (f i).kind = 7) : keepL f (i + 1) = keepL f i := by
  unfold keepL
  rw [List.range_succ, List.map_append, List.filter_append]
  simp [h]
theorem keepL_len (f : Nat → PkV) (i : Nat) : (keepL f i).length ≤ i := by
  unfold keepL
  refine Nat.le_trans (List.length_filter_le _ _) ?_
  rw [List.length_map, List.length_range]
  exact Nat.le_refl _
theorem keepL_mem {f : Nat → PkV} {n : Nat} (hf : ∀ i, i < n → (f i).wf) : ∀ q ∈ keepL f n, q.wf ∧ q.kind ≠ 7 := by
  intro q hq
  unfold keepL at hq
  obtain ⟨h1, h2⟩ := List.mem_filter.1 hq
  obtain ⟨i, hi, rfl⟩ := List.mem_map.1 h1
  exact ⟨hf i (List.mem_range.1 hi), of_decide_eq_true h2⟩
end Go.Proofs.Ytjnegcambbeblaa

/- append of a row of integers to a row of the call's own: where the row lies then. -/
namespace Go.Proofs.Ytjnegcambbeblaa
open Go.RowKit

theorem row_news {w : World} {k : IntKind} {B : Nat} {ad : Addr} {m : Nat} {f : Nat → Int} (hrow : RowIn B k w (some ad) m f) : ∀ j u, ((List.range m).map fun j => Value.int k (f j))[j]? = some u → w.cell? (ad.add j) = some u := by
  intro j u hj
  by_cases hjm : j < m
  · simp [hjm] at hj
    subst hj
    obtain ⟨b, off, h1, h2, h3⟩ := hrow.at hjm
    simp only [Option.some.injEq] at h1
    subst h1
    have e : (⟨b, off, none⟩ : Addr).add j = ⟨b, off + j, none⟩ := by unfold Addr.add; split <;> simp_all
    rw [e]
    exact h3
  · simp [hjm] at hj
theorem run_growN {P : Program} {w : World} (t ty : TypeId) (k : IntKind) (e : TypeId) (bytes : Nat) (ht : P.underlying t = some (.slice e)) (hinfo : (P.info? e).map (fun i => (i.zero, i.size, i.bytes)) = some (some (.int k 0), 1, bytes))
    (v : Value) (xs : List Int) (hown : Own w 0 k e v xs) (B : Nat) (ad : Addr) (m c : Nat) (f : Nat → Int) (hrow : RowIn B k w (some ad) m f) (hm0 : 1 ≤ m)
    (hb1 : 1 ≤ bytes) (hbytes : (xs.length + m) * bytes ≤ 140737488355328) :
    ∃ v' w', (Builtin.append_ #[t, t] ty #[v, .slice (some ad) m c]).run P w = .ok v' w' ∧ Own w' 0 k e v' (xs ++ (List.range m).map f) ∧ w.grownBy w' v.ownBlock ∧ (v'.ownBlock = v.ownBlock ∨ v'.ownBlock = some w.heap.size) := by
  obtain ⟨i, hi, hz0, hz1, hz2⟩ := info_parts hinfo
  have hm : xs.length + m ≤ (xs.length + m) * bytes := Nat.le_mul_of_pos_right _ hb1
  have hnews := row_news hrow
  have hlen : ((List.range m).map fun j => Value.int k (f j)).length = m * 1 := by simp
  have h1 : ∀ u ∈ ((List.range m).map fun j => Value.int k (f j)), u.oneCell' = true := by
    intro u hu
    simp only [List.mem_map] at hu
    obtain ⟨j, _, rfl⟩ := hu
    rfl
  obtain ⟨v', w', hr, h2, h3, _⟩ := run_append_own (P := P) w 0 t ty e i (.int k 0) 1 bytes ht hi hz0 hz1 hz2 rfl (by decide) v xs.length _ hown ad m c ((List.range m).map fun j => Value.int k (f j)) hlen hnews h1 (by unfold maxLen; omega) hbytes (Nat.zero_le _)
  refine ⟨v', w', hr, ?_, h3, ?_⟩
  · unfold Own
    simpa [Function.comp_def] using h2
  · rcases hown.2 with ⟨rfl, hn⟩ | ⟨g, cap, cur, rfl, hbg, hg, hnc, hcm, hcs, htake⟩
    · have hn0 : xs.length = 0 := hn
      have hr' := run_append_nil (P := P) w t ty e i (.int k 0) ht hi hz0 ad m c ((List.range m).map fun j => Value.int k (f j)) (by rw [hz1]; simp) hnews (by omega) (by omega) (by rw [hz2]; rw [hn0, Nat.zero_add] at hbytes; omega)
      rw [hr] at hr'
      injection hr' with e1 e2
      right; rw [e1]; rfl
    · by_cases hroom : xs.length + m ≤ cap
      · have hr' := run_append_room (P := P) w t ty e i ht hi g xs.length cap cur hg ad m c ((List.range m).map fun j => Value.int k (f j)) (by rw [hz1]; simp) hnews h1 hroom (by rw [hz1, hcs]; simp; omega)
        rw [hr] at hr'
        injection hr' with e1 e2
        left; rw [e1]; rfl
      · have hr' := run_append_grow (P := P) w t ty e i (.int k 0) ht hi hz0 ⟨g, 0, none⟩ xs.length cap (xs.map (Value.int k)) (by rw [hz1]; simp) (hown.cells (g := g) rfl) ad m c ((List.range m).map fun j => Value.int k (f j)) (by rw [hz1]; simp) hnews (by omega) (by omega) (growslice_fits (by omega) (by rw [hz2]; exact hbytes))
        rw [hr] at hr'
        injection hr' with e1 e2
        right; rw [e1]; rfl
theorem opGrowR {P : Program} {w : World} {ops : Array Oper} {rest : List Oper} {o : Oper} {a : Act} {Q : Exit → Act → World → Prop} (d : Option Tmp) (hgd : o.guard = none) (hd : o.dst = d) (s x : Operand) (t : TypeId)
    (ho : o.op = .call { callee := .builtin .append, args := #[s, x], argTypes := #[t, t] })
    (k : IntKind) (e : TypeId) (bytes : Nat) (ht : P.underlying t = some (.slice e)) (hinfo : (P.info? e).map (fun i => (i.zero, i.size, i.bytes)) = some (some (.int k 0), 1, bytes))
    (v : Value) (xs : List Int) (hs : a.eval s = v) (hown : Own w 0 k e v xs)
    (B : Nat) (ad : Addr) (m c : Nat) (f : Nat → Int) (hx : a.eval x = .slice (some ad) m c) (hrow : RowIn B k w (some ad) m f) (hm0 : 1 ≤ m)
    (hb1 : 1 ≤ bytes) (hbytes : (xs.length + m) * bytes ≤ 140737488355328)
    (h : ∀ v' w', Own w' 0 k e v' (xs ++ (List.range m).map f) → w.grownBy w' v.ownBlock → (v'.ownBlock = v.ownBlock ∨ v'.ownBlock = some w.heap.size) → wpList P ops Q rest (a.put d v') w') : wpList P ops Q (o :: rest) a w := by
  obtain ⟨v', w', hr, h2, h3, h4⟩ := run_growN (P := P) (w := w) t o.type k e bytes ht hinfo v xs hown B ad m c f hrow hm0 hb1 hbytes
  refine wpList_plain hgd fun K hK => ?_
  unfold Oper.wp execOp
  simp only [ho, resolve, invoke, builtin, Sem.run_bind, Sem.run_pure, Result.andThen_ok, List.map_toArray, List.map_cons, List.map_nil, hs, hx, hr]
  refine hK _ _ ?_
  rw [hd]
  exact h v' w' h2 h3 h4
theorem step_growR {P : Program} {ops : Array Oper} {o : Oper} {a : Act} {w : World} {K : Act → World → Prop} {Q : Exit → Act → World → Prop} {E : Prop} (hgd : o.guard = none) (s x : Operand) (t : TypeId)
    (ho : o.op = .call { callee := .builtin .append, args := #[s, x], argTypes := #[t, t] })
    (k : IntKind) (e : TypeId) (bytes : Nat) (ht : P.underlying t = some (.slice e)) (hinfo : (P.info? e).map (fun i => (i.zero, i.size, i.bytes)) = some (some (.int k 0), 1, bytes))
    (v : Value) (xs : List Int) (hs : a.eval s = v) (B : Nat) (ad : Addr) (m c : Nat) (f : Nat → Int) (hx : a.eval x = .slice (some ad) m c) (hown : Own w 0 k e v xs) (hrow : RowIn B k w (some ad) m f) (hm0 : 1 ≤ m)
    (hb1 : 1 ≤ bytes) (hbytes : (xs.length + m) * bytes ≤ 140737488355328)
    (h : ∀ v' w', Own w' 0 k e v' (xs ++ (List.range m).map f) → w.grownBy w' v.ownBlock → (v'.ownBlock = v.ownBlock ∨ v'.ownBlock = some w.heap.size) → K (a.put o.dst v') w') :
    if Region.wanted o (yielded ops a.tmps) = true then Oper.wp P o a w K Q else E := by
  have hw : Region.wanted o (yielded ops a.tmps) = true := by simp [Region.wanted, hgd]
  rw [if_pos hw]
  obtain ⟨v', w', hr, h2, h3, h4⟩ := run_growN (P := P) (w := w) t o.type k e bytes ht hinfo v xs hown B ad m c f hrow hm0 hb1 hbytes
  unfold Oper.wp execOp
  simp only [ho, resolve, invoke, builtin, Sem.run_bind, Sem.run_pure, Result.andThen_ok, List.map_toArray, List.map_cons, List.map_nil, hs, hx, hr]
  exact h v' w' h2 h3 h4
theorem run_rowN {P : Program} {w : World} (t ty : TypeId) (base : Nat) (k : IntKind) (e : TypeId) (bytes : Nat) (ht : P.underlying t = some (.slice e)) (hinfo : (P.info? e).map (fun i => (i.zero, i.size, i.bytes)) = some (some (.int k 0), 1, bytes))
    (v : Value) (xs : List Int) (hown : Own w base k e v xs) (B : Nat) (ao : Option Addr) (m c : Nat) (f : Nat → Int) (hnil : ao = none → c = 0) (hmc : m ≤ c) (hrow : RowIn B k w ao m f)
    (hb1 : 1 ≤ bytes) (hbytes : (xs.length + m) * bytes ≤ 140737488355328) (hbase : base ≤ w.heap.size) :
    ∃ v' w', (Builtin.append_ #[t, t] ty #[v, .slice ao m c]).run P w = .ok v' w' ∧ Own w' base k e v' (xs ++ (List.range m).map f) ∧ w.grownBy w' v.ownBlock := by
  obtain ⟨i, hi, hz0, hz1, hz2⟩ := info_parts hinfo
  have hm : xs.length + m ≤ (xs.length + m) * bytes := Nat.le_mul_of_pos_right _ hb1
  cases ao with
  | none =>
    have hc : c = 0 := hnil rfl
    subst hc
    have hm0 : m = 0 := by omega
    subst hm0
    exact ⟨v, w, run_append_owned_none (P := P) (w := w) base t ty e i 1 ht hi v xs.length _ hown, by simpa using hown, World.grownBy.refl _ _⟩
  | some ad =>
    have h1 : ∀ u ∈ ((List.range m).map fun j => Value.int k (f j)), u.oneCell' = true := by
      intro u hu
      simp only [List.mem_map] at hu
      obtain ⟨j, _, rfl⟩ := hu
      rfl
    obtain ⟨v', w', hr, h2, h3, _⟩ := run_append_own (P := P) w base t ty e i (.int k 0) 1 bytes ht hi hz0 hz1 hz2 rfl (by decide) v xs.length _ hown ad m c ((List.range m).map fun j => Value.int k (f j)) (by simp) (row_news hrow) h1 (by unfold maxLen; omega) hbytes hbase
    exact ⟨v', w', hr, by unfold Own; simpa [Function.comp_def] using h2, h3⟩
theorem step_rowN {P : Program} {ops : Array Oper} {o : Oper} {a : Act} {w : World} {K : Act → World → Prop} {Q : Exit → Act → World → Prop} {E : Prop} (hgd : o.guard = none) (s x : Operand) (t : TypeId)
    (ho : o.op = .call { callee := .builtin .append, args := #[s, x], argTypes := #[t, t] })
    (base : Nat) (k : IntKind) (e : TypeId) (bytes : Nat) (ht : P.underlying t = some (.slice e)) (hinfo : (P.info? e).map (fun i => (i.zero, i.size, i.bytes)) = some (some (.int k 0), 1, bytes))
    (v : Value) (xs : List Int) (hs : a.eval s = v) (B : Nat) (ao : Option Addr) (m c : Nat) (f : Nat → Int) (hx : a.eval x = .slice ao m c) (hown : Own w base k e v xs) (hnil : ao = none → c = 0) (hmc : m ≤ c) (hrow : RowIn B k w ao m f)
    (hb1 : 1 ≤ bytes) (hbytes : (xs.length + m) * bytes ≤ 140737488355328) (hbase : base ≤ w.heap.size)
    (h : ∀ v' w', Own w' base k e v' (xs ++ (List.range m).map f) → w.grownBy w' v.ownBlock → K (a.put o.dst v') w') :
    if Region.wanted o (yielded ops a.tmps) = true then Oper.wp P o a w K Q else E := by
  have hw : Region.wanted o (yielded ops a.tmps) = true := by simp [Region.wanted, hgd]
  rw [if_pos hw]
  obtain ⟨v', w', hr, h2, h3⟩ := run_rowN (P := P) (w := w) t o.type base k e bytes ht hinfo v xs hown B ao m c f hnil hmc hrow hb1 hbytes hbase
  unfold Oper.wp execOp
  simp only [ho, resolve, invoke, builtin, Sem.run_bind, Sem.run_pure, Result.andThen_ok, List.map_toArray, List.map_cons, List.map_nil, hs, hx, hr]
  exact h v' w' h2 h3
end Go.Proofs.Ytjnegcambbeblaa

/- lzma.Unpack, of a few more bytes. -/
namespace Go.Proofs.Ytjnegcambbeblaa
open Go.RowKit

set_option maxRecDepth 100000 in
set_option maxHeartbeats 800000 in
theorem lunpack6_any (gm : Nat) (m : MS) (p : Lset) (x : Int) (size : Nat) (hx : x.toNat = size) (a : Option Addr) (n c : Nat) (f : Nat → Int) (hf : ∀ i, i < n → 0 ≤ f i ∧ f i < 256) (w : World) (N : Nat) (hN : N = wsize (min p.dict x))
    (h : MAt w gm m) (hok : m.Ok) (hp : p.Light) (hs : x ≤ 6000) (hs0 : -9223372036854775808 ≤ x) (hn : n ≤ 60000) (hnc : n ≤ c) (hnil : a = none → c = 0) (hr : RowIn w.heap.size .u8 w a n f)
    (h1 : (m.mem p.need).1 = true) (h2 : ((m.mem p.need).2.mem N).1 = true) :
    Calls Try.prog 17 #[.slice a n c, p.val, .int .i64 x, .pointer (some ⟨gm, 0, none⟩)] w (LUnPost gm (lunpack (feedNx f n) 0 p N size) (lmet m p N) w) := by
  obtain ⟨R, hR⟩ : ∃ R, R = lunpack (feedNx f n) 0 p N size := ⟨_, rfl⟩
  rw [← hR]
  unfold lunpack at hR
  have hpn : p.need ≤ 200000 := by
    have := hp.nl_le
    have hm : p.may = true := Lset.may_iff.2 hp.may
    have hprob : p.probs = 1847 + p.nl := by unfold Lset.probs Lset.nl; rw [if_pos hm]
    unfold Lset.need
    omega
  have HR := hid hR
  have HX := hid hx
  have HN := hid hN
  have HM := hid h
  have HMO := hid hok
  have HP := hid hp
  have HROW := hid hr
  have HNIL := hid hnil
  have HC := hid hnc
  have HM1 := hid h1
  have HM2 := hid h2
  have Hf := hid hf
  have HPN := hid hpn
  have hgm : gm < w.heap.size := blk_lt h
  have HGM := hid hgm
  have HV := hid (show p.val = .agg #[.int .i64 p.lc, .int .i64 p.lp, .int .i64 p.pb, .int .i64 p.dict] from rfl)
  have hx5 : size ≤ 6000 := by omega
  have HS0 := hid hs0
  have HS := hid hs
  clear hR hx hN h hok hp hr hnil hnc h1 h2 hf hgm hpn hs0 hs
  rw [HV.out]
  go_enter_defers Try.func17, Try.ntmps17
  go_upto_region 1 with fail
  go_wp2_with (refine wpList_load_row rfl 23 _ rfl w.heap.size rfl 23 #[.int .i64 p.lc, .int .i64 p.lp, .int .i64 p.pb, .int .i64 p.dict] (0, 0) _ (by exact blk_new w _) Try.underlying23 rfl (by kernel_rfl) ?_)
  rw [← HV.out]
  have HF0 := hid ((Fr.refl Non w).alloc (.cells #[.int .i64 p.lc, .int .i64 p.lp, .int .i64 p.pb, .int .i64 p.dict] 23))
  refine (lnew_any gm m p x _ (HF0.out.blk HM.out id) HMO.out HP.out (by have := HS.out; omega) HS0.out).mono ?_
  intro e w1 hq
  rcases hq with ⟨_, _, hno, _⟩ | ⟨_, _, L, rfl, hf1, hm1, hl1, hLgm, hLn, hLnl, hLf⟩
  · exact absurd ⟨HM1.out, by rw [← HN.out]; exact HM2.out⟩ hno
  rw [← HN.out] at hm1 hLn
  have HLN := hid hLn
  have HLG := hid hLgm
  have HLF := hid (show ∀ k, L.foot k → w.heap.size < k ∧ k < w1.heap.size from fun k hk => by
    have := hLf k hk
    simp at this
    omega)
  have F1 := hid (show Fr (fun k => k = gm) w w1 from (HF0.out.any).trans hf1)
  have hs1 := F1.out.size
  have M1 := hid hm1
  have L1 := hid hl1
  clear hf1 hm1 hl1 hLgm hLn hLnl hLf
  go_wp2_with fail
  refine (newFeed_any a n c f w1 (by omega) HC.out HNIL.out (by exact (HROW.out.meter HM.out F1.out).mono hs1)).mono ?_
  intro e w2 hq
  obtain ⟨fg, fa, fc, rfl, hf2, hi2, hl2⟩ := feedNew_q _ _ _ Hf.out (by omega) _ _ hq
  obtain ⟨t, ht⟩ : ∃ t, t = feed fg fa n fc f Hf.out := ⟨_, rfl⟩
  have HT := hid (show Value.iface 45 (.pointer (some ⟨fg, 0, none⟩)) = Value.iface t.ty t.val from by rw [ht]; rfl)
  have HTN := hid (show t.nx = feedNx f n from by rw [ht]; rfl)
  rw [← ht] at hi2 hl2
  have HI2 := hid hi2
  have HL2 := hid hl2
  have F2 := hid (F1.out.trans hf2.any)
  have M2 := hid (show MAt w2 gm _ from hf2.blk M1.out id)
  have L2 := hid (L1.out.keep hf2 (fun _ _ e => e))
  have hs2 := hf2.size
  clear hq hf2 hi2 hl2 ht
  go_wp2_with fail
  rw [HT.out]
  refine (lbegin_any L t _ _ _ 0 w2 L2.out HI2.out (fun k hk => (HL2.out k hk).2) (fun k hk e => by have := (HLF.out k hk).2; have := (HL2.out k e).1; omega)).mono ?_
  rintro e w3 ⟨ga, gr, rfl, hf3, hon3, hga0, hga1, hgr0, hgr1⟩
  rw [HTN.out] at hon3
  have hs3 := hf3.size
  have HFT := hid (show ∀ k, LFt L t ga gr k → w.heap.size < k ∧ k < w3.heap.size from by
    have h0 := HLF.out L.gd (.inl rfl)
    rintro k (e | e | e | e)
    · have := HLF.out k e; omega
    · have e' : k = gr := e; omega
    · have e' : k = ga := e; omega
    · have := HL2.out k e
      omega)
  have F3 := hid (F2.out.then hf3 (fun k hk e => by
    rcases e with e | e
    · have := HLF.out L.gd (.inl rfl); omega
    · have := HL2.out k e; have := HLF.out L.gd (.inl rfl); omega))
  have M3 := hid (show MAt w3 gm _ from hf3.blk M2.out (fun e => by
    have := HGM.out
    rcases e with e | e
    · have := HLF.out L.gd (.inl rfl); omega
    · have := HL2.out _ e; have := HLF.out L.gd (.inl rfl); omega))
  have ON3 := hid hon3
  clear hf3 hon3 hga0 hga1 hgr0 hgr1
  obtain ⟨s0, hs0⟩ : ∃ s, s = lstart p := ⟨_, rfl⟩
  obtain ⟨d0, hd0⟩ : ∃ d, d = RD.new (anx (feedNx f n)) ⟨0, 0, false⟩ := ⟨_, rfl⟩
  have HS0E := hid hs0
  have hR := HR.out
  rw [← hs0, ← hd0] at hR
  rw [← hd0] at ON3
  rw [show LS.new p p.need = lstart p from rfl, ← hs0] at ON3
  have HRR := hid hR
  have HFIT := hid (lrun_fit (anx (feedNx f n)) L s0 d0 (by rw [hs0]; exact lstart_fit p L))
  have HPLA := hid (lrun_place (anx (feedNx f n)) L s0 d0)
  have HPL0 := hid (show s0.place = 0 by rw [hs0]; rfl)
  have HTK := hid (show ∀ k, (lrun (anx (feedNx f n)) L k s0 d0).1.taken = p.need from fun k => by rw [lrun_taken, hs0]; rfl)
  have HX2 := hid (show ∀ k : Nat, ((k : Int) < x ↔ k < size) from fun k => by have := HX.out; omega)
  clear hs0 hd0 hR
  go_wp2_with fail
  go_loopw [12] (fun v wr => ∃ k, k ≤ size ∧ (∀ i, i < k → lok (anx (feedNx f n)) L s0 d0 i = true) ∧ LOn L t ga gr wr (lrun (anx (feedNx f n)) L k s0 d0).1 (lrun (anx (feedNx f n)) L k s0 d0).2 ∧ Own wr w3.heap.size .u8 5 v (lbytes (anx (feedNx f n)) L s0 d0 k) ∧ Fr (fun k => k = gm) w wr ∧ MAt wr gm ((m.mem p.need).2.mem N).2 ∧ w3.heap.size ≤ wr.heap.size) (fun v _ => size - lenV v)
  case atStart => exact ⟨0, Nat.zero_le _, (fun i hi => by omega), ON3.out, Own.nil _ _ _ _, F3.out, M3.out, Nat.le_refl _⟩
  case round =>
    obtain ⟨k, hk, hks, hon, hown, hfr, hmt, hwz⟩ := hrel
    have HKS := hid hks
    have HON := hid hon
    have HOW := hid hown
    have HFW := hid hfr
    have HMT := hid hmt
    have hlv := hown.lenV
    rw [lbytes_len] at hlv
    have HLV := hid hlv
    obtain ⟨ra, rc, hva, hrc, hrm, hrw⟩ := hown.rowN (lbytes_len _ _ _ _ _)
    have HZ := hid (show ra = none → rc = 0 from fun e => by
      subst e
      have h2 := hown.2
      rcases h2 with ⟨h3, h4⟩ | ⟨g, cap, cur, hv, hg, r⟩
      · rw [hva] at h3; injection h3
      · rw [hva] at hv; injection hv with e1 e2 e3; cases e1)
    have HSEP := hid (show ∀ b, u12.ownBlock = some b → ¬ LFt L t ga gr b from fun b hb e => by have := (hown.block b hb).1; have := (HFT.out b e).2; omega)
    clear hks hon hown hfr hmt hlv hrm hrw
    subst hva
    have C1 := lnext_any L t ga gr _ _ wr HON.out (by have := HPLA.out k; have := HPL0.out; omega) (HFIT.out k)
    rw [ahead_nx, HTN.out] at C1
    have C1 := hid C1
    by_cases hlt : k < size
    · have hlx : (k : Int) < x := (HX2.out k).2 hlt
      obtain ⟨ok, hok⟩ : ∃ ok, ok = lok (anx (feedNx f n)) L s0 d0 k := ⟨_, rfl⟩
      obtain ⟨b, hb⟩ : ∃ b, b = lbyte (anx (feedNx f n)) L s0 d0 k := ⟨_, rfl⟩
      go_wp2_with fail
      refine C1.out.mono ?_
      rintro e w5 ⟨rfl, hf5, hon5⟩
      rw [show (lnext (anx (feedNx f n)) L (lrun (anx (feedNx f n)) L k s0 d0).1 (lrun (anx (feedNx f n)) L k s0 d0).2).1.2 = ok from hok.symm, show (lnext (anx (feedNx f n)) L (lrun (anx (feedNx f n)) L k s0 d0).1 (lrun (anx (feedNx f n)) L k s0 d0).2).1.1 = b from hb.symm]
      have HF5 := hid hf5
      have ON5 := hid (show LOn L t ga gr w5 (lrun (anx (feedNx f n)) L (k + 1) s0 d0).1 (lrun (anx (feedNx f n)) L (k + 1) s0 d0).2 from hon5)
      have hs5 := hf5.size
      have FW5 := hid (HFW.out.then hf5 (fun i hi e => by have := (HFT.out i e).1; omega))
      have M5 := hid (show MAt w5 gm _ from hf5.blk HMT.out (fun e => by have := (HFT.out _ e).1; have := HGM.out; omega))
      have HO5 := hid (HOW.out.fr HF5.out HSEP.out)
      have HOK := hid hok
      have HB := hid hb
      clear hf5 hon5 hok hb C1
      cases ok with
      | true =>
        go_wp2_with (refine opAppend1 (some 45) rfl rfl (.tmp 42) (.tmp 44) 30 rfl w3.heap.size .u8 5 1 Try.underlying30 Try.info_u8q _ _ rfl (by exact HO5.out.alloc _) ⟨_, 0, none⟩ 1 _ rfl (cell_new1 _ _ _) (by decide) (by rw [lbytes_len]; omega) (by simp; omega) ?_; intro v' w6 hown6 hg6)
        have hs6 := hg6.size
        simp at hs6
        have HL := hid HOW.out.block
        have HF6 := hid (Fr.grown (FW5.out.alloc _) hg6 (fun b hb hlt => by have := (HL.out b hb).1; omega))
        have H6 := hid (ON5.out.keep (Fr.grown ((Fr.refl (fun b => (Value.slice ra k rc).ownBlock = some b) w5).alloc _) hg6 (fun b hb _ => hb)) (fun b hb e => HSEP.out b e hb))
        have M6 := hid (show MAt w6 gm _ from (Fr.grown ((Fr.refl (fun b => (Value.slice ra k rc).ownBlock = some b) w5).alloc _) hg6 (fun b hb _ => hb)).blk M5.out (fun e => by have := (HL.out _ e).1; have := HGM.out; omega))
        rw [HB.out, ← lbytes_snoc] at hown6
        have HO6 := hid hown6
        have hlv6 := hown6.lenV
        rw [lbytes_len] at hlv6
        have HLV6 := hid hlv6
        have HKS' := hid (show ∀ i, i < k + 1 → lok (anx (feedNx f n)) L s0 d0 i = true from fun i hi => by
          by_cases e : i = k
          · rw [e]; exact HOK.out.symm
          · exact HKS.out i (by omega))
        clear hown6 hg6 hlv6
        go_roundw
        case rel => exact ⟨k + 1, by omega, HKS'.out, H6.out, HO6.out, HF6.out, M6.out, by omega⟩
        case measure =>
          rw [HLV.out, HLV6.out]
          omega
      | false =>
        go_wp2_with fail
        have hw03 : w.heap.size ≤ w3.heap.size := by have := HFT.out L.gd (.inl (.inl rfl)); omega
        refine lun_door w3.heap.size ON5.out M5.out (MS.mem_ok (MS.mem_ok HMO.out _) _) (T := p.need) (HTK.out (k + 1)) (by have := HPN.out; omega) HLG.out HLN.out rfl FW5.out (fun j hj => by have := HFT.out j (.inl hj); exact this) (fun W => Eq.trans (results_tmp2 rfl _ _ W) rfl) (.inl ⟨?_, rfl, rfl⟩) hw03 HGM.out
        rw [HRR.out, if_neg]
        intro e
        have e1 := List.all_eq_true.1 e.1 k (List.mem_range.2 hlt)
        rw [← HLN.out, ← lok_of, ← HOK.out] at e1
        cases e1
    · have e : k = size := by omega
      subst e
      have hlx : ¬ (k : Int) < x := fun e => hlt ((HX2.out k).1 e)
      have C2 := hid (lfinish_any L t ga gr _ _ wr HON.out (by have := HPLA.out k; have := HPL0.out; omega))
      rw [HTN.out] at C2
      obtain ⟨F, hF⟩ : ∃ F, F = lfinish (feedNx f n) L (lrun (anx (feedNx f n)) L k s0 d0).1 (lrun (anx (feedNx f n)) L k s0 d0).2 := ⟨_, rfl⟩
      rw [← hF] at C2
      have HFE := hid hF
      have HFT2 := hid (show F.2.1.taken = p.need by rw [hF, lfinish_taken]; exact HTK.out k)
      obtain ⟨fb, fs, fd⟩ := F
      dsimp only at C2 HFT2
      clear hF C1
      go_wp2_with fail
      refine C2.out.mono ?_
      rintro e w5 ⟨rfl, hf5, hon5⟩
      dsimp only at hf5 hon5
      have HF5 := hid hf5
      have ON5 := hid hon5
      have hs5 := hf5.size
      have FW5 := hid (HFW.out.then hf5 (fun i hi e => by have := (HFT.out i e).1; omega))
      have M5 := hid (show MAt w5 gm _ from hf5.blk HMT.out (fun e => by have := (HFT.out _ e).1; have := HGM.out; omega))
      have HO5 := hid (HOW.out.fr HF5.out HSEP.out)
      have hw03 : w.heap.size ≤ w3.heap.size := by have := HFT.out L.gd (.inl (.inl rfl)); omega
      clear hf5 hon5
      dsimp only
      cases fb with
      | true =>
        go_wp2_with fail
        refine (clip_any ra k rc _ hrc HZ.out (by omega)).mono ?_
        rintro e w6 ⟨rfl, rfl⟩
        go_wp2_with fail
        refine lun_door w3.heap.size ON5.out M5.out (MS.mem_ok (MS.mem_ok HMO.out _) _) (T := p.need) HFT2.out (by have := HPN.out; omega) HLG.out HLN.out rfl FW5.out (fun j hj => by have := HFT.out j (.inl hj); exact this) (fun W => Eq.trans (results_tmp2 rfl _ _ W) rfl) (.inr ⟨lbytes (anx (feedNx f n)) L s0 d0 k, ?_, rfl, ?_⟩) hw03 HGM.out
        · rw [HRR.out, if_pos]
          · congr 1
            unfold lbytes
            exact List.map_congr_left (fun i _ => by rw [← HLN.out, ← lbyte_of])
          · refine ⟨List.all_eq_true.2 (fun i hi => ?_), ?_⟩
            · rw [← HLN.out, ← lok_of]
              exact HKS.out i (List.mem_range.1 hi)
            · rw [← HLN.out, ← lrun_of, ← lfinish_of, ← HFE.out]
        · exact HO5.out.clip
      | false =>
        go_wp2_with fail
        refine lun_door w3.heap.size ON5.out M5.out (MS.mem_ok (MS.mem_ok HMO.out _) _) (T := p.need) HFT2.out (by have := HPN.out; omega) HLG.out HLN.out rfl FW5.out (fun j hj => by have := HFT.out j (.inl hj); exact this) (fun W => Eq.trans (results_tmp2 rfl _ _ W) rfl) (.inl ⟨?_, rfl, rfl⟩) hw03 HGM.out
        rw [HRR.out, if_neg]
        intro e
        have e1 := e.2
        rw [← HLN.out, ← lrun_of, ← lfinish_of, ← HFE.out] at e1
        cases e1
end Go.Proofs.Ytjnegcambbeblaa
