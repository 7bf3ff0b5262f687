/- Texts of this proof, one behind the other. -/
import Derived.Test.YtjnegcambbeblaaMg04
import Derived.Deep.CutBlock
import Derived.Deep.DeepCutAuto
import Derived.Test.YtjnegcambbeblaaMg01
import Derived.Laws.ShiftsVarLaws

/- The window, in terms of the bytes that were told. -/
namespace Go.Proofs.Ytjnegcambbeblaa
open Go.RowKit

structure RingH (n next : Nat) (ring : Nat → Int) (H : List Int) : Prop where
  nx : next < n
  by_ : ∀ i, i < n → 0 ≤ ring i ∧ ring i < 256
  at_ : ∀ d, d < H.length → d < n → ring ((next + n - 1 - d) % n) = H.getD (H.length - 1 - d) 0
theorem mod_small {a n : Nat} (h : a < n) : a % n = a := Nat.mod_eq_of_lt h
theorem mod_wrap {a n : Nat} (h : n ≤ a) (h2 : a < n + n) : a % n = a - n := by
  rw [Nat.mod_eq_sub_mod h, Nat.mod_eq_of_lt (by omega)]
theorem RingH.put {n next : Nat} {ring : Nat → Int} {H : List Int} (h : RingH n next ring H) {b : Int} (hb : 0 ≤ b ∧ b < 256) : RingH n (if next + 1 = n then 0 else next + 1) (upd ring next b) (H ++ [b]) := by
  have hn := h.nx
  refine ⟨by split <;> omega, fun i hi => ?_, fun d hd hdn => ?_⟩
  · by_cases e : i = next
    · rw [e, upd_same]; exact hb
    · rw [upd_ne _ _ e]; exact h.by_ i hi
  · have hl : (H ++ [b]).length = H.length + 1 := by simp
    rw [hl] at hd ⊢
    by_cases hd0 : d = 0
    · subst hd0
      have e : ((if next + 1 = n then 0 else next + 1) + n - 1 - 0) % n = next := by
        by_cases q : next + 1 = n
        · rw [if_pos q, mod_small (by omega)]; omega
        · rw [if_neg q, mod_wrap (by omega) (by omega)]; omega
      rw [e, upd_same]
      have : H.length + 1 - 1 - 0 = H.length := by omega
      rw [this]
      simp [List.getD]
    · have e : ((if next + 1 = n then 0 else next + 1) + n - 1 - d) % n = (next + n - 1 - (d - 1)) % n := by
        by_cases q : next + 1 = n
        · rw [if_pos q, mod_small (by omega), mod_wrap (by omega) (by omega)]; omega
        · rw [if_neg q]; congr 1; omega
      have hne : (next + n - 1 - (d - 1)) % n ≠ next := by
        by_cases q : n ≤ next + n - 1 - (d - 1)
        · rw [mod_wrap q (by omega)]; omega
        · rw [mod_small (by omega)]; omega
      rw [e, upd_ne _ _ hne, h.at_ (d - 1) (by omega) (by omega)]
      have e2 : H.length + 1 - 1 - d = H.length - 1 - (d - 1) := by omega
      rw [e2]
      simp only [List.getD_eq_getElem?_getD]
      rw [List.getElem?_append_left (by omega)]
/-- the byte at a distance, of what was told; 0 where there is none. -/
def backH (H : List Int) (n d : Nat) : Int := if d < min H.length n then H.getD (H.length - 1 - d) 0 else 0
structure WinIs (g gr gm n : Nat) (w : World) (H : List Int) : Prop where
  low : ∃ next ring, WAt g gr gm n next (min H.length n) ring w ∧ RingH n next ring H
  lim : n ≤ 1048576
  pos : 0 < n
theorem WinIs.keep {g gr gm n : Nat} {w w' : World} {H : List Int} (h : WinIs g gr gm n w H) {T : Nat → Prop} (hf : Fr T w w') (h1 : ¬ T g) (h2 : ¬ T gr) : WinIs g gr gm n w' H := by
  obtain ⟨⟨nx, ri, a, b⟩, c, d⟩ := h
  exact ⟨⟨nx, ri, a.keep hf h1 h2, b⟩, c, d⟩
theorem WinIs.lt {g gr gm n : Nat} {w : World} {H : List Int} (h : WinIs g gr gm n w H) : g < w.heap.size ∧ gr < w.heap.size ∧ g ≠ gr := by
  obtain ⟨⟨nx, ri, a, b⟩, c, d⟩ := h
  exact ⟨blk_lt a.st, blk_lt a.rg, a.ne⟩
def WinPost (g gr gm n : Nat) (H : List Int) (v : Value) (w : World) (e : Ending) (w' : World) : Prop := e = .returned v ∧ Fr (WF g gr) w w' ∧ WinIs g gr gm n w' H
theorem wput_any (g gr gm n : Nat) (H : List Int) (b : Int) (w : World) (h : WinIs g gr gm n w H) (hb : 0 ≤ b ∧ b < 256) :
    Calls Try.prog 94 #[.pointer (some ⟨g, 0, none⟩), .int .u8 b] w (WinPost g gr gm n (H ++ [b]) (.tuple #[]) w) := by
  obtain ⟨⟨nx, ri, h1, h2⟩, h3, h4⟩ := h
  refine (wput_raw g gr gm n nx _ ri b w h1 h3 h2.nx (Nat.min_le_right _ _) hb _ _ rfl rfl).mono ?_
  rintro e w' ⟨rfl, hf, hw⟩
  refine ⟨rfl, hf, ⟨_, _, ?_, h2.put hb⟩, h3, h4⟩
  have e : min (H ++ [b]).length n = min (min H.length n + 1) n := by simp; omega
  rw [e]; exact hw
set_option maxRecDepth 100000 in
theorem wplace_raw (g gr gm n next count d : Nat) (ring : Nat → Int) (w : World) (h : WAt g gr gm n next count ring w) (hn : n ≤ 1048576) (hlt : next < n) (hd : d < n) (p : Nat) (hp : p = (next + n - 1 - d) % n) :
    Calls Try.prog 119 #[.pointer (some ⟨g, 0, none⟩), .int .i64 d] w fun e w' => e = .returned (.int .i64 p) ∧ w = w' := by
  have k0 := blk_cell h.st (j := 0) (v := .slice (some ⟨gr, 0, none⟩) n n) rfl
  have k1 := blk_cell h.st (j := 1) (v := .int .i64 next) rfl
  have b0 : (0 : Int) ≤ (next : Int) := by omega
  have b1 : (next : Int) ≤ 1048576 := by omega
  have b2 : (0 : Int) ≤ (d : Int) := by omega
  have b3 : (d : Int) ≤ 1048576 := by omega
  have b4 : (n : Int) ≤ 1048576 := by omega
  have b5 : (0 : Int) ≤ (n : Int) := by omega
  clear h
  by_cases hq : next < d + 1
  · have q : (next : Int) - 1 - (d : Int) < 0 := by omega
    have HE := hid (show (next : Int) - 1 - (d : Int) + (n : Int) = (p : Int) by
      rw [hp]
      have : (next + n - 1 - d) % n = next + n - 1 - d := mod_small (by omega)
      rw [this]; omega)
    clear hq hp
    go_enter Try.func119, Try.ntmps119
    go_wp2_with fail
    go_ret
    exact ⟨by rw [← HE.out]; rfl, rfl⟩
  · have q : decide ((next : Int) - 1 - (d : Int) < 0) = false := by simp; omega
    have HE := hid (show (next : Int) - 1 - (d : Int) = (p : Int) by
      rw [hp]
      have : (next + n - 1 - d) % n = next + n - 1 - d - n := mod_wrap (by omega) (by omega)
      rw [this]; omega)
    clear hq hp
    go_enter Try.func119, Try.ntmps119
    go_wp2_with fail
    go_ret
    exact ⟨by rw [← HE.out]; rfl, rfl⟩
theorem whas_any (g gr gm n : Nat) (H : List Int) (d : Nat) (w : World) (h : WinIs g gr gm n w H) :
    Calls Try.prog 93 #[.pointer (some ⟨g, 0, none⟩), .int .i64 d] w fun e w' => e = .returned (.bool (decide (d < min H.length n))) ∧ w = w' := by
  obtain ⟨⟨nx, ri, h1, h2⟩, h3, h4⟩ := h
  obtain ⟨c, hc⟩ : ∃ c, c = min H.length n := ⟨_, rfl⟩
  rw [← hc] at h1 ⊢
  have k2 := blk_cell h1.st (j := 2) (v := .int .i64 c) rfl
  have b0 : (0 : Int) ≤ (d : Int) := by omega
  clear h1 h2 hc
  by_cases hq : d < c
  · have q : (d : Int) < (c : Int) := by omega
    rw [decide_eq_true hq]
    clear hq
    go_enter Try.func93, Try.ntmps93
    go_wp2_with fail
    go_ret
    exact ⟨rfl, rfl⟩
  · have q : ¬ (d : Int) < (c : Int) := by omega
    rw [decide_eq_false hq]
    clear hq
    go_enter Try.func93, Try.ntmps93
    go_wp2_with fail
    go_ret
    exact ⟨rfl, rfl⟩
set_option maxRecDepth 100000 in
theorem wat_any (g gr gm n : Nat) (H : List Int) (d : Nat) (w : World) (h : WinIs g gr gm n w H) :
    Calls Try.prog 95 #[.pointer (some ⟨g, 0, none⟩), .int .i64 d] w fun e w' => e = .returned (.int .u8 (backH H n d)) ∧ ∃ m, w' = w.drewN m := by
  have HH := hid h
  by_cases hq : d < min H.length n
  · obtain ⟨⟨nx, ri, h1, h2⟩, h3, h4⟩ := h
    obtain ⟨p, hp⟩ : ∃ p, p = (nx + n - 1 - d) % n := ⟨_, rfl⟩
    have hpn : p < n := by rw [hp]; exact Nat.mod_lt _ h4
    have hpi : (p : Int) < (n : Int) := by omega
    have hp0 : (0 : Int) ≤ (p : Int) := by omega
    have k0 := blk_cell h1.st (j := 0) (v := .slice (some ⟨gr, 0, none⟩) n n) rfl
    have r1 := blk_cell h1.rg (j := p) (v := .int .u8 (ri p)) (arr_get _ _ _ hpn)
    have HE := hid (show backH H n d = ri p by unfold backH; rw [if_pos hq, hp]; exact (h2.at_ d (by omega) (by omega)).symm)
    have HQ := hid hq
    have HW := hid h1
    have HP := hid hp
    have HNX := hid h2.nx
    have HDN := hid (show d < n by omega)
    clear h1 h2 hp hq
    go_enter Try.func95, Try.ntmps95
    go_wp2_with fail
    refine (whas_any g gr gm n H d _ HH.out).mono ?_
    rintro e w1 ⟨rfl, rfl⟩
    rw [decide_eq_true HQ.out]
    go_wp2_with fail
    go_quiet ((go_at_call 119; exact Calls.quiet_of_same (mirrorm (wplace_raw g gr gm n nx _ d ri _ (by exact ⟨HW.out.st, HW.out.rg, HW.out.ne⟩) h3 HNX.out HDN.out p HP.out))))
    go_wp2_with fail
    go_ret
    exact ⟨by rw [HE.out]; rfl, _, rfl⟩
  · have HE := hid (show backH H n d = 0 by unfold backH; rw [if_neg hq])
    have HQ := hid hq
    clear h hq
    go_enter Try.func95, Try.ntmps95
    go_wp2_with fail
    refine (whas_any g gr gm n H d _ HH.out).mono ?_
    rintro e w1 ⟨rfl, rfl⟩
    rw [decide_eq_false HQ.out]
    go_wp2_with fail
    go_ret
    exact ⟨by rw [HE.out]; rfl, 0, rfl⟩
theorem backH_by {H : List Int} (hH : ∀ x, x ∈ H → 0 ≤ x ∧ x < 256) (n d : Nat) : 0 ≤ backH H n d ∧ backH H n d < 256 := by
  unfold backH
  split
  · have hl : H.length - 1 - d < H.length := by omega
    have e : H.getD (H.length - 1 - d) 0 = H[H.length - 1 - d] := by simp [List.getD, hl]
    rw [e]; exact hH _ (List.getElem_mem hl)
  · omega
theorem wcopy_any (g gr gm n : Nat) (H : List Int) (d : Nat) (w : World) (h : WinIs g gr gm n w H) (hH : ∀ x, x ∈ H → 0 ≤ x ∧ x < 256) (hd : d < min H.length n) :
    Calls Try.prog 62 #[.pointer (some ⟨g, 0, none⟩), .int .i64 d] w (WinPost g gr gm n (H ++ [backH H n d]) (.int .u8 (backH H n d)) w) := by
  have HH := hid h
  have HD := hid hd
  have hb := backH_by hH n d
  have HB := hid hb
  clear h hd hb
  go_enter Try.func62, Try.ntmps62
  go_wp2_with fail
  refine (whas_any g gr gm n H d _ HH.out).mono ?_
  rintro e w1 ⟨rfl, rfl⟩
  rw [decide_eq_true HD.out]
  go_wp2_with fail
  refine (wat_any g gr gm n H d _ HH.out).mono ?_
  rintro e w1 ⟨rfl, m, rfl⟩
  go_wp2_with fail
  refine (wput_any g gr gm n H _ _ (by exact HH.out.keep ((Fr.refl Non _).drewN m) id id) HB.out).mono ?_
  rintro e w2 ⟨rfl, hf, hw⟩
  have HF := hid hf
  have HW := hid hw
  clear hf hw
  go_wp2_with fail
  go_ret
  exact ⟨rfl, ((Fr.refl _ _).drewN m).trans HF.out, HW.out⟩
theorem wempty_any (g gr gm n : Nat) (H : List Int) (w : World) (h : WinIs g gr gm n w H) :
    Calls Try.prog 137 #[.pointer (some ⟨g, 0, none⟩)] w (WinPost g gr gm n [] (.tuple #[]) w) := by
  obtain ⟨⟨nx, ri, h1, h2⟩, h3, h4⟩ := h
  obtain ⟨c, hc⟩ : ∃ c, c = min H.length n := ⟨_, rfl⟩
  rw [← hc] at h1
  have k2 := blk_cell h1.st (j := 2) (v := .int .i64 c) rfl
  have z2 := blk_frozen h1.st 2
  have H1 := hid h1
  have H2 := hid h2
  clear h1 h2 hc
  go_enter Try.func137, Try.ntmps137
  go_wp2_with fail
  go_end0
  refine ⟨rfl, Fr.setCell (p := ⟨g, 2, none⟩) (Fr.refl _ _) (fun _ => .inl rfl) _, ⟨nx, ri, ⟨?_, blk_set_ne H1.out.rg (fun e => H1.out.ne e.symm), H1.out.ne⟩, ⟨H2.out.nx, H2.out.by_, fun d hd _ => by simp at hd⟩⟩, h3, h4⟩
  have e : min ([] : List Int).length n = 0 := by simp
  rw [e]
  exact blk_set (i := 2) H1.out.st
theorem wcount_any (g gr gm n : Nat) (H : List Int) (w : World) (h : WinIs g gr gm n w H) :
    Calls Try.prog 91 #[.pointer (some ⟨g, 0, none⟩)] w fun e w' => e = .returned (.int .i64 (min H.length n : Nat)) ∧ w = w' := by
  obtain ⟨⟨nx, ri, h1, h2⟩, h3, h4⟩ := h
  obtain ⟨c, hc⟩ : ∃ c, c = min H.length n := ⟨_, rfl⟩
  rw [← hc] at h1 ⊢
  have k2 := blk_cell h1.st (j := 2) (v := .int .i64 c) rfl
  clear h1 h2 hc
  go_enter Try.func91, Try.ntmps91
  go_wp2_with fail
  go_ret
  exact ⟨rfl, rfl⟩
end Go.Proofs.Ytjnegcambbeblaa

/- The window: New, Close. -/
namespace Go.Proofs.Ytjnegcambbeblaa
open Go.RowKit

def wsize (size : Int) : Nat := (max size 1).toNat
def WNewPost (gm : Nat) (m : MS) (size : Int) (w : World) (e : Ending) (w' : World) : Prop :=
  Fr (fun k => k = gm) w w' ∧ MAt w' gm (m.mem (wsize size)).2 ∧
    (((m.mem (wsize size)).1 = false ∧ e = .returned (.tuple #[.pointer none, .int .i64 (m.mem (wsize size)).2.code])) ∨
     ((m.mem (wsize size)).1 = true ∧ ∃ g gr, e = .returned (.tuple #[.pointer (some ⟨g, 0, none⟩), .int .i64 0]) ∧ w.heap.size ≤ g ∧ w.heap.size ≤ gr ∧ WinIs g gr gm (wsize size) w' []))
theorem MS.mem_ok {m : MS} (h : m.Ok) (n : Nat) : (m.mem n).2.Ok := by
  unfold MS.mem
  split
  · exact h
  · split
    · exact ⟨h.now, h.most, h.peak⟩
    · exact ⟨by have := h.now; show m.now + n ≤ m.most; omega, h.most, by show m.now + n ≤ max m.peak (m.now + n); omega⟩
theorem win_built (n b gm : Nat) (r : Operand → Value) (t1 t2 : Nat) (h1 : r (.tmp t1) = .slice (some ⟨b, 0, none⟩) n n) (h2 : r (.tmp t2) = .pointer (some ⟨gm, 0, none⟩)) :
    Try.prog.built 159 ((#[(0, Operand.tmp t1), (3, Operand.tmp t2)].map fun (i, x) => (i, r x)).toList) = some #[.slice (some ⟨b, 0, none⟩) n n, .int .i64 0, .int .i64 0, .pointer (some ⟨gm, 0, none⟩)] := by
  have : Try.prog.built 159 [(0, .slice (some ⟨b, 0, none⟩) n n), (3, .pointer (some ⟨gm, 0, none⟩))] = some #[.slice (some ⟨b, 0, none⟩) n n, .int .i64 0, .int .i64 0, .pointer (some ⟨gm, 0, none⟩)] := by kernel_rfl
  simpa [h1, h2] using this
set_option maxRecDepth 100000 in
set_option maxHeartbeats 1000000 in
theorem wnew_any (gm : Nat) (m : MS) (size : Int) (w : World) (h : MAt w gm m) (hok : m.Ok) (hs : size ≤ 1048576) :
    Calls Try.prog 55 #[.int .i64 size, .pointer (some ⟨gm, 0, none⟩)] w (WNewPost gm m size w) := by
  obtain ⟨N, hN⟩ : ∃ N, N = wsize size := ⟨_, rfl⟩
  have hN1 : (N : Int) = max size 1 := by rw [hN]; unfold wsize; omega
  have hN2 : N ≤ 1048576 := by omega
  have hN0 : 0 < N := by omega
  have hmk : ∀ w : World, (Instr.makeSlice 30 (.int .i64 N) (.int .i64 N)).run Try.prog w = .ok (.slice (some ⟨w.heap.size, 0, none⟩) N N) (w.alloc (.cells (arr .u8 N (fun _ => 0)) 5)) := fun w => emake_u8 N hN2 w
  have H := hid h
  have HO := hid hok
  have HMK := hid hmk
  have HN := hid hN
  have HI := hid (show (if size < 1 then (1 : Int) else size) = (N : Int) by split <;> omega)
  clear h hok hN hN1 hmk
  go_enter Try.func55, Try.ntmps55
  go_upto_region 2 with fail
  rw [HI.out]
  go_wp2_with fail
  refine (mem_m gm m N _ H.out HO.out (by omega)).mono ?_
  rintro e w1 ⟨rfl, hf1, hm1⟩
  have HF := hid hf1
  have HM := hid hm1
  have hs1 := hf1.size
  clear hf1 hm1
  cases hc : (m.mem N).1 with
  | false =>
    have HC := hid hc
    clear hc
    go_wp2_with fail
    refine (mcode_m gm _ _ HM.out).mono ?_
    rintro e w2 ⟨rfl, rfl⟩
    go_wp2_with fail
    go_ret2
    have hn := HN.out
    subst hn
    exact ⟨HF.out, HM.out, .inl ⟨HC.out, rfl⟩⟩
  | true =>
    have HC := hid hc
    have hmk2 := HMK.out w1
    clear hc
    go_wp2_with (first
      | (refine opRun (some 17) rfl rfl (.agg #[.slice (some ⟨w1.heap.size, 0, none⟩) N N, .int .i64 0, .int .i64 0, .pointer (some ⟨gm, 0, none⟩)]) _ (by unfold execOp; simp only []; rw [run_bind_ok (run_build _ _ _ _ (win_built N w1.heap.size gm _ 15 16 rfl rfl))]; rfl) ?_))
    go_ret2
    have hn := HN.out
    subst hn
    have hlt : gm < w1.heap.size := blk_lt HM.out
    refine ⟨(HF.out.alloc _).alloc _, blk_alloc (blk_alloc HM.out), .inr ⟨HC.out, w1.heap.size + 1, w1.heap.size, rfl, by omega, hs1, ⟨0, fun _ => 0, ⟨?_, blk_alloc (blk_new _ _), by omega⟩, ⟨hN0, fun _ _ => by omega, fun d hd _ => by simp at hd⟩⟩, hN2, hN0⟩⟩
    have hb := blk_new (w1.alloc (.cells (arr .u8 (wsize size) (fun _ => 0)) 5)) (.cells #[.slice (some ⟨w1.heap.size, 0, none⟩) (wsize size) (wsize size), .int .i64 0, .int .i64 0, .pointer (some ⟨gm, 0, none⟩)] 159)
    have hz : (w1.alloc (.cells (arr .u8 (wsize size) (fun _ => 0)) 5)).heap.size = w1.heap.size + 1 := by simp
    rw [hz] at hb
    have e : min ([] : List Int).length (wsize size) = 0 := by simp
    rw [e]
    exact hb

/-! ### Close -/
/-- a window that is closed. -/
def WShut (w : World) (g gm : Nat) : Prop := w.heap[g]? = some (.cells #[.slice none 0 0, .int .i64 0, .int .i64 0, .pointer (some ⟨gm, 0, none⟩)] 159)
def WClosePost (g gm : Nat) (m : MS) (w : World) (e : Ending) (w' : World) : Prop := e = .returned (.tuple #[]) ∧ Fr (fun k => k = g ∨ k = gm) w w' ∧ MAt w' gm m ∧ WShut w' g gm
set_option maxRecDepth 100000 in
theorem wclose_raw (g gm n next count : Nat) (a : Option Addr) (m : MS) (w : World) (hg : w.heap[g]? = some (.cells #[.slice a n n, .int .i64 next, .int .i64 count, .pointer (some ⟨gm, 0, none⟩)] 159)) (h : MAt w gm m) (hok : m.Ok) (hn : n ≤ 1048576) (hne : g ≠ gm) :
    Calls Try.prog 66 #[.pointer (some ⟨g, 0, none⟩)] w (WClosePost g gm (m.free n) w) := by
  have k0 := blk_cell hg (j := 0) (v := .slice a n n) rfl
  have k3 := blk_cell hg (j := 3) (v := .pointer (some ⟨gm, 0, none⟩)) rfl
  have HG := hid hg
  have H := hid h
  have HO := hid hok
  clear hg h hok
  go_enter Try.func66, Try.ntmps66
  go_upto_region 0 with fail
  go_cut [] (fun wx => Fr (fun k => k = gm) w wx ∧ MAt wx gm (m.free n))
  case first =>
    go_region_with (go_at_call 56; refine (free_m gm m n _ (by exact H.out) HO.out (by omega)).mono ?_; rintro e w1 ⟨rfl, hf1, hm1⟩; have HF1 := hid hf1; have HM1 := hid hm1; clear hf1 hm1)
    all_goals
      go_wp2_with fail
      go_meet
      exact ⟨by first | exact HF1.out | exact ((Fr.refl _ _).drew).trans HF1.out, HM1.out⟩
  case rest =>
  obtain ⟨hf1, hm1⟩ := hcut
  have hg1 := hf1.blk HG.out hne
  clear k0 k3
  have j0 := blk_cell hg1 (j := 0) (v := .slice a n n) rfl
  have j1 := blk_cell hg1 (j := 1) (v := .int .i64 next) rfl
  have j2 := blk_cell hg1 (j := 2) (v := .int .i64 count) rfl
  have z0 := blk_frozen hg1 0
  have z1 := blk_frozen hg1 1
  have z2 := blk_frozen hg1 2
  have HF1 := hid hf1
  have HM1 := hid hm1
  have HG1 := hid hg1
  clear hf1 hm1 hg1
  go_wp2_with fail
  go_end0
  refine ⟨rfl, ?_, ?_, ?_⟩
  · exact Fr.setCell (p := ⟨g, 1, none⟩) (Fr.setCell (p := ⟨g, 2, none⟩) (Fr.setCell (p := ⟨g, 0, none⟩) (HF1.out.mono (fun _ _ e => .inr e)) (fun _ => .inl rfl) _) (fun _ => .inl rfl) _) (fun _ => .inl rfl) _
  · exact blk_set_ne (blk_set_ne (blk_set_ne HM1.out (fun e => hne e.symm)) (fun e => hne e.symm)) (fun e => hne e.symm)
  · exact blk_set (i := 1) (blk_set (i := 2) (blk_set (i := 0) HG1.out))
end Go.Proofs.Ytjnegcambbeblaa

/- lzma.probs: rows, begin. -/
namespace Go.Proofs.Ytjnegcambbeblaa
open Go.RowKit

/-- the rows of the probabilities: where each begins, and how many there are. -/
def rows0 : List (Nat × Nat) := [(384, 12), (396, 12), (408, 12), (420, 12), (688, 115), (803, 16), (1077, 256), (1591, 256)]
def rows1 (i : Nat) : List (Nat × Nat) := [(16 * i, 16), (192 + 16 * i, 16)]
def rows2 (i : Nat) : List (Nat × Nat) := [(432 + 64 * i, 64)]
def rows3 (i : Nat) : List (Nat × Nat) := [(821 + 8 * i, 8), (949 + 8 * i, 8), (1335 + 8 * i, 8), (1463 + 8 * i, 8)]
def rowsUp (f : Nat → List (Nat × Nat)) : Nat → List (Nat × Nat)
  | 0 => []
  | i + 1 => rowsUp f i ++ f i
def rowsA : List (Nat × Nat) := rows0 ++ rowsUp rows1 12
def rowsB : List (Nat × Nat) := rowsA ++ rowsUp rows2 4
def allRows : List (Nat × Nat) := rowsB ++ rowsUp rows3 16
def rowV (g o : Nat) (x : Nat × Nat) : Value := .slice (some ⟨g, o + x.1, none⟩) x.2 x.2
theorem info_rows : (Try.prog.info? 82).map (fun i => (i.zero, i.size, i.bytes)) = some (some (.slice none 0 0), 1, 24) := by kernel_rfl
theorem rowsUp_len (f : Nat → List (Nat × Nat)) (k : Nat) (h : ∀ i, (f i).length = k) (n : Nat) : (rowsUp f n).length = k * n := by
  induction n with
  | zero => rfl
  | succ n ih => show (rowsUp f n ++ f n).length = _; rw [List.length_append, ih, h, Nat.mul_succ]
def RowsPost (g o : Nat) (w : World) (e : Ending) (w' : World) : Prop := ∃ v, e = .returned v ∧ OwnV w' w.heap.size 82 v (allRows.map (rowV g o)) ∧ Fr Non w w'
set_option maxRecDepth 100000 in
set_option maxHeartbeats 4000000 in
theorem rows_any (g o : Nat) (w : World) :
    Calls Try.prog 113 #[.pointer (some ⟨g, o, none⟩)] w (RowsPost g o w) := by
  go_enter Try.func113, Try.ntmps113
  go_upto_region 1 with fail
  go_cut [3] (fun v wx => OwnV wx w.heap.size 82 v (rows0.map (rowV g o)) ∧ Fr Non w wx)
  case first =>
    go_region
    all_goals
      go_wp2_with fail
      go_meet
      exact ⟨OwnV.built w w.heap.size 82 (rows0.map (rowV g o)) (Nat.le_refl _) (by rw [List.length_map]; decide), ((Fr.refl _ _).alloc _).drew⟩
  case rest =>
  obtain ⟨ho0, hf0⟩ := hcut
  have HO0 := hid ho0
  have HF0 := hid hf0
  clear ho0 hf0
  have hs := HF0.out.size
  have HP := HO0
  have HFP := HF0
  go_wp2_with fail
  go_loopw [3, 42] (fun v iv wr => ∃ k : Nat, k ≤ 12 ∧ iv = .int .i64 k ∧ OwnV wr w.heap.size 82 v ((rows0 ++ rowsUp rows1 k).map (rowV g o)) ∧ Fr Non w wr) (fun _ iv _ => 12 - (intOf iv).toNat)
  case atStart => exact ⟨0, by decide, rfl, by rw [show rows0 ++ rowsUp rows1 0 = rows0 from List.append_nil _]; exact HP.out, HFP.out⟩
  case round =>
    obtain ⟨k, hk, rfl, ho, hf⟩ := hrel
    have HO := hid ho
    have HF := hid hf
    have hs := hf.size
    clear ho hf
    by_cases hlt : k < 12
    · have hk0 : (0 : Int) ≤ (k : Int) := by omega
      have hk1 : (k : Int) < 12 := by omega
      have hl : ((rows0 ++ rowsUp rows1 k).map (rowV g o)).length ≤ 100 := by
        rw [List.length_map, List.length_append, rowsUp_len rows1 2 (fun _ => rfl), show (rows0).length = 8 from by decide]; omega
      go_upto_region 5 with fail
      go_region_law (refine step_growV rfl (.tmp 45) (.tmp 58) 180 rfl w.heap.size 82 (.slice none 0 0) 24 Try.underlying180 info_rows rfl _ _ [.slice (some ⟨g, o + k * 16, none⟩) 16 16, .slice (some ⟨g, o + 192 + k * 16, none⟩) 16 16] rfl 2 rfl _ _ rfl (by exact HO.out.alloc _) (by exact new_cells _ _ _ _ (by simp)) (by intro u hu; simp only [List.mem_cons, List.not_mem_nil, or_false] at hu; rcases hu with rfl | rfl | rfl | rfl <;> rfl) (by decide) (by show (_ + 2) * 24 ≤ _; omega) (by simp; omega) ?_; intro v' w2 hown2 hg2; have HO2 := hid hown2; have HG2 := hid hg2; clear hown2 hg2)
      all_goals
        have hs2 := HG2.out.size
        have HO3 := hid (show OwnV w2 w.heap.size 82 v' ((rows0 ++ rowsUp rows1 (k + 1)).map (rowV g o)) from by
          have e : (rows0 ++ rowsUp rows1 (k + 1)).map (rowV g o) = (rows0 ++ rowsUp rows1 k).map (rowV g o) ++ (rows1 k).map (rowV g o) := by
            rw [← List.map_append, List.append_assoc]; rfl
          rw [e]
          have e2 : (rows1 k).map (rowV g o) = [.slice (some ⟨g, o + k * 16, none⟩) 16 16, .slice (some ⟨g, o + 192 + k * 16, none⟩) 16 16] := by
            simp only [rows1, rowV, List.map_cons, List.map_nil]
            rw [show o + k * 16 = o + 16 * k by omega, show o + 192 + k * 16 = o + (192 + 16 * k) by omega]
          rw [e2]
          exact HO2.out)
        have HF3 := hid (Fr.grown ((HF.out.drew).alloc _) HG2.out (fun b hb hlt => by have := (HO.out.block b hb).1; omega))
        clear HO2 hs2
        go_wp2_with fail
        go_roundw
        case rel => first | exact ⟨k + 1, by omega, by go_num, HO3.out, HF3.out⟩ | exact ⟨_, _, _, _, _, _, _, _, _, _, _, _, _, _, _, ⟨k + 1, by omega, by go_num, HO3.out, HF3.out⟩, rfl⟩ | exact ⟨_, _, _, _, _, _, _, _, _, _, _, _, _, _, _, _, _, _, _, _, _, _, _, _, _, _, _, _, _, _, _, _, _, _, _, _, _, ⟨k + 1, by omega, by go_num, HO3.out, HF3.out⟩, rfl⟩
        case measure => simp [intOf]; omega
    · have e : k = 12 := by omega
      subst e
      have HP := HO
      have HFP := HF
      go_wp2_with fail
      go_loopw [3, 61] (fun v iv wr => ∃ k : Nat, k ≤ 4 ∧ iv = .int .i64 k ∧ OwnV wr w.heap.size 82 v ((rowsA ++ rowsUp rows2 k).map (rowV g o)) ∧ Fr Non w wr) (fun _ iv _ => 4 - (intOf iv).toNat)
      case atStart => exact ⟨0, by decide, rfl, by rw [show rowsA ++ rowsUp rows2 0 = rowsA from List.append_nil _]; exact HP.out, HFP.out⟩
      case round =>
        obtain ⟨k, hk, rfl, ho, hf⟩ := hrel
        have HO := hid ho
        have HF := hid hf
        have hs := hf.size
        clear ho hf
        by_cases hlt : k < 4
        · have hk0 : (0 : Int) ≤ (k : Int) := by omega
          have hk1 : (k : Int) < 4 := by omega
          have hl : ((rowsA ++ rowsUp rows2 k).map (rowV g o)).length ≤ 100 := by
            rw [List.length_map, List.length_append, rowsUp_len rows2 1 (fun _ => rfl), show (rowsA).length = 32 from by decide]; omega
          go_wp2_with (refine opGrowV (some 72) rfl rfl (.tmp 64) (.tmp 71) 180 rfl w.heap.size 82 (.slice none 0 0) 24 Try.underlying180 info_rows rfl _ _ [.slice (some ⟨g, o + 432 + k * 64, none⟩) 64 64] rfl (by exact HO.out.alloc _) 1 rfl _ _ rfl (by exact new_cells _ _ _ _ (by simp)) (by intro u hu; simp only [List.mem_cons, List.not_mem_nil, or_false] at hu; rcases hu with rfl | rfl | rfl | rfl <;> rfl) (by decide) (by show (_ + 1) * 24 ≤ _; omega) (by simp; omega) ?_; intro v' w2 hown2 hg2; have HO2 := hid hown2; have HG2 := hid hg2; clear hown2 hg2)
          all_goals
            have hs2 := HG2.out.size
            have HO3 := hid (show OwnV w2 w.heap.size 82 v' ((rowsA ++ rowsUp rows2 (k + 1)).map (rowV g o)) from by
              have e : (rowsA ++ rowsUp rows2 (k + 1)).map (rowV g o) = (rowsA ++ rowsUp rows2 k).map (rowV g o) ++ (rows2 k).map (rowV g o) := by
                rw [← List.map_append, List.append_assoc]; rfl
              rw [e]
              have e2 : (rows2 k).map (rowV g o) = [.slice (some ⟨g, o + 432 + k * 64, none⟩) 64 64] := by
                simp only [rows2, rowV, List.map_cons, List.map_nil]
                rw [show o + 432 + k * 64 = o + (432 + 64 * k) by omega]
              rw [e2]
              exact HO2.out)
            have HF3 := hid (Fr.grown ((HF.out).alloc _) HG2.out (fun b hb hlt => by have := (HO.out.block b hb).1; omega))
            clear HO2 hs2
            go_wp2_with fail
            go_roundw
            case rel => first | exact ⟨k + 1, by omega, by go_num, HO3.out, HF3.out⟩ | exact ⟨_, _, _, _, _, _, _, _, _, _, _, _, _, _, _, ⟨k + 1, by omega, by go_num, HO3.out, HF3.out⟩, rfl⟩ | exact ⟨_, _, _, _, _, _, _, _, _, _, _, _, _, _, _, _, _, _, _, _, _, _, _, _, _, _, _, _, _, _, _, _, _, _, _, _, _, ⟨k + 1, by omega, by go_num, HO3.out, HF3.out⟩, rfl⟩
            case measure => simp [intOf]; omega
        · have e : k = 4 := by omega
          subst e
          have HP := HO
          have HFP := HF
          go_wp2_with fail
          go_loopw [3, 74] (fun v iv wr => ∃ k : Nat, k ≤ 16 ∧ iv = .int .i64 k ∧ OwnV wr w.heap.size 82 v ((rowsB ++ rowsUp rows3 k).map (rowV g o)) ∧ Fr Non w wr) (fun _ iv _ => 16 - (intOf iv).toNat)
          case atStart => exact ⟨0, by decide, rfl, by rw [show rowsB ++ rowsUp rows3 0 = rowsB from List.append_nil _]; exact HP.out, HFP.out⟩
          case round =>
            obtain ⟨k, hk, rfl, ho, hf⟩ := hrel
            have HO := hid ho
            have HF := hid hf
            have hs := hf.size
            clear ho hf
            by_cases hlt : k < 16
            · have hk0 : (0 : Int) ≤ (k : Int) := by omega
              have hk1 : (k : Int) < 16 := by omega
              have hl : ((rowsB ++ rowsUp rows3 k).map (rowV g o)).length ≤ 100 := by
                rw [List.length_map, List.length_append, rowsUp_len rows3 4 (fun _ => rfl), show (rowsB).length = 36 from by decide]; omega
              go_upto_region 15 with fail
              go_region_law (refine step_growV rfl (.tmp 77) (.tmp 106) 180 rfl w.heap.size 82 (.slice none 0 0) 24 Try.underlying180 info_rows rfl _ _ [.slice (some ⟨g, o + 819 + 2 + k * 8, none⟩) 8 8, .slice (some ⟨g, o + 819 + 130 + k * 8, none⟩) 8 8, .slice (some ⟨g, o + 1333 + 2 + k * 8, none⟩) 8 8, .slice (some ⟨g, o + 1333 + 130 + k * 8, none⟩) 8 8] rfl 4 rfl _ _ rfl (by exact HO.out.alloc _) (by exact new_cells _ _ _ _ (by simp)) (by intro u hu; simp only [List.mem_cons, List.not_mem_nil, or_false] at hu; rcases hu with rfl | rfl | rfl | rfl <;> rfl) (by decide) (by show (_ + 4) * 24 ≤ _; omega) (by simp; omega) ?_; intro v' w2 hown2 hg2; have HO2 := hid hown2; have HG2 := hid hg2; clear hown2 hg2)
              all_goals
                have hs2 := HG2.out.size
                have HO3 := hid (show OwnV w2 w.heap.size 82 v' ((rowsB ++ rowsUp rows3 (k + 1)).map (rowV g o)) from by
                  have e : (rowsB ++ rowsUp rows3 (k + 1)).map (rowV g o) = (rowsB ++ rowsUp rows3 k).map (rowV g o) ++ (rows3 k).map (rowV g o) := by
                    rw [← List.map_append, List.append_assoc]; rfl
                  rw [e]
                  have e2 : (rows3 k).map (rowV g o) = [.slice (some ⟨g, o + 819 + 2 + k * 8, none⟩) 8 8, .slice (some ⟨g, o + 819 + 130 + k * 8, none⟩) 8 8, .slice (some ⟨g, o + 1333 + 2 + k * 8, none⟩) 8 8, .slice (some ⟨g, o + 1333 + 130 + k * 8, none⟩) 8 8] := by
                    simp only [rows3, rowV, List.map_cons, List.map_nil]
                    rw [show o + 819 + 2 + k * 8 = o + (821 + 8 * k) by omega, show o + 819 + 130 + k * 8 = o + (949 + 8 * k) by omega, show o + 1333 + 2 + k * 8 = o + (1335 + 8 * k) by omega, show o + 1333 + 130 + k * 8 = o + (1463 + 8 * k) by omega]
                  rw [e2]
                  exact HO2.out)
                have HF3 := hid (Fr.grown ((HF.out.drew).alloc _) HG2.out (fun b hb hlt => by have := (HO.out.block b hb).1; omega))
                clear HO2 hs2
                go_wp2_with fail
                go_roundw
                case rel => first | exact ⟨k + 1, by omega, by go_num, HO3.out, HF3.out⟩ | exact ⟨_, _, _, _, _, _, _, _, _, _, _, _, _, _, _, ⟨k + 1, by omega, by go_num, HO3.out, HF3.out⟩, rfl⟩ | exact ⟨_, _, _, _, _, _, _, _, _, _, _, _, _, _, _, _, _, _, _, _, _, _, _, _, _, _, _, _, _, _, _, _, _, _, _, _, _, ⟨k + 1, by omega, by go_num, HO3.out, HF3.out⟩, rfl⟩
                case measure => simp [intOf]; omega
            · have e : k = 16 := by omega
              subst e
              have HP := HO
              have HFP := HF
              go_wp2_with fail
              go_ret
              exact ⟨_, rfl, HO.out, HF.out⟩
end Go.Proofs.Ytjnegcambbeblaa

/- lzma.probs: begin. -/
namespace Go.Proofs.Ytjnegcambbeblaa
open Go.RowKit

def fill1 (x : Nat × Nat) (q : Nat → Int) : Nat → Int := fun j => if x.1 ≤ j ∧ j < x.1 + x.2 then 1024 else q j
def fillTo (q : Nat → Int) : Nat → Nat → Int
  | 0 => q
  | k + 1 => fill1 (allRows.getD k (0, 0)) (fillTo q k)
def covers (j : Nat) (x : Nat × Nat) : Bool := decide (x.1 ≤ j) && decide (j < x.1 + x.2)
theorem fillTo_eq (q : Nat → Int) (k : Nat) (hk : k ≤ allRows.length) (j : Nat) : fillTo q k j = if (allRows.take k).any (covers j) then 1024 else q j := by
  induction k with
  | zero => rfl
  | succ k ih =>
    have hlt : k < allRows.length := hk
    have e : allRows.take (k + 1) = allRows.take k ++ [allRows.getD k (0, 0)] := by
      rw [List.take_add_one]
      congr 1
      simp [List.getD, hlt]
    rw [e, List.any_append]
    show (if (allRows.getD k (0, 0)).1 ≤ j ∧ j < (allRows.getD k (0, 0)).1 + (allRows.getD k (0, 0)).2 then 1024 else fillTo q k j) = _
    rw [ih (by omega)]
    by_cases hc : (allRows.getD k (0, 0)).1 ≤ j ∧ j < (allRows.getD k (0, 0)).1 + (allRows.getD k (0, 0)).2
    · rw [if_pos hc]
      have : covers j (allRows.getD k (0, 0)) = true := by unfold covers; rw [decide_eq_true hc.1, decide_eq_true hc.2]; rfl
      have e3 : ([allRows.getD k (0, 0)].any (covers j)) = true := by rw [List.any_cons, this]; rfl
      rw [e3, Bool.or_true, if_pos rfl]
    · rw [if_neg hc]
      have : covers j (allRows.getD k (0, 0)) = false := by
        unfold covers
        rw [Bool.and_eq_false_iff, decide_eq_false_iff_not, decide_eq_false_iff_not]
        by_cases h1 : (allRows.getD k (0, 0)).1 ≤ j
        · exact .inr (fun h2 => hc ⟨h1, h2⟩)
        · exact .inl h1
      have e3 : ([allRows.getD k (0, 0)].any (covers j)) = false := by rw [List.any_cons, this]; rfl
      rw [e3, Bool.or_false]
theorem all_len : allRows.length = 100 := by decide
theorem all_cover : ∀ j, j < 1847 → (j = 819 ∨ j = 820 ∨ j = 1333 ∨ j = 1334) ∨ allRows.any (covers j) = true := by decide +kernel
theorem all_fit : ∀ k, k < 100 → (allRows.getD k (0, 0)).1 + (allRows.getD k (0, 0)).2 ≤ 1847 ∧ (allRows.getD k (0, 0)).2 ≤ 256 ∧ 0 < (allRows.getD k (0, 0)).2 := by decide +kernel
theorem fill_all (q : Nat → Int) : arr .u16 1847 (upd (upd (upd (upd (fillTo q 100) 819 1024) 820 1024) 1333 1024) 1334 1024) = arr .u16 1847 (fun _ => 1024) := by
  unfold arr
  apply Array.ext_getElem?
  intro i
  by_cases hi : i < 1847
  · simp only [Array.getElem?_map, Array.getElem?_range]
    rw [if_pos hi]
    simp only [Option.map_some]
    congr 2
    by_cases e4 : i = 1334
    · rw [e4, upd_same]
    rw [upd_ne _ _ e4]
    by_cases e3 : i = 1333
    · rw [e3, upd_same]
    rw [upd_ne _ _ e3]
    by_cases e2 : i = 820
    · rw [e2, upd_same]
    rw [upd_ne _ _ e2]
    by_cases e1 : i = 819
    · rw [e1, upd_same]
    rw [upd_ne _ _ e1, fillTo_eq q 100 (by rw [all_len]; exact Nat.le_refl _), List.take_of_length_le (by rw [all_len]; exact Nat.le_refl _)]
    rcases all_cover i hi with h | h
    · omega
    · rw [if_pos h]
  · rw [Array.getElem?_eq_none (by simp; omega), Array.getElem?_eq_none (by simp; omega)]
theorem splice_get {α : Type} (L M : List α) (a : Nat) (h : a + M.length ≤ L.length) (i : Nat) : (L.take a ++ M ++ L.drop (a + M.length))[i]? = if i < a then L[i]? else if i < a + M.length then M[i - a]? else L[i]? := by
  have h1 : (L.take a).length = a := by rw [List.length_take]; omega
  rw [List.append_assoc]
  by_cases c1 : i < a
  · rw [if_pos c1, List.getElem?_append_left (by omega), List.getElem?_take_of_lt c1]
  · rw [if_neg c1, List.getElem?_append_right (by omega), h1]
    by_cases c2 : i < a + M.length
    · rw [if_pos c2, List.getElem?_append_left (by omega)]
    · rw [if_neg c2, List.getElem?_append_right (by omega), List.getElem?_drop]
      congr 1
      omega
theorem splice_mid (A B : Array Value) (k : IntKind) (n off s l : Nat) (q r : Nat → Int) (hA : A.size = off) (hs : s + l ≤ n) (c : Int) (hr : ∀ j, j < n → r j = if s ≤ j ∧ j < s + l then c else q j) :
    (((A ++ arr k n q) ++ B).toList.take (off + s) ++ (arr k l (fun _ => c)).toList ++ ((A ++ arr k n q) ++ B).toList.drop (off + s + (arr k l (fun _ => c)).toList.length)).toArray = (A ++ arr k n r) ++ B := by
  have hl : (arr k l (fun _ => c)).toList.length = l := by simp [arr_size]
  have hz : ∀ t : Nat → Int, ((A ++ arr k n t) ++ B).toList.length = off + n + B.size := fun t => by simp [arr_size, hA]; omega
  have hget : ∀ (t : Nat → Int) (i : Nat), ((A ++ arr k n t) ++ B)[i]? = if i < off then A[i]? else if i < off + n then some (.int k (t (i - off))) else B[i - (off + n)]? := by
    intro t i
    by_cases c1 : i < off
    · rw [if_pos c1, Array.getElem?_append_left (by simp [arr_size]; omega), Array.getElem?_append_left (by omega)]
    · rw [if_neg c1]
      by_cases c2 : i < off + n
      · rw [if_pos c2, Array.getElem?_append_left (by simp [arr_size]; omega), Array.getElem?_append_right (by omega), hA, arr_get _ _ _ (by omega)]
      · rw [if_neg c2, Array.getElem?_append_right (by simp [arr_size]; omega)]
        congr 1
        simp [arr_size, hA]
  apply Array.ext_getElem?
  intro i
  rw [List.getElem?_toArray, splice_get _ _ _ (by rw [hl, hz]; omega), hl]
  have g1 : ((A ++ arr k n q) ++ B).toList[i]? = ((A ++ arr k n q) ++ B)[i]? := by rw [Array.getElem?_toList]
  have g2 : (arr k l (fun _ => c)).toList[i - (off + s)]? = (arr k l (fun _ => c))[i - (off + s)]? := by rw [Array.getElem?_toList]
  rw [g1, g2, hget q i, hget r i]
  by_cases c0 : i < off
  · have c1 : i < off + s := by omega
    rw [if_pos c1, if_pos c0, if_pos c0]
  · rw [if_neg c0, if_neg c0]
    by_cases c2 : i < off + n
    · rw [if_pos c2, if_pos c2, hr (i - off) (by omega)]
      by_cases c3 : i < off + s
      · rw [if_pos c3, if_neg (show ¬ (s ≤ i - off ∧ i - off < s + l) by omega)]
      · rw [if_neg c3]
        by_cases c4 : i < off + s + l
        · rw [if_pos c4, if_pos (show s ≤ i - off ∧ i - off < s + l by omega), arr_get _ _ _ (show i - (off + s) < l by omega)]
        · rw [if_neg c4, if_neg (show ¬ (s ≤ i - off ∧ i - off < s + l) by omega)]
    · rw [if_neg c2, if_neg c2, if_neg (show ¬ i < off + s by omega), if_neg (show ¬ i < off + s + l by omega)]
theorem opCopyRaw {P : Program} {ops : Array Oper} {rest : List Oper} {o : Oper} {a : Act} {w : World} {Q : Exit → Act → World → Prop} (hgd : o.guard = none) (d s : Operand) (dT sT : TypeId)
    (ho : o.op = .call { callee := .builtin .copy, args := #[d, s], argTypes := #[dT, sT] }) (elem t : TypeId) (hu : P.underlying dT = some (.slice elem)) (hsz : (P.info? elem).map (·.size) = some 1)
    (g off dLen dCap gs offs sLen sCap : Nat) (hd : a.eval d = .slice (some ⟨g, off, none⟩) dLen dCap) (hs : a.eval s = .slice (some ⟨gs, offs, none⟩) sLen sCap)
    (cur new : Array Value) (hg : w.heap[g]? = some (.cells cur t)) (cs : List Value) (hm : cs.length = Nat.min sLen dLen) (hsrc : ∀ j v, cs[j]? = some v → w.cell? ((⟨gs, offs, none⟩ : Addr).add j) = some v) (hfit : off + cs.length ≤ cur.size)
    (h1 : ∀ v ∈ cs, v.oneCell' = true) (hnew : (cur.toList.take off ++ cs ++ cur.toList.drop (off + cs.length)).toArray = new)
    (h : ∀ w', Fr (fun i => i = g) w w' → w'.heap[g]? = some (.cells new t) → wpList P ops Q rest (a.put o.dst (goInt cs.length)) w') : wpList P ops Q (o :: rest) a w := by
  have hrun := run_copy_row (P := P) w dT sT o.type elem g off dLen dCap ⟨gs, offs, none⟩ sLen sCap cur t cs hu hsz hg hm hsrc hfit h1
  rw [hnew] at hrun
  refine wpList_plain hgd fun K hK => ?_
  have hu : K (a.put o.dst (goInt cs.length)) (w.setRow g new) → Oper.wp P o a w K Q := by
    intro hk
    unfold Oper.wp
    simp [execOp, ho, resolve, invoke, builtin, hd, hs, hrun, Result.andThen]
    exact hk
  refine hu (hK _ _ (h _ ⟨rfl, rfl, rfl, by simp [World.setRow], fun i _ hi => setRow_other w g i _ hi⟩ (setRow_heap w g _ _ t _ hg)))
theorem size_u16z : (Try.prog.info? 40).map (·.size) = some 1 := by kernel_rfl
theorem arr_oneZ {k : IntKind} {n : Nat} {q : Nat → Int} : ∀ v ∈ (arr k n q).toList, v.oneCell' = true := by
  intro v hv
  simp [arr] at hv
  obtain ⟨i, _, rfl⟩ := hv
  rfl
theorem src_cellsZ {w : World} {gs : Nat} {cs : Array Value} {t : TypeId} {f : Nat × Nat} (h : w.heap[gs]? = some (.cells cs t f)) :
    ∀ j v, cs.toList[j]? = some v → w.cell? ((⟨gs, 0, none⟩ : Addr).add j) = some v := by
  intro j v hj
  have e : (⟨gs, 0, none⟩ : Addr).add j = ⟨gs, 0 + j, none⟩ := by unfold Addr.add; split <;> simp_all
  rw [e]
  exact blk_cell h (by simpa using hj)
def BeginPost (g : Nat) (A B : Array Value) (T : TypeId) (w : World) (e : Ending) (w' : World) : Prop :=
  e = .returned (.tuple #[]) ∧ Fr (fun k => k = g) w w' ∧ w'.heap[g]? = some (.cells ((A ++ arr .u16 1847 (fun _ => 1024)) ++ B) T)
theorem arrmid_get (A B : Array Value) (k : IntKind) (n off : Nat) (t : Nat → Int) (hA : A.size = off) (i : Nat) (hi : i < n) : ((A ++ arr k n t) ++ B)[off + i]? = some (.int k (t i)) := by
  rw [Array.getElem?_append_left (by simp [arr_size]; omega), Array.getElem?_append_right (by omega), hA, Nat.add_sub_cancel_left, arr_get _ _ _ hi]
theorem arrmid_set (A B : Array Value) (k : IntKind) (n off : Nat) (t : Nat → Int) (hA : A.size = off) (i : Nat) (hi : i < n) (x : Int) : ((A ++ arr k n t) ++ B).setIfInBounds (off + i) (.int k x) = (A ++ arr k n (upd t i x)) ++ B := by
  rw [Array.setIfInBounds_append_left (by simp [arr_size]; omega), Array.setIfInBounds_append_right (by omega), hA, Nat.add_sub_cancel_left, arr_set]
set_option maxRecDepth 100000 in
set_option maxHeartbeats 2000000 in
theorem begin_any (g off : Nat) (A B : Array Value) (q : Nat → Int) (T : TypeId) (w : World) (hA : A.size = off) (hb : w.heap[g]? = some (.cells ((A ++ arr .u16 1847 q) ++ B) T)) :
    Calls Try.prog 85 #[.pointer (some ⟨g, off, none⟩)] w (BeginPost g A B T w) := by
  have H := hid hb
  have HA := hid hA
  have hlt := blk_lt hb
  have HLT := hid hlt
  clear hb hA hlt
  go_enter Try.func85, Try.ntmps85
  go_wp2_with fail
  refine (rows_any g off _).mono ?_
  rintro e w1 ⟨v, rfl, ho, hf⟩
  obtain ⟨gv, cv, rfl, hgv, hcell⟩ := ho.get (by simp [all_len])
  have hl : (allRows.map (rowV g off)).length = 100 := by rw [List.length_map, all_len]
  rw [hl]
  have HV := hid (show ∀ i, i < 100 → w1.cell? ⟨gv, i, none⟩ = some (rowV g off (allRows.getD i (0, 0))) from fun i hi => hcell i _ (by
    rw [List.getElem?_map]
    have : allRows[i]? = some (allRows.getD i (0, 0)) := by simp [List.getD, all_len, hi]
    rw [this]; rfl))
  have HF := hid hf
  have H1 := hid (hf.blk H.out id)
  have HGV := hid hgv
  clear ho hf hcell hl
  go_wp2_with fail
  go_loopw [7] (fun iv wr => ∃ k : Nat, k ≤ 100 ∧ iv = .int .i64 k ∧ Fr (fun b => b = g) w1 wr ∧ wr.heap[g]? = some (.cells ((A ++ arr .u16 1847 (fillTo q k)) ++ B) T)) (fun iv _ => 100 - (intOf iv).toNat)
  case atStart => exact ⟨0, by decide, rfl, Fr.refl _ _, H1.out⟩
  case round =>
    obtain ⟨k, hk, rfl, hf, hb⟩ := hrel
    have HFR := hid hf
    have HB := hid hb
    have HLT := HLT
    by_cases hlt : k < 100
    · have hk0 : (0 : Int) ≤ (k : Int) := by omega
      have hk1 : (k : Int) < 100 := by omega
      obtain ⟨f1, f2, f3⟩ := all_fit k hlt
      have cv := hf.cell (HV.out k hlt) (fun e => by have e : gv = g := e; have := HGV.out; have := HLT.out; omega)
      obtain ⟨x, hx⟩ : ∃ x, x = allRows.getD k (0, 0) := ⟨_, rfl⟩
      rw [← hx] at cv f1 f2 f3
      have HX := hid hx
      unfold rowV at cv
      obtain ⟨s, l⟩ := x
      dsimp only at cv f1 f2 f3
      clear hf hb hx
      go_wp2_with fail
      refine (fresh_any l _ (by omega)).mono ?_
      rintro e w2 ⟨gp, hgp, rfl, hf2, hb2⟩
      have HF2 := hid hf2
      have HB2 := hid hb2
      clear hf2 hb2 cv
      go_wp2_with (refine opCopyRaw rfl (.tmp 11) (.tmp 14) 82 82 rfl 40 T Try.underlying82 size_u16z g (off + s) l l gp 0 l l rfl rfl ((A ++ arr .u16 1847 (fillTo q k)) ++ B) ((A ++ arr .u16 1847 (fillTo q (k + 1))) ++ B) (by exact HF2.out.blk HB.out id) (arr .u16 l (fun _ => 1024)).toList (by simp [arr_size]) (src_cellsZ (by exact HB2.out)) (by have := HA.out; simp [arr_size]; omega) arr_oneZ (splice_mid A B .u16 1847 off s l _ _ HA.out f1 1024 (fun j _ => by show fill1 (allRows.getD k (0, 0)) (fillTo q k) j = _; rw [← HX.out]; rfl)) ?_; intro w3 hf3 hb3; have HF3 := hid hf3; have HB3 := hid hb3; clear hf3 hb3)
      go_roundw
      case rel => exact ⟨k + 1, by omega, by go_num, (HFR.out.trans HF2.out.any).trans HF3.out, HB3.out⟩
      case measure => simp [intOf]; omega
    · have e : k = 100 := by omega
      subst e
      have hA := HA.out
      have d1 := blk_cell hb (j := off + 819) (v := .int .u16 (fillTo q 100 819)) (arrmid_get A B .u16 1847 off _ hA 819 (by decide))
      have d2 := blk_cell hb (j := off + 820) (v := .int .u16 (fillTo q 100 820)) (arrmid_get A B .u16 1847 off _ hA 820 (by decide))
      have d3 := blk_cell hb (j := off + 1333) (v := .int .u16 (fillTo q 100 1333)) (arrmid_get A B .u16 1847 off _ hA 1333 (by decide))
      have d4 := blk_cell hb (j := off + 1334) (v := .int .u16 (fillTo q 100 1334)) (arrmid_get A B .u16 1847 off _ hA 1334 (by decide))
      have z1 := blk_frozen hb (off + 819)
      have z2 := blk_frozen hb (off + 820)
      have z3 := blk_frozen hb (off + 1333)
      have z4 := blk_frozen hb (off + 1334)
      have e1 := blk_set (i := off + 819) (v := .int .u16 1024) hb
      rw [arrmid_set A B .u16 1847 off _ hA 819 (by decide)] at e1
      have e2 := blk_set (i := off + 820) (v := .int .u16 1024) e1
      rw [arrmid_set A B .u16 1847 off _ hA 820 (by decide)] at e2
      have e3 := blk_set (i := off + 1333) (v := .int .u16 1024) e2
      rw [arrmid_set A B .u16 1847 off _ hA 1333 (by decide)] at e3
      have e4 := blk_set (i := off + 1334) (v := .int .u16 1024) e3
      rw [arrmid_set A B .u16 1847 off _ hA 1334 (by decide), fill_all] at e4
      have E4 := hid e4
      clear hf hb hA e1 e2 e3 e4
      go_wp2_with fail
      go_end0
      exact ⟨rfl, HF.out.any.trans ((((HFR.out.setOne _ _).setOne _ _).setOne _ _).setOne _ _), E4.out⟩
end Go.Proofs.Ytjnegcambbeblaa

/- lzma.Decoder: where it lies; Begin, Put, Empty. -/
namespace Go.Proofs.Ytjnegcambbeblaa
open Go.RowKit

/-- the place in the document's list of what lies at a place of the program's. -/
def piL (i : Nat) : Nat := if i < 192 then i else if i < 384 then i + 48 else if i < 432 then i - 192 else i
def sgL (k : Nat) : Nat := if k < 192 then k else if k < 240 then k + 192 else if k < 432 then k - 48 else k
theorem piL_sgL {k : Nat} (_h : k < 1847) : piL (sgL k) = k ∧ sgL k < 1847 := by
  unfold sgL
  split
  · unfold piL; rw [if_pos (by assumption)]; omega
  · split
    · unfold piL; rw [if_neg (by omega), if_neg (by omega), if_pos (by omega)]; omega
    · split
      · unfold piL; rw [if_neg (by omega), if_pos (by omega)]; omega
      · unfold piL; rw [if_neg (by omega), if_neg (by omega), if_neg (by omega)]; omega
theorem sgL_piL {i : Nat} (_h : i < 1847) : sgL (piL i) = i ∧ piL i < 1847 := by
  unfold piL
  split
  · unfold sgL; rw [if_pos (by assumption)]; omega
  · split
    · unfold sgL; rw [if_neg (by omega), if_neg (by omega), if_pos (by omega)]; omega
    · split
      · unfold sgL; rw [if_neg (by omega), if_pos (by omega)]; omega
      · unfold sgL; rw [if_neg (by omega), if_neg (by omega), if_neg (by omega)]; omega
/-- where a decoder lies: its block, its literals', its window's, its ring's, its meter's; how long the ring and the literals are. -/
structure LL where
  gd : Nat
  gl : Nat
  gw : Nat
  gn : Nat
  gm : Nat
  n : Nat
  nl : Nat
/-- a decoder's state, but its range decoder's. -/
structure LS where
  lc : Nat
  lp : Nat
  pb : Nat
  dict : Nat
  taken : Nat
  P : Nat → Int
  st : Nat
  rep : Nat → Nat
  place : Nat
  left : Nat
  ended : Bool
  bad : Bool
  H : List Int
def LS.head (L : LL) (sp rp : Value) (s : LS) : Array Value := #[.int .i64 s.lc, .int .i64 s.lp, .int .i64 s.pb, .int .i64 s.dict, .pointer (some ⟨L.gm, 0, none⟩), .int .i64 s.taken, .pointer (some ⟨L.gw, 0, none⟩), sp, rp]
def LS.tail (lv : Value) (s : LS) : Array Value := #[lv, .int .i64 s.st, .int .u32 (s.rep 0), .int .u32 (s.rep 1), .int .u32 (s.rep 2), .int .u32 (s.rep 3), .int .i64 s.place, .int .i64 s.left, .bool s.ended, .bool s.bad]
def LS.cells (L : LL) (lv sp rp : Value) (s : LS) : Array Value := (s.head L sp rp ++ arr .u16 1847 (fun i => s.P (piL i))) ++ s.tail lv
def LL.lit (L : LL) : Value := .slice (some ⟨L.gl, 0, none⟩) L.nl L.nl
theorem head_size (L : LL) (sp rp : Value) (s : LS) : (s.head L sp rp).size = 9 := rfl
theorem cellsL_head (L : LL) (lv sp rp : Value) (s : LS) {i : Nat} (h : i < 9) : (s.cells L lv sp rp)[i]? = (s.head L sp rp)[i]? := by
  unfold LS.cells
  rw [Array.getElem?_append_left (by simp [arr_size, LS.head]; omega), Array.getElem?_append_left (by simpa [LS.head] using h)]
theorem cellsL_P (L : LL) (lv sp rp : Value) (s : LS) {k : Nat} (h : k < 1847) : (s.cells L lv sp rp)[9 + sgL k]? = some (.int .u16 (s.P k)) := by
  obtain ⟨e1, e2⟩ := piL_sgL h
  unfold LS.cells
  rw [arrmid_get _ _ .u16 1847 9 _ (head_size L sp rp s) (sgL k) e2, e1]
theorem cellsL_tail (L : LL) (lv sp rp : Value) (s : LS) {i : Nat} : (s.cells L lv sp rp)[1856 + i]? = (s.tail lv)[i]? := by
  unfold LS.cells
  rw [Array.getElem?_append_right (by simp [arr_size, LS.head])]
  have e : 1856 + i - (s.head L sp rp ++ arr .u16 1847 (fun i => s.P (piL i))).size = i := by simp [arr_size, LS.head]
  rw [e]
theorem cellsL_setP (L : LL) (lv sp rp : Value) (s : LS) {k : Nat} (h : k < 1847) (x : Int) : (s.cells L lv sp rp).setIfInBounds (9 + sgL k) (.int .u16 x) = { s with P := upd s.P k x }.cells L lv sp rp := by
  obtain ⟨e1, e2⟩ := piL_sgL h
  unfold LS.cells
  rw [arrmid_set _ _ .u16 1847 9 _ (head_size L sp rp s) (sgL k) e2]
  have e : arr .u16 1847 (upd (fun i => s.P (piL i)) (sgL k) x) = arr .u16 1847 (fun i => (upd s.P k x) (piL i)) := by
    unfold arr
    apply Array.ext_getElem?
    intro i
    by_cases hi : i < 1847
    · simp only [Array.getElem?_map, Array.getElem?_range]
      rw [if_pos hi]
      simp only [Option.map_some]
      congr 2
      by_cases e : i = sgL k
      · rw [e, upd_same, e1, upd_same]
      · rw [upd_ne _ _ e, upd_ne _ _ (fun e3 => e (by rw [← e3]; exact (sgL_piL hi).1.symm))]
    · rw [Array.getElem?_eq_none (by simp; omega), Array.getElem?_eq_none (by simp; omega)]
  rw [e]
  rfl
theorem cellsL_setH (L : LL) (lv sp rp sp' rp' : Value) (s s' : LS) {i : Nat} {v : Value} (hi : i < 9) (hP : s'.P = s.P) (ht : s'.tail lv = s.tail lv) (hh : (s.head L sp rp).setIfInBounds i v = s'.head L sp' rp') : (s.cells L lv sp rp).setIfInBounds i v = s'.cells L lv sp' rp' := by
  unfold LS.cells
  rw [Array.setIfInBounds_append_left (by simp [arr_size, LS.head]; omega), Array.setIfInBounds_append_left (by simpa [LS.head] using hi), hh, hP, ht]
theorem cellsL_setT (L : LL) (lv lv' sp rp : Value) (s s' : LS) {i : Nat} {v : Value} (hP : s'.P = s.P) (hh : s'.head L sp rp = s.head L sp rp) (ht : (s.tail lv).setIfInBounds i v = s'.tail lv') : (s.cells L lv sp rp).setIfInBounds (1856 + i) v = s'.cells L lv' sp rp := by
  unfold LS.cells
  rw [Array.setIfInBounds_append_right (by simp [arr_size, LS.head])]
  have e : 1856 + i - (s.head L sp rp ++ arr .u16 1847 (fun i => s.P (piL i))).size = i := by simp [arr_size, LS.head]
  rw [e, ht, hP, hh]
/-- nobody's block is another one's. -/
structure LL.Ap (L : LL) : Prop where
  dl : L.gd ≠ L.gl
  dw : L.gd ≠ L.gw
  dn : L.gd ≠ L.gn
  lw : L.gl ≠ L.gw
  ln : L.gl ≠ L.gn
  wn : L.gw ≠ L.gn
  md : L.gm ≠ L.gd
  ml : L.gm ≠ L.gl
  mw : L.gm ≠ L.gw
  mn : L.gm ≠ L.gn
def LL.foot (L : LL) : Nat → Prop := fun k => k = L.gd ∨ k = L.gl ∨ k = L.gw ∨ k = L.gn
structure LS.Ok (L : LL) (s : LS) : Prop where
  pr : Pr s.P (1847 + L.nl)
  st : s.st < 12
  rep : ∀ i, i < 4 → s.rep i < 4294967296
  by_ : bytesL s.H
  lc : s.lc ≤ 8
  lp : s.lp ≤ 4
  pb : s.pb ≤ 4
  nl : 768 * 2 ^ (s.lc + s.lp) ≤ L.nl
  dict : s.dict ≤ 4294967295
  left : s.left ≤ 273
structure LIs (L : LL) (sp rp : Value) (w : World) (s : LS) : Prop where
  at_ : w.heap[L.gd]? = some (.cells (s.cells L L.lit sp rp) 115)
  lit : w.heap[L.gl]? = some (.cells (arr .u16 L.nl (fun i => s.P (1847 + i))) 40)
  win : WinIs L.gw L.gn L.gm L.n w s.H
  ok : s.Ok L
  ap : L.Ap
  big : L.nl ≤ 49152
theorem LIs.keep {L : LL} {sp rp : Value} {w w' : World} {s : LS} (h : LIs L sp rp w s) {T : Nat → Prop} (hf : Fr T w w') (ht : ∀ k, L.foot k → ¬ T k) : LIs L sp rp w' s :=
  ⟨hf.blk h.at_ (ht _ (.inl rfl)), hf.blk h.lit (ht _ (.inr (.inl rfl))), h.win.keep hf (ht _ (.inr (.inr (.inl rfl)))) (ht _ (.inr (.inr (.inr rfl)))), h.ok, h.ap, h.big⟩
theorem LIs.headC {L : LL} {sp rp : Value} {w : World} {s : LS} (h : LIs L sp rp w s) (i : Nat) {v : Value} (hi : i < 9) (hv : (s.head L sp rp)[i]? = some v) : w.cell? ⟨L.gd, i, none⟩ = some v :=
  blk_cell h.at_ (by rw [cellsL_head _ _ _ _ _ hi]; exact hv)
theorem LIs.tailC {L : LL} {sp rp : Value} {w : World} {s : LS} (h : LIs L sp rp w s) (i : Nat) {v : Value} (hv : (s.tail L.lit)[i]? = some v) : w.cell? ⟨L.gd, 1856 + i, none⟩ = some v :=
  blk_cell h.at_ (by rw [cellsL_tail]; exact hv)
/-- a number behind the probabilities is another one. -/
theorem LIs.setT {L : LL} {sp rp : Value} {w : World} {s s' : LS} (h : LIs L sp rp w s) {i : Nat} {v : Value} (hP : s'.P = s.P) (hh : s'.head L sp rp = s.head L sp rp) (hH : s'.H = s.H) (ht : (s.tail L.lit).setIfInBounds i v = s'.tail L.lit) (hok : s'.Ok L) :
    LIs L sp rp (w.setCell ⟨L.gd, 1856 + i, none⟩ v) s' := by
  have hf : Fr (fun k => k = L.gd) w (w.setCell ⟨L.gd, 1856 + i, none⟩ v) := (Fr.refl _ _).setOne _ _
  refine ⟨?_, by rw [hP]; exact hf.blk h.lit (fun e => h.ap.dl e.symm), by rw [hH]; exact h.win.keep hf (fun e => h.ap.dw e.symm) (fun e => h.ap.dn e.symm), hok, h.ap, h.big⟩
  have e := blk_set (i := 1856 + i) (v := v) h.at_
  rw [cellsL_setT L L.lit L.lit sp rp s s' hP hh ht] at e
  exact e
theorem LIs.setH {L : LL} {sp rp sp' rp' : Value} {w : World} {s s' : LS} (h : LIs L sp rp w s) {i : Nat} {v : Value} (hi : i < 9) (hP : s'.P = s.P) (hH : s'.H = s.H) (ht : s'.tail L.lit = s.tail L.lit) (hh : (s.head L sp rp).setIfInBounds i v = s'.head L sp' rp') (hok : s'.Ok L) :
    LIs L sp' rp' (w.setCell ⟨L.gd, i, none⟩ v) s' := by
  have hf : Fr (fun k => k = L.gd) w (w.setCell ⟨L.gd, i, none⟩ v) := (Fr.refl _ _).setOne _ _
  refine ⟨?_, by rw [hP]; exact hf.blk h.lit (fun e => h.ap.dl e.symm), by rw [hH]; exact h.win.keep hf (fun e => h.ap.dw e.symm) (fun e => h.ap.dn e.symm), hok, h.ap, h.big⟩
  have e := blk_set (i := i) (v := v) h.at_
  rw [cellsL_setH L L.lit sp rp sp' rp' s s' hi hP ht hh] at e
  exact e
theorem LIs.win_ {L : LL} {sp rp : Value} {w w' : World} {s : LS} (h : LIs L sp rp w s) {H : List Int} (hf : Fr (WF L.gw L.gn) w w') (hw : WinIs L.gw L.gn L.gm L.n w' H) (hH : bytesL H) : LIs L sp rp w' { s with H := H } :=
  ⟨hf.blk h.at_ (fun e => e.elim (fun e => h.ap.dw e) (fun e => h.ap.dn e)), hf.blk h.lit (fun e => e.elim (fun e => h.ap.lw e) (fun e => h.ap.ln e)), hw, { h.ok with by_ := hH }, h.ap, h.big⟩
theorem bytesL_push {H : List Int} (h : bytesL H) {b : Int} (hb : 0 ≤ b ∧ b < 256) : bytesL (H ++ [b]) := fun x hx => by
  rcases List.mem_append.1 hx with h1 | h1
  · exact h x h1
  · simp at h1; rw [h1]; exact hb
theorem foot_w (L : LL) : ∀ k, WF L.gw L.gn k → L.foot k := fun _ e => e.elim (fun e => .inr (.inr (.inl e))) (fun e => .inr (.inr (.inr e)))
def LPost (L : LL) (sp rp v : Value) (s : LS) (w : World) (e : Ending) (w' : World) : Prop := e = .returned v ∧ Fr L.foot w w' ∧ LIs L sp rp w' s
set_option maxRecDepth 100000 in
theorem lput_any (L : LL) (sp rp : Value) (s : LS) (b : Int) (w : World) (h : LIs L sp rp w s) (hb : 0 ≤ b ∧ b < 256) (hp : s.place ≤ 1000000) :
    Calls Try.prog 61 #[.pointer (some ⟨L.gd, 0, none⟩), .int .u8 b] w (LPost L sp rp (.tuple #[]) { s with H := s.H ++ [b], place := s.place + 1 } w) := by
  have c6 := h.headC 6 (v := .pointer (some ⟨L.gw, 0, none⟩)) (by decide) rfl
  have hp1 : (s.place : Int) ≤ 1000000 := by omega
  have hp0 : (0 : Int) ≤ (s.place : Int) := by omega
  have H := hid h
  have HB := hid hb
  clear h hb hp
  go_enter Try.func61, Try.ntmps61
  go_wp2_with fail
  refine (wput_any L.gw L.gn L.gm L.n s.H b _ H.out.win HB.out).mono ?_
  rintro e w1 ⟨rfl, hf1, hw1⟩
  have h1 := H.out.win_ hf1 hw1 (bytesL_push H.out.ok.by_ HB.out)
  have d6 := h1.tailC 6 (v := .int .i64 s.place) rfl
  have z6 := blk_frozen h1.at_ (1856 + 6)
  have HF := hid hf1
  have H1 := hid h1
  clear hf1 hw1 h1 c6
  go_wp2_with fail
  go_end0
  refine ⟨rfl, (HF.out.mono (fun k _ e => foot_w L k e)).then (T := fun k => k = L.gd) ((Fr.refl _ _).setOne _ _) (fun _ _ e => .inl e), ?_⟩
  exact H1.out.setT (i := 6) (s' := { s with H := s.H ++ [b], place := s.place + 1 }) rfl rfl rfl rfl (by have o := H1.out.ok; exact ⟨o.pr, o.st, o.rep, o.by_, o.lc, o.lp, o.pb, o.nl, o.dict, o.left⟩)
theorem lempty_any (L : LL) (sp rp : Value) (s : LS) (w : World) (h : LIs L sp rp w s) :
    Calls Try.prog 136 #[.pointer (some ⟨L.gd, 0, none⟩)] w (LPost L sp rp (.tuple #[]) { s with H := [], place := 0 } w) := by
  have c6 := h.headC 6 (v := .pointer (some ⟨L.gw, 0, none⟩)) (by decide) rfl
  have H := hid h
  clear h
  go_enter Try.func136, Try.ntmps136
  go_wp2_with fail
  refine (wempty_any L.gw L.gn L.gm L.n s.H _ H.out.win).mono ?_
  rintro e w1 ⟨rfl, hf1, hw1⟩
  have h1 := H.out.win_ hf1 hw1 (fun x hx => by cases hx)
  have d6 := h1.tailC 6 (v := .int .i64 s.place) rfl
  have z6 := blk_frozen h1.at_ (1856 + 6)
  have HF := hid hf1
  have H1 := hid h1
  clear hf1 hw1 h1 c6
  go_wp2_with fail
  go_end0
  refine ⟨rfl, (HF.out.mono (fun k _ e => foot_w L k e)).then (T := fun k => k = L.gd) ((Fr.refl _ _).setOne _ _) (fun _ _ e => .inl e), ?_⟩
  exact H1.out.setT (i := 6) (s' := { s with H := [], place := 0 }) rfl rfl rfl rfl (by have o := H1.out.ok; exact ⟨o.pr, o.st, o.rep, o.by_, o.lc, o.lp, o.pb, o.nl, o.dict, o.left⟩)
end Go.Proofs.Ytjnegcambbeblaa

/- A setting of LZMA: May, Probs. -/
namespace Go.Proofs.Ytjnegcambbeblaa
open Go.RowKit

structure Lset where
  lc : Int
  lp : Int
  pb : Int
  dict : Int
def Lset.val (p : Lset) : Value := .agg #[.int .i64 p.lc, .int .i64 p.lp, .int .i64 p.pb, .int .i64 p.dict]
def i64r (x : Int) : Prop := -9223372036854775808 ≤ x ∧ x ≤ 9223372036854775807
structure Lset.wf (p : Lset) : Prop where
  lc : i64r p.lc
  lp : i64r p.lp
  pb : i64r p.pb
  dict : i64r p.dict
structure Lset.May (p : Lset) : Prop where
  lc0 : 0 ≤ p.lc
  lc1 : p.lc ≤ 8
  lp0 : 0 ≤ p.lp
  lp1 : p.lp ≤ 4
  pb0 : 0 ≤ p.pb
  pb1 : p.pb ≤ 4
  d0 : 4096 ≤ p.dict
  d1 : p.dict ≤ 4294967295
def Lset.may (p : Lset) : Bool := decide (0 ≤ p.lc) && (decide (p.lc ≤ 8) && (decide (0 ≤ p.lp) && (decide (p.lp ≤ 4) && (decide (0 ≤ p.pb) && (decide (p.pb ≤ 4) && (decide (4096 ≤ p.dict) && decide (p.dict ≤ 4294967295)))))))
theorem Lset.may_iff {p : Lset} : p.may = true ↔ p.May := by
  unfold Lset.may
  simp only [Bool.and_eq_true, decide_eq_true_eq]
  constructor
  · rintro ⟨h1, h2, h3, h4, h5, h6, h7, h8⟩; exact ⟨h1, h2, h3, h4, h5, h6, h7, h8⟩
  · rintro ⟨h1, h2, h3, h4, h5, h6, h7, h8⟩; exact ⟨h1, h2, h3, h4, h5, h6, h7, h8⟩
set_option maxRecDepth 100000 in
theorem lmay_any (p : Lset) (w : World) : Calls Try.prog 33 #[p.val] w fun e w' => e = .returned (.bool p.may) ∧ Fr Non w w' := by
  obtain ⟨a, b, c, d⟩ := p
  have HM := hid (show Lset.may ⟨a, b, c, d⟩ = (decide (0 ≤ a) && (decide (a ≤ 8) && (decide (0 ≤ b) && (decide (b ≤ 4) && (decide (0 ≤ c) && (decide (c ≤ 4) && (decide (4096 ≤ d) && decide (d ≤ 4294967295)))))))) from rfl)
  unfold Lset.val
  dsimp only
  by_cases h0 : 0 ≤ a
  rotate_left
  · have HX := hid (show Lset.may ⟨a, b, c, d⟩ = false by rw [HM.out, decide_eq_false h0]; rfl)
    go_enter Try.func33, Try.ntmps33
    go_wp2_with fail
    go_ret
    exact ⟨by rw [HX.out]; rfl, (Fr.refl _ _).alloc _⟩
  by_cases h1 : a ≤ 8
  rotate_left
  · have HX := hid (show Lset.may ⟨a, b, c, d⟩ = false by rw [HM.out, decide_eq_true h0, decide_eq_false h1]; rfl)
    go_enter Try.func33, Try.ntmps33
    go_wp2_with fail
    go_ret
    exact ⟨by rw [HX.out]; rfl, (Fr.refl _ _).alloc _⟩
  by_cases h2 : 0 ≤ b
  rotate_left
  · have HX := hid (show Lset.may ⟨a, b, c, d⟩ = false by rw [HM.out, decide_eq_true h0, decide_eq_true h1, decide_eq_false h2]; rfl)
    go_enter Try.func33, Try.ntmps33
    go_wp2_with fail
    go_ret
    exact ⟨by rw [HX.out]; rfl, (Fr.refl _ _).alloc _⟩
  by_cases h3 : b ≤ 4
  rotate_left
  · have HX := hid (show Lset.may ⟨a, b, c, d⟩ = false by rw [HM.out, decide_eq_true h0, decide_eq_true h1, decide_eq_true h2, decide_eq_false h3]; rfl)
    go_enter Try.func33, Try.ntmps33
    go_wp2_with fail
    go_ret
    exact ⟨by rw [HX.out]; rfl, (Fr.refl _ _).alloc _⟩
  by_cases h4 : 0 ≤ c
  rotate_left
  · have HX := hid (show Lset.may ⟨a, b, c, d⟩ = false by rw [HM.out, decide_eq_true h0, decide_eq_true h1, decide_eq_true h2, decide_eq_true h3, decide_eq_false h4]; rfl)
    go_enter Try.func33, Try.ntmps33
    go_wp2_with fail
    go_ret
    exact ⟨by rw [HX.out]; rfl, (Fr.refl _ _).alloc _⟩
  by_cases h5 : c ≤ 4
  rotate_left
  · have HX := hid (show Lset.may ⟨a, b, c, d⟩ = false by rw [HM.out, decide_eq_true h0, decide_eq_true h1, decide_eq_true h2, decide_eq_true h3, decide_eq_true h4, decide_eq_false h5]; rfl)
    go_enter Try.func33, Try.ntmps33
    go_wp2_with fail
    go_ret
    exact ⟨by rw [HX.out]; rfl, (Fr.refl _ _).alloc _⟩
  by_cases h6 : 4096 ≤ d
  rotate_left
  · have HX := hid (show Lset.may ⟨a, b, c, d⟩ = false by rw [HM.out, decide_eq_true h0, decide_eq_true h1, decide_eq_true h2, decide_eq_true h3, decide_eq_true h4, decide_eq_true h5, decide_eq_false h6]; rfl)
    go_enter Try.func33, Try.ntmps33
    go_wp2_with fail
    go_ret
    exact ⟨by rw [HX.out]; rfl, (Fr.refl _ _).alloc _⟩
  by_cases h7 : d ≤ 4294967295
  rotate_left
  · have HX := hid (show Lset.may ⟨a, b, c, d⟩ = false by rw [HM.out, decide_eq_true h0, decide_eq_true h1, decide_eq_true h2, decide_eq_true h3, decide_eq_true h4, decide_eq_true h5, decide_eq_true h6, decide_eq_false h7]; rfl)
    go_enter Try.func33, Try.ntmps33
    go_wp2_with fail
    go_ret
    exact ⟨by rw [HX.out]; rfl, (Fr.refl _ _).alloc _⟩
  have HX := hid (show Lset.may ⟨a, b, c, d⟩ = true by rw [HM.out, decide_eq_true h0, decide_eq_true h1, decide_eq_true h2, decide_eq_true h3, decide_eq_true h4, decide_eq_true h5, decide_eq_true h6, decide_eq_true h7]; rfl)
  go_enter Try.func33, Try.ntmps33
  go_wp2_with fail
  go_ret
  exact ⟨by rw [HX.out]; rfl, (Fr.refl _ _).alloc _⟩
set_option maxRecDepth 100000 in
theorem rmay_any (p : Lset) (w : World) : Calls Try.prog 14 #[p.val] w fun e w' => e = .returned (.bool p.may) ∧ Fr Non w w' := by
  obtain ⟨a, b, c, d⟩ := p
  have HM := hid (show Lset.may ⟨a, b, c, d⟩ = (decide (0 ≤ a) && (decide (a ≤ 8) && (decide (0 ≤ b) && (decide (b ≤ 4) && (decide (0 ≤ c) && (decide (c ≤ 4) && (decide (4096 ≤ d) && decide (d ≤ 4294967295)))))))) from rfl)
  unfold Lset.val
  dsimp only
  by_cases h0 : 0 ≤ a
  rotate_left
  · have HX := hid (show Lset.may ⟨a, b, c, d⟩ = false by rw [HM.out, decide_eq_false h0]; rfl)
    go_enter Try.func14, Try.ntmps14
    go_wp2_with fail
    go_ret
    exact ⟨by rw [HX.out]; rfl, (Fr.refl _ _).alloc _⟩
  by_cases h1 : a ≤ 8
  rotate_left
  · have HX := hid (show Lset.may ⟨a, b, c, d⟩ = false by rw [HM.out, decide_eq_true h0, decide_eq_false h1]; rfl)
    go_enter Try.func14, Try.ntmps14
    go_wp2_with fail
    go_ret
    exact ⟨by rw [HX.out]; rfl, (Fr.refl _ _).alloc _⟩
  by_cases h2 : 0 ≤ b
  rotate_left
  · have HX := hid (show Lset.may ⟨a, b, c, d⟩ = false by rw [HM.out, decide_eq_true h0, decide_eq_true h1, decide_eq_false h2]; rfl)
    go_enter Try.func14, Try.ntmps14
    go_wp2_with fail
    go_ret
    exact ⟨by rw [HX.out]; rfl, (Fr.refl _ _).alloc _⟩
  by_cases h3 : b ≤ 4
  rotate_left
  · have HX := hid (show Lset.may ⟨a, b, c, d⟩ = false by rw [HM.out, decide_eq_true h0, decide_eq_true h1, decide_eq_true h2, decide_eq_false h3]; rfl)
    go_enter Try.func14, Try.ntmps14
    go_wp2_with fail
    go_ret
    exact ⟨by rw [HX.out]; rfl, (Fr.refl _ _).alloc _⟩
  by_cases h4 : 0 ≤ c
  rotate_left
  · have HX := hid (show Lset.may ⟨a, b, c, d⟩ = false by rw [HM.out, decide_eq_true h0, decide_eq_true h1, decide_eq_true h2, decide_eq_true h3, decide_eq_false h4]; rfl)
    go_enter Try.func14, Try.ntmps14
    go_wp2_with fail
    go_ret
    exact ⟨by rw [HX.out]; rfl, (Fr.refl _ _).alloc _⟩
  by_cases h5 : c ≤ 4
  rotate_left
  · have HX := hid (show Lset.may ⟨a, b, c, d⟩ = false by rw [HM.out, decide_eq_true h0, decide_eq_true h1, decide_eq_true h2, decide_eq_true h3, decide_eq_true h4, decide_eq_false h5]; rfl)
    go_enter Try.func14, Try.ntmps14
    go_wp2_with fail
    go_ret
    exact ⟨by rw [HX.out]; rfl, (Fr.refl _ _).alloc _⟩
  by_cases h6 : 4096 ≤ d
  rotate_left
  · have HX := hid (show Lset.may ⟨a, b, c, d⟩ = false by rw [HM.out, decide_eq_true h0, decide_eq_true h1, decide_eq_true h2, decide_eq_true h3, decide_eq_true h4, decide_eq_true h5, decide_eq_false h6]; rfl)
    go_enter Try.func14, Try.ntmps14
    go_wp2_with fail
    go_ret
    exact ⟨by rw [HX.out]; rfl, (Fr.refl _ _).alloc _⟩
  by_cases h7 : d ≤ 4294967295
  rotate_left
  · have HX := hid (show Lset.may ⟨a, b, c, d⟩ = false by rw [HM.out, decide_eq_true h0, decide_eq_true h1, decide_eq_true h2, decide_eq_true h3, decide_eq_true h4, decide_eq_true h5, decide_eq_true h6, decide_eq_false h7]; rfl)
    go_enter Try.func14, Try.ntmps14
    go_wp2_with fail
    go_ret
    exact ⟨by rw [HX.out]; rfl, (Fr.refl _ _).alloc _⟩
  have HX := hid (show Lset.may ⟨a, b, c, d⟩ = true by rw [HM.out, decide_eq_true h0, decide_eq_true h1, decide_eq_true h2, decide_eq_true h3, decide_eq_true h4, decide_eq_true h5, decide_eq_true h6, decide_eq_true h7]; rfl)
  go_enter Try.func14, Try.ntmps14
  go_wp2_with fail
  go_ret
  exact ⟨by rw [HX.out]; rfl, (Fr.refl _ _).alloc _⟩
def Lset.probs (p : Lset) : Nat := if p.may = true then 1847 + 768 * 2 ^ (p.lc + p.lp).toNat else 0
set_option maxRecDepth 100000 in
theorem lprobs_any (p : Lset) (w : World) : Calls Try.prog 34 #[p.val] w fun e w' => e = .returned (.int .i64 p.probs) ∧ Fr Non w w' := by
  cases hm : p.may with
  | false =>
    have HP := hid (show p.probs = 0 by unfold Lset.probs; rw [hm]; rfl)
    have HM := hid hm
    clear hm
    obtain ⟨a, b, c, d⟩ := p
    unfold Lset.val
    dsimp only
    go_enter Try.func34, Try.ntmps34
    go_wp2_with fail
    refine (lmay_any ⟨a, b, c, d⟩ _).mono ?_
    rintro e w1 ⟨rfl, hf1⟩
    rw [HM.out]
    go_wp2_with fail
    go_ret
    exact ⟨by rw [HP.out]; rfl, ((Fr.refl _ _).alloc _).trans hf1⟩
  | true =>
    have HP := hid (show p.probs = 1847 + 768 * 2 ^ (p.lc + p.lp).toNat by unfold Lset.probs; rw [hm]; rfl)
    obtain ⟨h1, h2, h3, h4, h5, h6, h7, h8⟩ := Lset.may_iff.1 hm
    have HM := hid hm
    clear hm
    obtain ⟨a, b, c, d⟩ := p
    dsimp only at h1 h2 h3 h4 HP
    unfold Lset.val
    dsimp only
    obtain ⟨k, hk⟩ : ∃ k : Nat, (k : Int) = a + b := ⟨(a + b).toNat, by omega⟩
    have HK := hid hk
    clear hk h5 h6 h7 h8
    go_enter Try.func34, Try.ntmps34
    go_wp2_with fail
    refine (lmay_any ⟨a, b, c, d⟩ _).mono ?_
    rintro e w1 ⟨rfl, hf1⟩
    rw [HM.out]
    have hb := hf1.blk (blk_new w (.cells #[.int .i64 a, .int .i64 b, .int .i64 c, .int .i64 d] 23)) id
    have c0 := blk_cell hb (j := 0) (v := .int .i64 a) rfl
    have c1 := blk_cell hb (j := 1) (v := .int .i64 b) rfl
    have HF := hid (((Fr.refl Non w).alloc (.cells #[.int .i64 a, .int .i64 b, .int .i64 c, .int .i64 d] 23)).trans hf1)
    clear hb hf1
    go_wp2_with fail
    go_ret
    have e : wrap64 (1847 + wrap64 (768 * 2 ^ (a + b).toNat)) = ((1847 + 768 * 2 ^ (a + b).toNat : Nat) : Int) := by
      have hp : 2 ^ (a + b).toNat ≤ 4096 := by
        have : 2 ^ (a + b).toNat ≤ 2 ^ 12 := Nat.pow_le_pow_right (by decide) (by omega)
        exact this
      have e1 : (768 : Int) * 2 ^ (a + b).toNat = ((768 * 2 ^ (a + b).toNat : Nat) : Int) := by simp
      rw [e1]
      unfold wrap64
      omega
    exact ⟨by rw [HP.out]; exact congrArg (fun x => Ending.returned (.int .i64 x)) e, HF.out⟩
end Go.Proofs.Ytjnegcambbeblaa
