/- The walk through ParseShort. -/
import Derived.Test.YteedolfhmiehfaaLaw10
import Derived.Test.YteedolfhmiehfaaParLaw
namespace Go.Proofs.Yteedolfhmiehfaa
open Go.RowKit

/-- a piece again and again. -/
def rep (f : Nat → Int) (n : Nat) (i : Nat) : Int := f (i % n)
theorem rep_snoc (f : Nat → Int) (n k : Nat) (hn : 0 < n) : (List.range (k * n)).map (rep f n) ++ (List.range n).map f = (List.range ((k + 1) * n)).map (rep f n) := by
  apply List.ext_getElem?
  intro i
  have e : (k + 1) * n = k * n + n := Nat.succ_mul k n
  by_cases h : i < k * n
  · rw [List.getElem?_append_left (by simpa using h)]
    simp [h, show i < (k + 1) * n by omega]
  · rw [List.getElem?_append_right (by simp; omega)]
    simp only [List.length_map, List.length_range]
    by_cases h2 : i < (k + 1) * n
    · have h3 : i - k * n < n := by omega
      have h4 : i % n = i - k * n := by
        have h5 : (i - k * n + n * k) % n = (i - k * n) % n := Nat.add_mul_mod_self_left _ _ _
        rw [show i - k * n + n * k = i by rw [Nat.mul_comm n k]; omega, Nat.mod_eq_of_lt h3] at h5
        exact h5
      simp [h2, h3, rep, h4]
    · have h3 : ¬ i - k * n < n := by omega
      simp [h2, h3]
theorem own_nilcap {w : World} {b : Nat} {k : IntKind} {e : TypeId} {a : Option Addr} {n c : Nat} {xs : List Int} (h : Own w b k e (.slice a n c) xs) : a = none → c = 0 := by
  intro ha
  subst ha
  rcases h.2 with ⟨h1, _⟩ | ⟨g, cap, cur, h1, _⟩
  · injection h1
  · injection h1 with h2; cases h2
theorem parseShort_len (f : Nat → Int) (n L : Nat) (r : Nat → Nat) (hn : 0 < n) (hn2 : n ≤ 100) : (finds (rep f n) (hi0 L (lo0 L 0) L) (di0 1048576) (lo0 L 0) r).1.length ≤ L / 273 + 2 * n + 2 := by
  have e0 : lo0 L 0 = 0 := by unfold lo0; omega
  rw [e0]
  have e1 : hi0 L 0 L = L := by unfold hi0; omega
  have e2 : di0 1048576 = 1048576 := by decide
  rw [e1, e2]
  have := short_count (rep f n) n L 1048576 hn hn2 (fun j h1 h2 => by unfold rep; rw [Nat.mod_eq_sub_mod h1]) (by omega) (L - 0) 0 r
  unfold finds
  simp only [Nat.sub_zero] at this ⊢
  omega
theorem parseShort_skip (a : Option Addr) (n cap : Nat) (T : Int) (w : World) (h : n < 1 ∨ 100 < n) :
    Calls Try.prog 4 #[.slice a n cap, .int .u16 T] w fun e w' => e = .returned (.bool true) ∧ Fr Non w w' := by
  rcases h with h | h
  · have h1 : (n : Int) < 1 := by omega
    clear h
    go_enter Try.func4, Try.ntmps4
    go_wp2_with (go_at_call 7; refine (awake10_any _).mono ?_; rintro e w1 ⟨rfl, hf1⟩)
    go_ret
    exact ⟨rfl, hf1⟩
  · have h0 : decide ((n : Int) < 1) = false := by rw [decide_eq_false_iff_not]; omega
    have h1 : decide ((100 : Int) < (n : Int)) = true := by rw [decide_eq_true_iff]; omega
    clear h
    go_enter Try.func4, Try.ntmps4
    go_wp2_with (go_at_call 7; refine (awake10_any _).mono ?_; rintro e w1 ⟨rfl, hf1⟩)
    go_ret
    exact ⟨rfl, hf1⟩

set_option maxRecDepth 100000 in
set_option maxHeartbeats 4000000 in
theorem parseShort_walk (a : Option Addr) (n cap T : Nat) (f : Nat → Int) (w : World) (hn : 1 ≤ n) (hn2 : n ≤ 100) (hnc : n ≤ cap) (hnil : a = none → cap = 0) (hT : T ≤ 65535)
    (h : RowIn w.heap.size .u8 w a n f) (hf : ∀ i, i < n → 0 ≤ f i ∧ f i < 256) :
    Calls Try.prog 4 #[.slice a n cap, .int .u16 T] w fun e w' => e = .returned (.bool true) ∧ Fr Non w w' := by
  have g0 : decide ((n : Int) < 1) = false := by rw [decide_eq_false_iff_not]; omega
  have g1 : decide ((100 : Int) < (n : Int)) = false := by rw [decide_eq_false_iff_not]; omega
  obtain ⟨Q, hQ⟩ : ∃ Q, Q = 20000 / n := ⟨_, rfl⟩
  obtain ⟨N, hN⟩ : ∃ N, N = min T Q := ⟨_, rfl⟩
  have hQn : Q * n ≤ 20000 := by rw [hQ]; exact Nat.div_mul_le_self 20000 n
  have hQ2 : Q ≤ 20000 := by rw [hQ]; exact Nat.div_le_self 20000 n
  have hq1 : (20000 : Int) / (n : Int) = (Q : Int) := by rw [hQ]; rfl
  have hq2 : Int.tdiv 20000 (n : Int) = (Q : Int) := by rw [Int.tdiv_eq_ediv_of_nonneg (by decide)]; exact hq1
  have hT2 : (T : Int) < 65536 := by omega
  have hn0 : (1 : Int) ≤ (n : Int) := by omega
  have hn3 : (n : Int) ≤ 100 := by omega
  have H := hid h
  have Hf := hid hf
  have Hnil := hid hnil
  have HN := hid hN
  clear h hf hnil hN hQ
  go_enter Try.func4, Try.ntmps4
  go_wp2_with fail
  refine (awake10_any _).mono ?_
  rintro e w1 ⟨rfl, hf1⟩
  have F1 := hid hf1
  clear hf1
  go_upto_region 5 with fail
  go_cut [5] (fun v wx => v = .int .i64 N ∧ wx = w1)
  case first =>
    by_cases hc : (Q : Int) < (T : Int)
    · go_wp2_with fail
      go_meet
      exact ⟨by rw [show N = Q by have := HN.out; omega], rfl⟩
    · go_wp2_with fail
      go_meet
      exact ⟨by rw [show N = T by have := HN.out; omega], rfl⟩
  case rest =>
    obtain ⟨hv, hst⟩ := hcut
    subst hv
    subst hst
    have hNQ : N ≤ Q := by have := HN.out; omega
    have hNn : N * n ≤ 20000 := Nat.le_trans (Nat.mul_le_mul_right n hNQ) hQn
    clear hq1 hq2 g0 g1
    go_wp2_with fail
    go_loopw [6, 7] (fun vb vi wr => ∃ k : Nat, k ≤ N ∧ vi = .int .i64 k ∧ Own wr wc.heap.size .u8 5 vb ((List.range (k * n)).map (rep f n)) ∧ Fr Non w wr ∧ wc.heap.size ≤ wr.heap.size) (fun _ vi _ => N - (intOf vi).toNat)
    case atStart => exact ⟨0, Nat.zero_le _, rfl, by rw [Nat.zero_mul]; exact Own.nil _ _ _ _, F1.out, Nat.le_refl _⟩
    case round =>
      obtain ⟨k, hk, rfl, hown, hfr, hsz⟩ := hrel
      have OWN := hid hown
      have FR := hid hfr
      clear hown hfr
      by_cases hlt : k < N
      · have hk1 : (k + 1) * n ≤ 20000 := Nat.le_trans (Nat.mul_le_mul_right n (by omega)) hNn
        have hk2 : k * n + n ≤ 20000 := by rw [← Nat.succ_mul]; exact hk1
        have hblk := OWN.out.block
        have HBLK := hid hblk
        clear hblk
        go_wp2_with (refine opAppendRow (some 33) rfl rfl (.tmp 31) (.tmp 32) 22 rfl wc.heap.size .u8 5 1 Try.underlying22 Try.info_u8 u6 _ rfl OWN.out w.heap.size a n cap f rfl Hnil.out hnc (H.out.fr FR.out (fun _ _ => id)) (by decide) (by simp; omega) hsz ?_; intro v2 w2 hown2 hg2; have HO2 := hid hown2; have FR2 := hid (FR.out.grown hg2 (fun i e hi => by have := HBLK.out i e; have := F1.out.size; omega)); have hs2 := hg2.size; clear hown2 hg2)
        go_roundw
        case rel => exact ⟨k + 1, by omega, by go_num, by rw [← rep_snoc f n k (by omega)]; exact HO2.out, FR2.out, by omega⟩
        case measure => simp [intOf]; omega
      · have e : k = N := by omega
        obtain ⟨L, hL⟩ : ∃ L, L = k * n := ⟨_, rfl⟩
        have hL2 : L ≤ 20000 := by rw [hL, e]; exact hNn
        rw [← hL] at OWN
        obtain ⟨a6, c6, hv6, hc6, _, hr6⟩ := OWN.out.rowN (n := L) (by simp)
        subst hv6
        have NC := hid (own_nilcap OWN.out)
        have R6 := hid (list_row hr6)
        have hbd := hid (show ∀ i, i < L → 0 ≤ rep f n i ∧ rep f n i < 256 from fun i _ => Hf.out _ (Nat.mod_lt _ (by omega)))
        have LEN := hid (parseShort_len f n L noReps (by omega) hn2)
        clear hL hr6 e
        go_wp2_with fail
        refine (find_any a6 L c6 (rep f n) 0 L 1048576 noReps _ (by omega) hc6 NC.out (by decide) (fun _ _ => by unfold noReps; decide) hbd.out R6.out).mono ?_
        rintro e w3 ⟨v3, rfl, ho3, hf3⟩
        obtain ⟨m, hm⟩ : ∃ m, m = (finds (rep f n) (hi0 L (lo0 L 0) L) (di0 1048576) (lo0 L 0) noReps).1.length := ⟨_, rfl⟩
        obtain ⟨a3, c3, rfl, _, _, _⟩ := ho3.rowN hm.symm
        have hle : m ≤ L / 273 + 2 * n + 2 := by rw [hm]; exact LEN.out
        have hle2 : (m : Int) ≤ (L : Int) / 273 + 2 * (n : Int) + 2 := by omega
        have F3 := hid (FR.out.trans hf3)
        clear ho3 hm hf3 hle
        unfold repsV
        go_wp2_with fail
        go_ret
        exact ⟨rfl, F3.out.alloc _⟩
end Go.Proofs.Yteedolfhmiehfaa
