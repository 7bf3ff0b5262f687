/- The walk through RencFirst. -/
import Derived.Test.YtomjagibcdneiaaLaw05c
namespace Go.Proofs.Ytomjagibcdneiaa
open Go.RowKit

theorem fin_first {c : RC} {N k : Nat} (h : c.Ok N) (hb : c.bytes) (hr : Reach RC.new c k) : (c.gives 5).out.length = c.len ∧ 5 ≤ c.len ∧ (c.gives 5).out.getD 0 0 = 0 := by
  obtain ⟨h1, h2, h3⟩ := gives_out (h.fin hb)
  obtain ⟨t1, t2⟩ := reach_top hr
  have hl : 5 ≤ c.len := by unfold RC.len; omega
  refine ⟨h2, hl, ?_⟩
  obtain ⟨L, hL⟩ : ∃ L, L = (c.gives 5).out := ⟨_, rfl⟩
  have h3' : ∀ x, x ∈ L → 0 ≤ x ∧ x < 256 := by rw [hL]; exact h3
  rw [← hL] at h1 h2 ⊢
  cases L with
  | nil => simp at h2; omega
  | cons x l =>
    have hl2 : l.length = c.len - 1 := by simp at h2; omega
    have hx := valL_first h3' (by rw [h1, hl2]; have := h.rng0; omega)
    rw [hx]; rfl
theorem first_new (w1 : World) (w : World) {w2 w3 : World} {g gp : Nat} (h1 : Fr Non w w1) (h2 : Fr Non w1 w2) (hc : CodIs (fun k => k < w1.heap.size) g w2 RC.new) (h3 : Fr Non w2 w3) (hgp : w2.heap.size ≤ gp) (hb : w3.heap[gp]? = some (.cells (arr .u16 600 (fun _ => 1024)) 22)) :
    ∃ A : Nat → Prop, A gp ∧ (∀ k, k < w.heap.size → A k) ∧ StC A g gp w w3 (RC.new, fun _ => 1024) 0 := by
  refine ⟨fun k => k < w1.heap.size ∨ (w2.heap.size ≤ k ∧ k < w3.heap.size), .inr ⟨hgp, blk_lt hb⟩, fun k hk => .inl (Nat.lt_of_lt_of_le hk h1.size), (h1.trans h2).trans h3, hc.fresh h3, hb, fresh_pr, new_ok 0, new_bytes⟩

set_option maxRecDepth 100000 in
set_option maxHeartbeats 4000000 in
theorem rencFirst_walk (al : Option Addr) (nl cl : Nat) (l : Nat → Ask) (w : World) (hnl : nl ≤ 9223372036854775807) (hl : AsksIn w.heap.size w al nl l) (hwf : ∀ i, i < nl → (l i).wf) :
    Calls Try.prog 5 #[.slice al nl cl] w fun e w' => e = .returned (.bool true) ∧ Fr Non w w' := by
  have HL := hid hl
  have HW := hid hwf
  clear hl hwf
  go_enter Try.func5, Try.ntmps5
  go_wp2_with fail
  refine (awake05_any _).mono ?_
  rintro e w1 ⟨rfl, hf1⟩
  have s1 := hf1.size
  have F1 := hid hf1
  clear hf1
  go_wp2_with fail
  refine (cnew_any _).mono ?_
  rintro e w2 ⟨g, rfl, hg0, hf2, hc2⟩
  have s2 := hf2.size
  have F2 := hid hf2
  have HC2 := hid hc2
  clear hf2 hc2
  go_wp2_with fail
  refine (fresh_any 600 _ (by decide)).mono ?_
  rintro e w4 ⟨gp, hgp, rfl, hf4, hb4⟩
  obtain ⟨A, hA, hA0, hs4⟩ := first_new w1 w F1.out F2.out HC2.out hf4 hgp hb4
  have S4 := hid hs4
  have HA := hid hA
  have HA0 := hid hA0
  clear hs4 hf4 hb4 hA hA0
  go_upto_block 0 with fail
  go_cut [] (fun wx => ∃ r N n, StC A g gp w wx r N ∧ N ≤ 192000 ∧ Reach RC.new r.1 n)
  case first =>
    go_wp2_with fail
    go_loopw [5] (fun i wr => ∃ k : Nat, k ≤ nl ∧ k ≤ 2000 ∧ i = .int .i64 k ∧ ∃ r n, StC A g gp w wr r (96 * k) ∧ Reach RC.new r.1 n) (fun i _ => nl - (intOf i).toNat)
    case atStart => exact ⟨0, Nat.zero_le _, Nat.zero_le _, rfl, _, 0, S4.out, Reach.refl _⟩
    case round =>
      obtain ⟨k, hk, hk5, rfl, r, n, hst, hre⟩ := hrel
      have Hst := hid hst
      have Hre := hid hre
      clear hst hre
      by_cases hlt : k < nl
      · by_cases hlt5 : k < 2000
        · obtain ⟨b, off, rfl, hb, c0, c1, c2, c3⟩ := (HL.out.fr Hst.out.fr (fun _ _ => id)).at hlt
          go_wp2_with fail
          refine (right_any _ _ _ _ _).mono ?_
          rintro e w5 ⟨rfl, hf5⟩
          have d0 := hf5.cell c0 id
          have d1 := hf5.cell c1 id
          have d2 := hf5.cell c2 id
          have d3 := hf5.cell c3 id
          have S5 := hid (Hst.out.any hf5)
          clear hf5 c0 c1 c2 c3
          have eR : Ask.rightB ⟨(l k).kind, (l k).at_, (l k).bits, (l k).val⟩ = (l k).rightB := rfl
          rw [eR]
          clear eR
          cases hR : (l k).rightB with
          | true =>
            have hR2 : (l k).Right := of_decide_eq_true hR
            have HR := hid hR2
            clear hR hR2
            have hsz := S5.out.ok.size
            obtain ⟨k1, k2, n2, k3⟩ := cask_keep HR.out S5.out.ok S5.out.bytes S5.out.pr
            have hsz2 := k1.size
            have hmono : ¬ ((((r.1.ask r.2 (l k)).2.out.length + (r.1.ask r.2 (l k)).2.more + 5 : Nat) : Int) < ((r.1.out.length + r.1.more + 5 : Nat) : Int)) := by
              have := k3.len
              unfold RC.len at this
              omega
            have HM := hid hmono
            have HR3 := hid k3
            clear hmono k1 k2 k3
            go_wp2_with fail
            refine (ccount_any A g _ _ S5.out.cod (by omega)).mono ?_
            rintro e w6 ⟨rfl, hf6⟩
            have e0 := hf6.cell d0 id
            have e1 := hf6.cell d1 id
            have e2 := hf6.cell d2 id
            have e3 := hf6.cell d3 id
            have S6 := hid (S5.out.any hf6)
            clear hf6 d0 d1 d2 d3
            go_wp2_with fail
            refine (S6.out.put HA.out HA0.out (by omega) (by omega) (l k) HR.out (HW.out k hlt)).mono ?_
            rintro e w7 ⟨rfl, hs7, _⟩
            have S7 := hid hs7
            clear hs7 e0 e1 e2 e3
            go_wp2_with fail
            refine (ccount_any A g (r.1.ask r.2 (l k)).2 _ S7.out.cod (by omega)).mono ?_
            rintro e w8 ⟨rfl, hf8⟩
            have S8 := hid (S7.out.any hf8)
            clear hf8
            have hm := HM.out
            go_wp2_with fail
            go_roundw
            case rel => exact ⟨k + 1, by omega, by omega, by go_num, _, _, S8.out, Hre.out.trans HR3.out⟩
            case measure => simp [intOf]; omega
          | false =>
            clear hR
            go_wp2_with fail
            go_roundw
            case rel => exact ⟨k + 1, by omega, by omega, by go_num, r, n, { S5.out with ok := S5.out.ok.mono (by omega) }, Hre.out⟩
            case measure => simp [intOf]; omega
        · have e : k = 2000 := by omega
          subst e
          go_wp2_with fail
          go_meet
          exact ⟨r, _, n, Hst.out, by omega, Hre.out⟩
      · have e : k = nl := by omega
        subst e
        go_wp2_with fail
        go_meet
        exact ⟨r, _, n, Hst.out, by omega, Hre.out⟩
  case rest =>
    obtain ⟨r, N, n, hst, hN, hre⟩ := hcut
    have S5 := hid hst
    have HRe := hid hre
    have hsz := hst.ok.size
    clear hst hre S4
    go_wp2_with fail
    refine (ccount_any A g r.1 _ S5.out.cod (by omega)).mono ?_
    rintro e w6 ⟨rfl, hf6⟩
    have S6 := hid (S5.out.any hf6)
    clear hf6
    go_wp2_with fail
    refine (cfinish_any A g r.1 _ S6.out.cod (S6.out.ok.fit.mono (by omega))).mono ?_
    rintro e w7 ⟨v7, rfl, ho7, hs7, hf7, hc7⟩
    obtain ⟨x1, x2, x3⟩ := fin_first S6.out.ok S6.out.bytes HRe.out
    obtain ⟨a7, k7, rfl, hn7, hm7, hr7⟩ := ho7.rowN x1
    obtain ⟨b7, o7, rfl, hb7, hcell⟩ := hr7.at (i := 0) (by omega)
    rw [x3, Nat.add_zero] at hcell
    have F7 := hid (S6.out.fr.then hf7 (T := Out A) (fun i hi e => absurd (HA0.out i hi) e))
    have hlen : r.1.len = r.1.out.length + r.1.more + 5 := rfl
    clear hf7 hc7 ho7 hs7 hr7 x1 x3
    rw [hlen] at x2 ⊢
    go_wp2_with fail
    go_ret
    exact ⟨rfl, F7.out⟩
end Go.Proofs.Ytomjagibcdneiaa
