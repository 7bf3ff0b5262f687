/- Texts of this proof, one behind the other. -/
import Derived.Test.YtphdnfilenkanaaMg08
import Derived.Test.YtphdnfilenkanaaMg06
import Derived.Test.YtphdnfilenkanaaMg01
import Derived.Test.YtphdnfilenkanaaProg
import Derived.Lib.SmallJoins
import Derived.ProofKit
import Derived.OpenShut
import Derived.Test.YtphdnfilenkanaaBqEQ

/- bcj2 in plain words: what is coded is decoded as it was; another size fails; bytes without instructions. -/
namespace Go.Proofs.Ytphdnfilenkanaa
open Go.RowKit

/-! ### bytes taken are bytes told, and those that wait -/
structure FQ.Sum (n : Nat) (f : FQ) : Prop where
  size : f.size = n
  sum : f.bad = false → f.m + f.c + f.j = f.told + f.waits
  room : f.bad = false → f.waits ≤ f.size - f.told
theorem FQ.Sum.target {R : Four} {n : Nat} {f : FQ} (h : f.Sum n) (hw : f.waits = 0) (h1 : f.c ≤ R.n1) (h2 : f.j ≤ R.n2) (b : Int) : (f.target R.L.s1.nx R.L.s2.nx b).Sum n := by
  have e1 : R.L.s1.nx = feedNx R.F1 R.n1 := rfl
  have e2 : R.L.s2.nx = feedNx R.F2 R.n2 := rfl
  rw [e1, e2]
  by_cases hb : b = 232
  · subst hb
    obtain ⟨_, _, t3⟩ := takeQ_pos (F := R.F1) 4 0 f.bad f.c h1
    generalize hr : takeQ (feedNx R.F1 R.n1) 4 0 f.bad f.c = r at *
    obtain ⟨p, bb, s⟩ := r
    dsimp only at t3
    by_cases hbad : (bb || decide (f.size - f.told < 4)) = true
    · rw [target_bad_c hr hbad]
      exact ⟨h.size, (fun e => by cases e), (fun e => by cases e)⟩
    · have hbb : bb = false ∧ ¬ f.size - f.told < 4 := by
        revert hbad; cases bb <;> simp
      obtain ⟨rfl, hs⟩ := hbb
      rw [target_ok_c hr hs]
      obtain ⟨u1, u2⟩ := t3 rfl
      have := h.sum u2
      exact ⟨h.size, fun _ => by dsimp only; omega, fun _ => by dsimp only; omega⟩
  · obtain ⟨_, _, t3⟩ := takeQ_pos (F := R.F2) 4 0 f.bad f.j h2
    generalize hr : takeQ (feedNx R.F2 R.n2) 4 0 f.bad f.j = r at *
    obtain ⟨p, bb, s⟩ := r
    dsimp only at t3
    by_cases hbad : (bb || decide (f.size - f.told < 4)) = true
    · rw [target_bad_j hb hr hbad]
      exact ⟨h.size, (fun e => by cases e), (fun e => by cases e)⟩
    · have hbb : bb = false ∧ ¬ f.size - f.told < 4 := by
        revert hbad; cases bb <;> simp
      obtain ⟨rfl, hs⟩ := hbb
      rw [target_ok_j hb hr hs]
      obtain ⟨u1, u2⟩ := t3 rfl
      have := h.sum u2
      exact ⟨h.size, fun _ => by dsimp only; omega, fun _ => by dsimp only; omega⟩
theorem FQ.Sum.next {R : Four} {n : Nat} {f : FQ} (hp : f.Pos R) (h : f.Sum n) : (f.next R.L).2.2.Sum n := by
  have hok := hp.ok
  by_cases hov : f.bad = true ∨ f.told = f.size
  · rw [nextQ_over hov]; exact h
  · have hbf : f.bad = false := by cases he : f.bad with | false => rfl | true => exact absurd (.inl he) hov
    have ht : f.told < f.size := by have := hok.told; have : ¬ f.told = f.size := fun e => hov (.inr e); omega
    have hs := h.sum hbf
    have hr := h.room hbf
    by_cases hw : 0 < f.waits
    · rw [nextQ_wait hov hw]
      exact ⟨h.size, fun _ => by dsimp only; omega, fun _ => by dsimp only; omega⟩
    · have en : R.L.s0.nx f.m = feedNx R.F0 R.n0 f.m := rfl
      obtain ⟨r, hr'⟩ : ∃ r, r = R.L.s0.nx f.m := ⟨_, rfl⟩
      obtain ⟨x, ok, m'⟩ := r
      cases ok with
      | false =>
        rw [nextQ_short hov hw hr'.symm]
        exact ⟨h.size, (fun e => by cases e), (fun e => by cases e)⟩
      | true =>
        have hm' : m' = f.m + 1 := by
          rw [en] at hr'
          unfold feedNx at hr'
          by_cases hs : f.m < R.n0
          · rw [if_pos hs] at hr'; injection hr' with a b; injection b with b c
          · rw [if_neg hs] at hr'; injection hr' with a b; injection b with b c; cases b
        have plain : (whichQ f.ahead x = none ∨ ¬ f.told + 1 < f.size) → (f.next R.L).2.2.Sum n := by
          intro hk
          rw [nextQ_plain hov hw hr'.symm hk]
          exact ⟨h.size, fun _ => by dsimp only; omega, fun _ => by dsimp only; omega⟩
        cases hk : whichQ f.ahead x with
        | none => exact plain (.inl hk)
        | some k =>
          by_cases hs1 : f.told + 1 < f.size
          · have hB : (f.bitted R.L x m' k).Sum n := by
              unfold FQ.bitted
              exact ⟨h.size, fun _ => by dsimp only; omega, fun _ => by dsimp only; omega⟩
            rw [nextQ_bit hov hw hr'.symm hk hs1]
            by_cases h1 : (f.d.bit R.L.s3.nx (f.q k)).1 = 1
            · rw [if_pos h1]
              exact hB.target (show f.waits = 0 by omega) hp.p1 hp.p2 x
            · rw [if_neg h1]; exact hB
          · exact plain (.inr hs1)
theorem FQ.Sum.it {R : Four} {n : Nat} {f : FQ} (hp : f.Pos R) (h : f.Sum n) (k : Nat) : (f.it R k).Sum n := by
  induction k with
  | zero => exact h
  | succ k ih => exact ih.next (hp.it k)
/-- a filter that ends has told as many bytes as there were. -/
theorem ends_sum (R : Four) (n k : Nat) (hn : n ≤ 9223372036854775807) (h : ((R.start n).it R k).ends R.L = true) : n = R.n0 + R.n1 + R.n2 := by
  have hp := (R.start_pos n hn).it k
  have hs : ((R.start n).it R k).Sum n := FQ.Sum.it (R.start_pos n hn) ⟨rfl, fun _ => rfl, fun _ => Nat.zero_le _⟩ k
  generalize (R.start n).it R k = f at *
  have e0 : (R.L.s0.nx f.m).2.1 = decide (f.m < R.n0) := feedNx_more _ _ _
  have e1 : (R.L.s1.nx f.c).2.1 = decide (f.c < R.n1) := feedNx_more _ _ _
  have e2 : (R.L.s2.nx f.j).2.1 = decide (f.j < R.n2) := feedNx_more _ _ _
  have p0 := hp.p0
  have p1 := hp.p1
  have p2 := hp.p2
  unfold FQ.ends FQ.ends3 FQ.ends2 FQ.ends1 FQ.ends0 at h
  rw [e0, e1, e2] at h
  simp only [Bool.and_eq_true, Bool.not_eq_true', decide_eq_true_eq, decide_eq_false_iff_not] at h
  obtain ⟨⟨⟨⟨⟨hb, ht, _⟩, a0⟩, a1⟩, a2⟩, _⟩ := h
  have := hs.sum hb
  have := hs.room hb
  have := hs.size
  omega

/-! ### the round trip -/
theorem getD_by {l : List Int} (h : bytesL l) : ∀ i, i < l.length → 0 ≤ l.getD i 0 ∧ l.getD i 0 < 256 := fun i hi => by
  have e : l.getD i 0 = l[i] := by simp [List.getD, hi]
  rw [e]; exact h _ (List.getElem_mem hi)
def fourOf (m k j o : List Int) (hm : bytesL m) (hk : bytesL k) (hj : bytesL j) (ho : bytesL o) : Four :=
  ⟨m.length, k.length, j.length, o.length, fun i => m.getD i 0, fun i => k.getD i 0, fun i => j.getD i 0, fun i => o.getD i 0, getD_by hm, getD_by hk, getD_by hj, getD_by ho⟩
theorem bytesL_app {a b : List Int} (ha : bytesL a) (hb : bytesL b) : bytesL (a ++ b) := fun x hx => by
  rcases List.mem_append.1 hx with h | h
  · exact ha x h
  · exact hb x h
theorem wordB_by (p : Int) : bytesL (wordB p) := fun x hx => by
  simp only [wordB, List.mem_cons, List.not_mem_nil, or_false] at hx
  rcases hx with rfl | rfl | rfl | rfl <;> omega
structure CQ.By (s : CQ) : Prop where
  m : bytesL s.m
  k : bytesL s.k
  j : bytesL s.j
structure CQ.Ext (s s' : CQ) : Prop where
  m : ∃ t, s'.m = s.m ++ t
  k : ∃ t, s'.k = s.k ++ t
  j : ∃ t, s'.j = s.j ++ t
  c : ∃ k, Reach s.c s'.c k
theorem CQ.Ext.refl (s : CQ) : s.Ext s := ⟨⟨[], by simp⟩, ⟨[], by simp⟩, ⟨[], by simp⟩, 0, Reach.refl _⟩
theorem CQ.Ext.trans {a b c : CQ} (h : a.Ext b) (g : b.Ext c) : a.Ext c := by
  obtain ⟨⟨m1, hm1⟩, ⟨k1, hk1⟩, ⟨j1, hj1⟩, c1, hc1⟩ := h
  obtain ⟨⟨m2, hm2⟩, ⟨k2, hk2⟩, ⟨j2, hj2⟩, c2, hc2⟩ := g
  exact ⟨⟨m1 ++ m2, by rw [hm2, hm1, List.append_assoc]⟩, ⟨k1 ++ k2, by rw [hk2, hk1, List.append_assoc]⟩, ⟨j1 ++ j2, by rw [hj2, hj1, List.append_assoc]⟩, _, hc1.trans hc2⟩
theorem CQ.step_ext {F : Nat → Int} {n : Nat} (hF : ∀ i, i < n → 0 ≤ F i ∧ F i < 256) {s : CQ} (h : s.Good F n) (hb : s.By) (hi : s.i < n) : s.Ext (s.step n F) ∧ (s.step n F).By := by
  have hx := hF s.i hi
  have one : bytesL [F s.i] := fun x hx' => by simp at hx'; rw [hx']; exact hx
  have pl : s.Ext (s.plain F) ∧ (s.plain F).By := ⟨⟨⟨[F s.i], rfl⟩, ⟨[], by simp [CQ.plain]⟩, ⟨[], by simp [CQ.plain]⟩, 0, Reach.refl _⟩, ⟨bytesL_app hb.m one, hb.k, hb.j⟩⟩
  unfold CQ.step
  split
  · exact pl
  · rename_i x hx1
    have hx2 := whichQ_lt h.ahead hx1
    have hp := h.pr x hx2
    split
    · exact pl
    · split
      · exact ⟨⟨⟨[F s.i], rfl⟩, ⟨[], by simp [CQ.near]⟩, ⟨[], by simp [CQ.near]⟩, h.ok.reach_bit h.by_ hp.1 hp.2 0⟩, ⟨bytesL_app hb.m one, hb.k, hb.j⟩⟩
      · rename_i p hp1
        refine ⟨⟨⟨[F s.i], rfl⟩, ?_, ?_, h.ok.reach_bit h.by_ hp.1 hp.2 1⟩, ⟨bytesL_app hb.m one, ?_, ?_⟩⟩
        · show ∃ t, (if F s.i = 232 then s.k ++ wordB p else s.k) = s.k ++ t
          split
          · exact ⟨_, rfl⟩
          · exact ⟨[], by simp⟩
        · show ∃ t, (if F s.i = 232 then s.j else s.j ++ wordB p) = s.j ++ t
          split
          · exact ⟨[], by simp⟩
          · exact ⟨_, rfl⟩
        · show bytesL (if F s.i = 232 then s.k ++ wordB p else s.k)
          split
          · exact bytesL_app hb.k (wordB_by p)
          · exact hb.k
        · show bytesL (if F s.i = 232 then s.j else s.j ++ wordB p)
          split
          · exact hb.j
          · exact bytesL_app hb.j (wordB_by p)
theorem step_le {F : Nat → Int} {n : Nat} {s : CQ} (hi : s.i < n) : (s.step n F).i ≤ n := by
  unfold CQ.step
  split
  · exact hi
  · split
    · exact hi
    · split
      · exact hi
      · rename_i p hp
        have := (placeQ_lt hp).1
        show s.i + 5 ≤ n
        omega
theorem CQ.run_ext {F : Nat → Int} {n : Nat} (hF : ∀ i, i < n → 0 ≤ F i ∧ F i < 256) (t : Nat) : ∀ (s : CQ), s.Good F n → s.By → s.i ≤ n → s.Ext (CQ.run n F t s) ∧ (CQ.run n F t s).Good F n ∧ (CQ.run n F t s).By ∧ (CQ.run n F t s).i ≤ n := by
  induction t with
  | zero => intro s h hb hi; exact ⟨.refl _, h, hb, hi⟩
  | succ t ih =>
    intro s h hb hi
    show s.Ext (if s.i < n then CQ.run n F t (s.step n F) else s) ∧ CQ.Good F n (if s.i < n then CQ.run n F t (s.step n F) else s) ∧ CQ.By (if s.i < n then CQ.run n F t (s.step n F) else s) ∧ (if s.i < n then CQ.run n F t (s.step n F) else s).i ≤ n
    by_cases hlt : s.i < n
    · rw [if_pos hlt]
      obtain ⟨e1, e2⟩ := CQ.step_ext hF h hb hlt
      obtain ⟨i1, i2, i3, i4⟩ := ih _ (h.step hF hlt) e2 (step_le hlt)
      exact ⟨e1.trans i1, i2, i3, i4⟩
    · rw [if_neg hlt]; exact ⟨.refl _, h, hb, hi⟩
theorem codeQ_all {F : Nat → Int} {n : Nat} (hF : ∀ i, i < n → 0 ≤ F i ∧ F i < 256) : (codeQ n F).Good F n ∧ (codeQ n F).By ∧ (codeQ n F).i ≤ n ∧ bytesL ((codeQ n F).c.gives 5).out := by
  obtain ⟨_, h2, h3, h4⟩ := CQ.run_ext hF n CQ.new (CQ.new_good F n) ⟨(fun x hx => by cases hx), (fun x hx => by cases hx), (fun x hx => by cases hx)⟩ (Nat.zero_le _)
  exact ⟨h2, h3, h4, (gives_out (h2.ok.fin h2.by_)).2.2⟩
/-- the four streams that the coder gives. -/
def fourC {n : Nat} {F : Nat → Int} (hF : ∀ i, i < n → 0 ≤ F i ∧ F i < 256) : Four :=
  fourOf (codeQ n F).m (codeQ n F).k (codeQ n F).j ((codeQ n F).c.gives 5).out (codeQ_all hF).2.1.m (codeQ_all hF).2.1.k (codeQ_all hF).2.1.j (codeQ_all hF).2.2.2
theorem getD_app {l t : List Int} {x : Int} {L : List Int} (h : L = (l ++ [x]) ++ t) : l.length < L.length ∧ L.getD l.length 0 = x := by
  subst h
  exact ⟨by simp <;> omega, by simp [List.getD]⟩
theorem four_app {l t : List Int} {p : Int} {L : List Int} (hp0 : 0 ≤ p) (hp1 : p < 4294967296) (h : L = (l ++ wordB p) ++ t) : l.length + 4 ≤ L.length ∧ four4 (fun i => L.getD i 0) l.length = p := by
  subst h
  refine ⟨by simp [wordB] <;> omega, ?_⟩
  have g : ∀ j, j < 4 → ((l ++ wordB p) ++ t).getD (l.length + j) 0 = (wordB p).getD j 0 := fun j hj => by
    rw [List.append_assoc, List.getD_eq_getElem?_getD, List.getElem?_append_right (by omega), show l.length + j - l.length = j by omega, List.getElem?_append_left (by simpa [wordB] using hj), ← List.getD_eq_getElem?_getD]
  unfold four4
  show ((l ++ wordB p) ++ t).getD l.length 0 * 16777216 + ((l ++ wordB p) ++ t).getD (l.length + 1) 0 * 65536 + ((l ++ wordB p) ++ t).getD (l.length + 2) 0 * 256 + ((l ++ wordB p) ++ t).getD (l.length + 3) 0 = p
  have g0 := g 0 (by decide)
  rw [Nat.add_zero] at g0
  rw [g0, g 1 (by decide), g 2 (by decide), g 3 (by decide)]
  show p / 16777216 % 256 * 16777216 + p / 65536 % 256 * 65536 + p / 256 % 256 * 256 + p % 256 = p
  omega
structure RelQ (R : Four) (s : CQ) (f : FQ) : Prop where
  m : f.m = s.m.length
  c : f.c = s.k.length
  j : f.j = s.j.length
  ahead : f.ahead = s.ahead
  q : f.q = s.q
  syn : Sync R.F3 s.c f.d
theorem back_run {F : Nat → Int} {n : Nat} (hF : ∀ i, i < n → 0 ≤ F i ∧ F i < 256) (R : Four) (Q : CQ) (hR0 : R.n0 = Q.m.length ∧ R.F0 = fun i => Q.m.getD i 0) (hR1 : R.n1 = Q.k.length ∧ R.F1 = fun i => Q.k.getD i 0) (hR2 : R.n2 = Q.j.length ∧ R.F2 = fun i => Q.j.getD i 0)
    (hT : Told R.F3 R.n3 Q.c) (t : Nat) : ∀ (s : CQ) (f : FQ), s.Good F n → s.By → s.i ≤ n → n ≤ s.i + t → CQ.run n F t s = Q → RunQ R n s.i f → RelQ R s f → (∀ i, i < s.i → (R.start n).byteAt R i = F i) →
      ∃ f', RunQ R n n f' ∧ RelQ R Q f' ∧ ∀ i, i < n → (R.start n).byteAt R i = F i := by
  induction t with
  | zero =>
    intro s f _ _ hi ht hq hr hrel hbs
    have e : s.i = n := by omega
    have hq' : s = Q := hq
    rw [hq'] at hrel
    rw [e] at hr hbs
    exact ⟨f, hr, hrel, hbs⟩
  | succ t ih =>
    intro s f hg hb hi ht hq hr hrel hbs
    by_cases hlt : s.i < n
    · have hq' : CQ.run n F t (s.step n F) = Q := by rw [← hq]; exact (if_pos hlt).symm
      obtain ⟨he, hb'⟩ := CQ.step_ext hF hg hb hlt
      have hg' := hg.step hF hlt
      have hle := step_le (F := F) hlt
      have hst := step_i n F s
      obtain ⟨hE, _, _, _⟩ := CQ.run_ext hF t _ hg' hb' hle
      rw [hq'] at hE
      have hx := hF s.i hlt
      have hsm : ∃ tm, (s.step n F).m = s.m ++ [F s.i] ++ tm ∧ tm = [] := by
        refine ⟨[], ?_, rfl⟩
        unfold CQ.step
        split
        · simp [CQ.plain]
        · split
          · simp [CQ.plain]
          · split
            · simp [CQ.near]
            · simp [CQ.apart]
      obtain ⟨tm, hsm, rfl⟩ := hsm
      obtain ⟨tm, htm⟩ := hE.m
      rw [hsm, List.append_nil] at htm
      obtain ⟨hm1, hm2⟩ := getD_app htm
      have hfm : f.m < R.n0 := by rw [hrel.m, hR0.1]; exact hm1
      have hF0 : R.F0 f.m = F s.i := by rw [hrel.m, hR0.2]; exact hm2
      have go : ∀ f', RunQ R n (s.step n F).i f' → RelQ R (s.step n F) f' → (∀ i, i < (s.step n F).i → (R.start n).byteAt R i = F i) → ∃ f', RunQ R n n f' ∧ RelQ R Q f' ∧ ∀ i, i < n → (R.start n).byteAt R i = F i := fun f' a b c =>
        ih _ f' hg' hb' hle (by omega) hq' a b c
      have pl : (whichQ s.ahead (F s.i) = none ∨ ¬ s.i + 1 < n) → s.step n F = s.plain F → ∃ f', RunQ R n n f' ∧ RelQ R Q f' ∧ ∀ i, i < n → (R.start n).byteAt R i = F i := fun hk e => by
        obtain ⟨h1, h2⟩ := hr.plain hlt hfm (by rw [hrel.ahead, hF0]; exact hk)
        rw [hF0] at h1 h2
        rw [e] at go
        refine go _ h1 ⟨?_, hrel.c, hrel.j, rfl, hrel.q, hrel.syn⟩ fun i hi => ?_
        · show f.m + 1 = (s.m ++ [F s.i]).length; rw [hrel.m]; simp
        · have hi : i < s.i + 1 := hi
          by_cases e : i = s.i
          · rw [e]; exact h2
          · exact hbs i (by omega)
      cases hk : whichQ s.ahead (F s.i) with
      | none => exact pl (.inl hk) (by unfold CQ.step; rw [hk])
      | some k =>
        by_cases hl : s.i + 1 = n
        · exact pl (.inr (by omega)) (by unfold CQ.step; rw [hk]; exact if_pos hl)
        · have hk258 := whichQ_lt hg.ahead hk
          have hp := hg.pr k hk258
          have hkf : whichQ f.ahead (R.F0 f.m) = some k := by rw [hrel.ahead, hF0]; exact hk
          have hq3 : f.q k = s.q k := by rw [hrel.q]
          cases hpl : placeQ n F s.i with
          | none =>
            have e : s.step n F = s.near F k := by unfold CQ.step; rw [hk]; show (if s.i + 1 = n then _ else _) = _; rw [if_neg hl, hpl]
            rw [e] at go hE
            obtain ⟨kr, hkr⟩ := hE.c
            obtain ⟨y1, y2, y3⟩ := sync_bit hT hrel.syn hg.ok hp.1 hp.2 0 (by decide) hkr
            rw [← hq3] at y1 y2 y3
            obtain ⟨h1, h2⟩ := hr.bit0 (by omega) hfm hkf y1 y3.bad
            rw [hF0] at h1 h2
            refine go _ h1 ⟨?_, hrel.c, hrel.j, rfl, ?_, ?_⟩ fun i hi => ?_
            · show f.m + 1 = (s.m ++ [F s.i]).length; rw [hrel.m]; simp
            · show upd f.q k (f.d.bit R.L.s3.nx (f.q k)).2.1 = upd s.q k (s.c.bit (s.q k) 0).1
              rw [hrel.q] at y2 ⊢
              rw [← y2]; rfl
            · show Sync R.F3 (s.c.bit (s.q k) 0).2 (f.d.bit R.L.s3.nx (f.q k)).2.2
              rw [hq3] at y3 ⊢; exact y3
            · have hi : i < s.i + 1 := hi
              by_cases e : i = s.i
              · rw [e]; exact h2
              · exact hbs i (by omega)
          | some p =>
            have e : s.step n F = s.apart F k p := by unfold CQ.step; rw [hk]; show (if s.i + 1 = n then _ else _) = _; rw [if_neg hl, hpl]
            obtain ⟨hp4, hp0, hpn⟩ := placeQ_lt hpl
            have hpv : p = (F (s.i + 1) + 256 * F (s.i + 2) + 65536 * F (s.i + 3) + 16777216 * F (s.i + 4) + s.i + 5) % 4294967296 := by
              unfold placeQ at hpl
              rw [if_pos hp4] at hpl
              split at hpl
              · injection hpl with hpl; exact hpl.symm
              · cases hpl
            have hp1 : p < 4294967296 := by omega
            rw [e] at go hE
            obtain ⟨kr, hkr⟩ := hE.c
            obtain ⟨y1, y2, y3⟩ := sync_bit hT hrel.syn hg.ok hp.1 hp.2 1 (by decide) hkr
            rw [← hq3] at y1 y2 y3
            obtain ⟨h1, h2, h3⟩ := hr.bit1 (by omega) hfm hkf y1
            rw [hF0] at h1 h2
            have hb1 := hF (s.i + 1) (by omega)
            have hb2 := hF (s.i + 2) (by omega)
            have hb3 := hF (s.i + 3) (by omega)
            have hb4 := hF (s.i + 4) (by omega)
            have hV : (p - (((s.i + 1 : Nat) : Int) + 4)) % 4294967296 = F (s.i + 1) + 256 * F (s.i + 2) + 65536 * F (s.i + 3) + 16777216 * F (s.i + 4) := by rw [hpv]; omega
            have ht1 : (f.bitted R.L (F s.i) (f.m + 1) k).told = s.i + 1 := by show f.told + 1 = _; rw [hr.told]
            have hs1 : (f.bitted R.L (F s.i) (f.m + 1) k).size = n := hr.size
            have hbd : (f.bitted R.L (F s.i) (f.m + 1) k).bad = false := y3.bad
            have fin : ∀ (c j : Nat) (V : Int), V = F (s.i + 1) + 256 * F (s.i + 2) + 65536 * F (s.i + 3) + 16777216 * F (s.i + 4) → c = (if F s.i = 232 then s.k ++ wordB p else s.k).length → j = (if F s.i = 232 then s.j else s.j ++ wordB p).length →
                (R.start n).it R (s.i + 1) = { f.bitted R.L (F s.i) (f.m + 1) k with c := c, j := j, bad := false, told := s.i + 1, word := wordQ V, waits := 4, ahead := (V / 16777216 % 256).toNat } → ∃ f', RunQ R n n f' ∧ RelQ R Q f' ∧ ∀ i, i < n → (R.start n).byteAt R i = F i := by
              intro c j V hVe hc hj hit
              have hpos := (R.start_pos n (by rw [← hr.size]; exact hr.pos.ok.size)).it (s.i + 1)
              rw [hit] at hpos
              obtain ⟨w0, w1, w2, w3, w4⟩ := wait4 hit h3 rfl rfl rfl hs1 (by omega) hpos
              refine go _ w0 ⟨?_, hc, hj, ?_, ?_, ?_⟩ fun i hi => ?_
              · show f.m + 1 = (s.m ++ [F s.i]).length; rw [hrel.m]; simp
              · show (V / 16777216 % 256).toNat = (F (s.i + 4)).toNat
                congr 1
                omega
              · show upd f.q k (f.d.bit R.L.s3.nx (f.q k)).2.1 = upd s.q k (s.c.bit (s.q k) 1).1
                rw [hrel.q] at y2 ⊢
                rw [← y2]; rfl
              · show Sync R.F3 (s.c.bit (s.q k) 1).2 (f.d.bit R.L.s3.nx (f.q k)).2.2
                rw [hq3] at y3 ⊢; exact y3
              · have hi : i < s.i + 5 := hi
                by_cases e0 : i = s.i
                · rw [e0]; exact h2
                by_cases e1 : i = s.i + 1
                · rw [e1, w1]; show V % 256 = _; omega
                by_cases e2 : i = s.i + 2
                · rw [e2, w2]; show V / 256 % 256 = _; omega
                by_cases e3 : i = s.i + 3
                · rw [e3, w3]; show V / 65536 % 256 = _; omega
                by_cases e4 : i = s.i + 4
                · rw [e4, w4]; show V / 16777216 % 256 = _; omega
                · exact hbs i (by omega)
            by_cases h232 : F s.i = 232
            · obtain ⟨tk, htk⟩ := hE.k
              have ek : (s.apart F k p).k = s.k ++ wordB p := if_pos h232
              rw [ek] at htk
              obtain ⟨v1, v2⟩ := four_app hp0 hp1 htk
              have hT1 : (f.bitted R.L (F s.i) (f.m + 1) k).c + 4 ≤ R.n1 := by show f.c + 4 ≤ _; rw [hrel.c, hR1.1]; exact v1
              have ev : four4 R.F1 (f.bitted R.L (F s.i) (f.m + 1) k).c = p := by show four4 R.F1 f.c = p; rw [hrel.c, hR1.2]; exact v2
              have h1' := h1
              rw [h232] at h1'
              have ht1' := ht1
              rw [h232] at ht1' ev hT1 hs1 hbd
              rw [tgt_call hbd hT1 (by rw [hs1, ht1']; omega), ev, ht1'] at h1'
              rw [h232] at fin
              refine fin (f.c + 4) f.j _ hV ?_ ?_ h1'
              · rw [if_pos rfl, hrel.c]; simp [wordB]
              · rw [if_pos rfl, hrel.j]
            · obtain ⟨tk, htk⟩ := hE.j
              have ek : (s.apart F k p).j = s.j ++ wordB p := if_neg h232
              rw [ek] at htk
              obtain ⟨v1, v2⟩ := four_app hp0 hp1 htk
              have hT1 : (f.bitted R.L (F s.i) (f.m + 1) k).j + 4 ≤ R.n2 := by show f.j + 4 ≤ _; rw [hrel.j, hR2.1]; exact v1
              have ev : four4 R.F2 (f.bitted R.L (F s.i) (f.m + 1) k).j = p := by show four4 R.F2 f.j = p; rw [hrel.j, hR2.2]; exact v2
              rw [tgt_jump h232 hbd hT1 (by rw [hs1, ht1]; omega), ev, ht1] at h1
              refine fin f.c (f.j + 4) _ hV ?_ ?_ h1
              · rw [if_neg h232, hrel.c]
              · rw [if_neg h232, hrel.j]; simp [wordB]
    · have e : s.i = n := by omega
      have hq' : s = Q := by rw [← hq]; exact (run_done n F (t + 1) s hlt).symm
      rw [hq'] at hrel
      rw [e] at hr hbs
      exact ⟨f, hr, hrel, hbs⟩
/-- what is coded is decoded as it was. -/
theorem back_q {F : Nat → Int} {n : Nat} (hn : n ≤ 9223372036854775807) (hF : ∀ i, i < n → 0 ≤ F i ∧ F i < 256) : (∀ t, t < n → ((fourC hF).start n).okAt (fourC hF) t = true) ∧ ((fourC hF).start n).okAt (fourC hF) n = false ∧ (((fourC hF).start n).it (fourC hF) (n + 1)).ends (fourC hF).L = true ∧
    bytesQ (fourC hF) ((fourC hF).start n) n = (List.range n).map F := by
  obtain ⟨hg, hb, hi, ho⟩ := codeQ_all hF
  obtain ⟨g1, g2, g3⟩ := gives_out (hg.ok.fin hg.by_)
  have hT : Told (fourC hF).F3 (fourC hF).n3 (codeQ n F).c := by
    refine ⟨(fourC hF).h3, ?_, ?_, by have := hg.ok.rng0; omega⟩
    · show (codeQ n F).c.len ≤ ((codeQ n F).c.gives 5).out.length; rw [g2]; exact Nat.le_refl _
    · show pre (fun i => ((codeQ n F).c.gives 5).out.getD i 0) _ = _
      rw [pre_take _ ((codeQ n F).c.gives 5).out (fun i hi => rfl) _ (by rw [g2]; exact Nat.le_refl _), ← g2, List.take_length, g1]
  obtain ⟨hE, _, _, _⟩ := CQ.run_ext hF n CQ.new (CQ.new_good F n) ⟨(fun x hx => by cases hx), (fun x hx => by cases hx), (fun x hx => by cases hx)⟩ (Nat.zero_le _)
  obtain ⟨kr, hkr⟩ := hE.c
  obtain ⟨f, h1, h2, h3⟩ := back_run hF (fourC hF) (codeQ n F) ⟨rfl, rfl⟩ ⟨rfl, rfl⟩ ⟨rfl, rfl⟩ hT n CQ.new ((fourC hF).start n) (CQ.new_good F n) ⟨(fun x hx => by cases hx), (fun x hx => by cases hx), (fun x hx => by cases hx)⟩ (Nat.zero_le _) (by omega) rfl (RunQ.start _ n hn)
    ⟨rfl, rfl, rfl, rfl, rfl, sync_new hT hkr⟩ (fun i hi => by have : i < 0 := hi; omega)
  obtain ⟨e1, e2, e3⟩ := h1.final rfl
  refine ⟨e1, e2, ?_, ?_⟩
  · rw [e3, h1.ends rfl (by rw [h2.syn.src]; exact hT.len), decide_eq_true_iff]
    refine ⟨h2.m, h2.c, h2.j, h2.syn.bad, ?_, ?_⟩
    · rw [h2.syn.code, hT.val]; omega
    · rw [h2.syn.src]; exact g2.symm
  · unfold bytesQ
    exact List.map_congr_left (fun i hi => h3 i (List.mem_range.1 hi))
theorem back_sum {F : Nat → Int} {n : Nat} (hn : n ≤ 9223372036854775807) (hF : ∀ i, i < n → 0 ≤ F i ∧ F i < 256) : (codeQ n F).m.length + (codeQ n F).k.length + (codeQ n F).j.length = n :=
  (ends_sum (fourC hF) n (n + 1) hn (back_q hn hF).2.2.1).symm
theorem code_len {F : Nat → Int} {n : Nat} (hF : ∀ i, i < n → 0 ≤ F i ∧ F i < 256) : ((codeQ n F).c.gives 5).out.length ≤ 3 * n + 5 := by
  obtain ⟨hg, hb, hi, ho⟩ := codeQ_all hF
  obtain ⟨g1, g2, g3⟩ := gives_out (hg.ok.fin hg.by_)
  rw [g2]
  have := hg.ok.size
  unfold RC.len
  omega
/-- bytes without instructions. -/
theorem none_run {F : Nat → Int} {n : Nat} (hF : ∀ i, i < n → 0 ≤ F i ∧ F i < 256) (h0 : ∀ i, i < n → F i ≠ 232 ∧ F i ≠ 233 ∧ F i ≠ 15) (t : Nat) : ∀ s : CQ, s.i ≤ n → s.ahead ≠ 15 → s.m = (List.range s.i).map F → s.k = [] → s.j = [] → s.c = RC.new → n ≤ s.i + t →
    (CQ.run n F t s).m = (List.range n).map F ∧ (CQ.run n F t s).k = [] ∧ (CQ.run n F t s).j = [] ∧ (CQ.run n F t s).c = RC.new := by
  induction t with
  | zero =>
    intro s h1 _ h3 h4 h5 h6 h7
    have e : s.i = n := by omega
    rw [e] at h3
    exact ⟨h3, h4, h5, h6⟩
  | succ t ih =>
    intro s h1 h2 h3 h4 h5 h6 h7
    by_cases hlt : s.i < n
    · have hz := h0 s.i hlt
      have hw : whichQ s.ahead (F s.i) = none := by
        unfold whichQ
        rw [if_neg hz.1, if_neg hz.2.1, if_neg (fun h => h2 h.1)]
      have e : s.step n F = s.plain F := by unfold CQ.step; rw [hw]
      have er : CQ.run n F (t + 1) s = CQ.run n F t (s.plain F) := by rw [← e]; exact if_pos hlt
      rw [er]
      have hx := hF s.i hlt
      refine ih _ hlt ?_ ?_ h4 h5 h6 (by show n ≤ s.i + 1 + t; omega)
      · show (F s.i).toNat ≠ 15
        have := hz.2.2
        omega
      · show s.m ++ [F s.i] = (List.range (s.i + 1)).map F
        rw [List.range_succ, List.map_append, h3]; rfl
    · have e : s.i = n := by omega
      rw [run_done n F _ s hlt]
      rw [e] at h3
      exact ⟨h3, h4, h5, h6⟩
theorem none_q {F : Nat → Int} {n : Nat} (hF : ∀ i, i < n → 0 ≤ F i ∧ F i < 256) (h0 : ∀ i, i < n → F i ≠ 232 ∧ F i ≠ 233 ∧ F i ≠ 15) : (codeQ n F).m = (List.range n).map F ∧ (codeQ n F).k = [] ∧ (codeQ n F).j = [] ∧ ((codeQ n F).c.gives 5).out = [0, 0, 0, 0, 0] := by
  obtain ⟨h1, h2, h3, h4⟩ := none_run hF h0 n CQ.new (Nat.zero_le _) (by decide) rfl rfl rfl rfl (by omega)
  exact ⟨h1, h2, h3, by show ((CQ.run n F n CQ.new).c.gives 5).out = _; rw [h4]; rfl⟩
end Go.Proofs.Ytphdnfilenkanaa

/- Four rows that came in, opened. -/
namespace Go.Proofs.Ytphdnfilenkanaa
open Go.Joins Go.ChangeShapes Go.WideShapes Go.Deep Go.RowKit

def RowOk (w : World) (a : Option Addr) (n c : Nat) (F : Nat → Int) : Prop := n ≤ c ∧ c ≤ maxLen ∧ (a = none → c = 0) ∧ RowIn w.heap.size .u8 w a n F ∧ ∀ i, i < n → 0 ≤ F i ∧ F i < 256
structure Fq where
  a0 : Option Addr
  a1 : Option Addr
  a2 : Option Addr
  a3 : Option Addr
  n0 : Nat
  n1 : Nat
  n2 : Nat
  n3 : Nat
  c0 : Nat
  c1 : Nat
  c2 : Nat
  c3 : Nat
  F0 : Nat → Int
  F1 : Nat → Int
  F2 : Nat → Int
  F3 : Nat → Int
def Fq.val (q : Fq) : Value := .agg #[.slice q.a0 q.n0 q.c0, .slice q.a1 q.n1 q.c1, .slice q.a2 q.n2 q.c2, .slice q.a3 q.n3 q.c3]
structure Fq.wf (q : Fq) (w : World) : Prop where
  r0 : RowOk w q.a0 q.n0 q.c0 q.F0
  r1 : RowOk w q.a1 q.n1 q.c1 q.F1
  r2 : RowOk w q.a2 q.n2 q.c2 q.F2
  r3 : RowOk w q.a3 q.n3 q.c3 q.F3
theorem fq_cells : Try.prog.cellsOf 24 = 4 := by kernel_rfl
theorem sl_cells : Try.prog.cellsOf 22 = 1 := by kernel_rfl
theorem slice_open {H : Type} {enc : TypeId × Value → H} {w : World} {held : Bool} {v : Value} {d : DataW H} {p : List MemPlace} {fuel : Nat}
    (hf : DataW.trod enc Try.prog w 0 (fun _ => true) held fuel 22 [v] = some (d, p)) : ∃ a n c F, v = .slice a n c ∧ RowOk w a n c F := by
  have key : ∀ (a : Option Addr) (l c : Nat) (zs : List Int), ((a = none ∧ l = 0 ∧ c = 0 ∧ zs = []) ∨ ∃ x, a = some x ∧ l ≤ c ∧ c ≤ maxLen ∧ zs.length = c ∧ (∀ i, i < zs.length → w.cell? (x.add i) = some (.int .u8 (zs.getD i 0))) ∧ ∀ n ∈ zs, (Lit.int .u8 n).wf = true) → RowOk w a l c (lit zs) := by
    intro a l c zs hz
    obtain ⟨h1, h2, h3, h4, h5⟩ := rowIn_of hz
    exact ⟨h1, h2, h4, h3, fun i hi => wf_u8 (h5 i hi)⟩
  rcases open_ints Try.underlying22 Try.underlying5 (by kernel_rfl) hf with ⟨hcs, _⟩ | ⟨x, l, c, zs, hcs, _, hl, hm, hz, _, hcell, hwz⟩
  · simp at hcs
    exact ⟨_, _, _, _, hcs, key _ _ _ [] (.inl ⟨rfl, rfl, rfl, rfl⟩)⟩
  · simp at hcs
    exact ⟨_, _, _, _, hcs, key _ _ _ zs (.inr ⟨_, rfl, hl, hm, by simpa using hz, hcell, hwz⟩)⟩
theorem four_open {H : Type} {enc : TypeId × Value → H} {w : World} {held : Bool} {r : Go.Reach} {b0 : Nat} {v : Value} {d : DataW H} {p : List MemPlace}
    (hv : Value.okWide Try.prog w r b0 24 v) (h : DataW.Trod enc Try.prog w 0 (fun _ => true) held 24 v d p) : ∃ q : Fq, v = q.val ∧ q.wf w := by
  obtain ⟨cs, rfl, hsz⟩ := okWide_struct Try.underlying24 hv
  obtain ⟨l⟩ := cs
  match l, hsz.trans fq_cells with
  | [c0, c1, c2, c3], _ =>
    obtain ⟨fuel, hf⟩ := h
    obtain ⟨xs, n, _, hx, _, hlen, hg⟩ := DataW.trod_struct Try.underlying24 hf
    match xs, hlen with
    | [y0, y1, y2, y3], _ =>
      have t0 := hg 0 _ rfl
      have t1 := hg 1 _ rfl
      have t2 := hg 2 _ rfl
      have t3 := hg 3 _ rfl
      simp [Value.cells, sl_cells] at t0 t1 t2 t3
      obtain ⟨a0, n0, k0, F0, e0, r0⟩ := slice_open t0
      obtain ⟨a1, n1, k1, F1, e1, r1⟩ := slice_open t1
      obtain ⟨a2, n2, k2, F2, e2, r2⟩ := slice_open t2
      obtain ⟨a3, n3, k3, F3, e3, r3⟩ := slice_open t3
      subst e0 e1 e2 e3
      exact ⟨⟨a0, a1, a2, a3, n0, n1, n2, n3, k0, k1, k2, k3, F0, F1, F2, F3⟩, rfl, r0, r1, r2, r3⟩
end Go.Proofs.Ytphdnfilenkanaa

/- bcj2: awake, same; where coded rows lie. -/
namespace Go.Proofs.Ytphdnfilenkanaa
open Go.RowKit

theorem first_eq {p : Nat → Bool} {k j : Nat} (h1 : ∀ i, i < k → p i = true) (h2 : p k = false) (h3 : ∀ i, i < j → p i = true) (h4 : p j = false) : k = j := by
  rcases Nat.lt_trichotomy k j with h | h | h
  · have := h3 k h; rw [h2] at this; cases this
  · exact h
  · have := h1 j h; rw [h4] at this; cases this
theorem Own.row5 {w : World} {base : Nat} {k : IntKind} {e : TypeId} {v : Value} {xs : List Int} (h : Own w base k e v xs) :
    ∃ a cap, v = .slice a xs.length cap ∧ xs.length ≤ cap ∧ cap ≤ maxLen ∧ (a = none → cap = 0) ∧ RowIn w.heap.size k w a xs.length (fun i => xs.getD i 0) := by
  obtain ⟨a, cap, rfl, h1, h2, h3⟩ := h.row
  refine ⟨a, cap, rfl, h1, h2, fun e => ?_, h3⟩
  subst e
  obtain ⟨_, h4⟩ := h
  rcases h4 with ⟨h5, _⟩ | ⟨g, cap', cur, hv, _⟩
  · injection h5
  · injection hv with hv; cases hv
theorem fourC_at {n : Nat} {F : Nat → Int} (hF : ∀ i, i < n → 0 ≤ F i ∧ F i < 256) (hn : n ≤ 16384) {w : World} {B : Nat} {v0 v1 v2 v3 : Value}
    (o0 : Own w B .u8 5 v0 (codeQ n F).m) (o1 : Own w B .u8 5 v1 (codeQ n F).k) (o2 : Own w B .u8 5 v2 (codeQ n F).j) (o3 : Own w B .u8 5 v3 ((codeQ n F).c.gives 5).out) :
    ∃ a0 a1 a2 a3 c0 c1 c2 c3, v0 = .slice a0 (fourC hF).n0 c0 ∧ v1 = .slice a1 (fourC hF).n1 c1 ∧ v2 = .slice a2 (fourC hF).n2 c2 ∧ v3 = .slice a3 (fourC hF).n3 c3 ∧ FourAt (fourC hF) w.heap.size w a0 a1 a2 a3 c0 c1 c2 c3 := by
  obtain ⟨a0, c0, e0, l0, _, z0, r0⟩ := o0.row5
  obtain ⟨a1, c1, e1, l1, _, z1, r1⟩ := o1.row5
  obtain ⟨a2, c2, e2, l2, _, z2, r2⟩ := o2.row5
  obtain ⟨a3, c3, e3, l3, _, z3, r3⟩ := o3.row5
  have hs := back_sum (by omega) hF
  have hl := code_len hF
  exact ⟨a0, a1, a2, a3, c0, c1, c2, c3, e0, e1, e2, e3, r0, r1, r2, r3, l0, l1, l2, l3, z0, z1, z2, z3, by show (codeQ n F).m.length ≤ _; omega, by show (codeQ n F).k.length ≤ _; omega, by show (codeQ n F).j.length ≤ _; omega, by show ((codeQ n F).c.gives 5).out.length ≤ _; omega⟩
theorem blk_newE (w : World) (o : Obj) (g : Nat) (h : g = w.heap.size) : (w.alloc o).heap[g]? = some o := by rw [h]; exact blk_new w o
theorem bytes_lit (a : Option Addr) (n c : Nat) (xs : List Int) (cs : Array Value) (hc : cs = (xs.map (Value.int .u8)).toArray) (hx : xs.length = n) (hn : n ≤ 100) {B : Nat} {w0 : World} (hr : RowIn B .u8 w0 a n (fun i => xs.getD i 0)) (w : World) (hf : Fr Non w0 w) (g : Nat) (T : TypeId) (hb : w.heap[g]? = some (.cells cs T)) :
    Calls Try.prog 11 #[.slice a n c, .slice (some ⟨g, 0, none⟩) n n] w fun e w' => e = .returned (.bool true) ∧ ∃ m, w' = w.drewN m := by
  subst hc
  have h2 := RowIn.ofList (k := .u8) xs hb
  rw [hx] at h2
  exact bytes_q a (some ⟨g, 0, none⟩) n c n _ _ _ (by omega) (max B (g + 1)) ((hr.fr hf (fun _ _ e => e)).mono (Nat.le_max_left _ _)) (h2.mono (Nat.le_max_right _ _)) (fun i _ => rfl)
theorem arr_zeros4 : arr .u8 4 (fun _ => 0) = (([0, 0, 0, 0] : List Int).map (Value.int .u8)).toArray := by kernel_rfl
set_option maxRecDepth 100000 in
theorem same_any (u0 u1 u2 u3 v0 v1 v2 v3 : Value) (x0 x1 x2 x3 : List Int) (B : Nat) (w : World) (hx : x0.length ≤ 100000 ∧ x1.length ≤ 100000 ∧ x2.length ≤ 100000 ∧ x3.length ≤ 100000)
    (p0 : Own w B .u8 5 u0 x0) (p1 : Own w B .u8 5 u1 x1) (p2 : Own w B .u8 5 u2 x2) (p3 : Own w B .u8 5 u3 x3)
    (q0 : Own w B .u8 5 v0 x0) (q1 : Own w B .u8 5 v1 x1) (q2 : Own w B .u8 5 v2 x2) (q3 : Own w B .u8 5 v3 x3) :
    Calls Try.prog 12 #[.agg #[u0, u1, u2, u3], .agg #[v0, v1, v2, v3]] w fun e w' => e = .returned (.bool true) ∧ Fr Non w w' := by
  obtain ⟨a0, c0, rfl, _, _, r0⟩ := p0.row
  obtain ⟨a1, c1, rfl, _, _, r1⟩ := p1.row
  obtain ⟨a2, c2, rfl, _, _, r2⟩ := p2.row
  obtain ⟨a3, c3, rfl, _, _, r3⟩ := p3.row
  obtain ⟨b0, d0, rfl, _, _, s0⟩ := q0.row
  obtain ⟨b1, d1, rfl, _, _, s1⟩ := q1.row
  obtain ⟨b2, d2, rfl, _, _, s2⟩ := q2.row
  obtain ⟨b3, d3, rfl, _, _, s3⟩ := q3.row
  obtain ⟨w1, hw1⟩ : ∃ w1, w1 = (w.alloc (.cells #[.slice a0 x0.length c0, .slice a1 x1.length c1, .slice a2 x2.length c2, .slice a3 x3.length c3] 24)).alloc (.cells #[.slice b0 x0.length d0, .slice b1 x1.length d1, .slice b2 x2.length d2, .slice b3 x3.length d3] 24) := ⟨_, rfl⟩
  have hf : Fr Non w w1 := by rw [hw1]; exact ((Fr.refl _ _).alloc _).alloc _
  have hb1 : w1.heap[w.heap.size]? = some (.cells #[.slice a0 x0.length c0, .slice a1 x1.length c1, .slice a2 x2.length c2, .slice a3 x3.length c3] 24) := by rw [hw1]; exact blk_alloc (blk_new _ _)
  have hb2 : w1.heap[w.heap.size + 1]? = some (.cells #[.slice b0 x0.length d0, .slice b1 x1.length d1, .slice b2 x2.length d2, .slice b3 x3.length d3] 24) := by
    rw [hw1]
    have h := blk_new (w.alloc (.cells #[.slice a0 x0.length c0, .slice a1 x1.length c1, .slice a2 x2.length c2, .slice a3 x3.length c3] 24)) (.cells #[.slice b0 x0.length d0, .slice b1 x1.length d1, .slice b2 x2.length d2, .slice b3 x3.length d3] 24)
    simpa using h
  have R0 := hid (And.intro (r0.fr hf (fun _ _ e => e)) (s0.fr hf (fun _ _ e => e)))
  have R1 := hid (And.intro (r1.fr hf (fun _ _ e => e)) (s1.fr hf (fun _ _ e => e)))
  have R2 := hid (And.intro (r2.fr hf (fun _ _ e => e)) (s2.fr hf (fun _ _ e => e)))
  have R3 := hid (And.intro (r3.fr hf (fun _ _ e => e)) (s3.fr hf (fun _ _ e => e)))
  have HF := hid hf
  have HB1 := hid hb1
  have HB2 := hid hb2
  obtain ⟨hx0, hx1, hx2, hx3⟩ := hx
  have HW := hid hw1
  clear p0 p1 p2 p3 q0 q1 q2 q3 r0 r1 r2 r3 s0 s1 s2 s3 hf hb1 hb2 hw1
  go_enter Try.func12, Try.ntmps12
  go_upto_region 1 with fail
  rw [← HW.out]
  have k0 := blk_cell HB1.out (j := 0) (v := .slice a0 x0.length c0) rfl
  have k1 := blk_cell HB1.out (j := 1) (v := .slice a1 x1.length c1) rfl
  have k2 := blk_cell HB1.out (j := 2) (v := .slice a2 x2.length c2) rfl
  have k3 := blk_cell HB1.out (j := 3) (v := .slice a3 x3.length c3) rfl
  have j0 := blk_cell HB2.out (j := 0) (v := .slice b0 x0.length d0) rfl
  have j1 := blk_cell HB2.out (j := 1) (v := .slice b1 x1.length d1) rfl
  have j2 := blk_cell HB2.out (j := 2) (v := .slice b2 x2.length d2) rfl
  have j3 := blk_cell HB2.out (j := 3) (v := .slice b3 x3.length d3) rfl
  go_wp2_with fail
  refine (bytes_q a0 b0 x0.length c0 d0 _ _ w1 (by omega) w.heap.size R0.out.1 R0.out.2 (fun _ _ => rfl)).mono ?_
  rintro e w2 ⟨rfl, m2, rfl⟩
  go_wp2_with fail
  refine (bytes_q a1 b1 x1.length c1 d1 _ _ _ (by omega) w.heap.size (R1.out.1.fr ((Fr.refl Non _).drewN _) (fun _ _ e => e)) (R1.out.2.fr ((Fr.refl Non _).drewN _) (fun _ _ e => e)) (fun _ _ => rfl)).mono ?_
  rintro e w2 ⟨rfl, m3, rfl⟩
  go_wp2_with fail
  refine (bytes_q a2 b2 x2.length c2 d2 _ _ _ (by omega) w.heap.size (R2.out.1.fr ((Fr.refl Non _).drewN _) (fun _ _ e => e)) (R2.out.2.fr ((Fr.refl Non _).drewN _) (fun _ _ e => e)) (fun _ _ => rfl)).mono ?_
  rintro e w2 ⟨rfl, m4, rfl⟩
  go_wp2_with fail
  refine (bytes_q a3 b3 x3.length c3 d3 _ _ _ (by omega) w.heap.size (R3.out.1.fr ((Fr.refl Non _).drewN _) (fun _ _ e => e)) (R3.out.2.fr ((Fr.refl Non _).drewN _) (fun _ _ e => e)) (fun _ _ => rfl)).mono ?_
  rintro e w2 ⟨rfl, m5, rfl⟩
  go_wp2_with fail
  go_ret
  exact ⟨rfl, HF.out.drewN _⟩

def awF : Nat → Int := lit [232, 251, 255, 255, 255]
theorem awF_by : ∀ i, i < 5 → 0 ≤ awF i ∧ awF i < 256 := by decide
theorem aw_code : (codeQ 5 awF).m = [232] ∧ (codeQ 5 awF).k = [0, 0, 0, 0] ∧ ((codeQ 5 awF).c.gives 5).out.length = 5 := by decide +kernel
theorem emake_u8' (n : Nat) (hn : n ≤ 1048576) (w : World) : (Instr.makeSlice 22 (.int .i64 n) (.int .i64 n)).run Try.prog w = .ok (.slice (some ⟨w.heap.size, 0, none⟩) n n) (w.alloc (.cells (arr .u8 n (fun _ => 0)) 5)) := emake_u8 n hn w
set_option maxRecDepth 100000 in
set_option maxHeartbeats 4000000 in
theorem awake15_any (w : World) : Calls Try.prog 8 #[] w fun e w' => e = .returned (.bool true) ∧ Fr Non w w' := by
  have hmk : ∀ w : World, (Instr.makeSlice 22 (.int .i64 4) (.int .i64 4)).run Try.prog w = .ok (.slice (some ⟨w.heap.size, 0, none⟩) 4 4) (w.alloc (.cells (arr .u8 4 (fun _ => 0)) 5)) := fun w => emake_u8 4 (by decide) w
  have HR := hid (RowIn.ofList (k := .u8) [232, 251, 255, 255, 255] (blk_new w (.cells #[.int .u8 232, .int .u8 251, .int .u8 255, .int .u8 255, .int .u8 255] 5)))
  go_enter Try.func8, Try.ntmps8
  go_wp2_with fail
  refine (codeQ_any (some ⟨w.heap.size, 0, none⟩) 5 5 awF awF_by _ (by decide) (by exact HR.out.mono (by simp))).mono ?_
  rintro e w1 ⟨v0, v1, v2, v3, rfl, hf1, o0, o1, o2, o3⟩
  obtain ⟨a0, a1, a2, a3, c0, c1, c2, c3, rfl, rfl, rfl, rfl, h4⟩ := fourC_at awF_by (by decide) o0 o1 o2 o3
  have hback := back_q (n := 5) (by decide) awF_by
  obtain ⟨R, hR⟩ : ∃ R, R = fourC awF_by := ⟨_, rfl⟩
  rw [← hR] at h4 hback ⊢
  have hn0 : R.n0 = 1 := by rw [hR]; show (codeQ 5 awF).m.length = 1; rw [aw_code.1]; rfl
  have hn1 : R.n1 = 4 := by rw [hR]; show (codeQ 5 awF).k.length = 4; rw [aw_code.2.1]; rfl
  have hn3 : R.n3 = 5 := by rw [hR]; exact aw_code.2.2
  have hF0 : ∀ i, i < 1 → R.F0 i = [232].getD i 0 := fun i hi => by rw [hR]; show (codeQ 5 awF).m.getD i 0 = _; rw [aw_code.1]
  have hF1 : ∀ i, i < 4 → R.F1 i = [0, 0, 0, 0].getD i 0 := fun i hi => by rw [hR]; show (codeQ 5 awF).k.getD i 0 = _; rw [aw_code.2.1]
  have HF1 := hid hf1
  have H4 := hid h4
  have HBK := hid hback
  have HN0 := hid hn0
  have HN1 := hid hn1
  have HN3 := hid hn3
  have HFF := hid (And.intro hF0 hF1)
  have hwb := blk_new w1 (.cells #[.slice a0 R.n0 c0, .slice a1 R.n1 c1, .slice a2 R.n2 c2, .slice a3 R.n3 c3] 24)
  have HWB := hid hwb
  clear hf1 h4 hback hn0 hn1 hn3 hF0 hF1 o0 o1 o2 o3 hR hwb
  go_wp2_with (first
    | (refine wpList_store_row rfl 24 _ _ rfl w1.heap.size #[.slice a0 R.n0 c0, .slice a1 R.n1 c1, .slice a2 R.n2 c2, .slice a3 R.n3 c3] rfl rfl 24 #[.slice none 0 0, .slice none 0 0, .slice none 0 0, .slice none 0 0] (heap_alloc_new w1 _) (by kernel_rfl) rfl rfl ?_; rw [setRow_new])
    | (refine wpList_load_row rfl 24 _ rfl w1.heap.size rfl 24 #[.slice a0 R.n0 c0, .slice a1 R.n1 c1, .slice a2 R.n2 c2, .slice a3 R.n3 c3] (0, 0) _ (by exact HWB.out) Try.underlying24 rfl (by kernel_rfl) ?_))
  refine (decodeQ_any R a0 a1 a2 a3 c0 c1 c2 c3 5 5 rfl (by decide) (by decide) _ (by exact (H4.out.fr ((Fr.refl Non w1).alloc _) (fun _ _ e => e)).mono (by simp))).mono ?_
  rintro e w3 ⟨k, hk1, hk2, hf3, hc⟩
  obtain ⟨b1, b2, b3, b4⟩ := HBK.out
  have e5 : k = 5 := first_eq hk1 hk2 b1 b2
  subst e5
  rw [b3, b4] at hc
  obtain ⟨v, rfl, ho⟩ : ∃ v, e = .returned (.tuple #[v, .int .i64 0]) ∧ Own w3 (w1.alloc (.cells #[.slice a0 R.n0 c0, .slice a1 R.n1 c1, .slice a2 R.n2 c2, .slice a3 R.n3 c3] 24)).heap.size .u8 5 v ((List.range 5).map awF) := by
    rcases hc with h | h
    · exact h.2
    · cases h.1
  obtain ⟨a5, c5, rfl, _, _, hr⟩ := ho.rowN (n := 5) rfl
  have F3 := hid (show Fr Non w w3 from (((Fr.refl Non w).alloc _).trans HF1.out).trans (((Fr.refl Non w1).alloc _).trans hf3))
  have hb3 := hf3.blk HWB.out id
  have k0 := blk_cell hb3 (j := 0) (v := .slice a0 R.n0 c0) rfl
  have k1 := blk_cell hb3 (j := 1) (v := .slice a1 R.n1 c1) rfl
  have k3 := blk_cell hb3 (j := 3) (v := .slice a3 R.n3 c3) rfl
  rw [HN0.out] at k0
  rw [HN1.out] at k1
  rw [HN3.out] at k3
  have hm3 : Fr Non w1 w3 := ((Fr.refl Non w1).alloc _).trans hf3
  have R0 := hid (show RowIn w1.heap.size .u8 w3 a0 1 (fun i => [232].getD i 0) from by have h := H4.out.r0.fr hm3 (fun _ _ e => e); rw [HN0.out] at h; exact h.ext HFF.out.1)
  have R1 := hid (show RowIn w1.heap.size .u8 w3 a1 4 (fun i => [0, 0, 0, 0].getD i 0) from by have h := H4.out.r1.fr hm3 (fun _ _ e => e); rw [HN1.out] at h; exact h.ext HFF.out.2)
  have R5 := hid (show RowIn w3.heap.size .u8 w3 a5 5 (fun i => [232, 251, 255, 255, 255].getD i 0) from hr)
  have X0 := hid (And.intro (show (#[.int .u8 232] : Array Value) = (([232] : List Int).map (Value.int .u8)).toArray from rfl) (show ([232] : List Int).length = 1 from rfl))
  have X1 := hid (And.intro arr_zeros4 (show ([0, 0, 0, 0] : List Int).length = 4 from rfl))
  have X5 := hid (And.intro (show (#[.int .u8 232, .int .u8 251, .int .u8 255, .int .u8 255, .int .u8 255] : Array Value) = (([232, 251, 255, 255, 255] : List Int).map (Value.int .u8)).toArray from rfl) (show ([232, 251, 255, 255, 255] : List Int).length = 5 from rfl))
  obtain ⟨G, hG⟩ : ∃ G, G = w1.heap.size := ⟨_, rfl⟩
  rw [← hG] at k0 k1 k3 ⊢
  clear hk1 hk2 hf3 b1 b2 b3 b4 hc ho hr hb3 hm3 hG
  go_wp2_with fail
  go_region_held3 (fun wx => wx.cell? ⟨G, 0, none⟩ = some (.slice a0 1 c0) ∧ wx.cell? ⟨G, 1, none⟩ = some (.slice a1 4 c1) ∧ wx.cell? ⟨G, 3, none⟩ = some (.slice a3 5 c3)) (exact ⟨Fr.cell (S := Non) (by repeat (first | exact Fr.refl _ _ | refine Fr.drewN ?_ _ | refine Fr.drew ?_ | refine Fr.alloc ?_ _)) k0 (fun e => e), Fr.cell (S := Non) (by repeat (first | exact Fr.refl _ _ | refine Fr.drewN ?_ _ | refine Fr.drew ?_ | refine Fr.alloc ?_ _)) k1 (fun e => e), Fr.cell (S := Non) (by repeat (first | exact Fr.refl _ _ | refine Fr.drewN ?_ _ | refine Fr.drew ?_ | refine Fr.alloc ?_ _)) k3 (fun e => e)⟩) (first
    | (go_at_call 11; (first
        | (with_reducible (show Calls _ _ #[.slice a0 _ _, .slice _ _ _] _ _); refine (bytes_lit a0 1 c0 [232] _ X0.out.1 X0.out.2 (by decide) R0.out _ (by repeat (first | exact Fr.refl _ _ | refine Fr.drewN ?_ _ | refine Fr.drew ?_ | refine Fr.alloc ?_ _)) _ 5 (by first | exact blk_newE _ _ _ (by simp) | exact blk_drew (blk_newE _ _ _ (by simp)) | exact blk_drewN (blk_newE _ _ _ (by simp)))).mono ?_; rintro e w5 ⟨rfl, m5, rfl⟩)
        | (with_reducible (show Calls _ _ #[.slice a1 _ _, .slice _ _ _] _ _); refine (bytes_lit a1 4 c1 [0, 0, 0, 0] _ X1.out.1 X1.out.2 (by decide) R1.out _ (by repeat (first | exact Fr.refl _ _ | refine Fr.drewN ?_ _ | refine Fr.drew ?_ | refine Fr.alloc ?_ _)) _ 5 (by first | exact blk_newE _ _ _ (by simp) | exact blk_drew (blk_newE _ _ _ (by simp)) | exact blk_drewN (blk_newE _ _ _ (by simp)))).mono ?_; rintro e w6 ⟨rfl, m6, rfl⟩)
        | (with_reducible (show Calls _ _ #[.slice a5 _ _, .slice _ _ _] _ _); refine (bytes_lit a5 5 c5 [232, 251, 255, 255, 255] _ X5.out.1 X5.out.2 (by decide) R5.out _ (by repeat (first | exact Fr.refl _ _ | refine Fr.drewN ?_ _ | refine Fr.drew ?_ | refine Fr.alloc ?_ _)) _ 5 (by first | exact blk_newE _ _ _ (by simp) | exact blk_drew (blk_newE _ _ _ (by simp)) | exact blk_drewN (blk_newE _ _ _ (by simp)))).mono ?_; rintro e w7 ⟨rfl, m7, rfl⟩))))
  all_goals
    go_wp2_with fail
    go_ret
    exact ⟨rfl, F3.out.trans (by repeat (first | exact Fr.refl _ _ | refine Fr.drewN ?_ _ | refine Fr.drew ?_ | refine Fr.alloc ?_ _))⟩
end Go.Proofs.Ytphdnfilenkanaa
