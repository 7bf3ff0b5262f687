/- The document's walk through LZMA: a packet's kind and what it tells of, ahead of the copying. -/
import Derived.Test.YtjnegcambbeblaaMg13
import Derived.Test.YtjnegcambbeblaaMg19
import Derived.StillTailTactics
namespace Go.Proofs.Ytjnegcambbeblaa
open Go.RowKit

def PkV.val (p : PkV) : Value := .agg #[.int .i64 p.kind, .int .u8 p.byte, .int .i64 p.len, .int .u32 p.dist]
/-- what a packet may be. -/
structure PkOk {C : Type} (K : Cdr C) (p : PkV) (k : Nat) : Prop where
  k0 : 0 ≤ p.kind
  k7 : p.kind ≤ 7
  b0 : 0 ≤ p.byte
  b1 : p.byte < 256
  l0 : -9223372036854775808 ≤ p.len
  l1 : p.len ≤ 9223372036854775807
  d1 : p.dist < 4294967296
  far : k = 1 → p.kind ≠ 7 → (K.free ∨ 2 ≤ p.len) ∧ -60000 ≤ p.len ∧ p.len ≤ 60000
  again : 2 ≤ k → k ≤ 5 → (K.free ∨ 2 ≤ p.len) ∧ -60000 ≤ p.len ∧ p.len ≤ 60000
theorem kkind_le {C : Type} (K : Cdr C) (s : LS) (c : C) (sp : Nat) (k : Int) : (kkind K s c sp k).1.1 ≤ 6 := by
  unfold kkind kkind0
  split
  · show 0 ≤ 6; decide
  · unfold kkind1
    split
    · show 1 ≤ 6; decide
    · split
      · show 6 ≤ 6; decide
      · show (kpick2 K _ _ _ _).1 ≤ 6
        unfold kpick2
        split
        · unfold kpick3
          show (if _ then 6 else 2) ≤ 6
          split <;> decide
        · unfold kpick4
          split
          · show 3 ≤ 6; decide
          · unfold kpick5
            show (if _ then 4 else 5) ≤ 6
            split <;> decide
theorem kkind_fit {C : Type} {K : Cdr C} (hK : K.Ok) (s : LS) (c : C) (sp : Nat) (k : Int) (n : Nat) (h : K.fit c (n + 5)) : K.fit (kkind K s c sp k).2.2 n := by
  have key : ∀ (P : Nat → Int) (c : C) (q : Nat) (b : Int) (m : Nat), K.fit c (m + 1) → K.fit (kbit K P c q b).2.2 m := fun P c q b m h => hK.fitB _ _ _ _ h
  have low : ∀ (c : C) (m : Nat), n ≤ m → K.fit c m → K.fit c n := fun c m hm h => hK.fitM _ _ _ hm h
  have f1 := key s.P c (16 * s.st + sp) (min k 1) (n + 4) h
  unfold kkind kkind0
  split
  · exact low _ _ (by omega) f1
  · have f2 := key (kbit K s.P c (16 * s.st + sp) (min k 1)).2.1 _ (192 + s.st) (chz (k == 1 || k == 7)) (n + 3) f1
    unfold kkind1
    split
    · exact low _ _ (by omega) f2
    · split
      · exact low _ _ (by omega) f2
      · obtain ⟨r, hr⟩ : ∃ r, r = kbit K (kbit K s.P c (16 * s.st + sp) (min k 1)).2.1 (kbit K s.P c (16 * s.st + sp) (min k 1)).2.2 (192 + s.st) (chz (k == 1 || k == 7)) := ⟨_, rfl⟩
        rw [← hr] at f2 ⊢
        have f3 := key r.2.1 _ (204 + s.st) (chz (k == 2 || k == 6)) (n + 2) f2
        show K.fit (kpick2 K _ _ _ _).2.2 n
        unfold kpick2
        split
        · exact low _ _ (by omega) (key _ _ _ _ (n + 1) f3)
        · have f4 := key (kbit K r.2.1 r.2.2 (204 + s.st) (chz (k == 2 || k == 6))).2.1 _ (216 + s.st) (chz (k == 3)) (n + 1) f3
          unfold kpick4
          split
          · exact low _ _ (by omega) f4
          · exact key _ _ _ _ n f4
section
variable {C : Type} {K : Cdr C} {U A : Nat → Prop} {g gp np cap : Nat} {v : Value} {w w' : World} {s : LS} {c : C}
theorem KOk.rep_ {np : Nat} {s : LS} (h : KOk np s) {r : Nat → Nat} (hr : ∀ i, i < 4 → r i < 4294967296) : KOk np { s with rep := r } := ⟨h.pr, h.st, hr, h.lc, h.lp, h.pb, h.room, h.few, h.dict, h.by_⟩
theorem KV.rep1 (hK : K.Ok) (h : KV K U A g gp np cap v w s c) {i : Nat} (hi : i < 4) {x : Nat} (hx : x < 4294967296) : KV K U A g gp np cap v (w.setCell ⟨g, 9 + i, none⟩ (.int .u32 x)) { s with rep := updN s.rep i x } c := by
  have hok : KOk np { s with rep := updN s.rep i x } := h.ok.rep_ (fun j hj => by
    unfold updN
    split
    · exact hx
    · exact h.ok.rep j hj)
  have e : i = 0 ∨ i = 1 ∨ i = 2 ∨ i = 3 := by omega
  rcases e with rfl | rfl | rfl | rfl
  · exact h.setC hK rfl rfl rfl hok
  · exact h.setC hK rfl rfl rfl hok
  · exact h.setC hK rfl rfl rfl hok
  · exact h.setC hK rfl rfl rfl hok
theorem KV.repC (h : KV K U A g gp np cap v w s c) {i : Nat} (hi : i < 4) : w.cell? ⟨g, 9 + i, none⟩ = some (.int .u32 (s.rep i)) := by
  have e : i = 0 ∨ i = 1 ∨ i = 2 ∨ i = 3 := by omega
  rcases e with rfl | rfl | rfl | rfl
  · exact h.cellC 9 rfl
  · exact h.cellC 10 rfl
  · exact h.cellC 11 rfl
  · exact h.cellC 12 rfl
end
theorem rep_shift3 (r : Nat → Nat) (d : Nat) : updN (updN (updN (updN (updN r 0 0) 1 (r 0)) 2 (r 1)) 3 (r 2)) 0 d = updN (shiftL r 3) 0 d := by
  funext i
  unfold updN shiftL
  by_cases h0 : i = 0
  · rw [if_pos h0, if_pos h0]
  · rw [if_neg h0, if_neg h0]
    by_cases h3 : i = 3
    · subst h3; rfl
    · by_cases h2 : i = 2
      · subst h2; rfl
      · by_cases h1 : i = 1
        · subst h1; rfl
        · rw [if_neg h3, if_neg h2, if_neg h1, if_neg h0, if_neg (by omega)]
/-- the elder distances while they are moved up: those above i are done. -/
def rollR (r : Nat → Nat) (j i : Nat) : Nat → Nat := fun x => if i < x ∧ x ≤ j then r (x - 1) else r x
theorem rollR_top (r : Nat → Nat) (j : Nat) : rollR r j j = r := by
  funext x
  unfold rollR
  rw [if_neg (by omega)]
theorem rollR_step (r : Nat → Nat) {j i : Nat} (hi : i + 1 ≤ j) : updN (rollR r j (i + 1)) (i + 1) (rollR r j (i + 1) i) = rollR r j i := by
  funext x
  unfold updN rollR
  by_cases hx : x = i + 1
  · subst hx
    rw [if_pos rfl, if_neg (by omega), if_pos (by omega)]
    rfl
  · rw [if_neg hx]
    by_cases h1 : i + 1 < x ∧ x ≤ j
    · rw [if_pos h1, if_pos (by omega)]
    · rw [if_neg h1, if_neg (by omega)]
theorem rollR_end (r : Nat → Nat) (j d : Nat) : updN (rollR r j 0) 0 d = updN (shiftL r j) 0 d := by
  funext x
  unfold updN rollR shiftL
  by_cases hx : x = 0
  · rw [if_pos hx, if_pos hx]
  · rw [if_neg hx, if_neg hx]
    by_cases h1 : 0 < x ∧ x ≤ j
    · rw [if_pos h1, if_pos (by omega)]
    · rw [if_neg h1, if_neg (by omega)]
theorem rollR_lt {r : Nat → Nat} (h : ∀ i, i < 4 → r i < 4294967296) (j i : Nat) (_ : j < 4) : ∀ x, x < 4 → rollR r j i x < 4294967296 := by
  intro x hx
  unfold rollR
  split
  · exact h _ (by omega)
  · exact h _ hx
theorem ktree_fit {C : Type} {K : Cdr C} (hK : K.Ok) (P : Nat → Int) (c : C) (o B n : Nat) (v : Int) (h : K.fit c (n + B)) : K.fit (ktree K P c o B v).2.2 n := by
  have key : ∀ (i : Nat) (P : Nat → Int) (c : C) (m : Nat), K.fit c (n + i) → K.fit (ktreeGo K o v i P c m).2.2 n := by
    intro i
    induction i with
    | zero => intro P c m hf; exact hf
    | succ i ih => intro P c m hf; exact ih _ _ _ (hK.fitB c _ _ (n + i) hf)
  exact key B P c 1 h
set_option maxRecDepth 20000 in
theorem klen_fit {C : Type} {K : Cdr C} (hK : K.Ok) (P : Nat → Int) (c : C) (b sp n : Nat) (v : Int) (h : K.fit c (n + 10)) : K.fit (klen K P c b sp v).2.2 n := by
  have key : ∀ (P : Nat → Int) (c : C) (q : Nat) (b : Int) (m : Nat), K.fit c (m + 1) → K.fit (kbit K P c q b).2.2 m := fun P c q b m h => hK.fitB _ _ _ _ h
  have f1 := key P c b (min (v.tdiv 8) 1) (n + 9) h
  unfold klen klen1
  split
  · exact ktree_fit hK _ _ _ 3 n _ (hK.fitM _ _ _ (by omega) f1)
  · have f2 := key (kbit K P c b (min (v.tdiv 8) 1)).2.1 _ (b + 1) (min (v.tdiv 16) 1) (n + 8) f1
    unfold klen2
    split
    · exact ktree_fit hK _ _ _ 3 n _ (hK.fitM _ _ _ (by omega) f2)
    · show K.fit (ktree K _ _ (b + 258) 8 (v - 16)).2.2 n
      exact ktree_fit hK _ _ (b + 258) 8 n (v - 16) f2
set_option maxRecDepth 20000 in
theorem klen_lt {C : Type} {K : Cdr C} (hK : K.Ok) (P : Nat → Int) (c : C) (b sp : Nat) {v : Int} (hv : K.free ∨ 0 ≤ v) : (klen K P c b sp v).1 < 300 := by
  unfold klen klen1
  split
  · have := ktree_lt hK (kbit K P c b (min (v.tdiv 8) 1)).2.1 (kbit K P c b (min (v.tdiv 8) 1)).2.2 (b + 2 + 8 * sp) 3 hv
    omega
  · rename_i h0
    have hv8 := min_less hK hv 8 (by decide) h0
    unfold klen2
    split
    · have := ktree_lt hK (kbit K (kbit K P c b (min (v.tdiv 8) 1)).2.1 (kbit K P c b (min (v.tdiv 8) 1)).2.2 (b + 1) (min (v.tdiv 16) 1)).2.1 (kbit K (kbit K P c b (min (v.tdiv 8) 1)).2.1 (kbit K P c b (min (v.tdiv 8) 1)).2.2 (b + 1) (min (v.tdiv 16) 1)).2.2 (b + 130 + 8 * sp) 3 hv8
      show 8 + _ < 300
      omega
    · rename_i h1
      have hv16 := min_less hK hv 16 (by decide) h1
      have := ktree_lt hK (kbit K (kbit K P c b (min (v.tdiv 8) 1)).2.1 (kbit K P c b (min (v.tdiv 8) 1)).2.2 (b + 1) (min (v.tdiv 16) 1)).2.1 (kbit K (kbit K P c b (min (v.tdiv 8) 1)).2.1 (kbit K P c b (min (v.tdiv 8) 1)).2.2 (b + 1) (min (v.tdiv 16) 1)).2.2 (b + 258) 8 hv16
      show 16 + _ < 300
      omega
theorem kdist_lt {C : Type} {K : Cdr C} (hK : K.Ok) (P : Nat → Int) (c : C) (l v : Nat) (hv : v < 4294967296) : (kdist K P c l v).1 < 4294967296 := by
  have h64 := ktree_lt hK P c (432 + 64 * min l 3) 6 (v := ((slotL v : Nat) : Int)) (.inr (Int.natCast_nonneg _))
  have htold := slot_told hK P c (432 + 64 * min l 3) v hv
  unfold kdist
  obtain ⟨r, hr⟩ : ∃ r, r = ktree K P c (432 + 64 * min l 3) 6 (slotL v : Nat) := ⟨_, rfl⟩
  rw [← hr] at h64 htold ⊢
  unfold kdist2
  split
  · omega
  · rename_i h4
    have hm := slot_many (by omega) h64
    split
    · rename_i h14
      have hfew := slot_few (by omega) h14
      have h1 := krev_lt hK r.2.1 r.2.2 (688 + (slotB r.1 - r.1)) (slotN r.1) (v := (v : Int) - (slotB r.1 : Nat)) (by
        rcases htold with h | h
        · exact .inl h
        · refine .inr ?_
          have h1 := slotL_range hv (by omega)
          rw [← h] at h1
          omega)
      have h2 : 2 ^ slotN r.1 ≤ 2 ^ 5 := Nat.pow_le_pow_right (by decide) hfew.2.2.1
      show slotB r.1 + _ < _
      omega
    · rename_i h14
      have hN6 : 6 ≤ slotN r.1 := by unfold slotN; omega
      have h2 : 2 ^ slotN r.1 = 2 ^ (slotN r.1 - 4) * 16 := by rw [show (16 : Nat) = 2 ^ 4 from rfl, ← Nat.pow_add]; congr 1; omega
      have hx := hK.slt r.2.2 (slotN r.1 - 4) (restOf v r.1) (by omega) (by
        rcases htold with h | h
        · exact .inl h
        · refine .inr ?_
          have h1 := slotL_range hv (by omega)
          rw [← h] at h1
          unfold restOf
          have e : ((2 : Int) ^ (slotN r.1 - 4)) = ((2 ^ (slotN r.1 - 4) : Nat) : Int) := by simp
          rw [e]
          omega)
      have hy := krev_lt hK r.2.1 (K.ns r.2.2 (slotN r.1 - 4) (restOf v r.1)).2 803 4 (v := ((v % 16 : Nat) : Int)) (.inr (Int.natCast_nonneg _))
      show slotB r.1 + 16 * _ + _ < _
      omega
def box (w : World) (p : PkV) : World := w.alloc (.cells #[.int .i64 p.kind, .int .u8 p.byte, .int .i64 p.len, .int .u32 p.dist] 29)
set_option maxRecDepth 100000 in
set_option maxHeartbeats 16000000 in
theorem kpacket_any {C : Type} {K : Cdr C} {U : Nat → Prop} (hG : K.Good) (g gp np cap : Nat) (s : LS) (c : C) (p : PkV) (w : World) (h : KIs K U g gp np cap w s c) (hlen : s.H.length ≤ 59000) (hp : PkOk K p (kkind K s c (s.H.length % 2 ^ s.pb) p.kind).1.1) (hfit : K.fit c 60) :
    Calls Try.prog 51 #[.pointer (some ⟨g, 0, none⟩), p.val] w (KPost K U g gp np cap (.int .i64 (kpacket K s c p).2.2) (kpacket K s c p).1 (kpacket K s c p).2.1 w) := by
  obtain ⟨kind, byte, len, dist⟩ := p
  obtain ⟨sp, hsp⟩ : ∃ x, x = s.H.length % 2 ^ s.pb := ⟨_, rfl⟩
  obtain ⟨T, hT⟩ : ∃ T, T = kkind K s c sp kind := ⟨_, rfl⟩
  rw [← hsp, ← hT] at hp
  obtain ⟨s1, hs1⟩ : ∃ x : LS, x = { s with P := T.2.1, bad := s.bad || T.1.2 } := ⟨_, rfl⟩
  obtain ⟨kk, hkk⟩ : ∃ x, x = T.1.1 := ⟨_, rfl⟩
  obtain ⟨R, hR⟩ : ∃ R, R = kpacket K s c ⟨kind, byte, len, dist⟩ := ⟨_, rfl⟩
  have hR2 : R = kpacket2 K s1 T.2.2 sp ⟨kind, byte, len, dist⟩ kk := by rw [hR, hkk, hs1, hT, hsp]; rfl
  rw [← hR]
  rw [← hkk] at hp
  have hkk6 : kk ≤ 6 := by rw [hkk, hT]; exact kkind_le ..
  obtain ⟨U', hU'⟩ : ∃ U' : Nat → Prop, U' = fun k => U k ∨ (w.heap.size ≤ k ∧ k < (box w ⟨kind, byte, len, dist⟩).heap.size) := ⟨_, rfl⟩
  have hf0 : Fr Non w (box w ⟨kind, byte, len, dist⟩) := (Fr.refl Non w).alloc _
  have h0 : KIs K U' g gp np cap (box w ⟨kind, byte, len, dist⟩) s c := by rw [hU']; exact h.hold hG.ok hf0
  have hbx : (box w ⟨kind, byte, len, dist⟩).heap[w.heap.size]? = some (.cells #[.int .i64 kind, .int .u8 byte, .int .i64 len, .int .u32 dist] 29) := blk_new w _
  have hUb : U' w.heap.size := by rw [hU']; exact .inr ⟨Nat.le_refl _, by unfold box; simp⟩
  have hKF : ∀ k, k < w.heap.size → KF K U' k → KF K U k := by
    intro k _ e
    rw [hU'] at e
    exact ⟨e.1, fun q => e.2 (.inl q)⟩
  have hdrop : ∀ (w' : World) (s' : LS) (c' : C), KIs K U' g gp np cap w' s' c' → KIs K U g gp np cap w' s' c' := by
    intro w' s' c' q
    refine q.drop (fun k hk => ?_)
    rw [hU']; exact .inl hk
  have HEND := hid (fun (w' : World) (x : Value) (e : Ending) (he : e = .returned (.int .i64 R.2.2)) (hf : Fr (KF K U') (box w ⟨kind, byte, len, dist⟩) w') (hk : KIs K U' g gp np cap w' R.1 R.2.1) => (show KPost K U g gp np cap (.int .i64 R.2.2) R.1 R.2.1 w e w' from
    ⟨he, (hf0.mono (fun _ _ e => e.elim)).then (hf.mono (fun k _ e => e)) hKF, hdrop _ _ _ hk⟩))
  obtain ⟨w0, hw0⟩ : ∃ w0, w0 = box w ⟨kind, byte, len, dist⟩ := ⟨_, rfl⟩
  rw [← hw0] at h0 hbx
  rw [← hw0] at HEND
  have hbk : ¬ KF K U' w.heap.size := fun e => e.2 hUb
  have hbx2 := hid hbk
  have hw0' : w.alloc (.cells #[.int .i64 kind, .int .u8 byte, .int .i64 len, .int .u32 dist] 29) = w0 := hw0.symm
  obtain ⟨bx, hbxe⟩ : ∃ bx, bx = w.heap.size := ⟨_, rfl⟩
  rw [← hbxe] at hbx hbx2
  have HBX := hid hbxe
  have HB := hid hbx
  have H0 := hid h0
  obtain ⟨A, ov, hv⟩ := h0
  have hok := hv.ok
  have c2 := hv.cellC 2 (x := .int .i64 s.pb) rfl
  obtain ⟨ao, cp, hov, hcp, hnil, hrow, _⟩ := hv.own.rowO
  have c7 := hv.cellC 7 (x := .slice ao s.H.length cp) (by rw [hov]; rfl)
  obtain ⟨n, hn⟩ : ∃ n, n = s.H.length := ⟨_, rfl⟩
  obtain ⟨pb, hpb⟩ : ∃ n, n = s.pb := ⟨_, rfl⟩
  rw [← hn] at c7
  rw [← hpb] at c2
  have hpb4 : pb ≤ 4 := by rw [hpb]; exact hok.pb
  obtain ⟨X, hX⟩ : ∃ X : Int, X = ((2 ^ pb : Nat) : Int) := ⟨_, rfl⟩
  have hX1 : 1 ≤ X := by have : 0 < 2 ^ pb := Nat.pow_pos (by decide); omega
  have CX := hid (fun W : World => mirrork (show Calls Try.prog 76 #[.int .i64 pb] W fun e w' => e = .returned (.int .i64 X) ∧ W = w' by rw [hX]; exact kpower_any pb (by omega) W))
  have hux : (n : Int).tmod X = (sp : Int) := by rw [Int.tmod_eq_emod_of_nonneg (Int.natCast_nonneg _), hX, hsp, hn, hpb]; rfl
  have hsp16 : sp < 16 := by
    rw [hsp, ← hpb]
    have h1 : 2 ^ pb ≤ 2 ^ 4 := Nat.pow_le_pow_right (by decide) hpb4
    exact Nat.lt_of_lt_of_le (Nat.mod_lt _ (Nat.pow_pos (by decide))) h1
  have HP := hid hp
  have HR2 := hid hR2
  have HEQ := hid (And.intro hT (And.intro hs1 hkk))
  have HFIT := hid hfit
  have HLEN := hid hlen
  have HN := hid hn
  have HHE : s1.H = s.H := by rw [hs1]
  have HH := hid HHE
  clear h hsp hT hs1 hkk hR hR2 hp hU' hf0 hUb hKF hdrop hbk hw0 hbxe hbx hv hok hov hcp hnil hrow hn hpb hX hfit hlen HHE
  show Calls Try.prog 51 #[.pointer (some ⟨g, 0, none⟩), .agg #[.int .i64 kind, .int .u8 byte, .int .i64 len, .int .u32 dist]] w _
  go_enter Try.func51, Try.ntmps51
  go_upto_region 1 with fail
  rw [← HBX.out]
  clear hw0'
  go_cut [5] (fun t wx => t = .int .i64 sp ∧ Fr Non w0 wx)
  case first =>
    as_aux_lemma =>
      go_quiet ((go_at_call 76; exact Calls.quiet_of_same (CX.out _)))
      go_wp2_with fail
      go_meet
      exact ⟨rfl, (Fr.refl _ _).drewN _⟩
  case rest =>
    as_aux_lemma =>
      obtain ⟨rfl, hf1⟩ := hcut
      obtain ⟨w1, hw1⟩ : ∃ w1, w1 = wc := ⟨_, rfl⟩
      rw [← hw1] at hf1 ⊢
      have F1 := hid hf1
      have H1 := hid (H0.out.any hG.ok hf1)
      have b0 := blk_cell (hf1.blk HB.out id) (j := 0) (v := .int .i64 kind) rfl
      clear hf1 hw1 c2 c7 hux hX1
      have HK := hid (kkind_any hG g gp np cap s c sp kind w1 H1.out hsp16 HP.out.k0 HP.out.k7 (hG.ok.fitM _ _ _ (by decide) HFIT.out))
      go_wp2_with fail
      refine HK.out.mono ?_
      rintro e w2 ⟨rfl, hf2, h2⟩
      have eT : kkind K s c sp kind = T := HEQ.out.1.symm
      rw [eT] at h2 ⊢
      rw [← HEQ.out.2.1] at h2
      rw [← HEQ.out.2.2]
      have F2 := hid ((F1.out.mono (fun _ _ e => e.elim)).trans hf2 : Fr (KF K U') w0 w2)
      have H2 := hid h2
      have hb2 := hf2.blk ((F1.out.mono (fun _ _ e => e.elim) : Fr (KF K U') w0 w1).blk HB.out hbx2.out) hbx2.out
      have b0 := blk_cell hb2 (j := 0) (v := .int .i64 kind) rfl
      have b1 := blk_cell hb2 (j := 1) (v := .int .u8 byte) rfl
      have b2 := blk_cell hb2 (j := 2) (v := .int .i64 len) rfl
      have b3 := blk_cell hb2 (j := 3) (v := .int .u32 dist) rfl
      have HB2 := hid hb2
      clear hf2 h2 hb2 eT
      obtain ⟨c1, hc1⟩ : ∃ x, x = T.2.2 := ⟨_, rfl⟩
      rw [← hc1] at H2 HR2
      have HC1 := hid hc1
      clear hc1
      have hkkw : (kk : Int) ≤ 6 := by omega
      go_upto_block 0 with fail
      go_cut [7] (fun t wx => ∃ m : LS × C × Nat, t = .int .i64 m.2.2 ∧ R = kend K m ∧ Fr (KF K U') w0 wx ∧ KIs K U' g gp np cap wx m.1 m.2.1 ∧ m.2.2 ≤ 400 ∧ m.1.H = s.H)
      case first =>
        as_aux_lemma =>
          by_cases hk0 : kk = 0
          · obtain ⟨r, hr⟩ : ∃ r, r = klit K s1 c1 byte := ⟨_, rfl⟩
            obtain ⟨bt, hbt⟩ : ∃ x, x = r.1 % 256 := ⟨_, rfl⟩
            have hbt9 : bt < 256 := by omega
            have HRl := hid (show R = klitP K s1 r by
              rw [HR2.out, hr]
              unfold kpacket2
              rw [if_pos hk0])
            subst hk0
            have hlen1 : s1.H.length ≤ 59000 := by rw [HH.out]; exact HLEN.out
            have HLEN1 := hid hlen1
            have HF1 := hid (show K.fit c1 50 by
              have h1 := HEQ.out.1
              have key : ∀ (P : Nat → Int) (c : C) (k : Nat) (b : Int) (n : Nat), K.fit c (n + 1) → K.fit (kbit K P c k b).2.2 n := fun P c k b n h => hG.ok.fitB _ _ _ _ h
              rw [HC1.out, h1]
              exact kkind_fit hG.ok s c sp kind 50 (hG.ok.fitM _ _ _ (by decide) HFIT.out))
            have HA := hid (show Calls Try.prog 78 #[.pointer (some ⟨g, 0, none⟩), .int .u8 byte] w2 (KPost K U' g gp np cap (.int .u8 bt) { s1 with P := r.2.1, st := stL s1.st } r.2.2 w2) by
              rw [hbt, hr]
              exact klit_any hG g gp np cap s1 c1 byte w2 H2.out (by omega) HP.out.b0 HP.out.b1 (hG.ok.fitM _ _ _ (by decide) HF1.out))
            have HBT := hid hbt
            clear hr hbt hlen1
            go_wp2_with fail
            refine HA.out.mono ?_
            rintro e w3 ⟨rfl, hf3, h3⟩
            have F3 := hid (F2.out.trans hf3)
            obtain ⟨A3, v3, hv3⟩ := h3
            have c4 := hv3.cellC 4 (x := K.dv) rfl
            have c7 := hv3.cellC 7 (x := v3) rfl
            have z7 := blk_frozen hv3.at_ 7
            have c14 := hv3.cellC 14 (x := .bool s1.bad) rfl
            have z14 := blk_frozen hv3.at_ 14
            have hup3 := hv3.up hG.ok
            have HV3 := hid hv3
            have HUP3 := hid hup3
            have hown := hv3.own
            have HOWN := hid hown
            have hgood : K.bad r.2.2 = false → _ := fun hb => by
              exact (show R = ({ s1 with P := r.2.1, st := stL s1.st, H := s1.H ++ [((r.1 % 256 : Nat) : Int)] }, r.2.2, 1) by rw [HRl.out]; unfold klitP; rw [if_neg (by rw [hb]; decide)])
            have hbad : K.bad r.2.2 = true → _ := fun hb => by
              exact (show R = ({ s1 with P := r.2.1, st := stL s1.st, bad := true }, r.2.2, 0) by rw [HRl.out]; unfold klitP; rw [if_pos hb])
            have HGO := hid hgood
            have HBA := hid hbad
            have hway : (K.dv = .pointer none ∧ K.bad r.2.2 = false) ∨ ∃ gd, K.dv = .pointer (some ⟨gd, 0, none⟩) ∧ w3.cell? ⟨gd, 4, none⟩ = some (.bool (K.bad r.2.2)) := by
              cases hgd : K.gd with
              | none => exact .inl ⟨kdv_none hgd, hG.ok.nod hgd _⟩
              | some gd => exact .inr ⟨gd, kdv_some hgd, hG.ok.cell _ _ _ _ hgd hv3.co⟩
            clear hf3 hv3 hup3 hown hgood hbad
            have hcut2 : ∀ bb : Bool, K.bad r.2.2 = bb → True := fun _ _ => trivial
            clear hcut2
            rcases hway with ⟨hdv, hb⟩ | ⟨gd, hdv, hd4⟩
            · rw [hdv] at c4
              have HRE := hid (HGO.out hb)
              clear hdv hb
              go_wp2_with (at_builtin; refine opGrow1 (some 103) rfl rfl (.tmp 100) (.tmp 102) 30 rfl .u8 5 1 Try.underlying30 Try.info_u8q v3 s1.H rfl (by exact HOWN.out.alloc _) _ 1 (bt : Int) rfl (by exact cell_new1 _ _ _) (by decide) (by have := HLEN1.out; omega) ?_; intro v4 w4 hown4 hg4 hv4; obtain ⟨a4, cp4, he4, _⟩ := hown4.rowO; obtain ⟨n4, hn4⟩ : ∃ x, x = (s1.H ++ [(bt : Int)]).length := ⟨_, rfl⟩; rw [← hn4] at he4; subst he4; clear hn4; have HG4 := hid (And.intro hown4 (And.intro hg4 hv4)); have hfo : Fr (fun k => v3.ownBlock = some k) w3 w4 := (((Fr.refl Non w3).alloc _).mono (fun _ _ e => e.elim)).grown hg4 (fun k hk _ => hk); have k7 := hfo.cell c7 (fun e => (HV3.out.sep g e).1 rfl); have q7 := hfo.frozen (p := ⟨g, 7, none⟩) (by exact HUP3.out.2.1) (by exact z7) (fun e => (HV3.out.sep g e).1 rfl); clear hown4 hg4 hv4 hfo c4 c7 z7 c14 z14)
              go_wp2_with fail
              go_ret
              obtain ⟨hk9, hf9⟩ := HV3.out.grow hG.ok ((Fr.refl Non w3).alloc _) HG4.out.1 HG4.out.2.1 HG4.out.2.2 (Int.natCast_nonneg _) (by omega)
              refine HEND.out _ (.int .i64 1) _ (by rw [HRE.out]; rfl) (F3.out.trans hf9) ?_
              rw [HRE.out, ← HBT.out]
              exact ⟨_, _, hk9⟩
            · rw [hdv] at c4
              cases hb : K.bad r.2.2 with
              | false =>
                rw [hb] at hd4
                have HRE := hid (HGO.out hb)
                clear hdv hb
                go_wp2_with (at_builtin; refine opGrow1 (some 103) rfl rfl (.tmp 100) (.tmp 102) 30 rfl .u8 5 1 Try.underlying30 Try.info_u8q v3 s1.H rfl (by exact HOWN.out.alloc _) _ 1 (bt : Int) rfl (by exact cell_new1 _ _ _) (by decide) (by have := HLEN1.out; omega) ?_; intro v4 w4 hown4 hg4 hv4; obtain ⟨a4, cp4, he4, _⟩ := hown4.rowO; obtain ⟨n4, hn4⟩ : ∃ x, x = (s1.H ++ [(bt : Int)]).length := ⟨_, rfl⟩; rw [← hn4] at he4; subst he4; clear hn4; have HG4 := hid (And.intro hown4 (And.intro hg4 hv4)); have hfo : Fr (fun k => v3.ownBlock = some k) w3 w4 := (((Fr.refl Non w3).alloc _).mono (fun _ _ e => e.elim)).grown hg4 (fun k hk _ => hk); have k7 := hfo.cell c7 (fun e => (HV3.out.sep g e).1 rfl); have q7 := hfo.frozen (p := ⟨g, 7, none⟩) (by exact HUP3.out.2.1) (by exact z7) (fun e => (HV3.out.sep g e).1 rfl); clear hown4 hg4 hv4 hfo c4 c7 z7 c14 z14)
                go_wp2_with fail
                go_ret
                obtain ⟨hk9, hf9⟩ := HV3.out.grow hG.ok ((Fr.refl Non w3).alloc _) HG4.out.1 HG4.out.2.1 HG4.out.2.2 (Int.natCast_nonneg _) (by omega)
                refine HEND.out _ (.int .i64 1) _ (by rw [HRE.out]; rfl) (F3.out.trans hf9) ?_
                rw [HRE.out, ← HBT.out]
                exact ⟨_, _, hk9⟩
              | true =>
                rw [hb] at hd4
                have HRE := hid (HBA.out hb)
                clear hdv hb
                go_wp2_with fail
                go_ret
                refine HEND.out _ (.int .i64 0) _ (by rw [HRE.out]; rfl) (F3.out.then ((Fr.refl _ _).setOne (g := g) _ _) (fun k _ e => by rw [e]; exact HUP3.out.1)) ?_
                have hok := HV3.out.ok
                rw [HRE.out]
                exact ⟨A3, v3, HV3.out.setC hG.ok (i := 14) (x := .bool true) (s' := { s1 with P := r.2.1, st := stL s1.st, bad := true }) rfl rfl rfl ⟨hok.pr, hok.st, hok.rep, hok.lc, hok.lp, hok.pb, hok.room, hok.few, hok.dict, hok.by_⟩⟩
          · by_cases hk1 : kk = 1
            · obtain ⟨wl, hwl⟩ : ∃ x : Int, x = if kind = 7 then 0 else len - 2 := ⟨_, rfl⟩
              obtain ⟨wd, hwd⟩ : ∃ x : Nat, x = if kind = 7 then 4294967295 else dist := ⟨_, rfl⟩
              obtain ⟨L, hL⟩ : ∃ L, L = klen K s1.P c1 819 sp wl := ⟨_, rfl⟩
              obtain ⟨D, hD⟩ : ∃ D, D = kdist K L.2.1 L.2.2 L.1 wd := ⟨_, rfl⟩
              have hHE1 := HEQ.out.1
              have HF1 := hid (show K.fit c1 50 by
                rw [HC1.out, hHE1]
                exact kkind_fit hG.ok s c sp kind 50 (hG.ok.fitM _ _ _ (by decide) HFIT.out))
              have hwlr : (K.free ∨ 0 ≤ wl) ∧ -65536 ≤ wl ∧ wl ≤ 65536 := by
                rw [hwl]
                by_cases h7 : kind = 7
                · rw [if_pos h7]; exact ⟨.inr (Int.le_refl _), by omega, by omega⟩
                · rw [if_neg h7]
                  obtain ⟨q1, q2, q3⟩ := HP.out.far hk1 h7
                  refine ⟨?_, ?_, ?_⟩
                  · rcases q1 with q | q
                    · exact .inl q
                    · exact .inr (by have : (2 : Int) ≤ len := q; omega)
                  · have : (-60000 : Int) ≤ len := q2; omega
                  · have : len ≤ (60000 : Int) := q3; omega
              have hwdl : wd < 4294967296 := by
                rw [hwd]
                split
                · omega
                · exact HP.out.d1
              have hnp : 2615 ≤ np := by
                obtain ⟨A9, ov9, hv9⟩ := H2.out
                have h1 := hv9.ok.room
                have : 0 < 2 ^ (s1.lc + s1.lp) := Nat.pow_pos (by decide)
                omega
              have hLlt : L.1 < 300 := by rw [hL]; exact klen_lt hG.ok _ _ _ _ hwlr.1
              have hDlt : D.1 < 4294967296 := by rw [hD]; exact kdist_lt hG.ok _ _ _ _ hwdl
              have HLf := hid (show K.fit L.2.2 40 by rw [hL]; exact klen_fit hG.ok _ _ _ _ 40 _ HF1.out)
              have HRm := hid (show R = kend K (({ s1 with P := D.2.1, st := afterL s1.st 7 10, rep := updN (shiftL s1.rep 3) 0 D.1, ended := decide (D.1 = 4294967295) && !K.bad D.2.2 } : LS), D.2.2, L.1 + 2) by
                rw [HR2.out, hD, hwd, hL, hwl]
                unfold kpacket2
                rw [if_neg hk0]
                unfold kmid
                rw [if_pos hk1]
                rfl)
              have HL := hid (fun (W : World) (s' : LS) (hs' : s'.P = s1.P) (hW : KIs K U' g gp np cap W s' c1) => (show Calls Try.prog 79 #[.pointer (some ⟨g, 0, none⟩), .int .i64 819, .int .i64 sp, .int .i64 wl] W (KPost K U' g gp np cap (.int .i64 L.1) { s' with P := L.2.1 } L.2.2 W) by
                rw [hL, ← hs', show (819 : Int) = ((819 : Nat) : Int) from rfl]
                have h9 : 819 + 514 ≤ np := by omega
                have h8 : 819 ≤ 1333 := by omega
                exact klen_any hG g gp np cap s' c1 819 sp wl W hW h9 h8 hsp16 hwlr.1 hwlr.2.1 hwlr.2.2 (hG.ok.fitM _ _ _ (by decide) HF1.out)))
              have HD := hid (fun (W : World) (s' : LS) (hs' : s'.P = L.2.1) (hW : KIs K U' g gp np cap W s' L.2.2) => (show Calls Try.prog 81 #[.pointer (some ⟨g, 0, none⟩), .int .i64 L.1, .int .u32 wd] W (KPost K U' g gp np cap (.int .u32 D.1) { s' with P := D.2.1 } D.2.2 W) by
                rw [hD, ← hs']
                exact kdist_any hG g gp np cap s' L.2.2 L.1 wd W hW (by omega) hwdl HLf.out))
              have HWW := hid (And.intro hwl hwd)
              have HLL := hid hLlt
              have HDL := hid hDlt
              subst hk1
              obtain ⟨A2, v2, hv2⟩ := H2.out
              obtain ⟨r0, hr0⟩ : ∃ x, x = s1.rep 0 := ⟨_, rfl⟩
              obtain ⟨r1, hr1⟩ : ∃ x, x = s1.rep 1 := ⟨_, rfl⟩
              obtain ⟨r2, hr2⟩ : ∃ x, x = s1.rep 2 := ⟨_, rfl⟩
              have c9 := hv2.cellC 9 (x := .int .u32 r0) (by rw [hr0]; rfl)
              have c10 := hv2.cellC 10 (x := .int .u32 r1) (by rw [hr1]; rfl)
              have c11 := hv2.cellC 11 (x := .int .u32 r2) (by rw [hr2]; rfl)
              have c12 := hv2.cellC 12 (x := .int .u32 (s1.rep 3)) rfl
              have z9 := blk_frozen hv2.at_ 9
              have z10 := blk_frozen hv2.at_ 10
              have z11 := blk_frozen hv2.at_ 11
              have z12 := blk_frozen hv2.at_ 12
              have hup2 := hv2.up hG.ok
              have hrp := hv2.ok.rep
              have k1 := hv2.rep1 hG.ok (i := 0) (by decide) (x := 0) (by decide)
              have k2 := k1.rep1 hG.ok (i := 1) (by decide) (x := r0) (by rw [hr0]; exact hrp 0 (by decide))
              have k3 := k2.rep1 hG.ok (i := 2) (by decide) (x := r1) (by rw [hr1]; exact hrp 1 (by decide))
              have k4 := k3.rep1 hG.ok (i := 3) (by decide) (x := r2) (by rw [hr2]; exact hrp 2 (by decide))
              have y10' : (w2.setCell ⟨g, 9, none⟩ (.int .u32 0)).frozen? ⟨g, 10, none⟩ = false := blk_frozen k1.at_ 10
              have y11' : ((w2.setCell ⟨g, 9, none⟩ (.int .u32 0)).setCell ⟨g, 10, none⟩ (.int .u32 r0)).frozen? ⟨g, 11, none⟩ = false := blk_frozen k2.at_ 11
              have y12' : (((w2.setCell ⟨g, 9, none⟩ (.int .u32 0)).setCell ⟨g, 10, none⟩ (.int .u32 r0)).setCell ⟨g, 11, none⟩ (.int .u32 r1)).frozen? ⟨g, 12, none⟩ = false := blk_frozen k3.at_ 12
              obtain ⟨s3, hs3⟩ : ∃ x : LS, x = { s1 with rep := updN (updN (updN (updN s1.rep 0 0) 1 r0) 2 r1) 3 r2 } := ⟨_, rfl⟩
              obtain ⟨w4, hw4⟩ : ∃ w4, w4 = ((((w2.setCell ⟨g, 9, none⟩ (.int .u32 0)).setCell ⟨g, 10, none⟩ (.int .u32 r0)).setCell ⟨g, 11, none⟩ (.int .u32 r1)).setCell ⟨g, 12, none⟩ (.int .u32 r2)).drew := ⟨_, rfl⟩
              have H4 := hid (show KIs K U' g gp np cap w4 s3 c1 by rw [hw4, hs3]; exact ⟨A2, v2, KV.quiet hG.ok k4 ((Fr.refl Non _).drew) (by simp)⟩)
              have F4 := hid (show Fr (KF K U') w0 w4 by
                rw [hw4]
                refine F2.out.then ?_ (fun k _ e => e)
                refine Fr.mono (S := fun k => k = g) ?_ (fun k _ e => by rw [e]; exact hup2.1)
                exact (((((Fr.refl (fun k => k = g) w2).setOne _ _).setOne _ _).setOne _ _).setOne _ _).drew)
              have b0' : w2.drew.cell? ⟨bx, 0, none⟩ = some (.int .i64 kind) := by exact b0
              have hbx4 := hid ((F4.out).blk HB.out hbx2.out)
              have HS3 := hid hs3
              have HR3 := hid (And.intro hr0 (And.intro hr1 hr2))
              have HW4 := hid hw4
              clear hwl hwd hv2 k1 k2 k3 k4 hr0 hr1 hr2 hL hD hwlr hwdl hnp hLlt hDlt hHE1 hrp hup2 hs3 hw4 hk0
              go_upto_region 21 with fail
              go_cut [] (fun wx => wx = w4)
              case first =>
                as_aux_lemma =>
                  go_still_tail 17, (by kernel_rfl)
                  clear b0 b1 b2 b3 b0'
                  go_wp2_with fail
                  go_meet
                  exact HW4.out.symm
              case rest =>
                as_aux_lemma =>
                  have hwc : w4 = wc := hcut.symm
                  clear hcut
                  subst hwc
                  clear c9 c10 c11 c12 z9 z10 z11 z12 b0 b1 b2 b3 b0' y10' y11' y12'
                  have b0 := blk_cell hbx4.out (j := 0) (v := .int .i64 kind) rfl
                  have b2 := blk_cell hbx4.out (j := 2) (v := .int .i64 len) rfl
                  have b3 := blk_cell hbx4.out (j := 3) (v := .int .u32 dist) rfl
                  obtain ⟨l0, hl0⟩ : ∃ x : Int, x = IntKind.i64.wrap (len - 2) := ⟨_, rfl⟩
                  have hl0w : IntKind.i64.wrap (len - 2) = l0 := hl0.symm
                  have HL0 := hid hl0
                  clear hl0
                  go_upto_if 134 with fail
                  go_cut [9, 10] (fun a b wx => a = .int .u32 wd ∧ b = .int .i64 wl ∧ w4 = wx)
                  case first =>
                    as_aux_lemma =>
                      by_cases h7 : kind = 7
                      · subst h7
                        go_wp2_with fail
                        go_meet
                        refine ⟨?_, ?_, rfl⟩
                        · rw [HWW.out.2, if_pos trivial]; rfl
                        · rw [HWW.out.1, if_pos trivial]
                      · have hkb : (kind == 7) = false := by simpa using h7
                        have hl2 : l0 = len - 2 := by
                          obtain ⟨_, q2, q3⟩ := HP.out.far rfl h7
                          have q2' : (-60000 : Int) ≤ len := q2
                          have q3' : len ≤ (60000 : Int) := q3
                          rw [HL0.out, IntKind.wrap_i64]
                          omega
                        have HL2 := hid hl2
                        have H7 := hid h7
                        clear h7 hl2
                        go_wp2_with fail
                        go_meet
                        refine ⟨?_, ?_, rfl⟩
                        · rw [HWW.out.2, if_neg H7.out]
                        · rw [HWW.out.1, if_neg H7.out, HL2.out]
                  case rest =>
                    as_aux_lemma =>
                      obtain ⟨rfl, rfl, hwc⟩ := hcut
                      subst hwc
                      clear b0 b2 b3 hl0w
                      go_wp2_with fail
                      refine (HL.out _ s3 (by rw [HS3.out]) H4.out).mono ?_
                      rintro e w5 ⟨rfl, hf5, h5⟩
                      have F5 := hid (F4.out.trans hf5)
                      have HA5 := hid (kafter_any (U := U') hG.ok g gp np cap { s3 with P := L.2.1 } L.2.2 7 10 w5 h5 (by decide) (by decide))
                      clear hf5 h5
                      go_wp2_with fail
                      refine HA5.out.mono ?_
                      rintro e w6 ⟨rfl, hf6, h6⟩
                      have F6 := hid (F5.out.trans hf6)
                      have H6 := hid h6
                      clear hf6 h6
                      go_upto_region 29 with fail
                      go_cut [] (fun wx => Fr (KF K U') w0 wx ∧ KIs K U' g gp np cap wx { s1 with P := D.2.1, st := afterL s1.st 7 10, rep := updN (shiftL s1.rep 3) 0 D.1 } D.2.2)
                      case first =>
                        as_aux_lemma =>
                          obtain ⟨A6, v6, hv6⟩ := H6.out
                          have c9 := hv6.cellC 9 (x := .int .u32 (s3.rep 0)) rfl
                          have z9 := blk_frozen hv6.at_ 9
                          clear hv6
                          go_region_held3 (fun _ => True) (trivial) (first
                            | (go_at_call 81; refine (HD.out _ { s3 with P := L.2.1, st := afterL s3.st 7 10 } rfl (H6.out.any hG.ok (by repeat (first | exact Fr.refl _ _ | refine Fr.drewN ?_ _ | refine Fr.drew ?_)))).mono ?_; rintro e w7 ⟨rfl, hf7, h7⟩; obtain ⟨A7, v7, hv7⟩ := h7; have q9 := hv7.cellC 9 (x := .int .u32 (s3.rep 0)) rfl; have y9 := blk_frozen hv7.at_ 9))
                          all_goals
                            have HF7 := hid hf7
                            have HV7 := hid hv7
                            clear hf7 hv7 c9 z9
                            go_wp2_with fail
                            go_meet
                            have hup7 := HV7.out.up hG.ok
                            refine ⟨?_, A7, v7, ?_⟩
                            · refine F6.out.trans (Fr.then (T := fun k => k = g) (Fr.trans (by repeat (first | exact Fr.refl _ _ | refine Fr.drewN ?_ _ | refine Fr.drew ?_)) HF7.out) ((Fr.refl _ _).setOne _ _) (fun k _ e => by rw [e]; exact hup7.1))
                            · have h9 := HV7.out.rep1 hG.ok (i := 0) (by decide) (x := D.1) HDL.out
                              have er : updN s3.rep 0 D.1 = updN (shiftL s1.rep 3) 0 D.1 := by
                                rw [HS3.out, HR3.out.1, HR3.out.2.1, HR3.out.2.2]
                                exact rep_shift3 s1.rep D.1
                              have es : ({ s3 with P := D.2.1, st := afterL s3.st 7 10, rep := updN s3.rep 0 D.1 } : LS) = { s1 with P := D.2.1, st := afterL s1.st 7 10, rep := updN (shiftL s1.rep 3) 0 D.1 } := by
                                rw [er, HS3.out]
                              rw [← es]
                              exact h9
                      case rest =>
                        as_aux_lemma =>
                          obtain ⟨hf7, h7⟩ := hcut
                          have F7 := hid hf7
                          obtain ⟨w7, hw7⟩ : ∃ x, x = wc := ⟨_, rfl⟩
                          rw [← hw7] at F7 h7 ⊢
                          obtain ⟨A7, v7, hv7⟩ := h7
                          obtain ⟨d1, hd1⟩ : ∃ x, x = D.1 := ⟨_, rfl⟩
                          have c9 := hv7.cellC 9 (x := .int .u32 d1) (by rw [hd1]; rfl)
                          have c4 := hv7.cellC 4 (x := K.dv) rfl
                          have c13 := hv7.cellC 13 (x := .bool s1.ended) rfl
                          have z13 := blk_frozen hv7.at_ 13
                          have hup7 := hv7.up hG.ok
                          have hway : (K.dv = .pointer none ∧ K.bad D.2.2 = false) ∨ ∃ gd, K.dv = .pointer (some ⟨gd, 0, none⟩) ∧ w7.cell? ⟨gd, 4, none⟩ = some (.bool (K.bad D.2.2)) := by
                            cases hgd : K.gd with
                            | none => exact .inl ⟨kdv_none hgd, hG.ok.nod hgd _⟩
                            | some gd => exact .inr ⟨gd, kdv_some hgd, hG.ok.cell _ _ _ _ hgd hv7.co⟩
                          have hl9 : (L.1 : Int) + 2 ≤ 400 := by have := HLL.out; omega
                          have hfin : ∀ (bb : Bool), (decide (D.1 = 4294967295) && !K.bad D.2.2) = bb → ∃ m : LS × C × Nat, (Value.int .i64 ((L.1 : Int) + 2) = Value.int .i64 m.2.2) ∧ R = kend K m ∧ Fr (KF K U') w0 (w7.setCell ⟨g, 13, none⟩ (.bool bb)) ∧ KIs K U' g gp np cap (w7.setCell ⟨g, 13, none⟩ (.bool bb)) m.1 m.2.1 ∧ m.2.2 ≤ 400 ∧ m.1.H = s.H := by
                            intro bb hbb
                            have hok := hv7.ok
                            have h9 := hv7.setC hG.ok (i := 13) (x := .bool bb) (s' := { s1 with P := D.2.1, st := afterL s1.st 7 10, rep := updN (shiftL s1.rep 3) 0 D.1, ended := bb }) rfl rfl rfl ⟨hok.pr, hok.st, hok.rep, hok.lc, hok.lp, hok.pb, hok.room, hok.few, hok.dict, hok.by_⟩
                            have hRm := HRm.out
                            rw [hbb] at hRm
                            exact ⟨_, by congr 1, hRm, F7.out.then ((Fr.refl (fun k => k = g) _).setOne _ _) (fun k _ e => by rw [e]; exact hup7.1), ⟨A7, v7, h9⟩, by show L.1 + 2 ≤ 400; omega, HH.out⟩
                          have HFIN := hid hfin
                          have HD1 := hid hd1
                          clear hf7 hw7 hv7 hup7 hfin hd1
                          by_cases hdm : d1 = 4294967295
                          · have hdb : ((d1 : Int) == 4294967295) = true := by rw [hdm]; rfl
                            have HDM := hid (show decide (D.1 = 4294967295) = true from decide_eq_true (by rw [← HD1.out]; exact hdm))
                            clear hdm
                            rcases hway with ⟨hdv, hb⟩ | ⟨gd, hdv, hd4⟩
                            · rw [hdv] at c4
                              have HB9 := hid hb
                              clear hdv hb
                              go_wp2_with fail
                              go_meet
                              exact HFIN.out true (by rw [HDM.out, HB9.out]; rfl)
                            · rw [hdv] at c4
                              cases hb : K.bad D.2.2 with
                              | false =>
                                rw [hb] at hd4
                                have HB9 := hid hb
                                clear hdv hb
                                go_wp2_with fail
                                go_meet
                                exact HFIN.out true (by rw [HDM.out, HB9.out]; rfl)
                              | true =>
                                rw [hb] at hd4
                                have HB9 := hid hb
                                clear hdv hb
                                go_wp2_with fail
                                go_meet
                                exact HFIN.out false (by rw [HDM.out, HB9.out]; rfl)
                          · have hdb : ((d1 : Int) == 4294967295) = false := by simp; omega
                            have HDM := hid (show decide (D.1 = 4294967295) = false from decide_eq_false (by rw [← HD1.out]; exact hdm))
                            clear hdm hway
                            go_wp2_with fail
                            go_meet
                            exact HFIN.out false (by rw [HDM.out]; rfl)
            · by_cases hk6 : kk = 6
              · have HRm := hid (show R = kend K (({ s1 with st := afterL s1.st 9 11 } : LS), c1, 1) by
                  rw [HR2.out]
                  unfold kpacket2
                  rw [if_neg hk0]
                  unfold kmid
                  rw [if_neg hk1, if_pos hk6])
                subst hk6
                have HA := hid (kafter_any (U := U') hG.ok g gp np cap s1 c1 9 11 w2 H2.out (by decide) (by decide))
                clear hk0 hk1
                go_wp2_with fail
                refine HA.out.mono ?_
                rintro e w3 ⟨rfl, hf3, h3⟩
                have F3 := hid (F2.out.trans hf3)
                have H3 := hid h3
                clear hf3 h3
                go_wp2_with fail
                go_meet
                exact ⟨_, rfl, HRm.out, F3.out, H3.out, by show 1 ≤ 400; decide, HH.out⟩
              · obtain ⟨j, hj⟩ : ∃ j, j = kk - 2 := ⟨_, rfl⟩
                have hj4 : j < 4 := by omega
                obtain ⟨L, hL⟩ : ∃ L, L = klen K s1.P c1 1333 sp (len - 2) := ⟨_, rfl⟩
                have hHE1 := HEQ.out.1
                have HF1 := hid (show K.fit c1 50 by
                  rw [HC1.out, hHE1]
                  exact kkind_fit hG.ok s c sp kind 50 (hG.ok.fitM _ _ _ (by decide) HFIT.out))
                have hag := HP.out.again (by omega) (by omega)
                have hwlr : (K.free ∨ 0 ≤ len - 2) ∧ -65536 ≤ len - 2 ∧ len - 2 ≤ 65536 := by
                  obtain ⟨q1, q2, q3⟩ := hag
                  have q2' : (-60000 : Int) ≤ len := q2
                  have q3' : len ≤ (60000 : Int) := q3
                  refine ⟨?_, by omega, by omega⟩
                  rcases q1 with q | q
                  · exact .inl q
                  · exact .inr (by have : (2 : Int) ≤ len := q; omega)
                have hnp : 2615 ≤ np := by
                  obtain ⟨A9, ov9, hv9⟩ := H2.out
                  have h1 := hv9.ok.room
                  have : 0 < 2 ^ (s1.lc + s1.lp) := Nat.pow_pos (by decide)
                  omega
                have hLlt : L.1 < 300 := by rw [hL]; exact klen_lt hG.ok _ _ _ _ hwlr.1
                have HRm := hid (show R = kend K (({ s1 with P := L.2.1, st := afterL s1.st 8 11, rep := updN (shiftL s1.rep j) 0 (s1.rep j) } : LS), L.2.2, L.1 + 2) by
                  rw [HR2.out, hL, hj]
                  unfold kpacket2
                  rw [if_neg hk0]
                  unfold kmid
                  rw [if_neg hk1, if_neg hk6]
                  rfl)
                obtain ⟨l2, hl2⟩ : ∃ x : Int, x = len - 2 := ⟨_, rfl⟩
                have hl2w : IntKind.i64.wrap (len - 2) = l2 := by rw [hl2, IntKind.wrap_i64]; omega
                have HL := hid (fun (W : World) (s' : LS) (hs' : s'.P = s1.P) (hW : KIs K U' g gp np cap W s' c1) => (show Calls Try.prog 79 #[.pointer (some ⟨g, 0, none⟩), .int .i64 1333, .int .i64 sp, .int .i64 l2] W (KPost K U' g gp np cap (.int .i64 L.1) { s' with P := L.2.1 } L.2.2 W) by
                  rw [hL, ← hs', hl2, show (1333 : Int) = ((1333 : Nat) : Int) from rfl]
                  have h9 : 1333 + 514 ≤ np := by omega
                  have h8 : 1333 ≤ 1333 := by omega
                  exact klen_any hG g gp np cap s' c1 1333 sp (len - 2) W hW h9 h8 hsp16 hwlr.1 hwlr.2.1 hwlr.2.2 (hG.ok.fitM _ _ _ (by decide) HF1.out)))
                have HLL := hid hLlt
                obtain ⟨A2, v2, hv2⟩ := H2.out
                have cj := hv2.repC hj4
                have hrp := hv2.ok.rep
                obtain ⟨rj, hrj⟩ : ∃ x, x = s1.rep j := ⟨_, rfl⟩
                rw [← hrj] at cj
                have hrjl : rj < 4294967296 := by rw [hrj]; exact hrp j hj4
                have hkj : (kk : Int) - 2 = (j : Int) := by omega
                have hk0b : ((kk : Int) == 0) = false := by simp; omega
                have hk1b : ((kk : Int) == 1) = false := by simp; omega
                have hk6b : ((kk : Int) == 6) = false := by simp; omega
                obtain ⟨q, hq⟩ : ∃ q, q = 9 + j := ⟨_, rfl⟩
                have hqe : (9 : Int) + (j : Int) = (q : Int) := by omega
                have HRJ := hid hrj
                have HRJL := hid hrjl
                have HRP := hid hrp
                have HKK := hid (And.intro hk0 (And.intro hk1 hk6))
                have HB4 := hid HB2.out
                clear hv2 hrj hL hwlr hnp hLlt hHE1 hrjl hrp hl2 hag hk0 hk1 hk6 hj hq
                go_wp2_with fail
                go_loopw [12] (fun iv wr => ∃ i : Nat, i ≤ j ∧ iv = .int .i64 i ∧ Fr (KF K U') w0 wr ∧ KIs K U' g gp np cap wr { s1 with rep := rollR s1.rep j i } c1) (fun iv _ => (intOf iv).toNat)
                case atStart => exact ⟨j, Nat.le_refl _, rfl, F2.out, by rw [rollR_top]; exact H2.out⟩
                case round =>
                  obtain ⟨i, hi, rfl, hfr, hst⟩ := hrel
                  have HFR := hid hfr
                  have HST := hid hst
                  clear hfr hst cj b0 b1 b2 b3
                  obtain ⟨A5, v5, hv5⟩ := HST.out
                  have hup5 := hv5.up hG.ok
                  have HV5 := hid hv5
                  have HUP5 := hid hup5
                  by_cases hz : i = 0
                  · subst hz
                    have q9 := hv5.cellC 9 (x := .int .u32 (rollR s1.rep j 0 0)) rfl
                    have y9 := blk_frozen hv5.at_ 9
                    have h9 := hv5.rep1 hG.ok (i := 0) (by decide) (x := rj) HRJL.out
                    have hss : ({ s1 with rep := updN (rollR s1.rep j 0) 0 rj } : LS) = { s1 with rep := updN (shiftL s1.rep j) 0 (s1.rep j) } := by rw [rollR_end, HRJ.out]
                    have H6 := hid (show KIs K U' g gp np cap (wr.setCell ⟨g, 9, none⟩ (.int .u32 rj)) { s1 with rep := updN (shiftL s1.rep j) 0 (s1.rep j) } c1 from ⟨A5, v5, by rw [← hss]; exact h9⟩)
                    have F6 := hid (HFR.out.then ((Fr.refl (fun k => k = g) _).setOne _ _) (fun k _ e => by rw [e]; exact HUP5.out.1) : Fr (KF K U') w0 (wr.setCell ⟨g, 9, none⟩ (.int .u32 rj)))
                    clear hv5 hup5 h9 hss
                    go_upto_region 11 with fail
                    obtain ⟨w6, hw6⟩ : ∃ x, x = wr.setCell ⟨g, 9, none⟩ (.int .u32 rj) := ⟨_, rfl⟩
                    rw [← hw6] at H6 F6 ⊢
                    have b2 := blk_cell (F6.out.blk HB.out hbx2.out) (j := 2) (v := .int .i64 len) rfl
                    clear hw6 q9 y9
                    go_wp2_with fail
                    refine (HL.out _ { s1 with rep := updN (shiftL s1.rep j) 0 (s1.rep j) } rfl H6.out).mono ?_
                    rintro e w7 ⟨rfl, hf7, h7⟩
                    have F7 := hid (F6.out.trans hf7)
                    have HA7 := hid (kafter_any (U := U') hG.ok g gp np cap { s1 with rep := updN (shiftL s1.rep j) 0 (s1.rep j), P := L.2.1 } L.2.2 8 11 w7 h7 (by decide) (by decide))
                    have hl9 : (L.1 : Int) + 2 ≤ 400 := by have := HLL.out; omega
                    clear hf7 h7 b2
                    go_wp2_with fail
                    refine HA7.out.mono ?_
                    rintro e w8 ⟨rfl, hf8, h8⟩
                    have F8 := hid (F7.out.trans hf8)
                    have H8 := hid h8
                    clear hf8 h8
                    go_wp2_with fail
                    go_meet
                    exact ⟨_, by congr 1, HRm.out, F8.out, H8.out, by show L.1 + 2 ≤ 400; omega, HH.out⟩
                  · obtain ⟨i', hi'⟩ : ∃ i', i' = i - 1 := ⟨_, rfl⟩
                    have hie : i = i' + 1 := by omega
                    have q1 := hv5.repC (i := i') (by omega)
                    have q2 := hv5.repC (i := i) (by omega)
                    have y2 := blk_frozen hv5.at_ (9 + i)
                    obtain ⟨x, hx⟩ : ∃ x, x = rollR s1.rep j i i' := ⟨_, rfl⟩
                    obtain ⟨y, hy⟩ : ∃ y, y = rollR s1.rep j i i := ⟨_, rfl⟩
                    have hxl : x < 4294967296 := by rw [hx]; exact rollR_lt HRP.out j i hj4 i' (by omega)
                    have q1' : wr.cell? ⟨g, 9 + i', none⟩ = some (.int .u32 x) := by rw [hx]; exact q1
                    have q2' : wr.cell? ⟨g, 9 + i, none⟩ = some (.int .u32 y) := by rw [hy]; exact q2
                    have hiw : IntKind.i64.wrap ((i : Int) - 1) = (i' : Int) := by rw [IntKind.wrap_i64]; omega
                    have hi4 : (i : Int) < 4 := by omega
                    have hi4' : (i' : Int) < 4 := by omega
                    have hi0 : (0 : Int) < (i : Int) := by omega
                    have HX := hid hx
                    have HIE := hid hie
                    have HXL := hid hxl
                    have HJ := hid (show i ≤ j from hi)
                    clear hv5 hup5 hx hy hxl q1 q2 hie hi' hz
                    go_upto_region 9 with fail
                    go_still_tail 11, (by kernel_rfl)
                    go_wp2_with fail
                    refine ⟨⟨i', by have := HIE.out; have := HJ.out; omega, rfl, ?_, ?_⟩, ?_⟩
                    · exact (HFR.out.then ((Fr.refl (fun k => k = g) _).setOne _ _) (fun k _ e => by rw [e]; exact HUP5.out.1)).drew
                    · have h9 := HV5.out.rep1 hG.ok (i := i) (by omega) (x := x) HXL.out
                      have hrr : updN (rollR s1.rep j i) i x = rollR s1.rep j i' := by
                        rw [HX.out, HIE.out]
                        exact rollR_step s1.rep (by have := HIE.out; have := HJ.out; omega)
                      have hss : ({ s1 with rep := updN (rollR s1.rep j i) i x } : LS) = { s1 with rep := rollR s1.rep j i' } := by rw [hrr]
                      rw [← hss]
                      exact ⟨A5, v5, KV.quiet hG.ok h9 ((Fr.refl Non _).drew) (by simp)⟩
                    · have := HIE.out
                      simp [intOf]
                      omega
      case rest =>
        as_aux_lemma =>
          obtain ⟨m, ht, hRk, hf3, h3, hm4, hH3⟩ := hcut
          obtain ⟨sm, cm, mm⟩ := m
          dsimp only at ht hRk h3 hm4 hH3
          subst ht
          obtain ⟨w3, hw3⟩ : ∃ x, x = wc := ⟨_, rfl⟩
          rw [← hw3] at hf3 h3 ⊢
          obtain ⟨sq, hsq⟩ : ∃ x : LS, x = if K.bad cm = true then { sm with bad := true } else sm := ⟨_, rfl⟩
          have HRq := hid (show R = ((kend2 sq mm).1, cm, (kend2 sq mm).2) by rw [hRk, hsq]; rfl)
          have HHq := hid (show sq.H = s.H by rw [hsq]; split <;> exact hH3)
          have HSQ := hid hsq
          have F3 := hid hf3
          have H3 := hid h3
          have hmm4 : (mm : Int) ≤ 400 := by have : mm ≤ 400 := hm4; omega
          clear hRk hsq hf3 h3 hm4 hH3 hw3 b0 b1 b2 b3
          go_upto_region 34 with fail
          go_cut [194] (fun t wx => t = .bool (K.bad cm) ∧ w3 = wx)
          case first =>
            as_aux_lemma =>
              obtain ⟨A3, v3, hv3⟩ := H3.out
              have c4 := hv3.cellC 4 (x := K.dv) rfl
              have hway : (K.dv = .pointer none ∧ K.bad cm = false) ∨ ∃ gd, K.dv = .pointer (some ⟨gd, 0, none⟩) ∧ w3.cell? ⟨gd, 4, none⟩ = some (.bool (K.bad cm)) := by
                cases hgd : K.gd with
                | none => exact .inl ⟨kdv_none hgd, hG.ok.nod hgd _⟩
                | some gd => exact .inr ⟨gd, kdv_some hgd, hG.ok.cell _ _ _ _ hgd hv3.co⟩
              clear hv3
              rcases hway with ⟨hdv, hb⟩ | ⟨gd, hdv, hd4⟩
              · rw [hdv] at c4
                have HB9 := hid hb
                clear hdv hb
                go_wp2_with fail
                go_meet
                exact ⟨by rw [HB9.out], rfl⟩
              · rw [hdv] at c4
                clear hdv
                go_wp2_with fail
                go_meet
                exact ⟨rfl, rfl⟩
          case rest =>
            as_aux_lemma =>
              obtain ⟨rfl, hwc⟩ := hcut
              subst hwc
              obtain ⟨bb, hbb⟩ : ∃ b, b = K.bad cm := ⟨_, rfl⟩
              rw [← hbb]
              have HBB := hid hbb
              clear hbb
              go_upto_if 194 with fail
              go_cut [] (fun wx => Fr (KF K U') w0 wx ∧ KIs K U' g gp np cap wx sq cm)
              case first =>
                as_aux_lemma =>
                  cases bb with
                  | false =>
                    have hq9 : sq = sm := by rw [HSQ.out, if_neg (by rw [← HBB.out]; decide)]
                    have HQ9 := hid hq9
                    clear hq9
                    go_wp2_with fail
                    go_meet
                    rw [HQ9.out]
                    exact ⟨F3.out, H3.out⟩
                  | true =>
                    obtain ⟨A3, v3, hv3⟩ := H3.out
                    have c14 := hv3.cellC 14 (x := .bool sm.bad) rfl
                    have z14 := blk_frozen hv3.at_ 14
                    have hq9 : sq = { sm with bad := true } := by rw [HSQ.out, if_pos HBB.out.symm]
                    have HQ9 := hid hq9
                    have HUP3 := hid (hv3.up hG.ok)
                    have HV3 := hid hv3
                    clear hq9 hv3
                    go_wp2_with fail
                    go_meet
                    have hok := HV3.out.ok
                    rw [HQ9.out]
                    exact ⟨F3.out.then ((Fr.refl _ _).setOne (g := g) _ _) (fun k _ e => by rw [e]; exact HUP3.out.1), A3, v3, HV3.out.setC hG.ok (i := 14) (x := .bool true) (s' := { sm with bad := true }) rfl rfl rfl ⟨hok.pr, hok.st, hok.rep, hok.lc, hok.lp, hok.pb, hok.room, hok.few, hok.dict, hok.by_⟩⟩
              case rest =>
                as_aux_lemma =>
                  obtain ⟨hf4, h4⟩ := hcut
                  obtain ⟨w4, hw4⟩ : ∃ x, x = wc := ⟨_, rfl⟩
                  rw [← hw4] at hf4 h4 ⊢
                  have F4 := hid hf4
                  have H4 := hid h4
                  obtain ⟨A4, v4, hv4⟩ := h4
                  obtain ⟨bq, hbq⟩ : ∃ x, x = sq.bad := ⟨_, rfl⟩
                  obtain ⟨eq, heq⟩ : ∃ x, x = sq.ended := ⟨_, rfl⟩
                  have c14 := hv4.cellC 14 (x := .bool bq) (by rw [hbq]; rfl)
                  have c13 := hv4.cellC 13 (x := .bool eq) (by rw [heq]; rfl)
                  have HBQ := hid hbq
                  have HEQ2 := hid heq
                  clear hf4 hw4 hv4 hbq heq
                  have hstop : (bq || eq) = true → R = (sq, cm, 0) := fun h9 => by
                    have : (sq.bad || sq.ended) = true := by rw [← HBQ.out, ← HEQ2.out]; exact h9
                    rw [HRq.out]
                    unfold kend2
                    rw [if_pos this]
                  have hcont : (bq || eq) = false → R = ((kcopy mm 0 sq).1, cm, (kcopy mm 0 sq).2) := fun h9 => by
                    have : (sq.bad || sq.ended) = false := by rw [← HBQ.out, ← HEQ2.out]; exact h9
                    rw [HRq.out]
                    unfold kend2
                    rw [if_neg (by rw [this]; decide)]
                  have HST := hid hstop
                  have HCO := hid hcont
                  clear hstop hcont
                  cases bq with
                  | true =>
                    have HR9 := hid (HST.out rfl)
                    go_wp2_with fail
                    go_ret
                    refine HEND.out _ (.int .i64 0) _ (by rw [HR9.out]; rfl) F4.out ?_
                    rw [HR9.out]
                    exact H4.out
                  | false =>
                    cases eq with
                    | true =>
                      have HR9 := hid (HST.out rfl)
                      go_wp2_with fail
                      go_ret
                      refine HEND.out _ (.int .i64 0) _ (by rw [HR9.out]; rfl) F4.out ?_
                      rw [HR9.out]
                      exact H4.out
                    | false =>
                      have HR9 := hid (HCO.out rfl)
                      have hok4 : KOk np sq := by obtain ⟨_, _, q⟩ := H4.out; exact q.ok
                      have HOK := hid hok4
                      clear hok4
                      go_wp2_with fail
                      go_loopw [13, 14, 15] (fun iv bv ov wr => ∃ (i : Nat) (X : List Int), i ≤ mm ∧ X.length = i ∧ iv = .int .i64 i ∧ Fr (KF K U') w0 wr ∧ KIs K U' g gp np cap wr { sq with H := sq.H ++ X } cm ∧ kcopy mm 0 sq = kcopy (mm - i) i { sq with H := sq.H ++ X }) (fun iv _ _ _ => mm - (intOf iv).toNat)
                      case atStart => exact ⟨0, [], by omega, rfl, rfl, F4.out, by rw [List.append_nil]; exact H4.out, by rw [List.append_nil]; rfl⟩
                      case round =>
                        obtain ⟨i, X, hi, hX, rfl, hfr, hst, hkc⟩ := hrel
                        obtain ⟨sx, hsx⟩ : ∃ x : LS, x = { sq with H := sq.H ++ X } := ⟨_, rfl⟩
                        rw [← hsx] at hst hkc
                        have hlenx : sx.H.length ≤ 59400 := by
                          rw [hsx]
                          show (sq.H ++ X).length ≤ _
                          rw [List.length_append, HHq.out]
                          have := HLEN.out
                          omega
                        obtain ⟨r0, hr0⟩ : ∃ x, x = sx.rep 0 := ⟨_, rfl⟩
                        have hr0l : r0 < 4294967296 := by rw [hr0, hsx]; exact HOK.out.rep 0 (by decide)
                        have HFR := hid hfr
                        have HST := hid hst
                        have HSX := hid hsx
                        have HXL := hid hX
                        by_cases hz : i = mm
                        · have HR8 := hid (show R = (sx, cm, mm) by
                            rw [HR9.out, hkc, show mm - i = 0 by omega, ← hz]
                            rfl)
                          have hil : ¬ (i : Int) < (mm : Int) := by omega
                          clear hfr hst hkc hsx hr0 hr0l hlenx hz hX hi
                          go_wp2_with fail
                          go_ret
                          refine HEND.out _ (.int .i64 mm) _ (by rw [HR8.out]; rfl) HFR.out ?_
                          rw [HR8.out]
                          exact HST.out
                        · have hil : (i : Int) < (mm : Int) := by omega
                          obtain ⟨k, hk⟩ : ∃ k, mm - i = k + 1 := ⟨mm - i - 1, by omega⟩
                          obtain ⟨y, hy⟩ : ∃ y, y = backD sx r0 := ⟨_, rfl⟩
                          have HKC := hid (show kcopy mm 0 sq = if y.2 = true then kcopy k (i + 1) { sx with H := sx.H ++ [y.1] } else ({ sx with bad := true }, i) by
                            rw [hkc, hk, hy, hr0]
                            rfl)
                          have hokx : KOk np sx := by obtain ⟨_, _, q⟩ := hst; exact q.ok
                          have hyb : 0 ≤ y.1 ∧ y.1 < 256 := by rw [hy]; exact backD_by hokx _
                          obtain ⟨y1, y2⟩ := y
                          have HBK := hid (show Calls Try.prog 75 #[.pointer (some ⟨g, 0, none⟩), .int .u32 r0] wr (fun e w' => e = .returned (.tuple #[.int .u8 y1, .bool y2]) ∧ ∃ m, w' = wr.drewN m) by
                            have := kback_any (U := U') g gp np cap sx cm r0 wr HST.out hr0l (by omega)
                            rw [← hy] at this
                            exact this)
                          obtain ⟨A5, v5, hv5⟩ := hst
                          have c9 := hv5.cellC 9 (x := .int .u32 r0) (by rw [hr0]; rfl)
                          have HV5 := hid hv5
                          have HYB := hid hyb
                          have HLX := hid hlenx
                          have HK := hid (show mm - (i + 1) = k by omega)
                          have HI := hid (show i + 1 ≤ mm by omega)
                          clear hfr hkc hsx hr0 hr0l hlenx hX hi hz hk hy hokx hyb hv5
                          go_wp2_with fail
                          refine HBK.out.mono ?_
                          rintro e w5 ⟨rfl, m5, hw5⟩
                          have hv6 : KV K U' A5 g gp np cap v5 w5 sx cm := by rw [hw5]; exact HV5.out.quiet hG.ok ((Fr.refl Non _).drewN _) (by simp)
                          have F5 := hid (show Fr (KF K U') w0 w5 by rw [hw5]; exact HFR.out.drewN _)
                          have c7 := hv6.cellC 7 (x := v5) rfl
                          have z7 := blk_frozen hv6.at_ 7
                          have c14 := hv6.cellC 14 (x := .bool sx.bad) rfl
                          have z14 := blk_frozen hv6.at_ 14
                          have HV6 := hid hv6
                          have HUP6 := hid (hv6.up hG.ok)
                          have HOWN := hid hv6.own
                          clear hw5 hv6 c9
                          cases y2 with
                          | false =>
                            have HR8 := hid (show R = ({ sx with bad := true }, cm, i) by
                              rw [HR9.out, HKC.out]
                              rfl)
                            clear c7 z7
                            go_wp2_with fail
                            go_ret
                            have hok := HV6.out.ok
                            refine HEND.out _ (.int .i64 i) _ (by rw [HR8.out]; rfl) (F5.out.then ((Fr.refl _ _).setOne (g := g) _ _) (fun k _ e => by rw [e]; exact HUP6.out.1)) ?_
                            rw [HR8.out]
                            exact ⟨A5, v5, HV6.out.setC hG.ok (i := 14) (x := .bool true) (s' := { sx with bad := true }) rfl rfl rfl ⟨hok.pr, hok.st, hok.rep, hok.lc, hok.lp, hok.pb, hok.room, hok.few, hok.dict, hok.by_⟩⟩
                          | true =>
                            have HKC2 := hid (show kcopy mm 0 sq = kcopy k (i + 1) { sx with H := sx.H ++ [y1] } by
                              rw [HKC.out]
                              rfl)
                            clear c14 z14
                            go_wp2_with (at_builtin; refine opGrow1 (some 236) rfl rfl (.tmp 233) (.tmp 235) 30 rfl .u8 5 1 Try.underlying30 Try.info_u8q v5 sx.H rfl (by exact HOWN.out.alloc _) _ 1 y1 rfl (by exact cell_new1 _ _ _) (by decide) (by have := HLX.out; omega) ?_; intro v4 w4 hown4 hg4 hv4; obtain ⟨a4, cp4, he4, _⟩ := hown4.rowO; obtain ⟨n4, hn4⟩ : ∃ x, x = (sx.H ++ [y1]).length := ⟨_, rfl⟩; rw [← hn4] at he4; subst he4; clear hn4; have HG4 := hid (And.intro hown4 (And.intro hg4 hv4)); have hfo : Fr (fun k => v5.ownBlock = some k) w5 w4 := (((Fr.refl Non w5).alloc _).mono (fun _ _ e => e.elim)).grown hg4 (fun k hk _ => hk); have k7 := hfo.cell c7 (fun e => (HV6.out.sep g e).1 rfl); have q7 := hfo.frozen (p := ⟨g, 7, none⟩) (by exact HUP6.out.2.1) (by exact z7) (fun e => (HV6.out.sep g e).1 rfl); clear hown4 hg4 hv4 hfo c7 z7)
                            go_wp2_with fail
                            obtain ⟨hk9, hf9⟩ := HV6.out.grow hG.ok ((Fr.refl Non w5).alloc _) HG4.out.1 HG4.out.2.1 HG4.out.2.2 HYB.out.1 HYB.out.2
                            have hxe : ({ sx with H := sx.H ++ [y1] } : LS) = { sq with H := sq.H ++ (X ++ [y1]) } := by rw [HSX.out, ← List.append_assoc]
                            refine ⟨⟨i + 1, X ++ [y1], HI.out, by rw [List.length_append, HXL.out]; rfl, by congr 1, F5.out.trans hf9, ?_, ?_⟩, ?_⟩
                            · rw [← hxe]; exact ⟨_, _, hk9⟩
                            · rw [HK.out, ← hxe]; exact HKC2.out
                            · have := HI.out
                              simp [intOf]
                              omega
end Go.Proofs.Ytjnegcambbeblaa
