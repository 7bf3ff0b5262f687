/- Texts of this proof, one behind the other. -/
import Derived.Test.YtjnegcambbeblaaKzKQ
import Derived.Test.YtjnegcambbeblaaMg07
import Derived.Test.YtjnegcambbeblaaMg08
import Derived.Test.YtjnegcambbeblaaMg02
import Derived.Test.YtjnegcambbeblaaMg10
import Derived.Test.YtjnegcambbeblaaMg01
import Derived.Test.YtjnegcambbeblaaRows
import Derived.WalkSpells
import Derived.WalkLawsBesides
import Derived.BigQuiet
import Derived.Deep.QuietTactic
import Derived.BigRegion
import Derived.Outline

/- The document's walk through LZMA: a packet, plain; where it lies. -/
namespace Go.Proofs.Ytjnegcambbeblaa
open Go.RowKit

structure PkV where
  kind : Int
  byte : Int
  len : Int
  dist : Nat
def kmid1 {C : Type} (K : Cdr C) (s : LS) (_sp : Nat) (kind : Int) (dist : Nat) (L : Nat × (Nat → Int) × C) : LS × C × Nat :=
  ({ s with P := (kdist K L.2.1 L.2.2 L.1 (if kind = 7 then 4294967295 else dist)).2.1, st := afterL s.st 7 10, rep := updN (shiftL s.rep 3) 0 (kdist K L.2.1 L.2.2 L.1 (if kind = 7 then 4294967295 else dist)).1, ended := decide ((kdist K L.2.1 L.2.2 L.1 (if kind = 7 then 4294967295 else dist)).1 = 4294967295) && !K.bad (kdist K L.2.1 L.2.2 L.1 (if kind = 7 then 4294967295 else dist)).2.2 },
    (kdist K L.2.1 L.2.2 L.1 (if kind = 7 then 4294967295 else dist)).2.2, L.1 + 2)
def kmid2 {C : Type} (s : LS) (j : Nat) (L : Nat × (Nat → Int) × C) : LS × C × Nat :=
  ({ s with P := L.2.1, st := afterL s.st 8 11, rep := updN (shiftL s.rep j) 0 (s.rep j) }, L.2.2, L.1 + 2)
/-- a packet that is no literal: how many bytes it is to tell. -/
def kmid {C : Type} (K : Cdr C) (s : LS) (c : C) (sp : Nat) (p : PkV) (k : Nat) : LS × C × Nat :=
  if k = 1 then kmid1 K s sp p.kind p.dist (klen K s.P c 819 sp (if p.kind = 7 then 0 else p.len - 2))
  else if k = 6 then ({ s with st := afterL s.st 9 11 }, c, 1)
  else kmid2 s (k - 2) (klen K s.P c 1333 sp (p.len - 2))
def kcopy : Nat → Nat → LS → LS × Nat
  | 0, i, s => (s, i)
  | n + 1, i, s => if (backD s (s.rep 0)).2 = true then kcopy n (i + 1) { s with H := s.H ++ [(backD s (s.rep 0)).1] } else ({ s with bad := true }, i)
def kend2 (s : LS) (many : Nat) : LS × Nat := if s.bad || s.ended then (s, 0) else kcopy many 0 s
def kend {C : Type} (K : Cdr C) (m : LS × C × Nat) : LS × C × Nat :=
  ((kend2 (if K.bad m.2.1 = true then { m.1 with bad := true } else m.1) m.2.2).1, m.2.1, (kend2 (if K.bad m.2.1 = true then { m.1 with bad := true } else m.1) m.2.2).2)
def klitP {C : Type} (K : Cdr C) (s : LS) (r : Nat × (Nat → Int) × C) : LS × C × Nat :=
  if K.bad r.2.2 = true then ({ s with P := r.2.1, st := stL s.st, bad := true }, r.2.2, 0)
  else ({ s with P := r.2.1, st := stL s.st, H := s.H ++ [((r.1 % 256 : Nat) : Int)] }, r.2.2, 1)
def kpacket2 {C : Type} (K : Cdr C) (s : LS) (c : C) (sp : Nat) (p : PkV) (k : Nat) : LS × C × Nat :=
  if k = 0 then klitP K s (klit K s c p.byte) else kend K (kmid K s c sp p k)
/-- a packet: the state behind it, and how many bytes it told. -/
def kpacket {C : Type} (K : Cdr C) (s : LS) (c : C) (p : PkV) : LS × C × Nat :=
  kpacket2 K { s with P := (kkind K s c (s.H.length % 2 ^ s.pb) p.kind).2.1, bad := s.bad || (kkind K s c (s.H.length % 2 ^ s.pb) p.kind).1.2 } (kkind K s c (s.H.length % 2 ^ s.pb) p.kind).2.2 (s.H.length % 2 ^ s.pb) p (kkind K s c (s.H.length % 2 ^ s.pb) p.kind).1.1
end Go.Proofs.Ytjnegcambbeblaa

/- The document's walk through LZMA: a bit and bits told straight, over the document's decoder. -/
namespace Go.Proofs.Ytjnegcambbeblaa
open Go.RowKit

/-- the document's decoder over the n bytes f. -/
def cdrD (a : Option Addr) (n cap : Nat) (f : Nat → Int) (lo gd : Nat) : Cdr (RD Nat) where
  lo := lo
  gd := some gd
  ev := .pointer none
  I := fun A w c => RefIs a n cap f lo gd w c ∧ ¬ A gd ∧ ∀ k, A k → lo ≤ k ∧ k < w.heap.size
  nb := fun c p _ => c.bit (feedNx f n) p
  ns := fun c k _ => c.str (feedNx f n) k
  bad := fun c => c.bad
  free := True
  fit := fun _ _ => True
theorem cdrD_ok (a : Option Addr) (n cap : Nat) (f : Nat → Int) (lo gd : Nat) : (cdrD a n cap f lo gd).Ok where
  more := by
    rintro A w w' c T ⟨h1, h2, h3⟩ hf ht
    have hf' : Fr (fun k => T k ∧ k < w.heap.size) w w' := hf.mono fun k hk e => ⟨e, hk⟩
    have hlt := blk_lt h1.at_
    refine ⟨h1.keep hf' (fun e => h2 (ht _ e.2 e.1)) (fun k hk e => by have := (h3 k (ht _ e.2 e.1)).1; omega), fun e => ?_, fun k hk => ?_⟩
    · rcases e with e | e
      · exact h2 e
      · omega
    · rcases hk with e | e
      · have := h3 k e; have := hf.size; omega
      · have := h1.low; omega
  old := fun A w c k h hk => h.2.2 k hk
  low := fun A w c h => by show lo ≤ w.heap.size; have := h.1.low; have := blk_lt h.1.at_; omega
  cell := by
    rintro A w c g hg ⟨h1, _⟩
    injection hg with hg
    subst hg
    exact blk_cell h1.at_ (j := 4) rfl
  nod := fun h => by cases h
  one := fun c p b _ => bit_le _ _ _
  echo := .inl trivial
  pr := fun c p b h0 h1 => bit_prob _ _ _ h0 h1
  slt := fun c n v _ _ => str_lt' _ _ _
  fitB := fun _ _ _ _ _ => trivial
  fitS := fun _ _ _ _ _ => trivial
  fitM := fun _ _ _ _ _ => trivial
set_option maxRecDepth 100000 in
set_option maxHeartbeats 1600000 in
theorem lzbit_any {U : Nat → Prop} (a : Option Addr) (n capd : Nat) (f : Nat → Int) (hf : ∀ i, i < n → 0 ≤ f i ∧ f i < 256) (hn : n ≤ 1048576) (lo gd : Nat) (K : Cdr (RD Nat)) (hKe : K = cdrD a n capd f lo gd) (g gp np cap : Nat) (s : LS) (c : RD Nat) (k : Nat) (b : Int) (w : World) (h : KIs K U g gp np cap w s c) (hk : k < np) :
    Calls Try.prog 105 #[.pointer (some ⟨g, 0, none⟩), .int .i64 k, .int .i64 b] w (KPost K U g gp np cap (.int .i64 (kbit K s.P c k b).1) { s with P := (kbit K s.P c k b).2.1 } (kbit K s.P c k b).2.2 w) := by
  have hK : K.Ok := by rw [hKe]; exact cdrD_ok ..
  obtain ⟨A, v, h⟩ := h
  have hup := h.up hK
  have hpc := h.npcap
  have hpr := h.ok.pr k hk
  have hfew := h.ok.few
  have c4 := h.cellC 4 (x := .pointer (some ⟨gd, 0, none⟩)) (by rw [hKe]; rfl)
  have c5 := h.cellC 5 (x := .pointer none) (by rw [hKe]; rfl)
  have c6 := h.cellC 6 (x := .slice (some ⟨gp, 0, none⟩) np cap) rfl
  obtain ⟨cP, zP⟩ := h.prob hk
  have hco : RefIs a n capd f lo gd w c ∧ ¬ A gd ∧ ∀ k, A k → lo ≤ k ∧ k < w.heap.size := by
    have := h.co; rw [hKe] at this; exact this
  have hne : g ≠ gd := fun e => hco.2.1 (e ▸ h.ag)
  have hnp : gp ≠ gd := fun e => hco.2.1 (e ▸ h.ap)
  obtain ⟨p, hp⟩ : ∃ p, p = s.P k := ⟨_, rfl⟩
  rw [← hp] at cP hpr
  obtain ⟨y, hy⟩ : ∃ y, y = c.bit (feedNx f n) p := ⟨_, rfl⟩
  have ey : kbit K s.P c k b = (y.1, upd s.P k y.2.1, y.2.2) := by
    unfold kbit
    rw [hy, hp, hKe]
    rfl
  rw [ey]
  have hyp := bit_prob (feedNx f n) c p hpr.1 hpr.2
  rw [← hy] at hyp
  have H := hid h
  have HY := hid hy
  have HYP := hid hyp
  have HCO := hid hco
  have HUP := hid hup
  have HF := hid hf
  have HPR := hid hpr
  have HKE := hid hKe
  have hkcap : k < cap := by omega
  clear h hy hyp hco hup hf hpr hp ey hKe hpc
  go_enter Try.func105, Try.ntmps105
  go_wp2_with fail
  go_region_held3 (fun wx => wx.cell? ⟨g, 4, none⟩ = some (.pointer (some ⟨gd, 0, none⟩)) ∧ wx.cell? ⟨g, 6, none⟩ = some (.slice (some ⟨gp, 0, none⟩) np cap) ∧ wx.cell? ⟨gp, k, none⟩ = some (.int .u16 p)) (first | (show World.cell? w1 _ = _ ∧ _; exact ⟨hf1.cell (by exact c4) hne, hf1.cell (by exact c6) hne, hf1.cell (by exact cP) hnp⟩) | go_keep) (first
    | (go_at_call 124; refine (rbit_any a n capd f HF.out lo gd c p _ hn (HCO.out.1.drewN _) (by have := HPR.out; omega) (by have := HPR.out; omega)).mono ?_; rintro e w1 ⟨rfl, hf1, h1⟩))
  all_goals
    have k6 := hf1.cell (p := ⟨g, 6, none⟩) (by exact c6) hne
    have kP := hf1.cell (p := ⟨gp, k, none⟩) (by exact cP) hnp
    have zP1 := hf1.frozen (p := ⟨gp, k, none⟩) (by have := HUP.out; show gp < _; simpa using this.2.2.2.1) (by exact zP) hnp
    have HF1 := hid hf1
    have HR1 := hid h1
    rw [← HY.out] at HR1 ⊢
    clear hf1 h1 c4 c5 c6 cP zP
    go_wp2_with fail
    go_ret
    have hlo : K.lo = lo := by rw [HKE.out]; rfl
    have h0 := H.out.quiet hK ((Fr.refl Non w).drewN 1) (by simp)
    have hnA := HCO.out.2.1
    have hlow := HCO.out.1.low
    have hnU : ¬ U gd := fun e => hnA (H.out.un gd e).1
    refine ⟨rfl, ?_, _, v, KV.setP hK (h0.act (HF1.out.mono (fun k _ e q => hnA (by rw [← show k = gd from e]; exact q))) ?_) HYP.out.1 HYP.out.2⟩
    · refine Fr.then (b := w1) ?_ (T := fun k => k = gp) ((Fr.refl _ _).setOne _ _) (fun k _ e => by rw [e]; exact HUP.out.2.2.1)
      exact (((Fr.refl Non w).drewN 1).mono (fun _ _ e => e.elim)).trans (HF1.out.mono (fun k _ e => by rw [show k = gd from e]; exact ⟨by rw [hlo]; exact hlow, hnU⟩))
    · rw [HKE.out]
      exact ⟨HR1.out, hnA, fun k hk => ⟨(HCO.out.2.2 k hk).1, Nat.lt_of_lt_of_le (HCO.out.2.2 k hk).2 (Nat.le_trans (by simp) HF1.out.size)⟩⟩
set_option maxRecDepth 100000 in
set_option maxHeartbeats 1600000 in
theorem lzstr_any {U : Nat → Prop} (a : Option Addr) (n capd : Nat) (f : Nat → Int) (hf : ∀ i, i < n → 0 ≤ f i ∧ f i < 256) (hn : n ≤ 1048576) (lo gd : Nat) (K : Cdr (RD Nat)) (hKe : K = cdrD a n capd f lo gd) (g gp np cap : Nat) (s : LS) (c : RD Nat) (B : Nat) (x : Int) (w : World) (h : KIs K U g gp np cap w s c) (hB : B ≤ 30) :
    Calls Try.prog 110 #[.pointer (some ⟨g, 0, none⟩), .int .i64 B, .int .u32 x] w (KPost K U g gp np cap (.int .u32 (K.ns c B x).1) s (K.ns c B x).2 w) := by
  have hK : K.Ok := by rw [hKe]; exact cdrD_ok ..
  obtain ⟨A, v, h⟩ := h
  have c4 := h.cellC 4 (x := .pointer (some ⟨gd, 0, none⟩)) (by rw [hKe]; rfl)
  have c5 := h.cellC 5 (x := .pointer none) (by rw [hKe]; rfl)
  have hco : RefIs a n capd f lo gd w c ∧ ¬ A gd ∧ ∀ k, A k → lo ≤ k ∧ k < w.heap.size := by
    have := h.co; rw [hKe] at this; exact this
  obtain ⟨y, hy⟩ : ∃ y, y = c.str (feedNx f n) B := ⟨_, rfl⟩
  have ey : K.ns c B x = y := by
    rw [hy, hKe]
    rfl
  rw [ey]
  have H := hid h
  have HY := hid hy
  have HCO := hid hco
  have HF := hid hf
  have HKE := hid hKe
  clear h hy hco hf ey hKe
  go_enter Try.func110, Try.ntmps110
  go_wp2_with fail
  refine (rstr_any a n capd f HF.out lo gd B c _ hn HCO.out.1 (by omega)).mono ?_
  rintro e w1 ⟨rfl, hf1, h1⟩
  rw [← HY.out] at h1 ⊢
  have HF1 := hid hf1
  have HR1 := hid h1
  clear hf1 h1
  go_wp2_with fail
  go_ret
  have hlo : K.lo = lo := by rw [HKE.out]; rfl
  have hnA := HCO.out.2.1
  have hlow := HCO.out.1.low
  have hnU : ¬ U gd := fun e => hnA (H.out.un gd e).1
  refine ⟨rfl, HF1.out.mono (fun k _ e => by rw [show k = gd from e]; exact ⟨by rw [hlo]; exact hlow, hnU⟩), A, v, H.out.act (HF1.out.mono (fun k _ e q => hnA (by rw [← show k = gd from e]; exact q))) ?_⟩
  rw [HKE.out]
  exact ⟨HR1.out, hnA, fun k hk => ⟨(HCO.out.2.2 k hk).1, Nat.lt_of_lt_of_le (HCO.out.2.2 k hk).2 HF1.out.size⟩⟩
theorem cdrD_good (a : Option Addr) (n capd : Nat) (f : Nat → Int) (hf : ∀ i, i < n → 0 ≤ f i ∧ f i < 256) (hn : n ≤ 1048576) (lo gd : Nat) : (cdrD a n capd f lo gd).Good where
  ok := cdrD_ok ..
  bit := fun _ g gp np cap s c k b w h hk _ _ => lzbit_any a n capd f hf hn lo gd _ rfl g gp np cap s c k b w h hk
  str := fun _ g gp np cap s c B x w h hB _ _ _ => lzstr_any a n capd f hf hn lo gd _ rfl g gp np cap s c B x w h hB
end Go.Proofs.Ytjnegcambbeblaa

/- The document's walk over its decoder, plain: it is the program's own reckoning, as long as the decoder is good. -/
namespace Go.Proofs.Ytjnegcambbeblaa
open Go.RowKit

section
variable (a : Option Addr) (n cap : Nat) (f : Nat → Int) (lo gd : Nat)
theorem kbit_D (P : Nat → Int) (c : RD Nat) (k : Nat) (b : Int) : kbit (cdrD a n cap f lo gd) P c k b = lbit (feedNx f n) P c k := rfl
theorem upd_in (P : Nat → Int) (o m : Nat) (x : Int) : upd (fun j => P (o + j)) m x = fun j => upd P (o + m) x (o + j) := by
  funext j
  unfold upd
  by_cases h : j = m
  · rw [if_pos h, if_pos (by omega)]
  · rw [if_neg h, if_neg (by omega)]
theorem ktreeGo_D (o : Nat) (v : Int) : ∀ (i : Nat) (P : Nat → Int) (c : RD Nat) (m : Nat),
    RD.treeGo (feedNx f n) i c (fun j => P (o + j)) m = ((ktreeGo (cdrD a n cap f lo gd) o v i P c m).1, (fun j => (ktreeGo (cdrD a n cap f lo gd) o v i P c m).2.1 (o + j)), (ktreeGo (cdrD a n cap f lo gd) o v i P c m).2.2)
  | 0, P, c, m => rfl
  | i + 1, P, c, m => by
    show RD.treeGo (feedNx f n) i (c.bit (feedNx f n) (P (o + m))).2.2 (upd (fun j => P (o + j)) m (c.bit (feedNx f n) (P (o + m))).2.1) (2 * m + (c.bit (feedNx f n) (P (o + m))).1) = _
    rw [upd_in, ktreeGo_D o v i]
    rfl
theorem ktreeGo_out (o : Nat) (v : Int) (x : Nat) : ∀ (i : Nat) (P : Nat → Int) (c : RD Nat) (m T : Nat), (m + 1) * 2 ^ i ≤ 2 * T → (x < o ∨ o + T ≤ x) → (ktreeGo (cdrD a n cap f lo gd) o v i P c m).2.1 x = P x
  | 0, P, c, m, T, _, _ => rfl
  | i + 1, P, c, m, T, hm, hx => by
    have hb := bit_le (feedNx f n) c (P (o + m))
    have hmT : m < T := by
      rw [Nat.pow_succ, ← Nat.mul_assoc] at hm
      have h1 : m + 1 ≤ (m + 1) * 2 ^ i := Nat.le_mul_of_pos_right _ (Nat.pow_pos (by decide))
      omega
    have h2 : (2 * m + (c.bit (feedNx f n) (P (o + m))).1 + 1) * 2 ^ i ≤ 2 * T := by
      refine Nat.le_trans (Nat.mul_le_mul_right _ (show 2 * m + (c.bit (feedNx f n) (P (o + m))).1 + 1 ≤ 2 * (m + 1) by omega)) ?_
      rw [Nat.pow_succ] at hm
      rw [Nat.mul_comm 2 (m + 1), Nat.mul_assoc, Nat.mul_comm 2 (2 ^ i)]
      exact hm
    show (ktreeGo (cdrD a n cap f lo gd) o v i (upd P (o + m) _) _ (2 * m + (c.bit (feedNx f n) (P (o + m))).1)).2.1 x = P x
    rw [ktreeGo_out o v x i _ _ _ T h2 hx, upd_ne _ _ (by omega)]
/-- a tree: the probabilities and the decoder are the program's; the number too, if the decoder is good. -/
theorem ktree_D (P : Nat → Int) (c : RD Nat) (o B : Nat) (v : Int) : (ktree (cdrD a n cap f lo gd) P c o B v).2 = (ltree (feedNx f n) P c o B).2 ∧ ((ltree (feedNx f n) P c o B).2.2.bad = false → (ktree (cdrD a n cap f lo gd) P c o B v).1 = (ltree (feedNx f n) P c o B).1) := by
  have h := ktreeGo_D a n cap f lo gd o v B P c 1
  have hs : spliceQ P o (2 ^ B) (fun j => (ktreeGo (cdrD a n cap f lo gd) o v B P c 1).2.1 (o + j)) = (ktreeGo (cdrD a n cap f lo gd) o v B P c 1).2.1 := by
    funext x
    unfold spliceQ
    by_cases hx : o ≤ x ∧ x < o + 2 ^ B
    · rw [if_pos hx]
      show (ktreeGo (cdrD a n cap f lo gd) o v B P c 1).2.1 (o + (x - o)) = _
      rw [show o + (x - o) = x by omega]
    · rw [if_neg hx]
      exact (ktreeGo_out a n cap f lo gd o v x B P c 1 (2 ^ B) (by omega) (by omega)).symm
  unfold ktree ltree RD.tree
  rw [h]
  dsimp only
  rw [hs]
  refine ⟨rfl, fun hb => ?_⟩
  rw [if_neg (by rw [hb]; decide)]
theorem krevGo_D (o : Nat) (v : Int) : ∀ (k i : Nat) (P : Nat → Int) (c : RD Nat) (m out : Nat),
    RD.revGo (feedNx f n) k i c (fun j => P (o + j)) m out = ((krevGo (cdrD a n cap f lo gd) o v k i P c m out).1, (fun j => (krevGo (cdrD a n cap f lo gd) o v k i P c m out).2.1 (o + j)), (krevGo (cdrD a n cap f lo gd) o v k i P c m out).2.2)
  | 0, i, P, c, m, out => rfl
  | k + 1, i, P, c, m, out => by
    show RD.revGo (feedNx f n) k (i + 1) (c.bit (feedNx f n) (P (o + m))).2.2 (upd (fun j => P (o + j)) m (c.bit (feedNx f n) (P (o + m))).2.1) (2 * m + (c.bit (feedNx f n) (P (o + m))).1) (out + (c.bit (feedNx f n) (P (o + m))).1 * 2 ^ i) = _
    rw [upd_in, krevGo_D o v k (i + 1)]
    rfl
theorem krevGo_out (o : Nat) (v : Int) (x : Nat) : ∀ (k i : Nat) (P : Nat → Int) (c : RD Nat) (m out T : Nat), (m + 1) * 2 ^ k ≤ 2 * T → (x < o ∨ o + T ≤ x) → (krevGo (cdrD a n cap f lo gd) o v k i P c m out).2.1 x = P x
  | 0, i, P, c, m, out, T, _, _ => rfl
  | k + 1, i, P, c, m, out, T, hm, hx => by
    have hb := bit_le (feedNx f n) c (P (o + m))
    have hmT : m < T := by
      rw [Nat.pow_succ, ← Nat.mul_assoc] at hm
      have h1 : m + 1 ≤ (m + 1) * 2 ^ k := Nat.le_mul_of_pos_right _ (Nat.pow_pos (by decide))
      omega
    have h2 : (2 * m + (c.bit (feedNx f n) (P (o + m))).1 + 1) * 2 ^ k ≤ 2 * T := by
      refine Nat.le_trans (Nat.mul_le_mul_right _ (show 2 * m + (c.bit (feedNx f n) (P (o + m))).1 + 1 ≤ 2 * (m + 1) by omega)) ?_
      rw [Nat.pow_succ] at hm
      rw [Nat.mul_comm 2 (m + 1), Nat.mul_assoc, Nat.mul_comm 2 (2 ^ k)]
      exact hm
    show (krevGo (cdrD a n cap f lo gd) o v k (i + 1) (upd P (o + m) _) _ (2 * m + (c.bit (feedNx f n) (P (o + m))).1) _).2.1 x = P x
    rw [krevGo_out o v x k (i + 1) _ _ _ _ T h2 hx, upd_ne _ _ (by omega)]
theorem krev_D (P : Nat → Int) (c : RD Nat) (o B : Nat) (v : Int) : (krev (cdrD a n cap f lo gd) P c o B v).2 = (lrev (feedNx f n) P c o B).2 ∧ ((lrev (feedNx f n) P c o B).2.2.bad = false → (krev (cdrD a n cap f lo gd) P c o B v).1 = (lrev (feedNx f n) P c o B).1) := by
  have h := krevGo_D a n cap f lo gd o v B 0 P c 1 0
  have hs : spliceQ P o (2 ^ B) (fun j => (krevGo (cdrD a n cap f lo gd) o v B 0 P c 1 0).2.1 (o + j)) = (krevGo (cdrD a n cap f lo gd) o v B 0 P c 1 0).2.1 := by
    funext x
    unfold spliceQ
    by_cases hx : o ≤ x ∧ x < o + 2 ^ B
    · rw [if_pos hx]
      show (krevGo (cdrD a n cap f lo gd) o v B 0 P c 1 0).2.1 (o + (x - o)) = _
      rw [show o + (x - o) = x by omega]
    · rw [if_neg hx]
      exact (krevGo_out a n cap f lo gd o v x B 0 P c 1 0 (2 ^ B) (by omega) (by omega)).symm
  unfold krev lrev RD.rev
  rw [h]
  dsimp only
  rw [hs]
  refine ⟨rfl, fun hb => ?_⟩
  rw [if_neg (by rw [hb]; decide)]
end
end Go.Proofs.Ytjnegcambbeblaa

/- The document's walk over its decoder, plain: literals, lengths, distances. -/
namespace Go.Proofs.Ytjnegcambbeblaa
open Go.RowKit

section
variable (a : Option Addr) (n cap : Nat) (f : Nat → Int) (lo gd : Nat)
theorem klitGo_D (k0 : Nat) (v : Int) : ∀ (i : Nat) (b : Bool) (o m : Nat) (P : Nat → Int) (c : RD Nat), klitGo (cdrD a n cap f lo gd) k0 v i b o m P c = litGo (feedNx f n) k0 i b o m P c
  | 0, _, _, m, P, c => rfl
  | i + 1, true, o, m, P, c => by
    unfold klitGo litGo
    exact klitGo_D k0 v i _ o _ _ _
  | i + 1, false, o, m, P, c => by
    unfold klitGo litGo
    exact klitGo_D k0 v i _ o _ _ _
theorem klen_D (P : Nat → Int) (c : RD Nat) (b sp : Nat) (v : Int) : (klen (cdrD a n cap f lo gd) P c b sp v).2 = (ltell (feedNx f n) P c b sp).2 ∧ ((ltell (feedNx f n) P c b sp).2.2.bad = false → (klen (cdrD a n cap f lo gd) P c b sp v).1 = (ltell (feedNx f n) P c b sp).1) := by
  unfold klen klen1 ltell
  rw [kbit_D]
  by_cases h0 : (lbit (feedNx f n) P c b).1 = 0
  · rw [if_pos h0, if_pos h0]
    exact ktree_D a n cap f lo gd _ _ _ _ _
  · rw [if_neg h0, if_neg h0]
    unfold klen2
    rw [kbit_D]
    by_cases h1 : (lbit (feedNx f n) (lbit (feedNx f n) P c b).2.1 (lbit (feedNx f n) P c b).2.2 (b + 1)).1 = 0
    · rw [if_pos h1, if_pos h1]
      obtain ⟨e1, e2⟩ := ktree_D a n cap f lo gd (lbit (feedNx f n) (lbit (feedNx f n) P c b).2.1 (lbit (feedNx f n) P c b).2.2 (b + 1)).2.1 (lbit (feedNx f n) (lbit (feedNx f n) P c b).2.1 (lbit (feedNx f n) P c b).2.2 (b + 1)).2.2 (b + 130 + 8 * sp) 3 (v - 8)
      exact ⟨e1, fun hb => by show 8 + _ = 8 + _; rw [e2 hb]⟩
    · rw [if_neg h1, if_neg h1]
      obtain ⟨e1, e2⟩ := ktree_D a n cap f lo gd (lbit (feedNx f n) (lbit (feedNx f n) P c b).2.1 (lbit (feedNx f n) P c b).2.2 (b + 1)).2.1 (lbit (feedNx f n) (lbit (feedNx f n) P c b).2.1 (lbit (feedNx f n) P c b).2.2 (b + 1)).2.2 (b + 258) 8 (v - 16)
      exact ⟨e1, fun hb => by show 16 + _ = 16 + _; rw [e2 hb]⟩
/-- a bad decoder leaves all as it is. -/
theorem lbit_bad {S : Type} (nx : S → Int × Bool × S) (P : Nat → Int) (d : RD S) (k : Nat) (h : d.bad = true) : lbit nx P d k = (0, P, d) := by
  unfold lbit RD.bit
  rw [if_pos h]
  have e : upd P k (P k) = P := by
    funext j
    unfold upd
    split
    · rename_i hj; rw [hj]
    · rfl
  show (0, upd P k (P k), d) = _
  rw [e]
theorem krevGo_bad (o : Nat) (v : Int) : ∀ (k i : Nat) (P : Nat → Int) (c : RD Nat) (m out : Nat), c.bad = true → (krevGo (cdrD a n cap f lo gd) o v k i P c m out).2 = (P, c)
  | 0, i, P, c, m, out, _ => rfl
  | k + 1, i, P, c, m, out, h => by
    unfold krevGo
    rw [kbit_D, lbit_bad _ _ _ _ h]
    exact krevGo_bad o v k (i + 1) P c _ _ h
theorem krev_bad (P : Nat → Int) (c : RD Nat) (o B : Nat) (v : Int) (h : c.bad = true) : (krev (cdrD a n cap f lo gd) P c o B v).2 = (P, c) := krevGo_bad a n cap f lo gd o v B 0 P c 1 0 h
theorem kstr_bad {S : Type} (nx : S → Int × Bool × S) (d : RD S) (k : Nat) (h : d.bad = true) : (d.str nx k).2 = d := by
  unfold RD.str
  cases k with
  | zero => rfl
  | succ k =>
    show (RD.strGo nx (k + 1) d 0).2 = d
    unfold RD.strGo
    rw [if_pos h]
theorem ltree_bad0 {S : Type} (nx : S → Int × Bool × S) (P : Nat → Int) (d : RD S) (k B : Nat) (h : (ltree nx P d k B).2.2.bad = true) : (ltree nx P d k B).1 = 0 := by
  unfold ltree RD.tree at h ⊢
  dsimp only at h ⊢
  rw [if_pos h]
theorem kdist_D (P : Nat → Int) (c : RD Nat) (l v : Nat) : (kdist (cdrD a n cap f lo gd) P c l v).2 = (ldist (feedNx f n) P c l).2 ∧ ((ldist (feedNx f n) P c l).2.2.bad = false → (kdist (cdrD a n cap f lo gd) P c l v).1 = (ldist (feedNx f n) P c l).1) := by
  obtain ⟨e1, e2⟩ := ktree_D a n cap f lo gd P c (432 + 64 * min l 3) 6 ((slotL v : Nat) : Int)
  unfold kdist ldist
  obtain ⟨r, hr⟩ : ∃ r, r = ktree (cdrD a n cap f lo gd) P c (432 + 64 * min l 3) 6 ((slotL v : Nat) : Int) := ⟨_, rfl⟩
  obtain ⟨q, hq⟩ : ∃ q, q = ltree (feedNx f n) P c (432 + 64 * min l 3) 6 := ⟨_, rfl⟩
  have hq0 : q.2.2.bad = true → q.1 = 0 := by rw [hq]; exact ltree_bad0 _ _ _ _ _
  rw [← hr, ← hq] at e1 e2 ⊢
  obtain ⟨sl, P1, c1⟩ := r
  obtain ⟨ql, P2, c2⟩ := q
  dsimp only at e1 e2 hq0 ⊢
  injection e1 with e3 e4
  subst e3 e4
  cases hb : c1.bad with
  | true =>
    have h0 := hq0 hb
    subst h0
    have eL : ldist2 (feedNx f n) P1 c1 0 = (0, P1, c1) := rfl
    rw [eL]
    refine ⟨?_, fun h => by exact absurd (hb.symm.trans h) (by decide)⟩
    unfold kdist2
    dsimp only
    split
    · rfl
    · split
      · exact krev_bad a n cap f lo gd _ _ _ _ _ hb
      · show (kdist3 (cdrD a n cap f lo gd) v sl P1 (c1.str (feedNx f n) (slotN sl - 4))).2 = (P1, c1)
        unfold kdist3
        dsimp only
        rw [kstr_bad _ _ _ hb]
        exact krev_bad a n cap f lo gd _ _ _ _ _ hb
  | false =>
    have h0 := e2 hb
    subst h0
    unfold kdist2 ldist2
    dsimp only
    split
    · exact ⟨rfl, fun _ => rfl⟩
    · split
      · obtain ⟨g1, g2⟩ := krev_D a n cap f lo gd P1 c1 (688 + (slotB sl - sl)) (slotN sl) ((v : Int) - (slotB sl : Nat))
        exact ⟨g1, fun h => by show slotB sl + _ = slotB sl + _; rw [g2 h]⟩
      · obtain ⟨g1, g2⟩ := krev_D a n cap f lo gd P1 (c1.str (feedNx f n) (slotN sl - 4)).2 803 4 ((v % 16 : Nat) : Int)
        exact ⟨g1, fun h => congrArg (fun x => slotB sl + 16 * (c1.str (feedNx f n) (slotN sl - 4)).1 + x) (g2 h)⟩
end
end Go.Proofs.Ytjnegcambbeblaa

/- The document's walk over its decoder, plain: which packet; the byte at a distance; literals, matches, elder distances. -/
namespace Go.Proofs.Ytjnegcambbeblaa
open Go.RowKit

/-- the ring holds what the document looks at. -/
def RingOk (N : Nat) (s : LS) : Prop := ∀ d, d < min s.H.length N ↔ (d < s.H.length ∧ d < s.dict)
theorem backD_ring {N : Nat} {s : LS} (h : RingOk N s) (d : Nat) : backD s d = (backH s.H N d, decide (d < min s.H.length N)) := by
  unfold backD backH
  by_cases hd : d < min s.H.length N
  · have h1 := (h d).1 hd
    rw [if_neg (by omega), if_pos hd, decide_eq_true hd]
  · have h1 : s.H.length ≤ d ∨ s.dict ≤ d := by
      by_cases h2 : s.H.length ≤ d
      · exact .inl h2
      · refine .inr ?_
        by_cases h3 : s.dict ≤ d
        · exact h3
        · exact absurd ((h d).2 ⟨by omega, by omega⟩) hd
    rw [if_pos h1, if_neg hd, decide_eq_false hd]
section
variable (a : Option Addr) (n cap : Nat) (f : Nat → Int) (lo gd : Nat)
def pickN : Option Nat → Nat
  | none => 6
  | some k => k + 2
theorem kpick_D (P : Nat → Int) (c : RD Nat) (st sp : Nat) (k b : Int) : (kpick2 (cdrD a n cap f lo gd) st sp k (kbit (cdrD a n cap f lo gd) P c (204 + st) b)).2 = (lagPick (feedNx f n) P c st sp).2 ∧ (kpick2 (cdrD a n cap f lo gd) st sp k (kbit (cdrD a n cap f lo gd) P c (204 + st) b)).1 = pickN (lagPick (feedNx f n) P c st sp).1 := by
  unfold kpick2 lagPick
  rw [kbit_D]
  by_cases h0 : (lbit (feedNx f n) P c (204 + st)).1 = 0
  · rw [if_pos h0, if_pos h0]
    unfold kpick3
    rw [kbit_D]
    refine ⟨rfl, ?_⟩
    dsimp only
    split
    · rfl
    · rfl
  · rw [if_neg h0, if_neg h0]
    unfold kpick4
    rw [kbit_D]
    by_cases h1 : (lbit (feedNx f n) (lbit (feedNx f n) P c (204 + st)).2.1 (lbit (feedNx f n) P c (204 + st)).2.2 (216 + st)).1 = 0
    · rw [if_pos h1, if_pos h1]
      exact ⟨rfl, rfl⟩
    · rw [if_neg h1, if_neg h1]
      unfold kpick5
      rw [kbit_D]
      refine ⟨rfl, ?_⟩
      dsimp only
      obtain ⟨x, hx⟩ : ∃ x, x = (lbit (feedNx f n) (lbit (feedNx f n) (lbit (feedNx f n) P c (204 + st)).2.1 (lbit (feedNx f n) P c (204 + st)).2.2 (216 + st)).2.1 (lbit (feedNx f n) (lbit (feedNx f n) P c (204 + st)).2.1 (lbit (feedNx f n) P c (204 + st)).2.2 (216 + st)).2.2 (228 + st)).1 := ⟨_, rfl⟩
      have hx1 : x ≤ 1 := by rw [hx]; exact bit_le _ _ _
      rw [← hx]
      show (if x = 0 then 4 else 5) = 2 + x + 2
      split <;> omega
theorem klit_D {L : LL} {s : LS} (h : RingOk L.n s) (hp : s.place = s.H.length) (c : RD Nat) (v : Int) : klit (cdrD a n cap f lo gd) s c v = llit (feedNx f n) L s c := by
  unfold klit llit krow LS.row
  rw [klitGo_D, backD_ring h, backD_ring h, hp]
theorem afterL_next (st y o : Nat) : afterL st y o = nextL st y o := rfl
/-- a match: the state, the decoder, the length, where the decoder is good behind it. -/
theorem kmid1_D (s : LS) (c : RD Nat) (sp : Nat) (kind l : Int) (dist : Nat) (he : s.ended = false) (hg : (lfresh (feedNx f n) s c sp).2.2.bad = false) (m : LS × RD Nat × Nat) (hm : m = kmid1 (cdrD a n cap f lo gd) s sp kind dist (klen (cdrD a n cap f lo gd) s.P c 819 sp l)) :
    m.1 = (lfresh (feedNx f n) s c sp).2.1 ∧ m.2.1 = (lfresh (feedNx f n) s c sp).2.2 ∧ (m.1.ended = false → m.2.2 = (lfresh (feedNx f n) s c sp).1) := by
  obtain ⟨e1, e2⟩ := klen_D a n cap f lo gd s.P c 819 sp l
  obtain ⟨q, hq⟩ : ∃ q, q = ltell (feedNx f n) s.P c 819 sp := ⟨_, rfl⟩
  obtain ⟨r, hr⟩ : ∃ r, r = klen (cdrD a n cap f lo gd) s.P c 819 sp l := ⟨_, rfl⟩
  obtain ⟨wd, hwd⟩ : ∃ w, w = if kind = 7 then 4294967295 else dist := ⟨_, rfl⟩
  unfold lfresh at hg ⊢
  unfold kmid1 at hm
  rw [← hr, ← hwd] at hm
  rw [← hq] at hg ⊢
  rw [← hq, ← hr] at e1 e2
  dsimp only at hg ⊢
  have hqg : q.2.2.bad = false := by
    cases hb : q.2.2.bad
    · rfl
    · have h1 := kdist_D a n cap f lo gd q.2.1 q.2.2 q.1 0
      have h2 : (kdist (cdrD a n cap f lo gd) q.2.1 q.2.2 q.1 0).2.2.bad = true := by
        have key : ∀ (i : Nat) (P : Nat → Int) (c : RD Nat) (o m : Nat) (v : Int), c.bad = true → (ktreeGo (cdrD a n cap f lo gd) o v i P c m).2 = (P, c) := by
          intro i
          induction i with
          | zero => intro P c o m v _; rfl
          | succ i ih =>
            intro P c o m v h
            unfold ktreeGo
            rw [kbit_D, lbit_bad _ _ _ _ h]
            exact ih P c o _ v h
        have k1 : (ktree (cdrD a n cap f lo gd) q.2.1 q.2.2 (432 + 64 * min q.1 3) 6 ((slotL 0 : Nat) : Int)).2 = (q.2.1, q.2.2) := key 6 _ _ _ _ _ hb
        unfold kdist
        obtain ⟨t, ht⟩ : ∃ t, t = ktree (cdrD a n cap f lo gd) q.2.1 q.2.2 (432 + 64 * min q.1 3) 6 ((slotL 0 : Nat) : Int) := ⟨_, rfl⟩
        rw [← ht] at k1 ⊢
        have hb2 : t.2.2.bad = true := by rw [k1]; exact hb
        unfold kdist2
        split
        · exact hb2
        · split
          · show (krev (cdrD a n cap f lo gd) t.2.1 t.2.2 _ _ _).2.2.bad = true
            rw [krev_bad a n cap f lo gd _ _ _ _ _ hb2]
            exact hb2
          · show (krev (cdrD a n cap f lo gd) t.2.1 (t.2.2.str (feedNx f n) (slotN t.1 - 4)).2 803 4 _).2.2.bad = true
            rw [kstr_bad _ _ _ hb2, krev_bad a n cap f lo gd _ _ _ _ _ hb2]
            exact hb2
      rw [h1.1, hg] at h2
      cases h2
  have e3 := e2 hqg
  have hrq : r = q := Prod.ext e3 e1
  subst hrq
  obtain ⟨g1, g2⟩ := kdist_D a n cap f lo gd r.2.1 r.2.2 r.1 wd
  have g3 := g2 hg
  obtain ⟨D, hD⟩ : ∃ D, D = kdist (cdrD a n cap f lo gd) r.2.1 r.2.2 r.1 wd := ⟨_, rfl⟩
  obtain ⟨X, hX⟩ : ∃ X, X = ldist (feedNx f n) r.2.1 r.2.2 r.1 := ⟨_, rfl⟩
  rw [← hD] at g1 g3 hm
  rw [← hX] at g1 g3 hg ⊢
  have hDX : D = X := Prod.ext g3 g1
  subst hDX
  have hbK : (cdrD a n cap f lo gd).bad D.2.2 = D.2.2.bad := rfl
  rw [hm]
  dsimp only
  rw [hbK, hg, he]
  refine ⟨?_, rfl, ?_⟩
  · have e : (D.1 == 4294967295) = decide (D.1 = 4294967295) := rfl
    rw [e]
    simp [afterL_next]
  · intro hE
    have hE' : decide (D.1 = 4294967295) = false := by simpa using hE
    have e : (D.1 == 4294967295) = false := hE'
    rw [e]
    rfl
end
end Go.Proofs.Ytjnegcambbeblaa

/- The document's walk over its decoder, plain: a packet is the program's. -/
namespace Go.Proofs.Ytjnegcambbeblaa
open Go.RowKit

theorem rotL_zero (r : Nat → Nat) : rotL r 0 = r := by
  funext i
  unfold rotL updN shiftL
  by_cases h : i = 0
  · subst h; rfl
  · rw [if_neg h, if_neg (by omega)]
section
variable (a : Option Addr) (n cap : Nat) (f : Nat → Int) (lo gd : Nat)
/-- an elder distance: the state, the decoder, the length, where the decoder is good behind it. -/
theorem kmid2_D (s : LS) (c : RD Nat) (sp j : Nat) (l : Int) (hg : (lagEnd (feedNx f n) { s with rep := if j = 0 then s.rep else rotL s.rep j } c sp).2.2.bad = false) :
    kmid2 s j (klen (cdrD a n cap f lo gd) s.P c 1333 sp l) = ((lagEnd (feedNx f n) { s with rep := if j = 0 then s.rep else rotL s.rep j } c sp).2.1, (lagEnd (feedNx f n) { s with rep := if j = 0 then s.rep else rotL s.rep j } c sp).2.2, (lagEnd (feedNx f n) { s with rep := if j = 0 then s.rep else rotL s.rep j } c sp).1) := by
  obtain ⟨e1, e2⟩ := klen_D a n cap f lo gd s.P c 1333 sp l
  unfold lagEnd at hg ⊢
  dsimp only at hg ⊢
  have hrq : klen (cdrD a n cap f lo gd) s.P c 1333 sp l = ltell (feedNx f n) s.P c 1333 sp := Prod.ext (e2 hg) e1
  unfold kmid2
  rw [hrq]
  have hr : (if j = 0 then s.rep else rotL s.rep j) = rotL s.rep j := by
    split
    · rename_i h; rw [h, rotL_zero]
    · rfl
  rw [hr]
  rfl
/-- what the document copies, where the distance is there: bytes one by one. -/
def copyH (N : Nat) : Nat → List Int → Nat → List Int
  | 0, H, _ => H
  | k + 1, H, d => copyH N k (H ++ [backH H N d]) d
theorem copyH_len (N : Nat) : ∀ (k : Nat) (H : List Int) (d : Nat), (copyH N k H d).length = H.length + k
  | 0, H, d => rfl
  | k + 1, H, d => by
    unfold copyH
    rw [copyH_len N k, List.length_append]
    show H.length + 1 + k = _
    omega
/-- a ring that holds what the document looks at, for every number of bytes up to a bound. -/
def RingUp (N dict M : Nat) : Prop := ∀ m d, m ≤ M → (d < min m N ↔ (d < m ∧ d < dict))
theorem RingUp.ok {N M : Nat} {s : LS} (h : RingUp N s.dict M) (hm : s.H.length ≤ M) : RingOk N s := fun d => h _ d hm
theorem kcopy_D {N M : Nat} : ∀ (k i : Nat) (s : LS), RingUp N s.dict M → s.H.length + k ≤ M → s.rep 0 < s.H.length → s.rep 0 < s.dict → kcopy k i s = ({ s with H := copyH N k s.H (s.rep 0) }, i + k)
  | 0, i, s, _, _, _, _ => rfl
  | k + 1, i, s, hr, hM, h1, h2 => by
    have hb := backD_ring (hr.ok (s := s) (by omega)) (s.rep 0)
    have hlt : s.rep 0 < min s.H.length N := (hr s.H.length (s.rep 0) (by omega)).2 ⟨h1, h2⟩
    unfold kcopy
    rw [hb]
    dsimp only
    rw [if_pos (decide_eq_true hlt)]
    have ih := kcopy_D k (i + 1) { s with H := s.H ++ [backH s.H N (s.rep 0)] } hr (by show (s.H ++ [_]).length + k ≤ M; simp; omega) (by show s.rep 0 < (s.H ++ [_]).length; simp; omega) h2
    rw [ih]
    show (_, i + 1 + k) = (_, i + (k + 1))
    rw [show i + 1 + k = i + (k + 1) by omega]
    rfl
/-- the program's copying, byte by byte. -/
theorem lnext2_run {S : Type} (L : LL) (d : RD S) : ∀ (k : Nat) (s : LS), s.left = k → ∃ s' : LS, s' = { s with left := 0, place := s.place + k, H := copyH L.n k s.H (s.rep 0) } ∧ Nat.rec (motive := fun _ => LS) s (fun _ t => (lnext2 L t d).2.1) k = s'
  | 0, s, h => ⟨_, rfl, by
    show s = _
    have : ({ s with left := 0, place := s.place + 0, H := copyH L.n 0 s.H (s.rep 0) } : LS) = s := by
      cases s
      cases h
      rfl
    exact this.symm⟩
  | k + 1, s, h => by
    refine ⟨_, rfl, ?_⟩
    have key : ∀ (k : Nat) (t : LS), Nat.rec (motive := fun _ => LS) t (fun _ t => (lnext2 L t d).2.1) (k + 1) = Nat.rec (motive := fun _ => LS) (lnext2 L t d).2.1 (fun _ t => (lnext2 L t d).2.1) k := by
      intro k t
      induction k with
      | zero => rfl
      | succ k ih =>
        show (lnext2 L (Nat.rec (motive := fun _ => LS) t (fun _ t => (lnext2 L t d).2.1) (k + 1)) d).2.1 = _
        rw [ih]
    rw [key]
    have h1 : (lnext2 L s d).2.1 = { s with left := k, place := s.place + 1, H := s.H ++ [backH s.H L.n (s.rep 0)] } := by
      unfold lnext2
      rw [if_neg (by omega)]
      show ({ s with left := s.left - 1, place := s.place + 1, H := s.H ++ [backH s.H L.n (s.rep 0)] } : LS) = _
      rw [h]
      rfl
    rw [h1]
    obtain ⟨s', e1, e2⟩ := lnext2_run L d k { s with left := k, place := s.place + 1, H := s.H ++ [backH s.H L.n (s.rep 0)] } rfl
    rw [e2, e1]
    show ({ s with left := 0, place := s.place + 1 + k, H := copyH L.n k (s.H ++ [backH s.H L.n (s.rep 0)]) (s.rep 0) } : LS) = { s with left := 0, place := s.place + (k + 1), H := copyH L.n k (s.H ++ [backH s.H L.n (s.rep 0)]) (s.rep 0) }
    rw [show s.place + 1 + k = s.place + (k + 1) by omega]
end
end Go.Proofs.Ytjnegcambbeblaa

/- The document's walk over its decoder, plain: a packet told well is the program's packet. -/
namespace Go.Proofs.Ytjnegcambbeblaa
open Go.RowKit

section
variable (a : Option Addr) (n cap : Nat) (f : Nat → Int) (lo gd : Nat)
/-- the document keeps no place and nothing left. -/
def bare (s : LS) : LS := { s with place := 0, left := 0 }
theorem kpacket_lit {L : LL} {s : LS} (c : RD Nat) (p : PkV) (hr : RingOk L.n s) (hp : s.place = s.H.length) (hb : s.bad = false) (h1 : (lpacket (feedNx f n) L s c).1.2 = true) :
    kpacket (cdrD a n cap f lo gd) (bare s) c p = (bare { (lpacket (feedNx f n) L s c).2.1 with H := s.H ++ [(((lpacket (feedNx f n) L s c).1.1 : Nat) : Int)] }, (lpacket (feedNx f n) L s c).2.2, 1) := by
  unfold lpacket at h1 ⊢
  dsimp only at h1 ⊢
  by_cases h0 : (lbit (feedNx f n) s.P c (16 * s.st + s.place % 2 ^ s.pb)).1 = 0
  · rw [if_pos h0] at h1 ⊢
    have hk : kkind (cdrD a n cap f lo gd) (bare s) c (s.place % 2 ^ s.pb) p.kind = ((0, false), (lbit (feedNx f n) s.P c (16 * s.st + s.place % 2 ^ s.pb)).2) := by
      unfold kkind kkind0
      rw [kbit_D]
      exact if_pos h0
    have hbad : (llit (feedNx f n) L { s with P := (lbit (feedNx f n) s.P c (16 * s.st + s.place % 2 ^ s.pb)).2.1 } (lbit (feedNx f n) s.P c (16 * s.st + s.place % 2 ^ s.pb)).2.2).2.2.bad = false := by
      simpa using h1
    have hl := klit_D a n cap f lo gd (L := L) (s := { s with P := (lbit (feedNx f n) s.P c (16 * s.st + s.place % 2 ^ s.pb)).2.1 }) hr hp (lbit (feedNx f n) s.P c (16 * s.st + s.place % 2 ^ s.pb)).2.2 p.byte
    unfold kpacket
    rw [show (bare s).H.length % 2 ^ (bare s).pb = s.place % 2 ^ s.pb by rw [hp]; rfl, hk]
    unfold kpacket2
    rw [if_pos rfl]
    have hl2 : klit (cdrD a n cap f lo gd) { bare s with P := (lbit (feedNx f n) s.P c (16 * s.st + s.place % 2 ^ s.pb)).2.1, bad := (bare s).bad || false } (lbit (feedNx f n) s.P c (16 * s.st + s.place % 2 ^ s.pb)).2.2 p.byte = llit (feedNx f n) L { s with P := (lbit (feedNx f n) s.P c (16 * s.st + s.place % 2 ^ s.pb)).2.1 } (lbit (feedNx f n) s.P c (16 * s.st + s.place % 2 ^ s.pb)).2.2 := hl
    show klitP (cdrD a n cap f lo gd) { bare s with P := (lbit (feedNx f n) s.P c (16 * s.st + s.place % 2 ^ s.pb)).2.1, bad := (bare s).bad || false } (klit (cdrD a n cap f lo gd) { bare s with P := (lbit (feedNx f n) s.P c (16 * s.st + s.place % 2 ^ s.pb)).2.1, bad := (bare s).bad || false } (lbit (feedNx f n) s.P c (16 * s.st + s.place % 2 ^ s.pb)).2.2 p.byte) = _
    rw [hl2]
    unfold klitP
    rw [if_neg (by show ¬ (llit (feedNx f n) L _ _).2.2.bad = true; rw [hbad]; decide)]
    rw [hbad]
    have e : ((bare s).bad || false) = false := by show (s.bad || false) = false; rw [hb]; rfl
    rw [e]
    rfl
  · rw [if_neg h0] at h1
    split at h1
    · cases h1
    · split at h1
      · cases h1
      · cases h1
end
end Go.Proofs.Ytjnegcambbeblaa

/- The document's walk over its decoder, plain: a packet that copies is the program's packet, copied out. -/
namespace Go.Proofs.Ytjnegcambbeblaa
open Go.RowKit

theorem lpEnd_good {S : Type} (L : LL) (s : LS) (d : RD S) (h : (lpEnd L s d).left ≠ 0) : lpEnd L s d = { s with bad := false } ∧ s.bad = false ∧ d.bad = false ∧ s.ended = false ∧ s.rep 0 < s.dict ∧ s.rep 0 < min s.H.length L.n := by
  unfold lpEnd at h ⊢
  by_cases h1 : ((s.bad || d.bad) || s.ended) = true
  · rw [if_pos h1] at h; exact absurd rfl h
  · rw [if_neg h1] at h ⊢
    have h1' : ((s.bad || d.bad) || s.ended) = false := by simpa using h1
    obtain ⟨e1, e2⟩ := Bool.or_eq_false_iff.1 h1'
    obtain ⟨e3, e4⟩ := Bool.or_eq_false_iff.1 e1
    by_cases h2 : s.dict ≤ s.rep 0 ∨ ¬ s.rep 0 < min s.H.length L.n
    · rw [if_pos h2] at h; exact absurd rfl h
    · rw [if_neg h2]
      refine ⟨by rw [e1], e3, e4, e2, by omega, ?_⟩
      by_cases h3 : s.rep 0 < min s.H.length L.n
      · exact h3
      · exact absurd (.inr h3) h2
section
variable (a : Option Addr) (n cap : Nat) (f : Nat → Int) (lo gd : Nat)
/-- what is behind the switch, where all is good. -/
theorem kend_D {N M : Nat} (m : LS × RD Nat × Nat) (hb : m.2.1.bad = false) (hs : m.1.bad = false) (he : m.1.ended = false) (hr : RingUp N m.1.dict M) (hM : m.1.H.length + m.2.2 ≤ M) (h1 : m.1.rep 0 < m.1.H.length) (h2 : m.1.rep 0 < m.1.dict) :
    kend (cdrD a n cap f lo gd) m = ({ m.1 with H := copyH N m.2.2 m.1.H (m.1.rep 0) }, m.2.1, m.2.2) := by
  have e : (if (cdrD a n cap f lo gd).bad m.2.1 = true then { m.1 with bad := true } else m.1) = m.1 := if_neg (by show ¬ m.2.1.bad = true; rw [hb]; decide)
  unfold kend
  rw [e]
  unfold kend2
  rw [if_neg (by rw [hs, he]; decide), kcopy_D (N := N) (M := M) m.2.2 0 m.1 hr hM h1 h2, Nat.zero_add]
theorem kpacket_far {L : LL} {M : Nat} {s : LS} (c : RD Nat) (p : PkV) (hr : RingUp L.n s.dict M) (hp : s.place = s.H.length) (hb : s.bad = false) (he : s.ended = false)
    (h0 : (lbit (feedNx f n) s.P c (16 * s.st + s.place % 2 ^ s.pb)).1 ≠ 0) (h1 : (lbit (feedNx f n) (lbit (feedNx f n) s.P c (16 * s.st + s.place % 2 ^ s.pb)).2.1 (lbit (feedNx f n) s.P c (16 * s.st + s.place % 2 ^ s.pb)).2.2 (192 + s.st)).1 = 0)
    (ht : (lpacket (feedNx f n) L s c).2.1.left ≠ 0) (hM : s.H.length + (lpacket (feedNx f n) L s c).2.1.left ≤ M) :
    kpacket (cdrD a n cap f lo gd) (bare s) c p = (bare { (lpacket (feedNx f n) L s c).2.1 with H := copyH L.n (lpacket (feedNx f n) L s c).2.1.left s.H ((lpacket (feedNx f n) L s c).2.1.rep 0) }, (lpacket (feedNx f n) L s c).2.2, (lpacket (feedNx f n) L s c).2.1.left) := by
  obtain ⟨r1, hr1⟩ : ∃ r, r = lbit (feedNx f n) (lbit (feedNx f n) s.P c (16 * s.st + s.place % 2 ^ s.pb)).2.1 (lbit (feedNx f n) s.P c (16 * s.st + s.place % 2 ^ s.pb)).2.2 (192 + s.st) := ⟨_, rfl⟩
  obtain ⟨F, hF⟩ : ∃ F, F = lfresh (feedNx f n) { s with P := r1.2.1 } r1.2.2 (s.place % 2 ^ s.pb) := ⟨_, rfl⟩
  have hpk : lpacket (feedNx f n) L s c = ((0, false), lpEnd L { F.2.1 with left := F.1 } F.2.2, F.2.2) := by
    unfold lpacket
    dsimp only
    rw [if_neg h0, if_pos h1, hF, hr1]
  rw [hpk] at ht hM ⊢
  obtain ⟨g1, g2, g3, g4, g5, g6⟩ := lpEnd_good L { F.2.1 with left := F.1 } F.2.2 ht
  dsimp only at hM ⊢
  rw [g1] at hM ⊢
  have hk : kkind (cdrD a n cap f lo gd) (bare s) c (s.place % 2 ^ s.pb) p.kind = ((1, false), r1.2) := by
    unfold kkind kkind0
    rw [kbit_D]
    have h0' : ¬ (lbit (feedNx f n) (bare s).P c (16 * (bare s).st + s.place % 2 ^ s.pb)).1 = 0 := h0
    rw [if_neg h0']
    unfold kkind1
    rw [kbit_D, hr1]
    exact if_pos h1
  unfold kpacket
  rw [show (bare s).H.length % 2 ^ (bare s).pb = s.place % 2 ^ s.pb by rw [hp]; rfl, hk]
  obtain ⟨S, hS⟩ : ∃ S : LS, S = { bare s with P := r1.2.1, bad := (bare s).bad || false } := ⟨_, rfl⟩
  show kpacket2 (cdrD a n cap f lo gd) { bare s with P := r1.2.1, bad := (bare s).bad || false } r1.2.2 (s.place % 2 ^ s.pb) p 1 = _
  rw [← hS]
  unfold kpacket2
  rw [if_neg (by decide)]
  unfold kmid
  rw [if_pos rfl]
  have hSF : lfresh (feedNx f n) S r1.2.2 (s.place % 2 ^ s.pb) = (F.1, { F.2.1 with place := 0, left := 0, bad := (s.bad || false) }, F.2.2) := by
    rw [hS, hF]
    rfl
  obtain ⟨m, hm⟩ : ∃ m, m = kmid1 (cdrD a n cap f lo gd) S (s.place % 2 ^ s.pb) p.kind p.dist (klen (cdrD a n cap f lo gd) S.P r1.2.2 819 (s.place % 2 ^ s.pb) (if p.kind = 7 then 0 else p.len - 2)) := ⟨_, rfl⟩
  have hD := kmid1_D a n cap f lo gd S r1.2.2 (s.place % 2 ^ s.pb) p.kind (if p.kind = 7 then 0 else p.len - 2) p.dist (by rw [hS]; exact he) (by rw [hSF]; exact g3) m hm
  rw [hSF] at hD
  obtain ⟨d1, d2, d3⟩ := hD
  have hme : m.1.ended = false := by rw [d1]; exact g4
  have d4 := d3 hme
  rw [← hm]
  have hsb : (s.bad || false) = false := by rw [hb]; rfl
  rw [hsb] at d1
  have hFH : F.2.1.H = s.H ∧ F.2.1.dict = s.dict := by rw [hF]; exact ⟨rfl, rfl⟩
  have hmH : m.1.H = s.H := by rw [d1]; exact hFH.1
  have hmd : m.1.dict = s.dict := by rw [d1]; exact hFH.2
  have hmr : m.1.rep 0 = F.2.1.rep 0 := by rw [d1]
  have g5' : F.2.1.rep 0 < F.2.1.dict := g5
  have g6' : F.2.1.rep 0 < min F.2.1.H.length L.n := g6
  rw [kend_D a n cap f lo gd (N := L.n) (M := M) m (by rw [d2]; exact g3) (by rw [d1]) hme (by rw [hmd]; exact hr) (by rw [hmH, d4]; exact hM) (by rw [hmr, hmH, ← hFH.1]; omega) (by rw [hmr, hmd, ← hFH.2]; exact g5')]
  rw [d4, d2, hmH, hmr, d1]
  rfl
end
end Go.Proofs.Ytjnegcambbeblaa

/- src: a cursor over four bytes: New, Num(4); Put of four bytes. -/
namespace Go.Proofs.Ytjnegcambbeblaa
open Go.RowKit

def CurAt (w : World) (g : Nat) (a : Option Addr) (n c : Nat) (at_ : Int) : Prop := w.heap[g]? = some (.cells #[.slice a n c, .int .i64 at_, .int .i64 0] 171)
def CurNewPost (w : World) (n : Nat) (f : Nat → Int) (e : Ending) (w' : World) : Prop :=
  ∃ g a' c', e = .returned (.pointer (some ⟨g, 0, none⟩)) ∧ Fr Non w w' ∧ CurAt w' g a' n c' 0 ∧ RowIn g .u8 w' a' n f ∧ n ≤ c' ∧ c' ≤ maxLen ∧ w.heap.size ≤ g ∧ g < w'.heap.size
set_option maxRecDepth 100000 in
theorem curNew_any (a : Option Addr) (n c : Nat) (f : Nat → Int) (w : World) (hn : n ≤ 1048576) (hnc : n ≤ c) (hnil : a = none → c = 0) (h : RowIn w.heap.size .u8 w a n f) :
    Calls Try.prog 69 #[.slice a n c] w (CurNewPost w n f) := by
  have H := hid h
  have Hnil := hid hnil
  clear h hnil
  go_enter Try.func69, Try.ntmps69
  go_wp2_with fail
  refine (clone_any a n c f _ hn hnc Hnil.out H.out).mono ?_
  rintro e w1 ⟨a', c', rfl, hf1, hr1, hn1, hc1, hb1⟩
  have HF := hid hf1
  have HR := hid hr1
  clear hf1 hr1 hb1
  go_wp2
  go_ret
  exact ⟨w1.heap.size, a', c', rfl, HF.out.alloc _, blk_new _ _, HR.out.fr ((Fr.refl Non _).alloc _) (fun _ _ => id), hn1, hc1, HF.out.size, by simp⟩
theorem sized4 (w : World) : Calls Try.prog 99 #[.int .i64 4] w fun e w' => e = .returned (.bool true) ∧ w = w' := by
  go_enter Try.func99, Try.ntmps99
  go_wp2
  go_ret
  exact ⟨rfl, rfl⟩
theorem curLeft_any (w : World) (g : Nat) (a : Option Addr) (n c : Nat) (hn : n ≤ 1048576) (h : CurAt w g a n c 0) : Calls Try.prog 120 #[.pointer (some ⟨g, 0, none⟩)] w fun e w' => e = .returned (.int .i64 n) ∧ Fr Non w w' := by
  have c0 := blk_cell h (j := 0) (v := .slice a n c) rfl
  have c1 := blk_cell h (j := 1) (v := .int .i64 0) rfl
  have hw : IntKind.i64.wrap (n : Int) = (n : Int) := by rw [IntKind.wrap_i64]; omega
  clear h
  go_enter Try.func120, Try.ntmps120
  go_upto_region 1 with fail
  go_quiet (fail)
  go_wp2
  go_ret
  refine ⟨?_, (Fr.refl Non _).drewN _⟩
  first
    | rfl
    | (congr 2; omega)
/-- the number of k bytes, the least first. -/
def leN (f : Nat → Int) : Nat → Int
  | 0 => 0
  | k + 1 => leN f k + f k * 256 ^ k
theorem leN_bd {f : Nat → Int} : ∀ k, (∀ i, i < k → 0 ≤ f i ∧ f i < 256) → 0 ≤ leN f k ∧ leN f k < 256 ^ k
  | 0, _ => ⟨Int.le_refl _, by show (0 : Int) < 1; decide⟩
  | k + 1, h => by
    obtain ⟨h1, h2⟩ := leN_bd k (fun i hi => h i (by omega))
    obtain ⟨h3, h4⟩ := h k (by omega)
    have hp : (0 : Int) < 256 ^ k := Int.pow_pos (by decide)
    show 0 ≤ leN f k + f k * 256 ^ k ∧ leN f k + f k * 256 ^ k < 256 ^ (k + 1)
    rw [Int.pow_succ]
    generalize (256 : Int) ^ k = X at *
    have h5 : 0 ≤ f k * X := Int.mul_nonneg h3 (by omega)
    have h6 : f k * X ≤ 255 * X := Int.mul_le_mul_of_nonneg_right (by omega) (by omega)
    omega
theorem u64_low (a x : Int) (k : Nat) (h0 : 0 ≤ x) (h1 : x < 2 ^ k) (ha : 0 ≤ a) (hk : k ≤ 56) (ha2 : a < 256) : bits .or .u64 x (a * 2 ^ k) = x + a * 2 ^ k := by
  obtain ⟨m, rfl⟩ := Int.eq_ofNat_of_zero_le ha
  obtain ⟨y, rfl⟩ := Int.eq_ofNat_of_zero_le h0
  have hp : 2 ^ k ≤ 2 ^ 56 := Nat.pow_le_pow_right (by decide) hk
  have e1 : (m : Int) * 2 ^ k = ((m * 2 ^ k : Nat) : Int) := by push_cast; rfl
  have h1' : y < 2 ^ k := by
    have e : ((2 : Int) ^ k) = ((2 ^ k : Nat) : Int) := by push_cast; rfl
    rw [e] at h1
    exact Int.ofNat_lt.1 h1
  have hm : m * 2 ^ k ≤ 255 * 2 ^ 56 := Nat.mul_le_mul (by omega) hp
  rw [e1, u64_or_nat y (m * 2 ^ k) (by omega) (by omega), Nat.or_comm, nat_or_low m y k h1']
  push_cast
  omega
theorem wrap_u64q (n : Int) : IntKind.u64.wrap n = n % 18446744073709551616 := by simp [IntKind.wrap, IntKind.bits, IntKind.signed]
def TakePost (w : World) (g : Nat) (f : Nat → Int) (e : Ending) (w' : World) : Prop :=
  ∃ a' c', e = .returned (.slice a' 4 c') ∧ Fr (fun k => k = g) w w' ∧ RowIn w'.heap.size .u8 w' a' 4 f
set_option maxRecDepth 100000 in
set_option maxHeartbeats 800000 in
theorem take4 (w : World) (g : Nat) (a : Option Addr) (c : Nat) (f : Nat → Int) (h : CurAt w g a 4 c 0) (hc : 4 ≤ c) (hcm : c ≤ maxLen) (hr : RowIn g .u8 w a 4 f) :
    Calls Try.prog 102 #[.pointer (some ⟨g, 0, none⟩), .int .u64 4] w (TakePost w g f) := by
  obtain ⟨b, off, rfl, hB, hx⟩ := hr.at (show 0 < 4 by decide)
  have HA := hid h
  have HR := hid hr
  unfold maxLen at hcm
  have c2 := blk_cell h (j := 2) (v := .int .i64 0) rfl
  clear h hr hx
  go_enter Try.func102, Try.ntmps102
  go_wp2_with fail
  refine (curLeft_any w g _ 4 c (by decide) HA.out).mono ?_
  rintro e w1 ⟨rfl, hf1⟩
  have h1 := hf1.blk HA.out id
  have c0 := blk_cell h1 (j := 0) (v := .slice (some ⟨b, off, none⟩) 4 c) rfl
  have c1 := blk_cell h1 (j := 1) (v := .int .i64 0) rfl
  have c2 := blk_cell h1 (j := 2) (v := .int .i64 0) rfl
  have z1 := blk_frozen h1 1
  have H1 := hid h1
  have HR1 := hid (HR.out.fr hf1 (fun _ _ e => e))
  have F1 := hid hf1
  clear h1 hf1
  have hc9 : (4 : Int) ≤ (c : Int) := by omega
  have hc8 : ¬ c = 0 := by omega
  have hw4 : IntKind.i64.wrap 4 = 4 := by decide
  have hc7 : ¬ (c : Int) = 0 := by omega
  go_upto_region 4 with fail
  go_cut [5] (fun v wx => ∃ a' c', v = .slice a' 4 c' ∧ Fr Non w1 wx ∧ RowIn wx.heap.size .u8 wx a' 4 f ∧ ∀ ad, a' = some ad → g < ad.block)
  case first =>
    have hcl := hid (fun W (hW : Fr Non w1 W) => clone_any (some ⟨b, off, none⟩) 4 c f W (by decide) hc (fun e => by cases e) ((HR1.out.fr hW (fun _ _ e => e)).mono (Nat.le_of_lt (Nat.lt_of_lt_of_le (blk_lt H1.out) hW.size))))
    go_region_with (first | (go_at_call 59; refine (hcl.out _ (by repeat (first | exact Fr.refl _ _ | refine Fr.drewN ?_ _ | refine Fr.drew ?_))).mono ?_; rintro e wm ⟨a', c', rfl, hfm, hrm, _, _, hbm⟩; have HFM := hid hfm; have HRM := hid hrm; have HBM := hid (show ∀ ad, a' = some ad → g < ad.block from fun ad e => Nat.lt_of_lt_of_le (Nat.lt_of_lt_of_le (blk_lt H1.out) (Fr.size (S := Non) (by repeat (first | exact Fr.refl _ _ | refine Fr.drewN ?_ _ | refine Fr.drew ?_)))) (hbm ad e).1); clear hfm hrm hbm) | fail)
    all_goals
      go_wp2_with fail
      go_meet
      exact ⟨a', c', rfl, Fr.trans (by repeat (first | exact Fr.refl _ _ | refine Fr.drewN ?_ _ | refine Fr.drew ?_)) HFM.out, HRM.out, HBM.out⟩
  case rest =>
    obtain ⟨a', c', rfl, hf2, hr2, hb2⟩ := hcut
    obtain ⟨w2, hw2⟩ : ∃ w2, w2 = wc := ⟨_, rfl⟩
    rw [← hw2] at hf2 hr2 ⊢
    have h2 := hf2.blk H1.out id
    clear hw2 c0 c1 c2 z1
    have c1 := blk_cell h2 (j := 1) (v := .int .i64 0) rfl
    have z1 := blk_frozen h2 1
    have F2 := hid (F1.out.trans hf2)
    have R2 := hid hr2
    have B2 := hid hb2
    clear hf2 hr2 h2 hb2
    go_wp2_with fail
    go_ret
    have hf3 : Fr (fun k => k = g) w2 (w2.setCell ⟨g, 1, none⟩ (.int .i64 4)) := (Fr.refl _ _).setOne _ _
    refine ⟨a', c', rfl, F2.out.any.trans hf3, ?_⟩
    rcases R2.out with h | ⟨b, off, e, hb, hc⟩
    · cases h
    · exact .inr ⟨b, off, e, by simpa using hb, fun i hi => hf3.cell (hc i hi) (fun e1 => by have e2 : b = g := e1; have h9 : g < b := B2.out _ e; omega)⟩
set_option maxRecDepth 100000 in
set_option maxHeartbeats 800000 in
theorem least4 (a : Option Addr) (c B : Nat) (f : Nat → Int) (w : World) (hr : RowIn B .u8 w a 4 f) (hf : ∀ i, i < 4 → 0 ≤ f i ∧ f i < 256) :
    Calls Try.prog 101 #[.slice a 4 c] w fun e w' => e = .returned (.int .u64 (leN f 4)) ∧ w = w' := by
  have HR := hid hr
  have HF := hid hf
  clear hr hf
  go_enter Try.func101, Try.ntmps101
  go_wp2_with fail
  go_loopw [3, 8] (fun v i wr => ∃ k : Nat, k ≤ 4 ∧ i = .int .i64 k ∧ v = .int .u64 (leN f k) ∧ wr = w) (fun v i _ => 4 - (intOf i).toNat)
  case atStart => exact ⟨0, by decide, rfl, rfl, rfl⟩
  case round =>
    obtain ⟨k, hk, rfl, rfl, rfl⟩ := hrel
    by_cases hlt : k < 4
    · obtain ⟨b, off, rfl, hB, hx⟩ := HR.out.at hlt
      obtain ⟨hv0, hv1⟩ := leN_bd k (fun i hi => HF.out i (by omega))
      obtain ⟨hx0, hx1⟩ := HF.out k hlt
      have h0 : (0 : Int) ≤ (k : Int) := by omega
      have h1 : (k : Int) < 4 := by omega
      have HU := hid (u64_low (f k) (leN f k) (8 * k) hv0 (by rw [Int.pow_mul]; exact hv1) hx0 (by omega) hx1)
      have HV := hid (And.intro hv0 hv1)
      clear hv0 hv1
      obtain ⟨y, hy⟩ : ∃ y, y = leN f k := ⟨_, rfl⟩
      rw [← hy] at HU ⊢
      have HY := hid hy
      clear hy
      go_wp2_with fail
      have hw : IntKind.u64.wrap (f k * 2 ^ (8 * k)) = f k * 2 ^ (8 * k) := by
        rw [wrap_u64q]
        have hp : (2 : Int) ^ (8 * k) ≤ 2 ^ 24 := by
          have : 2 ^ (8 * k) ≤ 2 ^ 24 := Nat.pow_le_pow_right (by decide) (by omega)
          exact_mod_cast this
        have hp0 : (0 : Int) ≤ 2 ^ (8 * k) := Int.le_of_lt (Int.pow_pos (by decide))
        have h5 : 0 ≤ f k * 2 ^ (8 * k) := Int.mul_nonneg hx0 hp0
        have h6 : f k * 2 ^ (8 * k) ≤ 255 * 2 ^ 24 := Int.le_trans (Int.mul_le_mul_of_nonneg_right (by omega : f k ≤ 255) hp0) (Int.mul_le_mul_of_nonneg_left hp (by decide))
        exact Int.emod_eq_of_lt h5 (Int.lt_of_le_of_lt h6 (by decide))
      rw [hw, HU.out, HY.out]
      refine ⟨⟨k + 1, by omega, by go_num, ?_, trivial⟩, ?_⟩
      · congr 1
        show leN f k + f k * 2 ^ (8 * k) = leN f k + f k * 256 ^ k
        rw [Int.pow_mul]
        rfl
      · simp [intOf]; omega
    · have e : k = 4 := by omega
      subst e
      go_wp2_with fail
      go_ret
      exact ⟨rfl, rfl⟩
theorem num4 (w : World) (g : Nat) (a : Option Addr) (c : Nat) (f : Nat → Int) (h : CurAt w g a 4 c 0) (hc : 4 ≤ c) (hcm : c ≤ maxLen) (hr : RowIn g .u8 w a 4 f) (hf : ∀ i, i < 4 → 0 ≤ f i ∧ f i < 256) :
    Calls Try.prog 70 #[.pointer (some ⟨g, 0, none⟩), .int .i64 4] w fun e w' => e = .returned (.int .u64 (leN f 4)) ∧ Fr (fun k => k = g) w w' := by
  have H := hid h
  have HR := hid hr
  have HF := hid hf
  clear h hr hf
  go_enter Try.func70, Try.ntmps70
  go_wp2_with fail
  refine (sized4 _).mono ?_
  rintro e w1 ⟨rfl, rfl⟩
  go_wp2_with fail
  refine (take4 w g a c f H.out hc hcm HR.out).mono ?_
  rintro e w2 ⟨a', c', rfl, hf2, hr2⟩
  have F2 := hid hf2
  have R2 := hid hr2
  clear hf2 hr2
  go_wp2_with fail
  refine (least4 a' c' _ f w2 R2.out HF.out).mono ?_
  rintro e w3 ⟨rfl, rfl⟩
  go_wp2_with fail
  go_ret
  exact ⟨rfl, F2.out⟩
/-- a clone is a row of the call's own. -/
theorem clone_own (a : Option Addr) (n c : Nat) (f : Nat → Int) (w : World) (hn : n ≤ 1048576) (hnc : n ≤ c) (hnil : a = none → c = 0) (h : RowIn w.heap.size .u8 w a n f) :
    Calls Try.prog 59 #[.slice a n c] w fun e w' => ∃ v, e = .returned v ∧ Fr Non w w' ∧ Own w' w.heap.size .u8 5 v ((List.range n).map f) := by
  have H := hid h
  clear h
  cases a with
  | none =>
    have hc : c = 0 := hnil rfl
    have hn0 : n = 0 := by omega
    subst hc hn0
    clear hnil
    have k0 := fun wx : World => Lib.run_eql_slice_nil (P := Try.prog) wx 30 5 none 0 0 0 0 Try.underlying30
    go_enter Try.func59, Try.ntmps59
    go_wp2
    go_ret
    exact ⟨_, rfl, Fr.refl _ _, Own.nil _ _ _ _⟩
  | some ad =>
    clear hnil
    have k0 := fun wx : World => Lib.run_eql_slice_nil (P := Try.prog) wx 30 5 (some ad) n c 0 0 Try.underlying30
    go_enter Try.func59, Try.ntmps59
    go_wp2_with (refine opAppendRow (some 7) rfl rfl (.tmp 5) (.tmp 6) 30 rfl w.heap.size .u8 5 1 Try.underlying30 Try.info_u8 (.slice (some ⟨w.heap.size, 0, none⟩) 0 0) [] rfl (Own.empty w _ .u8 5 (Nat.le_refl _)) w.heap.size (some ad) n c f rfl (fun e => by cases e) hnc (H.out.fr ((Fr.refl Non _).alloc _) (fun _ _ => id)) (by decide) (by simp; omega) (by simp) ?_; intro v2 w2 hown2 hg2)
    go_ret
    exact ⟨_, rfl, clone_fr hg2, hown2⟩
/-- the bytes of a number, the least first. -/
def leB (v : Int) (k : Nat) : List Int := (List.range k).map (fun i => v / 256 ^ i % 256)
set_option maxRecDepth 100000 in
set_option maxHeartbeats 800000 in
theorem put4 (a : Option Addr) (c : Nat) (x v : Int) (w : World) (hr : RowIn w.heap.size .u8 w a 1 (fun _ => x)) (hc : 1 ≤ c) (hnil : a = none → c = 0) (hv0 : 0 ≤ v) (hv1 : v < 4294967296) :
    Calls Try.prog 71 #[.slice a 1 c, .int .i64 4, .int .u64 v] w fun e w' => ∃ u, e = .returned u ∧ Fr Non w w' ∧ RowO w' w.heap.size u (x :: leB v 4) := by
  have HR := hid hr
  have HNIL := hid hnil
  clear hr hnil
  go_enter Try.func71, Try.ntmps71
  go_wp2_with fail
  refine (clone_own a 1 c (fun _ => x) w (by decide) hc HNIL.out HR.out).mono ?_
  rintro e w1 ⟨v1, rfl, hf1, ho1⟩
  have F1 := hid hf1
  have O1 := hid ho1
  clear hf1 ho1
  go_wp2_with fail
  refine (sized4 _).mono ?_
  rintro e w2 ⟨rfl, rfl⟩
  go_wp2_with fail
  go_loopw [7, 2, 15] (fun u y i wr => ∃ k : Nat, k ≤ 4 ∧ i = .int .i64 k ∧ y = .int .u64 (v / 256 ^ k) ∧ Fr Non w wr ∧ Own wr w.heap.size .u8 5 u (x :: leB v k)) (fun u y i _ => 4 - (intOf i).toNat)
  case atStart => exact ⟨0, by decide, rfl, by simp, F1.out, O1.out⟩
  case round =>
    obtain ⟨k, hk, rfl, rfl, hfr, hown⟩ := hrel
    have HFR := hid hfr
    have HOW := hid hown
    clear hfr hown
    by_cases hlt : k < 4
    · have h1 : (k : Int) < 4 := by omega
      have h0 : (0 : Int) ≤ (k : Int) := by omega
      have hyw : IntKind.u8.wrap (v / 256 ^ k) = v / 256 ^ k % 256 := by rw [IntKind.wrap_u8]
      have hsz := HFR.out.size
      have hl4 : (x :: leB v k).length ≤ 5 := by simp [leB]; omega
      go_wp2_with (refine opAppend1 (some 21) rfl rfl (.tmp 17) (.tmp 20) 30 rfl w.heap.size .u8 5 1 Try.underlying30 Try.info_u8q _ _ rfl (by exact HOW.out.alloc _) ⟨_, 0, none⟩ 1 _ rfl (cell_new1 _ _ _) (by decide) (by omega) (by simp; omega) ?_; intro v6 w6 hown6 hg6)
      have hf6 : Fr Non w w6 := Fr.grown (HFR.out.alloc _) hg6 (fun b hb hlt => by have := (HOW.out.block b hb).1; omega)
      have e1 : v / 256 ^ k / 256 = v / 256 ^ (k + 1) := by
        obtain ⟨m, rfl⟩ := Int.eq_ofNat_of_zero_le hv0
        have e : ((256 : Int) ^ k) = ((256 ^ k : Nat) : Int) := by push_cast; rfl
        have e2 : ((256 : Int) ^ (k + 1)) = ((256 ^ (k + 1) : Nat) : Int) := by push_cast; rfl
        rw [e, e2]
        have e3 : m / 256 ^ k / 256 = m / 256 ^ (k + 1) := by rw [Nat.div_div_eq_div_mul, Nat.pow_succ]
        exact_mod_cast e3
      have e2 : x :: leB v (k + 1) = x :: leB v k ++ [v / 256 ^ k % 256] := by
        unfold leB; rw [List.range_succ, List.map_append]; rfl
      refine ⟨⟨k + 1, by omega, by go_num, by rw [e1], hf6, ?_⟩, ?_⟩
      · rw [e2]
        first
          | exact hown6
          | (rw [hyw] at hown6; exact hown6)
      · simp [intOf]; omega
    · have e : k = 4 := by omega
      subst e
      go_wp2_with fail
      go_ret
      exact ⟨_, rfl, HFR.out, HOW.out.rowO⟩
end Go.Proofs.Ytjnegcambbeblaa

/- Bytes, of equal rows. -/
namespace Go.Proofs.Ytjnegcambbeblaa
open Go.RowKit

/-- Bytes only reads. -/
theorem bytes_q (a b : Option Addr) (n c1 c2 : Nat) (f g : Nat → Int) (w : World) (hn : n ≤ 4611686018427387904) (B : Nat)
    (ha : RowIn B .u8 w a n f) (hb : RowIn B .u8 w b n g) (hfg : ∀ i, i < n → f i = g i) :
    Calls Try.prog 19 #[.slice a n c1, .slice b n c2] w fun e w' => e = .returned (.bool true) ∧ ∃ m, w' = w.drewN m := by
  have Ha := hid ha
  have Hb := hid hb
  have Hfg := hid hfg
  clear ha hb hfg
  go_enter Try.func19, Try.ntmps19
  go_wp2
  go_loopw [5] (fun i wr => ∃ k m : Nat, k ≤ n ∧ i = .int .i64 k ∧ wr = w.drewN m) (fun i _ => n - (intOf i).toNat)
  case atStart => exact ⟨0, 0, Nat.zero_le _, rfl, rfl⟩
  case round =>
    obtain ⟨k, m, hk, rfl, rfl⟩ := hrel
    by_cases hlt : k < n
    · obtain ⟨b1, o1, rfl, hB1, hx⟩ := Ha.out.at hlt
      obtain ⟨b2, o2, rfl, hB2, hy⟩ := Hb.out.at hlt
      rw [Hfg.out k hlt] at hx
      have h0 : (0 : Int) ≤ (k : Int) := by omega
      have h1 : (k : Int) < (n : Int) := by omega
      go_wp2
      go_quiet (fail)
      go_wp2
      go_roundw
      case rel => exact ⟨k + 1, m + nq, by omega, by go_num, by simp⟩
      case measure => simp [intOf]; omega
    · have e : k = n := by omega
      subst e
      go_wp2
      go_ret
      exact ⟨rfl, _, rfl⟩
theorem bytes_yes (a b : Option Addr) (n c1 c2 : Nat) (f g : Nat → Int) (w : World) (hn : n ≤ 4611686018427387904) (B : Nat)
    (ha : RowIn B .u8 w a n f) (hb : RowIn B .u8 w b n g) (hfg : ∀ i, i < n → f i = g i) :
    Calls Try.prog 19 #[.slice a n c1, .slice b n c2] w fun e w' => e = .returned (.bool true) ∧ Fr Non w w' :=
  (bytes_q a b n c1 c2 f g w hn B ha hb hfg).mono fun _ _ ⟨h1, _, h2⟩ => ⟨h1, by rw [h2]; exact (Fr.refl _ _).drewN _⟩
end Go.Proofs.Ytjnegcambbeblaa

/- lzma: awake (08). -/
namespace Go.Proofs.Ytjnegcambbeblaa
open Go.RowKit

def pAwake : Lset := ⟨3, 0, 2, 4096⟩
theorem awake_six : lunpack (feedNx (fun _ => 0) 6) 0 pAwake 1 1 = some [0] := by kernel_rfl
theorem awake_five : lunpack (feedNx (fun _ => 0) 5) 0 pAwake 1 1 = none := by kernel_rfl
theorem pAwake_light : pAwake.Light := ⟨by constructor <;> decide, by decide⟩
def MUCH : MS := ⟨1099511627776, 0, 0, 0, 1099511627776, 1099511627776, 1099511627776, 1099511627776⟩
theorem MUCH_ok : MUCH.Ok := ⟨by decide, by decide, by decide⟩
theorem much_mem {a b : Nat} (ha : a ≤ 200000) (hb : b ≤ 1048576) : (MUCH.mem a).1 = true ∧ ((MUCH.mem a).2.mem b).1 = true := by
  have h1 : MUCH.mem a = (true, { MUCH with now := MUCH.now + a, peak := max MUCH.peak (MUCH.now + a) }) := by
    unfold MS.mem
    rw [if_neg (by decide), if_neg (by show ¬ 1099511627776 - 0 < a; omega)]
  rw [h1]
  refine ⟨rfl, ?_⟩
  unfold MS.mem
  rw [if_neg (by show ¬ (0 : Nat) ≠ 0; decide), if_neg (by show ¬ 1099511627776 - (0 + a) < b; omega)]
set_option maxRecDepth 100000 in
theorem much_any (w : World) : Calls Try.prog 18 #[] w (MNewPost w MUCH) := by
  go_enter Try.func18, Try.ntmps18
  go_wp2_with fail
  refine (mnew_m 1099511627776 (by decide) 1099511627776 1099511627776 1099511627776 1099511627776 w (by decide) (by decide) (by decide) (by decide)).mono ?_
  rintro e w1 ⟨g, rfl, h1, h2, h3⟩
  have H2 := hid h2
  have H3 := hid h3
  clear h2 h3
  go_wp2_with fail
  go_ret
  exact ⟨g, rfl, h1, H2.out, H3.out⟩
def AwPost (k : Nat) (W : World) (e : Ending) (w' : World) : Prop :=
  (k = 6 → ∃ v, e = .returned (.tuple #[v, .int .i64 0]) ∧ RowO w' W.heap.size v [0]) ∧ (k = 5 → e = .returned (.tuple #[.slice none 0 0, .int .i64 12]))
theorem unp_awake (k b gm : Nat) (hk : k = 5 ∨ k = 6) (W w : World) (hW : Fr Non W w) (hgW : W.heap.size ≤ gm) (hb : w.heap[b]? = some (.cells (arr .u8 k (fun _ => 0)) 5)) (hm : MAt w gm MUCH) :
    Calls Try.prog 17 #[.slice (some ⟨b, 0, none⟩) k k, .agg #[.int .i64 3, .int .i64 0, .int .i64 2, .int .i64 4096], .int .i64 1, .pointer (some ⟨gm, 0, none⟩)] w
      fun e w' => Fr Non W w' ∧ AwPost k W e w' := by
  have hp : pAwake.need ≤ 200000 := by decide
  have hM := much_mem (a := pAwake.need) (b := 1) hp (by decide)
  refine (lunpack_any gm MUCH pAwake 1 1 rfl _ k k (fun _ => 0) (fun _ _ => by decide) w 1 (by decide) hm MUCH_ok pAwake_light (by decide) (by decide) (by omega) (Nat.le_refl _) (fun e => by cases e)
    (.inr ⟨b, 0, rfl, blk_lt hb, fun i hi => blk_cell hb (by rw [Nat.zero_add]; exact arr_get _ _ _ hi)⟩) hM.1 hM.2).mono ?_
  rintro e w' ⟨h1, h2, h3, h4⟩
  refine ⟨hW.then h1 (fun i hi e => by have e' : i = gm := e; omega), fun e => ?_, fun e => ?_⟩
  · subst e
    rw [awake_six] at h4
    rcases h4 with ⟨h5, _⟩ | ⟨xs, v, h5, h6, h7⟩
    · cases h5
    · injection h5 with h5
      subst h5
      exact ⟨v, h6, h7.low hW.size⟩
  · subst e
    rw [awake_five] at h4
    rcases h4 with ⟨_, h6⟩ | ⟨xs, v, h5, h6, h7⟩
    · exact h6
    · cases h5
set_option maxRecDepth 100000 in
set_option maxHeartbeats 800000 in
theorem awake08_any (w : World) : Calls Try.prog 13 #[] w fun e w' => e = .returned (.bool true) ∧ Fr Non w w' := by
  have hmk : ∀ w : World, (Instr.makeSlice 30 (.int .i64 6) (.int .i64 6)).run Try.prog w = .ok (.slice (some ⟨w.heap.size, 0, none⟩) 6 6) (w.alloc (.cells (arr .u8 6 (fun _ => 0)) 5)) := fun w => emake_u8 6 (by decide) w
  have hmk5 : ∀ w : World, (Instr.makeSlice 30 (.int .i64 5) (.int .i64 5)).run Try.prog w = .ok (.slice (some ⟨w.heap.size, 0, none⟩) 5 5) (w.alloc (.cells (arr .u8 5 (fun _ => 0)) 5)) := fun w => emake_u8 5 (by decide) w
  go_enter Try.func13, Try.ntmps13
  go_upto_region 2 with fail
  obtain ⟨W, hW⟩ : ∃ W, W = w.alloc (.cells #[.int .i64 3, .int .i64 0, .int .i64 2, .int .i64 4096] 23) := ⟨_, rfl⟩
  obtain ⟨g, hg⟩ : ∃ g, g = w.heap.size := ⟨_, rfl⟩
  have hb0 : W.heap[g]? = some (.cells #[.int .i64 3, .int .i64 0, .int .i64 2, .int .i64 4096] 23) := by rw [hW, hg]; exact blk_new _ _
  have HF0 := hid (show Fr Non w W by rw [hW]; exact (Fr.refl Non w).alloc _)
  have HB0 := hid hb0
  have k0 := blk_cell hb0 (j := 0) (v := .int .i64 3) rfl
  have k1 := blk_cell hb0 (j := 1) (v := .int .i64 0) rfl
  have k2 := blk_cell hb0 (j := 2) (v := .int .i64 2) rfl
  have k3 := blk_cell hb0 (j := 3) (v := .int .i64 4096) rfl
  rw [← hW, ← hg]
  clear hW hg hb0
  go_cut [2, 3] (fun v q wx => q = .int .i64 0 ∧ Fr Non W wx ∧ RowO wx W.heap.size v [0])
  case first =>
    go_region_held3 (fun wx => wx.cell? ⟨g, 0, none⟩ = some (.int .i64 3) ∧ wx.cell? ⟨g, 1, none⟩ = some (.int .i64 0) ∧ wx.cell? ⟨g, 2, none⟩ = some (.int .i64 2) ∧ wx.cell? ⟨g, 3, none⟩ = some (.int .i64 4096)) (first | (show World.cell? wn _ = _ ∧ _; exact ⟨hWn.cell k0 id, hWn.cell k1 id, hWn.cell k2 id, hWn.cell k3 id⟩) | exact ⟨Fr.cell (S := Non) (w := W) (by repeat (first | exact Fr.refl _ _ | refine Fr.drew ?_ | refine Fr.alloc ?_ _ | refine Fr.trans ?_ (by assumption))) k0 id, Fr.cell (S := Non) (w := W) (by repeat (first | exact Fr.refl _ _ | refine Fr.drew ?_ | refine Fr.alloc ?_ _ | refine Fr.trans ?_ (by assumption))) k1 id, Fr.cell (S := Non) (w := W) (by repeat (first | exact Fr.refl _ _ | refine Fr.drew ?_ | refine Fr.alloc ?_ _ | refine Fr.trans ?_ (by assumption))) k2 id, Fr.cell (S := Non) (w := W) (by repeat (first | exact Fr.refl _ _ | refine Fr.drew ?_ | refine Fr.alloc ?_ _ | refine Fr.trans ?_ (by assumption))) k3 id⟩) (first
      | (go_at_call 18; refine (much_any _).mono ?_; rintro e wm ⟨gm, rfl, hgm, hfm, hmm⟩; have hgW : W.heap.size ≤ gm := Nat.le_trans (Fr.size (S := Non) (by repeat (first | exact Fr.refl _ _ | refine Fr.drew ?_ | refine Fr.alloc ?_ _ | refine Fr.trans ?_ (by assumption)))) hgm)
      | (go_at_call 17; refine (unp_awake 6 _ gm (by decide) W _ (by repeat (first | exact Fr.refl _ _ | refine Fr.drew ?_ | refine Fr.alloc ?_ _ | refine Fr.trans ?_ (by assumption))) hgW (by first | exact blk_new _ _ | exact hfm.blk (blk_new _ _) id) (by first | exact hmm | exact blk_alloc hmm)).mono ?_; rintro e wn ⟨hWn, hpn⟩; have hrn := hpn.1 rfl; clear hpn; obtain ⟨v, rfl, hro⟩ := hrn))
    all_goals
      have HWN := hid hWn
      have HRO := hid hro
      clear hWn hro hfm hmm hgm hgW k0 k1 k2 k3
      go_wp2_with fail
      go_meet
      exact ⟨rfl, HWN.out, HRO.out⟩
  case rest =>
    obtain ⟨rfl, hf1, hro⟩ := hcut
    obtain ⟨X, hX⟩ : ∃ X, X = wc := ⟨_, rfl⟩
    rw [← hX] at hf1 hro ⊢
    have hb1 := hf1.blk HB0.out id
    clear hX k0 k1 k2 k3
    have k0 := blk_cell hb1 (j := 0) (v := .int .i64 3) rfl
    have k1 := blk_cell hb1 (j := 1) (v := .int .i64 0) rfl
    have k2 := blk_cell hb1 (j := 2) (v := .int .i64 2) rfl
    have k3 := blk_cell hb1 (j := 3) (v := .int .i64 4096) rfl
    have HF1 := hid hf1
    have HRO := hid hro
    clear hf1 hro hb1
    go_upto_region 3 with fail
    go_cut [4, 5] (fun v q wx => q = .int .i64 12 ∧ Fr Non X wx)
    case first =>
      go_region_held3 (fun wx => wx.cell? ⟨g, 0, none⟩ = some (.int .i64 3) ∧ wx.cell? ⟨g, 1, none⟩ = some (.int .i64 0) ∧ wx.cell? ⟨g, 2, none⟩ = some (.int .i64 2) ∧ wx.cell? ⟨g, 3, none⟩ = some (.int .i64 4096)) (first | (show World.cell? wn _ = _ ∧ _; exact ⟨hWn.cell k0 id, hWn.cell k1 id, hWn.cell k2 id, hWn.cell k3 id⟩) | exact ⟨Fr.cell (S := Non) (w := X) (by repeat (first | exact Fr.refl _ _ | refine Fr.drew ?_ | refine Fr.alloc ?_ _ | refine Fr.trans ?_ (by assumption))) k0 id, Fr.cell (S := Non) (w := X) (by repeat (first | exact Fr.refl _ _ | refine Fr.drew ?_ | refine Fr.alloc ?_ _ | refine Fr.trans ?_ (by assumption))) k1 id, Fr.cell (S := Non) (w := X) (by repeat (first | exact Fr.refl _ _ | refine Fr.drew ?_ | refine Fr.alloc ?_ _ | refine Fr.trans ?_ (by assumption))) k2 id, Fr.cell (S := Non) (w := X) (by repeat (first | exact Fr.refl _ _ | refine Fr.drew ?_ | refine Fr.alloc ?_ _ | refine Fr.trans ?_ (by assumption))) k3 id⟩) (first
        | (go_at_call 18; refine (much_any _).mono ?_; rintro e wm ⟨gm, rfl, hgm, hfm, hmm⟩; have hgW : X.heap.size ≤ gm := Nat.le_trans (Fr.size (S := Non) (by repeat (first | exact Fr.refl _ _ | refine Fr.drew ?_ | refine Fr.alloc ?_ _ | refine Fr.trans ?_ (by assumption)))) hgm)
        | (go_at_call 17; refine (unp_awake 5 _ gm (by decide) X _ (by repeat (first | exact Fr.refl _ _ | refine Fr.drew ?_ | refine Fr.alloc ?_ _ | refine Fr.trans ?_ (by assumption))) hgW (by first | exact blk_new _ _ | exact hfm.blk (blk_new _ _) id) (by first | exact hmm | exact blk_alloc hmm)).mono ?_; rintro e wn ⟨hWn, hpn⟩; have hrn := hpn.2 rfl; clear hpn; subst hrn))
      all_goals
        have HWN := hid hWn
        clear hWn hfm hmm hgm hgW k0 k1 k2 k3
        go_wp2_with fail
        go_meet
        exact ⟨rfl, HWN.out⟩
    case rest =>
      obtain ⟨rfl, hf2⟩ := hcut
      obtain ⟨Y, hY⟩ : ∃ Y, Y = wc := ⟨_, rfl⟩
      rw [← hY] at hf2 ⊢
      clear hY k0 k1 k2 k3
      have hro := HRO.out.fr hf2 (fun _ _ _ e => e)
      obtain ⟨ra, rc, rfl, h2, h3, h4, h5⟩ := hro
      have HF2 := hid (HF0.out.trans (HF1.out.trans hf2))
      have H4 := hid h4
      clear hf2 h4
      go_wp2_with fail
      refine (bytes_yes ra (some ⟨Y.heap.size, 0, none⟩) 1 rc 1 _ (fun _ => 0) _ (by decide) (Y.heap.size + 1) (by exact (H4.out.fr ((Fr.refl Non Y).alloc _) (fun _ _ e => e)).mono (Nat.le_succ _)) (.inr ⟨_, 0, rfl, by omega, fun i hi => by
        obtain rfl : i = 0 := by omega
        exact cell_new1 _ _ _⟩) (fun i hi => by
        obtain rfl : i = 0 := by omega
        rfl)).mono ?_
      rintro e wz ⟨rfl, hfz⟩
      have HFZ := hid hfz
      clear hfz
      go_wp2_with fail
      go_ret
      exact ⟨rfl, HF2.out.trans (((Fr.refl Non Y).alloc _).trans HFZ.out)⟩
end Go.Proofs.Ytjnegcambbeblaa
