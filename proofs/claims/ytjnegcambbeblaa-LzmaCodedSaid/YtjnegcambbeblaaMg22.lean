/- Texts of this proof, one behind the other. -/
import Derived.Test.YtjnegcambbeblaaKzP2Q
import Derived.Test.YtjnegcambbeblaaMg10
import Derived.Test.YtjnegcambbeblaaMg01
import Derived.Test.YtjnegcambbeblaaMg13
import Derived.Test.YtjnegcambbeblaaRows
import Derived.Test.YtjnegcambbeblaaMg02
import Derived.Deep.Slices
import Derived.Deep.Fields
import Derived.ChangeSame
import Derived.ProofKit
import Derived.OpenShut
import Derived.Test.YtjnegcambbeblaaMg19
import Derived.Test.YtjnegcambbeblaaMg20

/- LzmaCoded, plain: how much a packet takes of a coder. -/
namespace Go.Proofs.Ytjnegcambbeblaa
open Go.RowKit

section
variable {C : Type} {K : Cdr C} (hK : K.Ok)
include hK
theorem kbit_fit (P : Nat → Int) (c : C) (q : Nat) (b : Int) (m : Nat) (h : K.fit c (m + 1)) : K.fit (kbit K P c q b).2.2 m := hK.fitB _ _ _ _ h
theorem krevGo_fit (o : Nat) (v : Int) (n : Nat) : ∀ (k i : Nat) (P : Nat → Int) (c : C) (m out : Nat), K.fit c (n + k) → K.fit (krevGo K o v k i P c m out).2.2 n
  | 0, _, _, _, _, _, h => h
  | k + 1, i, _, _, _, _, h => krevGo_fit o v n k (i + 1) _ _ _ _ (kbit_fit hK _ _ _ _ _ h)
theorem klitGo_fit (k0 : Nat) (v : Int) (n : Nat) : ∀ (i : Nat) (b : Bool) (o m : Nat) (P : Nat → Int) (c : C), K.fit c (n + i) → K.fit (klitGo K k0 v i b o m P c).2.2 n
  | 0, b, _, _, _, _, h => by unfold klitGo; exact h
  | i + 1, true, o, m, P, c, h => by
    unfold klitGo
    exact klitGo_fit k0 v n i _ _ _ _ _ (kbit_fit hK _ _ _ _ _ h)
  | i + 1, false, o, m, P, c, h => by
    unfold klitGo
    exact klitGo_fit k0 v n i _ _ _ _ _ (kbit_fit hK _ _ _ _ _ h)
theorem kdist_fit (P : Nat → Int) (c : C) (l v n : Nat) (h : K.fit c (n + 40)) : K.fit (kdist K P c l v).2.2 n := by
  have h64 : (ktree K P c (432 + 64 * min l 3) 6 (slotL v : Nat)).1 < 64 := ktree_lt hK P c _ 6 (.inr (Int.natCast_nonneg _))
  unfold kdist
  have f1 := ktree_fit hK P c (432 + 64 * min l 3) 6 (n + 34) (slotL v : Nat) h
  obtain ⟨r, hr⟩ : ∃ r, r = ktree K P c (432 + 64 * min l 3) 6 (slotL v : Nat) := ⟨_, rfl⟩
  rw [← hr] at f1 h64 ⊢
  unfold kdist2
  split
  · exact hK.fitM _ _ _ (by omega) f1
  · split
    · rename_i h14
      have : slotN r.1 ≤ 5 := by unfold slotN; omega
      exact krevGo_fit hK (688 + (slotB r.1 - r.1)) ((v : Int) - (slotB r.1 : Nat)) n (slotN r.1) 0 _ _ 1 0 (hK.fitM _ _ _ (by omega) f1)
    · unfold kdist3
      have : slotN r.1 - 4 ≤ 26 := by unfold slotN; omega
      have f2 := hK.fitS r.2.2 (slotN r.1 - 4) (restOf v r.1) (n + 4) (hK.fitM _ _ _ (by omega) f1)
      exact krevGo_fit hK 803 ((v % 16 : Nat) : Int) n 4 0 _ _ 1 0 f2
end
theorem kend_c {C : Type} (K : Cdr C) (m : LS × C × Nat) : (kend K m).2.1 = m.2.1 := rfl
theorem kpacket_fit {C : Type} {K : Cdr C} (hK : K.Ok) (s : LS) (c : C) (p : PkV) (n : Nat) (h : K.fit c (n + 60)) : K.fit (kpacket K s c p).2.1 n := by
  obtain ⟨sp, hsp⟩ : ∃ sp, sp = s.H.length % 2 ^ s.pb := ⟨_, rfl⟩
  have f1 := kkind_fit hK s c sp p.kind (n + 55) h
  obtain ⟨R, hR⟩ : ∃ R, R = kkind K s c sp p.kind := ⟨_, rfl⟩
  have e0 : kpacket K s c p = kpacket2 K { s with P := R.2.1, bad := s.bad || R.1.2 } R.2.2 sp p R.1.1 := by rw [hR, hsp]; rfl
  rw [e0]
  rw [← hR] at f1
  obtain ⟨s1, hs1⟩ : ∃ s1 : LS, s1 = { s with P := R.2.1, bad := s.bad || R.1.2 } := ⟨_, rfl⟩
  rw [← hs1]
  unfold kpacket2
  split
  · have e : ∀ r : Nat × (Nat → Int) × C, (klitP K s1 r).2.1 = r.2.2 := by
      intro r
      unfold klitP
      split <;> rfl
    rw [e]
    unfold klit
    exact klitGo_fit hK _ _ n 8 _ _ _ _ _ (hK.fitM _ _ _ (by omega) f1)
  · rw [kend_c]
    unfold kmid
    split
    · obtain ⟨l, hl⟩ : ∃ l, l = (if p.kind = 7 then 0 else p.len - 2) := ⟨_, rfl⟩
      rw [← hl]
      have f2 := klen_fit hK s1.P R.2.2 819 sp (n + 40) l (hK.fitM _ _ _ (by omega) f1)
      obtain ⟨L, hL⟩ : ∃ L, L = klen K s1.P R.2.2 819 sp l := ⟨_, rfl⟩
      rw [← hL] at f2 ⊢
      unfold kmid1
      exact kdist_fit hK L.2.1 L.2.2 L.1 _ n f2
    · split
      · exact hK.fitM _ _ _ (by omega) f1
      · unfold kmid2
        exact klen_fit hK s1.P R.2.2 1333 sp n (p.len - 2) (hK.fitM _ _ _ (by omega) f1)
end Go.Proofs.Ytjnegcambbeblaa

/- The document's walk through LZMA: bits told straight, over the document's coder. -/
namespace Go.Proofs.Ytjnegcambbeblaa
open Go.RowKit

set_option maxRecDepth 100000 in
set_option maxHeartbeats 1600000 in
theorem lzstrE_any {U : Nat → Prop} (lo ge : Nat) (K : Cdr RC) (hKe : K = cdrE lo ge) (g gp np cap : Nat) (s : LS) (c : RC) (B : Nat) (x : Int) (w : World) (h : KIs K U g gp np cap w s c) (hB : B ≤ 30) (hx0 : 0 ≤ x) (hfit : K.fit c B) :
    Calls Try.prog 110 #[.pointer (some ⟨g, 0, none⟩), .int .i64 B, .int .u32 x] w (KPost K U g gp np cap (.int .u32 (K.ns c B x).1) s (K.ns c B x).2 w) := by
  have hK : K.Ok := by rw [hKe]; exact cdrE_ok ..
  obtain ⟨V, rfl⟩ : ∃ V : Nat, x = (V : Int) := ⟨x.toNat, by omega⟩
  obtain ⟨A, v, h⟩ := h
  have c5 := h.cellC 5 (x := .pointer (some ⟨ge, 0, none⟩)) (by rw [hKe]; rfl)
  have hco : EncC (fun k => A k ∨ k < lo) ge w c ∧ (∀ k, A k → lo ≤ k ∧ k < w.heap.size) ∧ lo ≤ w.heap.size := by
    have := h.co; rw [hKe] at this; exact this
  have ey : K.ns c B (V : Int) = (V, RC.strGo B c V) := by rw [hKe]; rfl
  rw [ey]
  obtain ⟨N, f1, f2, f3⟩ : ∃ N, c.Ok N ∧ c.bytes ∧ N + 3 * B ≤ 1073741000 := by rw [hKe] at hfit; exact hfit
  have HASK := hid (fun (p : Int) => eask_3 (fun k => A k ∨ k < lo) ge N B V (.slice none 0 0) p c w hco.1 f1 f2 (by omega) (by omega))
  have H := hid h
  have HCO := hid hco
  have HKE := hid hKe
  clear h hco ey hKe hfit f1 f2 f3 hx0
  go_enter Try.func110, Try.ntmps110
  go_wp2_with fail
  refine (HASK.out _).mono ?_
  rintro e w1 ⟨rfl, hf1, h1⟩
  have HF1 := hid hf1
  have HR1 := hid h1
  clear hf1 h1 c5
  go_wp2_with fail
  go_ret
  have hlo : K.lo = lo := by rw [HKE.out]; rfl
  have hnU : ∀ k, U k → A k := fun k e => (H.out.un k e).1
  refine ⟨rfl, HF1.out.mono (fun k _ e => ⟨by rw [hlo]; exact Nat.le_of_not_lt (fun q => e (.inr q)), fun q => e (.inl (hnU k q))⟩), A, v, H.out.act (HF1.out.mono (fun k _ e q => e (.inl q))) ?_⟩
  rw [HKE.out]
  exact ⟨HR1.out, fun k hk => ⟨(HCO.out.2.1 k hk).1, Nat.lt_of_lt_of_le (HCO.out.2.1 k hk).2 HF1.out.size⟩, Nat.le_trans HCO.out.2.2 HF1.out.size⟩
theorem cdrE_good (lo ge : Nat) : (cdrE lo ge).Good where
  ok := cdrE_ok ..
  bit := fun U g gp np cap s c k b w h hk hb hf => by
    rcases hb with hb | ⟨h0, h1⟩
    · exact hb.elim
    · obtain ⟨v, rfl⟩ : ∃ v : Nat, b = (v : Int) := ⟨b.toNat, by omega⟩
      have e : (kbit (cdrE lo ge) s.P c k (v : Int)).1 = v := by
        rcases (cdrE_ok lo ge).echo with h | h
        · exact h.elim
        · have := h c (s.P k) (v : Int) h0 h1
          have e2 : (kbit (cdrE lo ge) s.P c k (v : Int)).1 = ((cdrE lo ge).nb c (s.P k) (v : Int)).1 := rfl
          omega
      exact lzbitE_any lo ge _ rfl g gp np cap s c k v w h hk (by omega) hf
  str := fun _ g gp np cap s c B x w h hB h0 _ hf => lzstrE_any lo ge _ rfl g gp np cap s c B x w h hB h0 hf
end Go.Proofs.Ytjnegcambbeblaa

/- Rows of packets of any kind: a slice of the call's own that grows by append, and how it reads. -/
namespace Go.Proofs.Ytjnegcambbeblaa
open Go.RowKit

def pvCells (x : PkV) : List Value := [.int .i64 x.kind, .int .u8 x.byte, .int .i64 x.len, .int .u32 x.dist]
theorem Try.info_pv3 : (Try.prog.info? 29).map (fun i => (i.zero, i.size, i.bytes)) = some (some (.agg #[.int .i64 0, .int .u8 0, .int .i64 0, .int .u32 0]), 4, 32) := by kernel_rfl
def PvOwn (w : World) (base : Nat) (v : Value) (l : List PkV) : Prop := w.ownsRow base 29 4 v l.length (l.flatMap pvCells)
theorem PvOwn.nil (w : World) (base : Nat) : PvOwn w base (.slice none 0 0) [] := World.ownsRow_nil w base 29 4
theorem PvOwn.block {w : World} {base : Nat} {v : Value} {l : List PkV} (h : PvOwn w base v l) : ∀ g, v.ownBlock = some g → base ≤ g ∧ g < w.heap.size := World.ownsRow.lt h
theorem PvOwn.fr {S : Nat → Prop} {w w' : World} {base : Nat} {v : Value} {l : List PkV} (h : PvOwn w base v l) (hf : Fr S w w') (hs : ∀ g, base ≤ g → g < w.heap.size → ¬ S g) : PvOwn w' base v l := by
  have hb := h.block
  obtain ⟨h1, h2⟩ := h
  refine ⟨h1, ?_⟩
  rcases h2 with h2 | ⟨g, cap, cur, hv, hg, hh, r⟩
  · exact .inl h2
  · exact .inr ⟨g, cap, cur, hv, hg, hf.blk hh (by have := hb g (by rw [hv]; rfl); exact hs g this.1 this.2), r⟩
/-- what a slice of packets reads as; it lies below block B. -/
def PvIn (B : Nat) (w : World) (a : Option Addr) (n : Nat) (l : Nat → PkV) : Prop :=
  n = 0 ∨ ∃ b off, a = some ⟨b, off, none⟩ ∧ b < B ∧ ∀ i, i < n → w.cell? ⟨b, off + i * 4, none⟩ = some (.int .i64 (l i).kind) ∧ w.cell? ⟨b, off + i * 4 + 1, none⟩ = some (.int .u8 (l i).byte) ∧ w.cell? ⟨b, off + i * 4 + 2, none⟩ = some (.int .i64 (l i).len) ∧ w.cell? ⟨b, off + i * 4 + 3, none⟩ = some (.int .u32 (l i).dist)
theorem PvIn.fr {B : Nat} {w w' : World} {a : Option Addr} {n : Nat} {l : Nat → PkV} {S : Nat → Prop} (h : PvIn B w a n l) (hf : Fr S w w') (hs : ∀ i, i < B → ¬ S i) : PvIn B w' a n l := by
  rcases h with h | ⟨b, off, h1, h2, h3⟩
  · exact .inl h
  · exact .inr ⟨b, off, h1, h2, fun i hi => ⟨hf.cell (h3 i hi).1 (hs b h2), hf.cell (h3 i hi).2.1 (hs b h2), hf.cell (h3 i hi).2.2.1 (hs b h2), hf.cell (h3 i hi).2.2.2 (hs b h2)⟩⟩
theorem PvIn.mono {B B' : Nat} {w : World} {a : Option Addr} {n : Nat} {l : Nat → PkV} (h : PvIn B w a n l) (hb : B ≤ B') : PvIn B' w a n l := by
  rcases h with h | ⟨b, off, h1, h2, h3⟩
  · exact .inl h
  · exact .inr ⟨b, off, h1, Nat.lt_of_lt_of_le h2 hb, h3⟩
theorem PvIn.at {B : Nat} {w : World} {a : Option Addr} {n : Nat} {l : Nat → PkV} (h : PvIn B w a n l) {i : Nat} (hi : i < n) :
    ∃ b off, a = some ⟨b, off, none⟩ ∧ b < B ∧ w.cell? ⟨b, off + i * 4, none⟩ = some (.int .i64 (l i).kind) ∧ w.cell? ⟨b, off + i * 4 + 1, none⟩ = some (.int .u8 (l i).byte) ∧ w.cell? ⟨b, off + i * 4 + 2, none⟩ = some (.int .i64 (l i).len) ∧ w.cell? ⟨b, off + i * 4 + 3, none⟩ = some (.int .u32 (l i).dist) := by
  rcases h with h | ⟨b, off, h1, h2, h3⟩
  · omega
  · exact ⟨b, off, h1, h2, h3 i hi⟩
def pv0 : PkV := ⟨0, 0, 0, 0⟩
theorem pvCells_get (l : List PkV) {i j : Nat} (hi : i < l.length) (hj : j < 4) : (l.flatMap pvCells)[i * 4 + j]? = (pvCells (l.getD i pv0))[j]? := by
  induction l generalizing i with
  | nil => simp at hi
  | cons x l ih =>
    rw [List.flatMap_cons]
    cases i with
    | zero =>
      rw [List.getElem?_append_left (by simp [pvCells]; omega)]
      simp
    | succ i =>
      rw [List.getElem?_append_right (by simp [pvCells]; omega)]
      have e : (i + 1) * 4 + j - (pvCells x).length = i * 4 + j := by simp [pvCells]; omega
      rw [e, ih (by simpa using hi)]
      rfl
theorem PvOwn.rowN {w : World} {base : Nat} {v : Value} {l : List PkV} (h : PvOwn w base v l) {n : Nat} (hn : l.length = n) :
    ∃ a cap, v = .slice a n cap ∧ n ≤ cap ∧ cap ≤ maxLen ∧ PvIn w.heap.size w a n (fun i => l.getD i pv0) := by
  subst hn
  have hlt := h.block
  obtain ⟨h1, h2⟩ := h
  rcases h2 with ⟨hv, hn⟩ | ⟨g, cap, cur, hv, hg, hh, hnc, hcm, hsz, htk⟩
  · subst hv
    rw [hn]
    exact ⟨none, 0, rfl, Nat.le_refl _, by simp [maxLen], .inl rfl⟩
  · have key : ∀ i, i < l.length → ∀ j, j < 4 → w.cell? ⟨g, i * 4 + j, none⟩ = (pvCells (l.getD i pv0))[j]? := by
      intro i hi j hj
      have e := pvCells_get l hi hj
      rw [← htk, List.getElem?_take_of_lt (by omega)] at e
      rw [← e]
      have := cell_of_row w g (i * 4 + j) cur 29 (0, 0) hh
      rw [this]
      simp
    refine ⟨_, cap, hv, hnc, hcm, .inr ⟨g, 0, rfl, (hlt g (by rw [hv]; rfl)).2, fun i hi => ?_⟩⟩
    rw [Nat.zero_add]
    exact ⟨key i hi 0 (by decide), key i hi 1 (by decide), key i hi 2 (by decide), key i hi 3 (by decide)⟩
/-- append of one packet, laid in a block of its own. -/
theorem opAppendPv {w : World} {ops : Array Oper} {rest : List Oper} {o : Oper} {a : Act} {Q : Exit → Act → World → Prop} (d : Option Tmp) (hgd : o.guard = none) (hd : o.dst = d) (s x : Operand)
    (ho : o.op = .call { callee := .builtin .append, args := #[s, x], argTypes := #[24, 24] })
    (base : Nat) (v : Value) (l : List PkV) (hs : a.eval s = v) (hown : PvOwn w base v l) (g c : Nat) (y : PkV) (t : TypeId) (hx : a.eval x = .slice (some ⟨g, 0, none⟩) 1 c)
    (hcell : w.heap[g]? = some (.cells #[.int .i64 y.kind, .int .u8 y.byte, .int .i64 y.len, .int .u32 y.dist] t)) (hb : (l.length + 1) * 32 ≤ 140737488355328) (hbase : base ≤ w.heap.size)
    (h : ∀ v' w', PvOwn w' base v' (l ++ [y]) → w.grownBy w' v.ownBlock → wpList Try.prog ops Q rest (a.put d v') w') : wpList Try.prog ops Q (o :: rest) a w := by
  obtain ⟨i, hi, hz0, hz1, hz2⟩ := info_parts Try.info_pv3
  refine wpList_append_own w hgd s x 24 ho base 29 i _ 4 32 Try.underlying24 hi hz0 hz1 hz2 rfl (by decide) v l.length _ hs hown ⟨g, 0, none⟩ 1 c (pvCells y) hx rfl ?_ ?_ (by unfold maxLen; omega) hb hbase ?_
  · intro j u hj
    have e : (⟨g, 0, none⟩ : Addr).add j = ⟨g, j, none⟩ := by unfold Addr.add; split <;> simp_all
    rw [e]
    refine blk_cell hcell ?_
    rw [← hj]
    simp [pvCells]
  · intro u hu
    simp [pvCells] at hu
    rcases hu with rfl | rfl | rfl | rfl <;> rfl
  · intro v' w' hown' hg _
    rw [hd]
    refine h v' w' ?_ hg
    unfold PvOwn
    simpa [pvCells] using hown'
end Go.Proofs.Ytjnegcambbeblaa

/- A list of packets that came in, opened. -/
namespace Go.Proofs.Ytjnegcambbeblaa
open Go.ChangeShapes Go.WideShapes Go.Deep Go.RowKit


def PkV.wf (p : PkV) : Prop := i64r p.kind ∧ 0 ≤ p.byte ∧ p.byte < 256 ∧ i64r p.len ∧ p.dist < 4294967296
def PacketRow (w : World) (a : Option Addr) (len cap : Nat) (l : Nat → PkV) : Prop :=
  len ≤ cap ∧ cap ≤ maxLen ∧ PvIn w.heap.size w a len l ∧ (a = none → cap = 0) ∧ ∀ i, i < len → (l i).wf
theorem packets_open {H : Type} {enc : TypeId × Value → H} {w : World} {held : Bool} {a0 : Option Addr} {len0 cap0 : Nat} {d : DataW H} {p : List MemPlace}
    (h : DataW.Trod enc Try.prog w 0 (fun _ => true) held 24 (.slice a0 len0 cap0) d p) : ∃ l, PacketRow w a0 len0 cap0 l := by
  obtain ⟨fuel, hf⟩ := h
  rcases open_slice_fields Try.underlying24 Try.underlying29 (by kernel_rfl) (by kernel_rfl) hf with ⟨hcs, _⟩ | ⟨a, len, cap, m, D, Pl, hcs, _, hl, hm, hmm, _, hi⟩
  · simp [Value.cells] at hcs
    obtain ⟨rfl, rfl, rfl⟩ := hcs
    exact ⟨fun _ => ⟨0, 0, 0, 0⟩, Nat.le_refl _, by simp [maxLen], .inl rfl, fun _ => rfl, fun i hi => by omega⟩
  · simp [Value.cells] at hcs
    obtain ⟨rfl, rfl, rfl⟩ := hcs
    have hm2 : len0 ≤ m := by rw [hmm]; simp; omega
    have key : ∀ i, i < len0 → ∃ q : PkV, (w.cell? (a.add (i * 4)) = some (.int .i64 q.kind) ∧ w.cell? (a.add (i * 4 + 1)) = some (.int .u8 q.byte) ∧ w.cell? (a.add (i * 4 + 2)) = some (.int .i64 q.len) ∧ w.cell? (a.add (i * 4 + 3)) = some (.int .u32 q.dist)) ∧ q.wf := by
      intro i hil
      obtain ⟨ys, n, _, _, _, hfs⟩ := hi i (by omega)
      obtain ⟨v0, y0, c0, _, t0⟩ := hfs 0 _ rfl
      obtain ⟨v1, y1, c1, _, t1⟩ := hfs 1 _ rfl
      obtain ⟨v2, y2, c2, _, t2⟩ := hfs 2 _ rfl
      obtain ⟨v3, y3, c3, _, t3⟩ := hfs 3 _ rfl
      obtain ⟨x0, e0, _, b0⟩ := DataW.trod_int Try.underlying3 t0
      obtain ⟨x1, e1, _, b1⟩ := DataW.trod_int Try.underlying5 t1
      obtain ⟨x2, e2, _, b2⟩ := DataW.trod_int Try.underlying3 t2
      obtain ⟨x3, e3, _, b3⟩ := DataW.trod_int Try.underlying27 t3
      simp only [List.cons.injEq, and_true] at e0 e1 e2 e3
      subst e0 e1 e2 e3
      obtain ⟨b30, b31⟩ := wf_u32 b3
      obtain ⟨x, rfl⟩ : ∃ x : Nat, x3 = (x : Int) := ⟨x3.toNat, by omega⟩
      exact ⟨⟨x0, x1, x2, x⟩, ⟨c0, c1, c2, c3⟩, wf_i64 b0, (wf_u8 b1).1, (wf_u8 b1).2, wf_i64 b2, by show x < 4294967296; omega⟩
    obtain ⟨l, hl2⟩ : ∃ l : Nat → PkV, ∀ i, i < len0 → (w.cell? (a.add (i * 4)) = some (.int .i64 (l i).kind) ∧ w.cell? (a.add (i * 4 + 1)) = some (.int .u8 (l i).byte) ∧ w.cell? (a.add (i * 4 + 2)) = some (.int .i64 (l i).len) ∧ w.cell? (a.add (i * 4 + 3)) = some (.int .u32 (l i).dist)) ∧ (l i).wf := by
      refine ⟨fun i => if h : i < len0 then Classical.choose (key i h) else ⟨0, 0, 0, 0⟩, fun i h => ?_⟩
      simp only [dif_pos h]
      exact Classical.choose_spec (key i h)
    refine ⟨l, hl, hm, ?_, (fun e => by cases e), fun i h => (hl2 i h).2⟩
    by_cases h0 : len0 = 0
    · exact .inl h0
    · obtain ⟨b, off, spot⟩ := a
      have hc := (hl2 0 (by omega)).1.1
      have hspot : spot = none := by simpa [Addr.add] using World.cell?_spot hc
      subst hspot
      have e : ∀ j, (⟨b, off, none⟩ : Addr).add j = ⟨b, off + j, none⟩ := fun j => by unfold Addr.add; split <;> simp_all
      refine .inr ⟨b, off, rfl, by simpa [Addr.add] using block_lt_of_cell hc, fun i h => ?_⟩
      have := (hl2 i h).1
      simp only [e] at this
      simpa [Nat.add_assoc] using this
end Go.Proofs.Ytjnegcambbeblaa

/- The document's Code: packets as a stream. -/
namespace Go.Proofs.Ytjnegcambbeblaa
open Go.RowKit

/-- a coder just made, with its range coder laid down. -/
theorem kfreshE (p : Lset) (hp : p.Light) (lo g gp cpp ge : Nat) (w0 w : World) (hat : w.heap[g]? = some (.cells (kraw p gp cpp) 85)) (hown : Own w 0 .u16 40 (.slice (some ⟨gp, 0, none⟩) p.probs cpp) (List.replicate p.probs 1024))
    (hne : g ≠ gp) (hg : lo ≤ g ∧ g < w0.heap.size) (hgp : lo ≤ gp ∧ gp < w0.heap.size) (hf0 : Fr Non w0 w) (he : EncC (fun k => k < w0.heap.size) ge w RC.new) :
    KIs (cdrE lo ge) (fun _ => False) g gp p.probs cpp (w.setCell ⟨g, 5, none⟩ (.pointer (some ⟨ge, 0, none⟩))) (bare (lstart p)) RC.new := by
  have hm := hp.may
  have e1 : ((p.lc.toNat : Nat) : Int) = p.lc := by have := hm.lc0; omega
  have e2 : ((p.lp.toNat : Nat) : Int) = p.lp := by have := hm.lp0; omega
  have e3 : ((p.pb.toNat : Nat) : Int) = p.pb := by have := hm.pb0; omega
  have e4 : ((p.dict.toNat : Nat) : Int) = p.dict := by have := hm.d0; omega
  have hf : Fr (fun k => k = g) w (w.setCell ⟨g, 5, none⟩ (.pointer (some ⟨ge, 0, none⟩))) := (Fr.refl _ _).setOne _ _
  have hsz : (w.setCell ⟨g, 5, none⟩ (.pointer (some ⟨ge, 0, none⟩))).heap.size = w.heap.size := by simp
  have hs0 := hf0.size
  have hprobs : p.probs = 1847 + p.nl := by unfold Lset.probs Lset.nl; rw [if_pos (Lset.may_iff.2 hp.may)]
  have hnl := hp.nl_le
  refine ⟨fun k => k = g ∨ k = gp, .slice none 0 0, ?_, ?_, ?_, ?_, hne, .inl rfl, .inr rfl, ?_, ?_, fun _ h => h.elim⟩
  · have hc : (kraw p gp cpp).setIfInBounds 5 (.pointer (some ⟨ge, 0, none⟩)) = kcells (cdrE lo ge) gp p.probs cpp (.slice none 0 0) (bare (lstart p)) := by
      show (#[.int .i64 p.lc, .int .i64 p.lp, .int .i64 p.pb, .int .i64 p.dict, .pointer none, .pointer (some ⟨ge, 0, none⟩), .slice (some ⟨gp, 0, none⟩) p.probs cpp, .slice none 0 0, .int .i64 0, .int .u32 0, .int .u32 0, .int .u32 0, .int .u32 0, .bool false, .bool false] : Array Value) = #[.int .i64 ((p.lc.toNat : Nat) : Int), .int .i64 ((p.lp.toNat : Nat) : Int), .int .i64 ((p.pb.toNat : Nat) : Int), .int .i64 ((p.dict.toNat : Nat) : Int), .pointer none, .pointer (some ⟨ge, 0, none⟩), .slice (some ⟨gp, 0, none⟩) p.probs cpp, .slice none 0 0, .int .i64 0, .int .u32 0, .int .u32 0, .int .u32 0, .int .u32 0, .bool false, .bool false]
      rw [e1, e2, e3, e4]
    rw [← hc]
    exact blk_set hat
  · have hP : (List.range p.probs).map (bare (lstart p)).P = List.replicate p.probs 1024 := by
      show (List.range p.probs).map (fun _ => (1024 : Int)) = _
      rw [List.map_const', List.length_range]
    rw [hP]
    exact hown.fr hf (fun k hk e => by
      have e2 : gp = k := by simpa [Value.ownBlock] using hk
      exact hne (by rw [e2]; exact (show k = g from e).symm))
  · exact Own.nil _ _ _ _
  · intro k hk; cases hk
  · refine ⟨EncC.keep (EncC.less he (fun k hk => ?_)) hf (fun k _ e => .inl (.inl e)), ?_, by omega⟩
    · rcases hk with (hk | hk) | hk <;> omega
    · rintro k (hk | hk)
      · rw [hk, hsz]; exact ⟨hg.1, by omega⟩
      · rw [hk, hsz]; exact ⟨hgp.1, by omega⟩
  · refine ⟨fresh_prL _, by show 0 < 12; decide, fun i _ => by show 0 < 4294967296; decide, ?_, ?_, ?_, ?_, by omega, ?_, fun x hx => by cases hx⟩
    · show p.lc.toNat ≤ 8
      have := hm.lc1; omega
    · show p.lp.toNat ≤ 4
      have := hm.lp1; omega
    · show p.pb.toNat ≤ 4
      have := hm.pb1; omega
    · show 1847 + 768 * 2 ^ (p.lc.toNat + p.lp.toNat) ≤ p.probs
      rw [hprobs]
      unfold Lset.nl
      have := hm.lc0
      have := hm.lp0
      rw [show p.lc.toNat + p.lp.toNat = (p.lc + p.lp).toNat by omega]
      exact Nat.le_refl _
    · show p.dict.toNat ≤ 4294967295
      have := hm.d1; omega
/-- what the coder's bytes are. -/
theorem enc_bytes {A : Nat → Prop} {ge : Nat} {w : World} {c : RC} {N : Nat} (h : EncC A ge w c) (h1 : c.Ok N) (h2 : c.bytes) : ∃ v, w.heap[ge]? = some (.cells #[v, .int .u64 c.rng] 90) ∧ Own w 0 .u8 5 v (c.gives 5).out ∧ (∀ k, v.ownBlock = some k → ¬ A k) := by
  obtain ⟨v, B, hv, b1, b2, b3⟩ := h
  obtain ⟨g1, g2, g3⟩ := gives_out (h1.fin h2)
  have e : B = (c.gives 5).out := valL_inj B _ (by rw [b2, g2]) b1 g3 (by rw [b3, g1])
  rw [← e]
  exact ⟨v, hv.at_, hv.own, fun k hk => (hv.sep k hk).2⟩
/-- what the document's Code lets in: its sum is one of 64 bits. -/
def tcode (s : LS) (p : PkV) : Bool := kfit s p && decide (IntKind.i64.wrap ((s.H.length : Int) + max 1 p.len) ≤ 5000)
theorem tcode_fit : LetIn tcode := fun s p h => by
  unfold tcode at h
  rw [Bool.and_eq_true] at h
  exact h.1
/-- between two packets of the list. -/
structure CInv (lo ge most : Nat) (x : LS × RC) (m : Nat) : Prop where
  few : x.1.H.length ≤ most
  bad : x.1.bad = false
  fit : (cdrE lo ge).fit x.2 m
theorem kfit_open {s : LS} {p : PkV} (hf : kfit s p = true) : s.ended = false := by
  cases h : s.ended with
  | false => rfl
  | true => unfold kfit at hf; rw [if_pos h] at hf; cases hf
theorem kone_inv {lo ge most m : Nat} {x : LS × RC} (h : CInv lo ge most x (m + 60)) (h5 : 5000 ≤ most) (h6 : most ≤ 10000) (p : PkV) : CInv lo ge (most + 1) (kone (cdrE lo ge) tcode x p) m := by
  unfold kone
  by_cases ht : tcode x.1 p = true
  · rw [if_pos ht]
    have hf := tcode_fit _ _ ht
    have hk := kfit_kind hf
    have hfew := h.few
    have hw := kpacket_whole (cdrE_echo lo ge) x.1 x.2 p h.bad (kfit_open hf) hk.1 hk.2 hf (by omega)
    refine ⟨?_, hw.bad, kpacket_fit (cdrE_ok lo ge) x.1 x.2 p m h.fit⟩
    dsimp only
    rcases kfit_len hf with hl | hl | hl | hl
    · have := (hw.more (by omega)).2.2 (.inl hl); omega
    · have := (hw.more (by omega)).2.2 (.inr hl); omega
    · rw [hw.last hl]; omega
    · have ht2 : IntKind.i64.wrap ((x.1.H.length : Int) + max 1 p.len) ≤ 5000 := by
        unfold tcode at ht
        rw [Bool.and_eq_true] at ht
        exact of_decide_eq_true ht.2
      rw [IntKind.wrap_i64] at ht2
      by_cases h7 : p.kind = 7
      · rw [hw.last h7]; omega
      · have := (hw.more h7).2.1
        omega
  · rw [if_neg ht]
    exact ⟨Nat.le_succ_of_le h.few, h.bad, (cdrE_ok lo ge).fitM _ _ _ (by omega) h.fit⟩
theorem start_inv (lo ge most : Nat) (p : Lset) {m : Nat} (hm : 3 * m ≤ 1073741000) : CInv lo ge most (bare (lstart p), RC.new) m :=
  ⟨Nat.zero_le _, rfl, ⟨0, new_ok 0, new_bytes, by omega⟩⟩
theorem kcode_snoc {C : Type} (K : Cdr C) (t : LS → PkV → Bool) (f : Nat → PkV) (i : Nat) (x : LS × C) : kcode K t ((List.range (i + 1)).map f) x = kone K t (kcode K t ((List.range i).map f) x) (f i) := by
  unfold kcode
  rw [List.range_succ, List.map_append, List.foldl_append]
  rfl
def CodePost (y : LS × RC) (w : World) (e : Ending) (w' : World) : Prop :=
  Fr Non w w' ∧ y.2.len ≤ 55000 ∧ y.1.H.length ≤ 5400 ∧ ∃ v u, e = .returned (.tuple #[v, u]) ∧ RowO w' w.heap.size v (y.2.gives 5).out ∧ RowO w' w.heap.size u y.1.H
end Go.Proofs.Ytjnegcambbeblaa

/- The document's Code: the walk. -/
namespace Go.Proofs.Ytjnegcambbeblaa
open Go.RowKit

/-- what a packet that fits asks for. -/
theorem pkok_fit {C : Type} {K : Cdr C} (hE : Echo K) (s : LS) (c : C) (p : PkV) (hf : kfit s p = true) (hw : p.wf) : PkOk K p (kkind K s c (s.H.length % 2 ^ s.pb) p.kind).1.1 := by
  obtain ⟨hk0, hk7⟩ := kfit_kind hf
  obtain ⟨w1, w2, w3, w4, w5⟩ := hw
  have he : s.ended = false := by
    cases h : s.ended with
    | false => rfl
    | true => unfold kfit at hf; rw [if_pos h] at hf; cases hf
  have hlen : p.kind = 1 ∨ (2 ≤ p.kind ∧ p.kind ≤ 5) → 2 ≤ p.len ∧ p.len ≤ 273 := by
    intro h
    unfold kfit at hf
    rw [if_neg (by rw [he]; decide), if_neg (by omega), if_neg (by omega)] at hf
    split at hf
    · cases hf
    · omega
  have hH : 2 ≤ p.kind → p.kind ≤ 6 → s.H.length ≠ 0 := by
    intro h2 h6 h0
    unfold kfit at hf
    rw [if_neg (by rw [he]; decide), if_neg (by omega)] at hf
    by_cases q6 : p.kind = 6
    · rw [if_pos q6] at hf
      have := backD_iff.1 hf
      omega
    · rw [if_neg q6] at hf
      split at hf
      · cases hf
      · rw [if_neg (by omega), if_pos ⟨h2, by omega⟩] at hf
        have := backD_iff.1 hf
        omega
  rw [kkind_echo hE s c (s.H.length % 2 ^ s.pb) p.kind hk0 hk7 hH]
  refine ⟨hk0, hk7, w2, w3, w4.1, w4.2, w5, fun h1 h7 => ?_, fun h2 h5 => ?_⟩
  · have h1' : (if p.kind = 7 then 1 else p.kind.toNat) = 1 := h1
    rw [if_neg h7] at h1'
    have := hlen (.inl (by omega))
    exact ⟨.inr this.1, by omega, by omega⟩
  · have h2' : 2 ≤ (if p.kind = 7 then 1 else p.kind.toNat) := h2
    have h5' : (if p.kind = 7 then 1 else p.kind.toNat) ≤ 5 := h5
    by_cases h7 : p.kind = 7
    · rw [if_pos h7] at h2'; omega
    · rw [if_neg h7] at h2' h5'
      have := hlen (.inr ⟨by omega, by omega⟩)
      exact ⟨.inr this.1, by omega, by omega⟩
theorem Own.rowO_up {w : World} {base : Nat} {e : TypeId} {v : Value} {xs : List Int} (h : Own w 0 .u8 e v xs) (hb : ∀ k, v.ownBlock = some k → base ≤ k) : RowO w base v xs := by
  obtain ⟨a, c, h1, h2, h3, h4, _⟩ := h.rowO
  exact ⟨a, c, h1, h2, h3, h4, fun ad e => hb ad.block (by rw [h1, e]; rfl)⟩
set_option linter.unusedSimpArgs false in
set_option maxRecDepth 100000 in
set_option maxHeartbeats 3200000 in
theorem kcode_any (p : Lset) (hp : p.Light) (a : Option Addr) (n cap : Nat) (f : Nat → PkV) (w : World) (hn : n ≤ 301) (hr : PvIn w.heap.size w a n f) (hf : ∀ i, i < n → (f i).wf) :
    Calls Try.prog 16 #[p.val, .slice a n cap, .int .i64 5000] w (fun e w' => ∃ ge, CodePost (kcode (cdrE w.heap.size ge) tcode ((List.range n).map f) (bare (lstart p), RC.new)) w e w') := by
  have HV := hid (show p.val = .agg #[.int .i64 p.lc, .int .i64 p.lp, .int .i64 p.pb, .int .i64 p.dict] from rfl)
  have HPL := hid hp
  have HROW := hid hr
  have HWF := hid hf
  have hn4 : (n : Int) ≤ 301 := by omega
  clear hp hr hf hn
  rw [HV.out]
  go_enter Try.func16, Try.ntmps16
  go_upto_region 1 with fail
  go_wp2_with (refine wpList_load_row rfl 23 _ rfl w.heap.size rfl 23 #[.int .i64 p.lc, .int .i64 p.lp, .int .i64 p.pb, .int .i64 p.dict] (0, 0) _ (by exact blk_new w _) Try.underlying23 rfl (by kernel_rfl) ?_)
  rw [← HV.out]
  refine (knew_any p HPL.out _).mono ?_
  rintro e w2 ⟨g, gp, cpp, rfl, hf2, hg1, hgp1, hne, hg2, hgp2, hat, hown⟩
  have F2 := hid (((Fr.refl Non w).alloc (.cells #[.int .i64 p.lc, .int .i64 p.lp, .int .i64 p.pb, .int .i64 p.dict] 23)).trans hf2)
  have HAT := hid hat
  have HOWN := hid hown
  have hws : w.heap.size ≤ (w.alloc (.cells #[.int .i64 p.lc, .int .i64 p.lp, .int .i64 p.pb, .int .i64 p.dict] 23)).heap.size := by simp
  have HG1 := hid (And.intro (Nat.le_trans hws hg1) (And.intro hg2 (And.intro (Nat.le_trans hws hgp1) (And.intro hgp2 hne))))
  clear hf2 hat hown hg1 hgp1 hne hg2 hgp2 hws
  go_wp2_with fail
  refine (enew_any w2).mono ?_
  rintro e w3 ⟨ge, rfl, hge, hf3, he3⟩
  have F3 := hid (F2.out.trans hf3)
  have hat3 := hf3.blk HAT.out id
  have c5 := blk_cell hat3 (j := 5) (v := .pointer none) rfl
  have z5 := blk_frozen hat3 5
  have HK := hid (kfreshE p HPL.out w.heap.size g gp cpp ge w2 w3 hat3 (HOWN.out.fr hf3 (fun _ _ => id)) HG1.out.2.2.2.2 ⟨HG1.out.1, HG1.out.2.1⟩ ⟨HG1.out.2.2.1, HG1.out.2.2.2.1⟩ hf3 he3)
  have F4 := hid (show Fr Non w (w3.setCell ⟨g, 5, none⟩ (.pointer (some ⟨ge, 0, none⟩))) from F3.out.then ((Fr.refl (fun k => k = g) _).setOne _ _) (fun k hk e => by have e' : k = g := e; have := HG1.out.1; omega))
  clear hf3 he3 hat3 hge
  obtain ⟨K, hK⟩ : ∃ K, K = cdrE w.heap.size ge := ⟨_, rfl⟩
  have HG := hid (show K.Good by rw [hK]; exact cdrE_good ..)
  have HKE := hid hK
  rw [← hK] at HK
  have HKF := hid (fun (W W' : World) (h1 : Fr Non w W) (h2 : Fr (KF K (fun _ => False)) W W') => (show Fr Non w W' from h1.then h2 (fun k hk e => by
    have e1 : K.lo ≤ k := e.1
    rw [HKE.out] at e1
    have e2 : w.heap.size ≤ k := e1
    omega)))
  have HFT := hid (fun (y : LS × RC) (q : PkV) (W : World) (h : KIs K (fun _ => False) g gp p.probs cpp W y.1 y.2) (hq : q.wf) (hl : y.1.H.length ≤ 6000) => (show Calls Try.prog 50 #[.pointer (some ⟨g, 0, none⟩), .agg #[.int .i64 q.kind, .int .u8 q.byte, .int .i64 q.len, .int .u32 q.dist]] W (fun e w' => e = .returned (.bool (kfit y.1 q)) ∧ Fr Non W w') from
    kfits_any HG.out.ok g gp p.probs cpp y.1 y.2 q W h hq.2.2.2.2 (by omega)))
  have HPKT := hid (fun (y : LS × RC) (q : PkV) (W : World) (h : KIs K (fun _ => False) g gp p.probs cpp W y.1 y.2) (hq : q.wf) (m B : Nat) (hB : B ≤ 6000) (hy : CInv w.heap.size ge B y (m + 60)) (hk : kfit y.1 q = true) => (show Calls Try.prog 51 #[.pointer (some ⟨g, 0, none⟩), .agg #[.int .i64 q.kind, .int .u8 q.byte, .int .i64 q.len, .int .u32 q.dist]] W (KPost K (fun _ => False) g gp p.probs cpp (.int .i64 (kpacket K y.1 y.2 q).2.2) (kpacket K y.1 y.2 q).1 (kpacket K y.1 y.2 q).2.1 W) from
    kpacket_any HG.out g gp p.probs cpp y.1 y.2 q W h (by have := hy.few; omega) (pkok_fit (by rw [HKE.out]; exact cdrE_echo ..) y.1 y.2 q hk hq) (by rw [HKE.out]; exact (cdrE_ok w.heap.size ge).fitM _ _ _ (by omega) hy.fit)))
  obtain ⟨x0, hx0⟩ : ∃ x0 : LS × RC, x0 = (bare (lstart p), RC.new) := ⟨_, rfl⟩
  have HX0 := hid hx0
  obtain ⟨M, hM⟩ : ∃ M : Nat, 3 * M + 2 = 1073741000 := ⟨357913666, rfl⟩
  have HM := hid (show 60 * 400 ≤ M ∧ ∀ N k : Nat, N + 3 * (M - 60 * k) ≤ 1073741000 → k ≤ 301 → N ≤ 54182 from ⟨by omega, fun N k h1 h2 => by omega⟩)
  have HST := hid (show CInv w.heap.size ge (5000 + 0) x0 (M - 60 * 0) by rw [hx0]; exact start_inv _ _ _ _ (by omega))
  have HK0 := hid (show KIs K (fun _ => False) g gp p.probs cpp (w3.setCell ⟨g, 5, none⟩ (.pointer (some ⟨ge, 0, none⟩))) x0.1 x0.2 by rw [hx0]; exact HK.out)
  clear hK hx0 HK hM
  go_wp2_with fail
  go_loopw [9] (fun iv wr => ∃ (i : Nat) (y : LS × RC), iv = .int .i64 i ∧ i ≤ n ∧ y = kcode K tcode ((List.range i).map f) x0 ∧ KIs K (fun _ => False) g gp p.probs cpp wr y.1 y.2 ∧ CInv w.heap.size ge (5000 + i) y (M - 60 * i) ∧ Fr Non w wr) (fun iv _ => n - (intOf iv).toNat)
  case atStart => exact ⟨0, x0, rfl, Nat.zero_le _, rfl, HK0.out, HST.out, F4.out⟩
  case round =>
    obtain ⟨i, y, rfl, hin, hy, hkis, hinv, hfr⟩ := hrel
    have HKIS := hid hkis
    have HINV := hid hinv
    have HFR := hid hfr
    have HY := hid hy
    obtain ⟨A5, v5, hv5⟩ := hkis
    obtain ⟨l, hl⟩ : ∃ l, l = y.1.H.length := ⟨_, rfl⟩
    have HL := hid hl
    clear hinv hfr hy c5 z5
    by_cases hlt : i < n
    · obtain ⟨b, off, ha, hbw, k0, k1, k2, k3⟩ := (HROW.out.fr HFR.out (fun _ _ => id)).at hlt
      subst ha
      obtain ⟨⟨kind, byte, len, dist⟩, hq⟩ : ∃ q, q = f i := ⟨_, rfl⟩
      rw [← hq] at k0 k1 k2 k3
      dsimp only at k0 k1 k2 k3
      have hwfq := HWF.out i hlt
      rw [← hq] at hwfq
      have HWQ := hid hwfq
      have HQ := hid hq
      have HLT := hid hlt
      have hlti : (i : Int) < (n : Int) := by omega
      obtain ⟨r, hr⟩ : ∃ r, r = kfit y.1 ⟨kind, byte, len, dist⟩ := ⟨_, rfl⟩
      obtain ⟨mx, hmx⟩ : ∃ mx, mx = max 1 len := ⟨_, rfl⟩
      obtain ⟨bb, hbb⟩ : ∃ b, b = decide (r = true ∧ IntKind.i64.wrap ((l : Int) + mx) ≤ 5000) := ⟨_, rfl⟩
      have HFITS := hid (fun (W : World) (hW : Fr Non wr W) => HFT.out y ⟨kind, byte, len, dist⟩ W (HKIS.out.any HG.out.ok hW) HWQ.out (by have := HINV.out.few; omega))
      rw [← hr] at HFITS
      obtain ⟨ao5, cp5, hov5, _⟩ := hv5.own.rowO
      rw [← hl] at hov5
      have c7 := hv5.cellC 7 (x := .slice ao5 l cp5) (by rw [hov5]; rfl)
      have hl5 : (l : Int) ≤ 6000 := by have := HINV.out.few; rw [← hl] at this; omega
      have HONE := hid (show kone K tcode y (f i) = if bb = true then ((kpacket K y.1 y.2 ⟨kind, byte, len, dist⟩).1, (kpacket K y.1 y.2 ⟨kind, byte, len, dist⟩).2.1) else y by
        rw [← hq, hbb, hr, hmx, hl]
        unfold kone tcode
        simp only [Bool.and_eq_true, decide_eq_true_eq])
      have HRB := hid (fun (h : bb = true) => (show kfit y.1 ⟨kind, byte, len, dist⟩ = true by rw [hbb] at h; rw [← hr]; exact (of_decide_eq_true h).1))
      have hlen := HWQ.out.2.2.2.1
      have hlen0 : -9223372036854775808 ≤ len := hlen.1
      have hlen1 : len ≤ 9223372036854775807 := hlen.2
      clear hv5 hov5 hl hr hq hwfq hlen
      go_upto_region 6 with fail
      go_cut [43] (fun b wx => b = .bool bb ∧ Fr Non wr wx)
      case first =>
        cases r with
        | false =>
          have hb0 : bb = false := by rw [hbb]; simp
          have HBB := hid hb0
          clear hb0 hbb hmx c7
          refine wp_region_held_drew (S := fun wx => wx.cell? ⟨b, off + i * 4, none⟩ = some (.int .i64 kind) ∧ wx.cell? ⟨b, off + i * 4 + 1, none⟩ = some (.int .u8 byte) ∧ wx.cell? ⟨b, off + i * 4 + 2, none⟩ = some (.int .i64 len) ∧ wx.cell? ⟨b, off + i * 4 + 3, none⟩ = some (.int .u32 dist)) (by kernel_rfl) (by exact ⟨Fr.cell (S := Non) (w := wr) (by repeat (first | exact Fr.refl _ _ | refine Fr.drew ?_ | refine Fr.drewN ?_ _ | refine Fr.trans ?_ (by assumption))) k0 id, Fr.cell (S := Non) (w := wr) (by repeat (first | exact Fr.refl _ _ | refine Fr.drew ?_ | refine Fr.drewN ?_ _ | refine Fr.trans ?_ (by assumption))) k1 id, Fr.cell (S := Non) (w := wr) (by repeat (first | exact Fr.refl _ _ | refine Fr.drew ?_ | refine Fr.drewN ?_ _ | refine Fr.trans ?_ (by assumption))) k2 id, Fr.cell (S := Non) (w := wr) (by repeat (first | exact Fr.refl _ _ | refine Fr.drew ?_ | refine Fr.drewN ?_ _ | refine Fr.trans ?_ (by assumption))) k3 id⟩) (fun hHeld => ?_)
          refine wpAnyH_take (i := 0) (v := ?_) rfl (by kernel_rfl) (by kernel_rfl) (by kernel_rfl) (fun _ _ _ h => h) (Or.inl ⟨by rfl, ?_⟩) (by assumption) ?_
          rotate_left 1
          · (intro w hSw; (try dsimp only at hSw); obtain ⟨e0, e1, e2, e3⟩ := hSw; go_simp; (try with_reducible rfl))
          (try simp only [List.getElem_toArray, List.getElem_cons_zero, List.getElem_cons_succ, Act.put, List.setIfInBounds_toArray, List.set_cons_zero, List.set_cons_succ])
          refine wpAnyH_take (i := 1) (v := ?_) rfl (by kernel_rfl) (by kernel_rfl) (by kernel_rfl) (fun _ _ _ h => h) (Or.inl ⟨by rfl, ?_⟩) (by assumption) ?_
          rotate_left 1
          · (intro w hSw; (try dsimp only at hSw); obtain ⟨e0, e1, e2, e3⟩ := hSw; go_simp; (try with_reducible rfl))
          (try simp only [List.getElem_toArray, List.getElem_cons_zero, List.getElem_cons_succ, Act.put, List.setIfInBounds_toArray, List.set_cons_zero, List.set_cons_succ])
          refine wpAnyH_take (i := 2) (v := ?_) rfl (by kernel_rfl) (by kernel_rfl) (by kernel_rfl) (fun _ _ _ h => h) (Or.inl ⟨by rfl, ?_⟩) (by assumption) ?_
          rotate_left 1
          · (intro w hSw; (try dsimp only at hSw); obtain ⟨e0, e1, e2, e3⟩ := hSw; go_simp; (try with_reducible rfl))
          (try simp only [List.getElem_toArray, List.getElem_cons_zero, List.getElem_cons_succ, Act.put, List.setIfInBounds_toArray, List.set_cons_zero, List.set_cons_succ])
          refine wpAnyH_take (i := 3) (v := ?_) rfl (by kernel_rfl) (by kernel_rfl) (by kernel_rfl) (fun _ _ _ h => h) (Or.inl ⟨by rfl, ?_⟩) (by assumption) ?_
          rotate_left 1
          · (intro w hSw; (try dsimp only at hSw); obtain ⟨e0, e1, e2, e3⟩ := hSw; go_simp; (try with_reducible rfl))
          (try simp only [List.getElem_toArray, List.getElem_cons_zero, List.getElem_cons_succ, Act.put, List.setIfInBounds_toArray, List.set_cons_zero, List.set_cons_succ])
          refine wpAnyH_take (i := 4) (v := ?_) rfl (by kernel_rfl) (by kernel_rfl) (by kernel_rfl) (fun _ _ _ h => h) (Or.inl ⟨by rfl, ?_⟩) (by assumption) ?_
          rotate_left 1
          · (intro w hSw; (try dsimp only at hSw); obtain ⟨e0, e1, e2, e3⟩ := hSw; go_simp; (try with_reducible rfl))
          (try simp only [List.getElem_toArray, List.getElem_cons_zero, List.getElem_cons_succ, Act.put, List.setIfInBounds_toArray, List.set_cons_zero, List.set_cons_succ])
          refine wpAnyH_ready (rs := [5]) (by kernel_rfl) (by simp) ?_
          refine AllReadyH.cons rfl (fun K9 hK9 => ?_) AllReadyH.nil
          go_simp
          refine (HFITS.out _ (by repeat (first | exact Fr.refl _ _ | refine Fr.drew ?_ | refine Fr.drewN ?_ _ | refine Fr.trans ?_ (by assumption)))).mono ?_; rintro e wq ⟨rfl, hfq⟩
          go_wp2_with fail
          refine hK9.out _ _ ?_ (fun hHeld9 => ?_)
          · exact ⟨Fr.cell (S := Non) (w := wr) (by repeat (first | exact Fr.refl _ _ | refine Fr.drew ?_ | refine Fr.drewN ?_ _ | refine Fr.trans ?_ (by assumption))) k0 id, Fr.cell (S := Non) (w := wr) (by repeat (first | exact Fr.refl _ _ | refine Fr.drew ?_ | refine Fr.drewN ?_ _ | refine Fr.trans ?_ (by assumption))) k1 id, Fr.cell (S := Non) (w := wr) (by repeat (first | exact Fr.refl _ _ | refine Fr.drew ?_ | refine Fr.drewN ?_ _ | refine Fr.trans ?_ (by assumption))) k2 id, Fr.cell (S := Non) (w := wr) (by repeat (first | exact Fr.refl _ _ | refine Fr.drew ?_ | refine Fr.drewN ?_ _ | refine Fr.trans ?_ (by assumption))) k3 id⟩
          clear hK9 K9
          (try simp only [List.getElem_toArray, List.getElem_cons_zero, List.getElem_cons_succ, Act.put, List.setIfInBounds_toArray, List.set_cons_zero, List.set_cons_succ])
          refine wpAnyH_take (i := 6) (v := ?_) rfl (by kernel_rfl) (by kernel_rfl) (by kernel_rfl) (fun _ _ _ h => h) (Or.inl ⟨by rfl, ?_⟩) (by assumption) ?_
          rotate_left 1
          · (intro w hSw; (try dsimp only at hSw); obtain ⟨e0, e1, e2, e3⟩ := hSw; go_simp; (try with_reducible rfl))
          (try simp only [List.getElem_toArray, List.getElem_cons_zero, List.getElem_cons_succ, Act.put, List.setIfInBounds_toArray, List.set_cons_zero, List.set_cons_succ])
          refine wpAnyH_take (i := 7) (v := undef) rfl (by kernel_rfl) (by kernel_rfl) (by kernel_rfl) (fun _ _ _ h => h) (Or.inr ⟨by kernel_rfl, rfl⟩) (by assumption) ?_
          (try simp only [List.getElem_toArray, List.getElem_cons_zero, List.getElem_cons_succ, Act.put, List.setIfInBounds_toArray, List.set_cons_zero, List.set_cons_succ])
          refine wpAnyH_take (i := 8) (v := undef) rfl (by kernel_rfl) (by kernel_rfl) (by kernel_rfl) (fun _ _ _ h => h) (Or.inr ⟨by kernel_rfl, rfl⟩) (by assumption) ?_
          (try simp only [List.getElem_toArray, List.getElem_cons_zero, List.getElem_cons_succ, Act.put, List.setIfInBounds_toArray, List.set_cons_zero, List.set_cons_succ])
          refine wpAnyH_take (i := 9) (v := undef) rfl (by kernel_rfl) (by kernel_rfl) (by kernel_rfl) (fun _ _ _ h => h) (Or.inr ⟨by kernel_rfl, rfl⟩) (by assumption) ?_
          (try simp only [List.getElem_toArray, List.getElem_cons_zero, List.getElem_cons_succ, Act.put, List.setIfInBounds_toArray, List.set_cons_zero, List.set_cons_succ])
          refine wpAnyH_take (i := 10) (v := undef) rfl (by kernel_rfl) (by kernel_rfl) (by kernel_rfl) (fun _ _ _ h => h) (Or.inr ⟨by kernel_rfl, rfl⟩) (by assumption) ?_
          (try simp only [List.getElem_toArray, List.getElem_cons_zero, List.getElem_cons_succ, Act.put, List.setIfInBounds_toArray, List.set_cons_zero, List.set_cons_succ])
          refine wpAnyH_take (i := 11) (v := undef) rfl (by kernel_rfl) (by kernel_rfl) (by kernel_rfl) (fun _ _ _ h => h) (Or.inr ⟨by kernel_rfl, rfl⟩) (by assumption) ?_
          (try simp only [List.getElem_toArray, List.getElem_cons_zero, List.getElem_cons_succ, Act.put, List.setIfInBounds_toArray, List.set_cons_zero, List.set_cons_succ])
          refine wpAnyH_take (i := 12) (v := undef) rfl (by kernel_rfl) (by kernel_rfl) (by kernel_rfl) (fun _ _ _ h => h) (Or.inr ⟨by kernel_rfl, rfl⟩) (by assumption) ?_
          (try simp only [List.getElem_toArray, List.getElem_cons_zero, List.getElem_cons_succ, Act.put, List.setIfInBounds_toArray, List.set_cons_zero, List.set_cons_succ])
          refine wpAnyH_take (i := 13) (v := undef) rfl (by kernel_rfl) (by kernel_rfl) (by kernel_rfl) (fun _ _ _ h => h) (Or.inr ⟨by kernel_rfl, rfl⟩) (by assumption) ?_
          (try simp only [List.getElem_toArray, List.getElem_cons_zero, List.getElem_cons_succ, Act.put, List.setIfInBounds_toArray, List.set_cons_zero, List.set_cons_succ])
          refine wpAnyH_take (i := 14) (v := undef) rfl (by kernel_rfl) (by kernel_rfl) (by kernel_rfl) (fun _ _ _ h => h) (Or.inr ⟨by kernel_rfl, rfl⟩) (by assumption) ?_
          (try simp only [List.getElem_toArray, List.getElem_cons_zero, List.getElem_cons_succ, Act.put, List.setIfInBounds_toArray, List.set_cons_zero, List.set_cons_succ])
          refine wpAnyH_take (i := 15) (v := undef) rfl (by kernel_rfl) (by kernel_rfl) (by kernel_rfl) (fun _ _ _ h => h) (Or.inr ⟨by kernel_rfl, rfl⟩) (by assumption) ?_
          (try simp only [List.getElem_toArray, List.getElem_cons_zero, List.getElem_cons_succ, Act.put, List.setIfInBounds_toArray, List.set_cons_zero, List.set_cons_succ])
          refine wpAnyH_take (i := 16) (v := undef) rfl (by kernel_rfl) (by kernel_rfl) (by kernel_rfl) (fun _ _ _ h => h) (Or.inr ⟨by kernel_rfl, rfl⟩) (by assumption) ?_
          (try simp only [List.getElem_toArray, List.getElem_cons_zero, List.getElem_cons_succ, Act.put, List.setIfInBounds_toArray, List.set_cons_zero, List.set_cons_succ])
          refine wpAnyH_take (i := 17) (v := undef) rfl (by kernel_rfl) (by kernel_rfl) (by kernel_rfl) (fun _ _ _ h => h) (Or.inr ⟨by kernel_rfl, rfl⟩) (by assumption) ?_
          (try simp only [List.getElem_toArray, List.getElem_cons_zero, List.getElem_cons_succ, Act.put, List.setIfInBounds_toArray, List.set_cons_zero, List.set_cons_succ])
          refine wpAnyH_take (i := 18) (v := undef) rfl (by kernel_rfl) (by kernel_rfl) (by kernel_rfl) (fun _ _ _ h => h) (Or.inr ⟨by kernel_rfl, rfl⟩) (by assumption) ?_
          (try simp only [List.getElem_toArray, List.getElem_cons_zero, List.getElem_cons_succ, Act.put, List.setIfInBounds_toArray, List.set_cons_zero, List.set_cons_succ])
          refine wpAnyH_take (i := 19) (v := undef) rfl (by kernel_rfl) (by kernel_rfl) (by kernel_rfl) (fun _ _ _ h => h) (Or.inr ⟨by kernel_rfl, rfl⟩) (by assumption) ?_
          (try simp only [List.getElem_toArray, List.getElem_cons_zero, List.getElem_cons_succ, Act.put, List.setIfInBounds_toArray, List.set_cons_zero, List.set_cons_succ])
          refine wpAnyH_take (i := 20) (v := undef) rfl (by kernel_rfl) (by kernel_rfl) (by kernel_rfl) (fun _ _ _ h => h) (Or.inr ⟨by kernel_rfl, rfl⟩) (by assumption) ?_
          (try simp only [List.getElem_toArray, List.getElem_cons_zero, List.getElem_cons_succ, Act.put, List.setIfInBounds_toArray, List.set_cons_zero, List.set_cons_succ])
          refine wpAnyH_take (i := 21) (v := ?_) rfl (by kernel_rfl) (by kernel_rfl) (by kernel_rfl) (fun _ _ _ h => h) (Or.inl ⟨by rfl, ?_⟩) (by assumption) ?_
          rotate_left 1
          · (intro w hSw; (try dsimp only at hSw); obtain ⟨e0, e1, e2, e3⟩ := hSw; go_simp; (try with_reducible rfl))
          (try simp only [List.getElem_toArray, List.getElem_cons_zero, List.getElem_cons_succ, Act.put, List.setIfInBounds_toArray, List.set_cons_zero, List.set_cons_succ])
          refine wpAnyH_done (by kernel_rfl) ?_ _
          have HFQ := hid hfq
          clear hfq
          go_wp2_with fail
          go_meet
          exact ⟨by rw [HBB.out], (by have := HFQ.out; first | assumption | exact (by repeat (first | exact Fr.refl _ _ | refine Fr.drew ?_ | refine Fr.drewN ?_ _ | refine Fr.trans ?_ (by assumption))))⟩
        | true =>
          have hmx2 : (len ≤ 1 ∧ mx = 1) ∨ (1 < len ∧ mx = len) := by omega
          have HBB := hid hbb
          clear hbb hmx
          rcases hmx2 with ⟨hm1, rfl⟩ | ⟨hm1, hml⟩
          · go_region_held3 (fun wx => wx.cell? ⟨b, off + i * 4, none⟩ = some (.int .i64 kind) ∧ wx.cell? ⟨b, off + i * 4 + 1, none⟩ = some (.int .u8 byte) ∧ wx.cell? ⟨b, off + i * 4 + 2, none⟩ = some (.int .i64 len) ∧ wx.cell? ⟨b, off + i * 4 + 3, none⟩ = some (.int .u32 dist) ∧ wx.cell? ⟨g, 7, none⟩ = some (.slice ao5 l cp5)) (exact ⟨Fr.cell (S := Non) (w := wr) (by repeat (first | exact Fr.refl _ _ | refine Fr.drew ?_ | refine Fr.drewN ?_ _ | refine Fr.trans ?_ (by assumption))) k0 id, Fr.cell (S := Non) (w := wr) (by repeat (first | exact Fr.refl _ _ | refine Fr.drew ?_ | refine Fr.drewN ?_ _ | refine Fr.trans ?_ (by assumption))) k1 id, Fr.cell (S := Non) (w := wr) (by repeat (first | exact Fr.refl _ _ | refine Fr.drew ?_ | refine Fr.drewN ?_ _ | refine Fr.trans ?_ (by assumption))) k2 id, Fr.cell (S := Non) (w := wr) (by repeat (first | exact Fr.refl _ _ | refine Fr.drew ?_ | refine Fr.drewN ?_ _ | refine Fr.trans ?_ (by assumption))) k3 id, Fr.cell (S := Non) (w := wr) (by repeat (first | exact Fr.refl _ _ | refine Fr.drew ?_ | refine Fr.drewN ?_ _ | refine Fr.trans ?_ (by assumption))) c7 id⟩) (first | (go_at_call 50; refine (HFITS.out _ (by repeat (first | exact Fr.refl _ _ | refine Fr.drew ?_ | refine Fr.drewN ?_ _ | refine Fr.trans ?_ (by assumption)))).mono ?_; rintro e wq ⟨rfl, hfq⟩))
            all_goals
              have HFQ := hid (show Fr Non wr wq from (by repeat (first | exact Fr.refl _ _ | refine Fr.drew ?_ | refine Fr.drewN ?_ _ | refine Fr.trans ?_ (by assumption))))
              clear hfq c7 k0 k1 k2 k3
              go_wp2_with fail
              go_meet
              exact ⟨by rw [HBB.out]; congr 1; simp, HFQ.out⟩
          · have hml' := hml.symm
            subst hml'
            clear hml
            go_region_held3 (fun wx => wx.cell? ⟨b, off + i * 4, none⟩ = some (.int .i64 kind) ∧ wx.cell? ⟨b, off + i * 4 + 1, none⟩ = some (.int .u8 byte) ∧ wx.cell? ⟨b, off + i * 4 + 2, none⟩ = some (.int .i64 len) ∧ wx.cell? ⟨b, off + i * 4 + 3, none⟩ = some (.int .u32 dist) ∧ wx.cell? ⟨g, 7, none⟩ = some (.slice ao5 l cp5)) (exact ⟨Fr.cell (S := Non) (w := wr) (by repeat (first | exact Fr.refl _ _ | refine Fr.drew ?_ | refine Fr.drewN ?_ _ | refine Fr.trans ?_ (by assumption))) k0 id, Fr.cell (S := Non) (w := wr) (by repeat (first | exact Fr.refl _ _ | refine Fr.drew ?_ | refine Fr.drewN ?_ _ | refine Fr.trans ?_ (by assumption))) k1 id, Fr.cell (S := Non) (w := wr) (by repeat (first | exact Fr.refl _ _ | refine Fr.drew ?_ | refine Fr.drewN ?_ _ | refine Fr.trans ?_ (by assumption))) k2 id, Fr.cell (S := Non) (w := wr) (by repeat (first | exact Fr.refl _ _ | refine Fr.drew ?_ | refine Fr.drewN ?_ _ | refine Fr.trans ?_ (by assumption))) k3 id, Fr.cell (S := Non) (w := wr) (by repeat (first | exact Fr.refl _ _ | refine Fr.drew ?_ | refine Fr.drewN ?_ _ | refine Fr.trans ?_ (by assumption))) c7 id⟩) (first | (go_at_call 50; refine (HFITS.out _ (by repeat (first | exact Fr.refl _ _ | refine Fr.drew ?_ | refine Fr.drewN ?_ _ | refine Fr.trans ?_ (by assumption)))).mono ?_; rintro e wq ⟨rfl, hfq⟩))
            all_goals
              have HFQ := hid (show Fr Non wr wq from (by repeat (first | exact Fr.refl _ _ | refine Fr.drew ?_ | refine Fr.drewN ?_ _ | refine Fr.trans ?_ (by assumption))))
              clear hfq c7 k0 k1 k2 k3
              go_wp2_with fail
              go_meet
              exact ⟨by rw [HBB.out]; congr 1; simp, HFQ.out⟩
      case rest =>
        obtain ⟨rfl, hfc⟩ := hcut
        obtain ⟨w4, hw4⟩ : ∃ x, x = wc := ⟨_, rfl⟩
        rw [← hw4] at hfc ⊢
        have F4 := hid (HFR.out.trans hfc)
        have HK4 := hid (HKIS.out.any HG.out.ok hfc)
        have k0' := hfc.cell k0 id
        have k1' := hfc.cell k1 id
        have k2' := hfc.cell k2 id
        have k3' := hfc.cell k3 id
        have HNX := hid (show kcode K tcode ((List.range (i + 1)).map f) x0 = kone K tcode y (f i) by rw [kcode_snoc, ← HY.out])
        have HIN2 := hid (show CInv w.heap.size ge (5000 + i + 1) (kone K tcode y (f i)) (M - 60 * (i + 1)) by
          rw [HKE.out]
          refine kone_inv ?_ (by omega) (by have := HLT.out; omega) (f i)
          have e : M - 60 * (i + 1) + 60 = M - 60 * i := by have := HLT.out; have := HM.out.1; omega
          rw [e]
          exact HINV.out)
        clear hfc hw4 k0 k1 k2 k3 c7 hbb hmx
        cases bb with
        | false =>
          go_wp2_with fail
          refine ⟨⟨i + 1, y, by push_cast; rfl, by have := HLT.out; omega, by rw [HNX.out, HONE.out, if_neg (by decide)], HK4.out, ?_, F4.out⟩, by simp [intOf]; have := HLT.out; omega⟩
          have := HIN2.out
          rw [HONE.out, if_neg (by decide)] at this
          exact this
        | true =>
          have HPK := hid (HPKT.out y ⟨kind, byte, len, dist⟩ w4 HK4.out HWQ.out (M - 60 * (i + 1)) (5000 + i) (by have := HLT.out; omega) (by
            have e : M - 60 * (i + 1) + 60 = M - 60 * i := by have := HLT.out; have := HM.out.1; omega
            rw [e]
            exact HINV.out) (HRB.out rfl))
          obtain ⟨X, hX⟩ : ∃ X, X = kpacket K y.1 y.2 ⟨kind, byte, len, dist⟩ := ⟨_, rfl⟩
          rw [← hX] at HPK HONE
          have HONE2 := hid (show kone K tcode y (f i) = (X.1, X.2.1) by rw [HONE.out]; rfl)
          clear hX HONE
          go_wp2_with fail
          refine HPK.out.mono ?_
          rintro e w5 ⟨rfl, hf5, h5⟩
          have F5 := hid (HKF.out _ _ F4.out hf5)
          have H5 := hid h5
          clear hf5 h5 k0' k1' k2' k3'
          go_wp2_with fail
          refine ⟨⟨i + 1, (X.1, X.2.1), by push_cast; rfl, by have := HLT.out; omega, by rw [HNX.out]; exact HONE2.out.symm, H5.out, ?_, F5.out⟩, by simp [intOf]; have := HLT.out; omega⟩
          have := HIN2.out
          rw [HONE2.out] at this
          exact this
    · have hlti : ¬ (i : Int) < (n : Int) := by omega
      have hie : i = n := by omega
      subst hie
      have hfit := HINV.out.fit
      obtain ⟨N, hN, hby, hNs⟩ := hfit
      have HLEN := hid (show y.2.len ≤ 55000 by
        have h1 := HM.out.2 N i hNs (by omega)
        have h2 := hN.size
        unfold RC.len
        omega)
      have hI := hv5.co
      rw [HKE.out] at hI
      obtain ⟨he1, _, _⟩ : EncC (fun k => A5 k ∨ k < w.heap.size) ge wr y.2 ∧ (∀ k, A5 k → w.heap.size ≤ k ∧ k < wr.heap.size) ∧ w.heap.size ≤ wr.heap.size := hI
      obtain ⟨vb, heb, hob, hsb⟩ := enc_bytes he1 hN hby
      obtain ⟨ab, cb, hvb, _⟩ := hob.rowO
      obtain ⟨nb, hnb⟩ : ∃ nb, nb = (y.2.gives 5).out.length := ⟨_, rfl⟩
      rw [← hnb] at hvb
      subst hvb
      have HOB := hid hob
      have HSB := hid hsb
      have HRU := hid (hv5.rowO HG.out.ok)
      obtain ⟨ao5, cp5, hov5, _⟩ := hv5.own.rowO
      rw [hov5] at HRU
      have c5 := hv5.cellC 5 (x := .pointer (some ⟨ge, 0, none⟩)) (by rw [HKE.out]; rfl)
      have c7 := hv5.cellC 7 (x := .slice ao5 y.1.H.length cp5) (by rw [hov5]; rfl)
      have e0 := blk_cell heb (j := 0) (v := .slice ab nb cb) rfl
      clear hv5 hov5 he1 heb hob hsb hN hby hlt hl hnb hNs
      go_wp2_with fail
      go_quiet (fail)
      go_wp2_with fail
      go_ret2
      exact ⟨ge, HFR.out.drewN _, by rw [← HX0.out, ← HKE.out, ← HY.out]; exact HLEN.out, by rw [← HX0.out, ← HKE.out, ← HY.out]; have := HINV.out.few; omega, _, _, rfl, by rw [← HX0.out, ← HKE.out, ← HY.out]; exact (Own.rowO_up HOB.out (fun k hk => by have := HSB.out k hk; omega)).fr ((Fr.refl Non _).drewN _) (fun _ _ _ e => e), by rw [← HX0.out, ← HKE.out, ← HY.out]; have := HRU.out; rw [HKE.out] at this; exact RowO.fr this ((Fr.refl Non _).drewN _) (fun _ _ _ e => e)⟩
end Go.Proofs.Ytjnegcambbeblaa

/- The document's Unpack. -/
namespace Go.Proofs.Ytjnegcambbeblaa
open Go.RowKit

def pz : PkV := ⟨0, 0, 0, 0⟩
theorem pz_ok (a : Option Addr) (n cap : Nat) (f : Nat → Int) (lo gd k : Nat) : PkOk (cdrD a n cap f lo gd) pz k :=
  ⟨by decide, by decide, by decide, by decide, by decide, by decide, by decide, fun _ _ => ⟨.inl trivial, by decide, by decide⟩, fun _ _ => ⟨.inl trivial, by decide, by decide⟩⟩
set_option maxRecDepth 100000 in
set_option maxHeartbeats 3200000 in
theorem kunpack_any (p : Lset) (hp : p.Light) (x : Int) (size : Nat) (hx : x.toNat = size) (hx5 : x ≤ 5000) (a : Option Addr) (n cap : Nat) (f : Nat → Int) (hf : ∀ i, i < n → 0 ≤ f i ∧ f i < 256) (w : World) (hn : n ≤ 20000) (hr : RowIn w.heap.size .u8 w a n f) :
    Calls Try.prog 24 #[.slice a n cap, p.val, .int .i64 x] w (KUnPost (lunpack (feedNx f n) 0 p p.dict.toNat size) w) := by
  obtain ⟨R, hR⟩ : ∃ R, R = lunpack (feedNx f n) 0 p p.dict.toNat size := ⟨_, rfl⟩
  rw [← hR]
  have HV := hid (show p.val = .agg #[.int .i64 p.lc, .int .i64 p.lp, .int .i64 p.pb, .int .i64 p.dict] from rfl)
  have HPL := hid hp
  have HMAY := hid (Lset.may_iff.2 hp.may)
  have HX := hid hx
  have hs5 : size ≤ 5000 := by omega
  have HF := hid hf
  have HROW := hid hr
  have HR := hid hR
  have HN := hid hn
  clear hR hp hx hf hr hn
  rw [HV.out]
  go_enter Try.func24, Try.ntmps24
  go_upto_region 1 with fail
  go_wp2_with (refine wpList_load_row rfl 23 _ rfl w.heap.size rfl 23 #[.int .i64 p.lc, .int .i64 p.lp, .int .i64 p.pb, .int .i64 p.dict] (0, 0) _ (by exact blk_new w _) Try.underlying23 rfl (by kernel_rfl) ?_)
  rw [← HV.out]
  refine (rmay_any p _).mono ?_
  rintro e w1 ⟨rfl, hf1⟩
  rw [HMAY.out]
  have HB1 := hid (hf1.blk (blk_new w (.cells #[.int .i64 p.lc, .int .i64 p.lp, .int .i64 p.pb, .int .i64 p.dict] 23)) id)
  have F1 := hid (((Fr.refl Non w).alloc (.cells #[.int .i64 p.lc, .int .i64 p.lp, .int .i64 p.pb, .int .i64 p.dict] 23)).trans hf1)
  clear hf1
  go_wp2_with (refine wpList_load_row rfl 23 _ rfl w.heap.size rfl 23 #[.int .i64 p.lc, .int .i64 p.lp, .int .i64 p.pb, .int .i64 p.dict] (0, 0) _ (by exact HB1.out) Try.underlying23 rfl (by kernel_rfl) ?_)
  rw [← HV.out]
  refine (knew_any p HPL.out _).mono ?_
  rintro e w2 ⟨g, gp, cpp, rfl, hf2, hg1, hgp1, hne, hg2, hgp2, hat, hown⟩
  have F2 := hid (F1.out.trans hf2)
  have HAT := hid hat
  have HOWN := hid hown
  have HG1 := hid (And.intro (Nat.le_trans F1.out.size hg1) (And.intro hg2 (And.intro (Nat.le_trans F1.out.size hgp1) (And.intro hgp2 hne))))
  clear hf2 hat hown hg1 hgp1 hne hg2 hgp2
  go_wp2_with fail
  refine (rnew_any a n cap f HF.out w.heap.size w2 (by have := HN.out; omega) (HROW.out.fr F2.out (fun _ _ => id)) F2.out.size).mono ?_
  rintro e w3 ⟨gd, hgd1, hgd2, rfl, hf3, hd3⟩
  have F3 := hid (F2.out.trans hf3)
  have hat3 := hf3.blk HAT.out id
  have c4 := blk_cell hat3 (j := 4) (v := .pointer none) rfl
  have z4 := blk_frozen hat3 4
  have HK := hid (kfresh p HPL.out a n cap f w.heap.size g gp cpp gd w3 hat3 (HOWN.out.fr hf3 (fun _ _ => id)) HG1.out.2.2.2.2 ⟨HG1.out.1, by have := HG1.out.2.1; omega, by have := HG1.out.2.1; have := hf3.size; omega⟩ ⟨HG1.out.2.2.1, by have := HG1.out.2.2.2.1; omega, by have := HG1.out.2.2.2.1; have := hf3.size; omega⟩ hd3)
  have F4 := hid (show Fr Non w (w3.setCell ⟨g, 4, none⟩ (.pointer (some ⟨gd, 0, none⟩))) from F3.out.then ((Fr.refl (fun k => k = g) _).setOne _ _) (fun k hk e => by have e' : k = g := e; have := HG1.out.1; omega))
  have HGD := hid hgd1
  clear hf3 hd3 hat3 hgd1 hgd2
  obtain ⟨K, hK⟩ : ∃ K, K = cdrD a n cap f w.heap.size gd := ⟨_, rfl⟩
  have HG := hid (show K.Good by rw [hK]; exact cdrD_good a n cap f HF.out (by have := HN.out; omega) w.heap.size gd)
  have HKE := hid hK
  rw [← hK] at HK
  have hKF : ∀ W W', Fr Non w W → Fr (KF K (fun _ => False)) W W' → Fr Non w W' := fun W W' h1 h2 => h1.then h2 (fun k hk e => by
    have e1 : K.lo ≤ k := e.1
    rw [HKE.out] at e1
    have e2 : w.heap.size ≤ k := e1
    omega)
  have HKF := hid hKF
  have HRK := hid (show R = kfin a n cap f w.heap.size gd pz (kgo K pz size size (bare (lstart p)) (RD.new (feedNx f n) 0)) by
    rw [HR.out, HKE.out, ← kunp_fin, kunp_is]
    have := HPL.out.may.d0
    omega)
  have HPKT := hid (fun (s : LS) (c : RD Nat) (W : World) (h : KIs K (fun _ => False) g gp p.probs cpp W s c) (hl : s.H.length ≤ 59000) => (show Calls Try.prog 51 #[.pointer (some ⟨g, 0, none⟩), .agg #[.int .i64 0, .int .u8 0, .int .i64 0, .int .u32 0]] W (KPost K (fun _ => False) g gp p.probs cpp (.int .i64 (kpacket K s c pz).2.2) (kpacket K s c pz).1 (kpacket K s c pz).2.1 W) from
    kpacket_any HG.out g gp p.probs cpp s c pz W h hl (by rw [HKE.out]; exact pz_ok ..) (by rw [HKE.out]; trivial)))
  have HLEFT := hid (fun (s : LS) (c : RD Nat) (W : World) (h : KIs K (fun _ => False) g gp p.probs cpp W s c) => (show Calls Try.prog 64 #[.pointer (some ⟨g, 0, none⟩)] W (fun e w' => e = .returned (.bool (kleft n c)) ∧ Fr Non W w') from
    kleft_any (U := fun _ => False) a n cap f w.heap.size gd g gp p.probs cpp s c W (by rw [← HKE.out]; exact h) (by have := HN.out; omega)))
  have hKdv : K.dv = .pointer (some ⟨gd, 0, none⟩) := by rw [HKE.out]; rfl
  have hKgd : K.gd = some gd := by rw [HKE.out]; rfl
  have hKlo : K.lo = w.heap.size := by rw [HKE.out]; rfl
  have HKD := hid (And.intro hKdv (And.intro hKgd hKlo))
  clear hK hKF hKdv hKgd hKlo
  go_wp2_with fail
  go_loopw [] (fun wr => ∃ (s : LS) (c : RD Nat) (k : Nat), R = kfin a n cap f w.heap.size gd pz (kgo K pz size k s c) ∧ size - s.H.length ≤ k ∧ s.H.length ≤ size ∧ KIs K (fun _ => False) g gp p.probs cpp wr s c ∧ Fr Non w wr) (fun wr => size - hlenW g wr)
  case atStart => exact ⟨bare (lstart p), RD.new (feedNx f n) 0, size, HRK.out, Nat.sub_le _ _, Nat.zero_le _, HK.out, F4.out⟩
  case round =>
    obtain ⟨s, c, k, hRk, hks, hle, hkis, hfr⟩ := hrel
    have HKIS := hid hkis
    have HFR := hid hfr
    have HRK2 := hid hRk
    obtain ⟨A5, v5, hv5⟩ := hkis
    obtain ⟨ao5, cp5, hov5, _⟩ := hv5.own.rowO
    have c7 := hv5.cellC 7 (x := .slice ao5 s.H.length cp5) (by rw [hov5]; rfl)
    obtain ⟨l, hl⟩ : ∃ l, l = s.H.length := ⟨_, rfl⟩
    rw [← hl] at c7 hks hle
    have HL := hid hl
    have hmeas : hlenW g wr = l := by unfold hlenW; rw [c7]
    have HMS := hid hmeas
    have HKS := hid hks
    clear hRk hfr hv5 hov5 hl c4 z4 hks hmeas
    by_cases hlt : l < size
    · have hxe : x = (size : Int) := by have := HX.out; omega
      have HXE := hid hxe
      have hlx : (l : Int) < x := by omega
      obtain ⟨X, hX⟩ : ∃ X, X = kpacket K s c pz := ⟨_, rfl⟩
      have hstep := kgo_step K pz size (k := k) (s := s) (c := c) (by rw [← HL.out]; exact HKS.out) (by rw [← HL.out]; exact hlt) X hX
      have HSTEP := hid hstep
      have HPK := hid (HPKT.out s c wr HKIS.out (by rw [← HL.out]; omega))
      rw [← hX] at HPK
      clear hstep hxe hX hle hlt
      go_wp2_with fail
      refine HPK.out.mono ?_
      rintro e w5 ⟨rfl, hf5, h5⟩
      have F5 := hid (HKF.out _ _ HFR.out hf5)
      have H5 := hid h5
      obtain ⟨A6, v6, hv6⟩ := h5
      obtain ⟨bb, hbb⟩ : ∃ b, b = X.1.bad := ⟨_, rfl⟩
      obtain ⟨ee, hee⟩ : ∃ b, b = X.1.ended := ⟨_, rfl⟩
      obtain ⟨dd, hdd⟩ : ∃ b, b = K.bad X.2.1 := ⟨_, rfl⟩
      obtain ⟨ao6, cp6, hov6, _⟩ := hv6.own.rowO
      obtain ⟨l1, hl1⟩ : ∃ l, l = X.1.H.length := ⟨_, rfl⟩
      have c7 := hv6.cellC 7 (x := .slice ao6 l1 cp6) (by rw [hl1, ← hov6]; rfl)
      have c14 := hv6.cellC 14 (x := .bool bb) (by rw [hbb]; rfl)
      have c13 := hv6.cellC 13 (x := .bool ee) (by rw [hee]; rfl)
      have c4 := hv6.cellC 4 (x := .pointer (some ⟨gd, 0, none⟩)) (by rw [← HKD.out.1]; rfl)
      have cd4 := HG.out.ok.cell _ _ _ gd HKD.out.2.1 hv6.co
      rw [← hdd] at cd4
      have hno : ((bb || ee || dd) = true ∨ size < l1) → R = none := fun h => by
        rw [HRK2.out]
        rcases h with h | h
        · rw [HSTEP.out.1 (by rw [← hbb, ← hee, ← hdd]; exact h)]; rfl
        · rw [HSTEP.out.2.1 (by rw [← hl1]; exact h)]; rfl
      have hgo : bb = false → ee = false → dd = false → ¬ size < l1 → ∃ k', R = kfin a n cap f w.heap.size gd pz (kgo K pz size k' X.1 X.2.1) ∧ size - l1 ≤ k' ∧ l < l1 := fun h1 h2 h3 h4 => by
        obtain ⟨k', q1, q2, q3⟩ := HSTEP.out.2.2 (by rw [← hbb]; exact h1) (by rw [← hee]; exact h2) (by rw [← hdd]; exact h3) (by rw [← hl1]; exact h4)
        exact ⟨k', by rw [HRK2.out, q1], by rw [hl1]; exact q2, by rw [HL.out, hl1]; exact q3⟩
      have HNO := hid hno
      have HGO := hid hgo
      have HL1 := hid hl1
      clear hf5 hv6 hbb hee hdd hov6 hl1 hno hgo
      cases bb with
      | true =>
        clear c13 c4 cd4 c7
        go_wp2_with fail
        go_ret2
        exact ⟨F5.out, .inl ⟨HNO.out (.inl rfl), rfl⟩⟩
      | false =>
        cases ee with
        | true =>
          clear c4 cd4 c7
          go_wp2_with fail
          go_ret2
          exact ⟨F5.out, .inl ⟨HNO.out (.inl rfl), rfl⟩⟩
        | false =>
          cases dd with
          | true =>
            clear c7
            go_wp2_with fail
            go_ret2
            exact ⟨F5.out, .inl ⟨HNO.out (.inl rfl), rfl⟩⟩
          | false =>
            by_cases hov : size < l1
            · have hov' : x < (l1 : Int) := by have := HXE.out; omega
              have HOV := hid hov
              clear hov
              go_wp2_with fail
              go_ret2
              exact ⟨F5.out, .inl ⟨HNO.out (.inr HOV.out), rfl⟩⟩
            · have hov' : ¬ x < (l1 : Int) := by have := HXE.out; omega
              have HOV := hid hov
              have hmeas : hlenW g w5 = l1 := by unfold hlenW; rw [c7]
              have HMS2 := hid hmeas
              clear hov hmeas
              go_wp2_with fail
              obtain ⟨k', q1, q2, q3⟩ := HGO.out (by first | rfl | trivial) (by first | rfl | trivial) (by first | rfl | trivial) HOV.out
              refine ⟨⟨X.1, X.2.1, k', q1, by rw [← HL1.out]; exact q2, by rw [← HL1.out]; have := HOV.out; omega, H5.out, F5.out⟩, ?_⟩
              rw [HMS.out, HMS2.out]
              have := HOV.out
              omega
    · have hlx : ¬ (l : Int) < x := by have := HX.out; omega
      have hR1 : R = kfin a n cap f w.heap.size gd pz (some (s, c)) := by
        rw [HRK2.out, kgo_end K pz size (by rw [← HL.out]; omega)]
      obtain ⟨X, hX⟩ : ∃ X, X = kpacket K s c pz := ⟨_, rfl⟩
      obtain ⟨lf, hlf⟩ : ∃ b, b = kleft n c := ⟨_, rfl⟩
      have HLF := hid (HLEFT.out s c wr HKIS.out)
      rw [← hlf] at HLF
      have HPK := hid (fun (W : World) (hW : KIs K (fun _ => False) g gp p.probs cpp W s c) => HPKT.out s c W hW (by rw [← HL.out]; omega))
      rw [← hX] at HPK
      have hR2 : R = if lf = true then some s.H else if (X.1.ended && !X.1.bad && decide (X.1.H.length = s.H.length) && kleft n X.2.1) = true then some X.1.H else none := by
        rw [hR1, hlf, hX, HKE.out]
        rfl
      have HR2 := hid hR2
      clear hR1 hR2 hX hlf hlt hle
      go_wp2_with fail
      refine HLF.out.mono ?_
      rintro e w5 ⟨rfl, hf5⟩
      have F5 := hid (HFR.out.trans hf5)
      have H5 := hid (HKIS.out.any HG.out.ok hf5)
      obtain ⟨A6, v6, hv6⟩ := H5.out
      have HRO := hid (hv6.rowO HG.out.ok)
      obtain ⟨ao6, cp6, hov6, _⟩ := hv6.own.rowO
      rw [← HL.out] at hov6
      clear c7
      have c7 := hv6.cellC 7 (x := .slice ao6 l cp6) (by rw [← hov6]; rfl)
      rw [hov6] at HRO
      clear hf5 hv6 hov6
      cases lf with
      | true =>
        go_wp2_with fail
        go_ret2
        exact ⟨F5.out, .inr ⟨s.H, _, by rw [HR2.out]; rfl, rfl, by have := HRO.out; rw [HKD.out.2.2] at this; exact this⟩⟩
      | false =>
        go_wp2_with fail
        refine (HPK.out _ H5.out).mono ?_
        rintro e w6 ⟨rfl, hf6, h6⟩
        clear c7
        have F6 := hid (HKF.out _ _ F5.out hf6)
        have H6 := hid h6
        obtain ⟨A7, v7, hv7⟩ := h6
        have HRO7 := hid (hv7.rowO HG.out.ok)
        obtain ⟨bb, hbb⟩ : ∃ b, b = X.1.bad := ⟨_, rfl⟩
        obtain ⟨ee, hee⟩ : ∃ b, b = X.1.ended := ⟨_, rfl⟩
        obtain ⟨ao7, cp7, hov7, _⟩ := hv7.own.rowO
        obtain ⟨l1, hl1⟩ : ∃ l, l = X.1.H.length := ⟨_, rfl⟩
        rw [← hl1] at hov7
        have c7 := hv7.cellC 7 (x := .slice ao7 l1 cp7) (by rw [← hov7]; rfl)
        have c14 := hv7.cellC 14 (x := .bool bb) (by rw [hbb]; rfl)
        have c13 := hv7.cellC 13 (x := .bool ee) (by rw [hee]; rfl)
        rw [hov7] at HRO7
        obtain ⟨lg, hlg⟩ : ∃ b, b = kleft n X.2.1 := ⟨_, rfl⟩
        have HLG := hid (fun (W : World) (hW : KIs K (fun _ => False) g gp p.probs cpp W X.1 X.2.1) => HLEFT.out X.1 X.2.1 W hW)
        rw [← hlg] at HLG
        have HR3 := hid (show R = if (ee && !bb && decide (l1 = l) && lg) = true then some X.1.H else none by
          rw [HR2.out, if_neg (by decide), ← hbb, ← hee, ← hl1, ← hlg, ← HL.out])
        clear hf6 hv7 hbb hee hov7 hl1 hlg
        cases ee with
        | false =>
          clear c14 c7
          go_wp2_with fail
          go_ret2
          exact ⟨F6.out, .inl ⟨by rw [HR3.out]; rfl, rfl⟩⟩
        | true =>
          cases bb with
          | true =>
            clear c7
            go_wp2_with fail
            go_ret2
            exact ⟨F6.out, .inl ⟨by rw [HR3.out]; rfl, rfl⟩⟩
          | false =>
            by_cases hll : l1 = l
            · subst hll
              go_wp2_with fail
              refine (HLG.out _ H6.out).mono ?_
              rintro e w7 ⟨rfl, hf7⟩
              have F7 := hid (F6.out.trans hf7)
              have c7' := hf7.cell c7 id
              have HRO8 := hid (HRO7.out.fr hf7 (fun _ _ _ => id))
              clear hf7 c7
              cases lg with
              | true =>
                go_wp2_with fail
                go_ret2
                exact ⟨F7.out, .inr ⟨X.1.H, _, by rw [HR3.out]; simp, rfl, by have := HRO8.out; rw [HKD.out.2.2] at this; exact this⟩⟩
              | false =>
                go_wp2_with fail
                go_ret2
                exact ⟨F7.out, .inl ⟨by rw [HR3.out]; simp, rfl⟩⟩
            · have hll' : ¬ (l1 : Int) = (l : Int) := by omega
              have HLL := hid (show decide (l1 = l) = false from decide_eq_false hll)
              clear hll
              go_wp2_with fail
              go_ret2
              exact ⟨F6.out, .inl ⟨by rw [HR3.out, HLL.out]; rfl, rfl⟩⟩
end Go.Proofs.Ytjnegcambbeblaa
