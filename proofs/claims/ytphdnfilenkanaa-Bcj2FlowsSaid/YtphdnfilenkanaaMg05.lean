/- Texts of this proof, one behind the other. -/
import Derived.Test.YtphdnfilenkanaaMg04
import Derived.Test.YtphdnfilenkanaaMg01
import Derived.Test.YtphdnfilenkanaaMg02
import Derived.Test.YtphdnfilenkanaaMg03
import Derived.Deep.CutBlock
import Derived.Laws.BitsAllLaws
import Derived.Deep.DeepCutAuto

/- The document's decoder (04): New. -/
namespace Go.Proofs.Ytphdnfilenkanaa
open Go.RowKit

def RNewPost (a : Option Addr) (n cap : Nat) (f : Nat → Int) (lo : Nat) (w : World) (x : RD Nat) (e : Ending) (w' : World) : Prop :=
  ∃ g, w.heap.size ≤ g ∧ g < w'.heap.size ∧ e = .returned (.pointer (some ⟨g, 0, none⟩)) ∧ Fr Non w w' ∧ RefIs a n cap f lo g w' x
set_option maxRecDepth 100000 in
set_option maxHeartbeats 4000000 in
theorem rnew_any (a : Option Addr) (n cap : Nat) (f : Nat → Int) (hf : ∀ i, i < n → 0 ≤ f i ∧ f i < 256) (lo : Nat) (w : World) (hn : n ≤ 1048576) (hr : RowIn lo .u8 w a n f) (hlo : lo ≤ w.heap.size) :
    Calls Try.prog 19 #[.slice a n cap] w (RNewPost a n cap f lo w (RD.new (feedNx f n) 0)) := by
  obtain ⟨g, hg⟩ : ∃ g, g = w.heap.size := ⟨_, rfl⟩
  obtain ⟨W, hW⟩ : ∃ W, W = w.alloc (.cells #[.slice a n cap, .int .i64 0, .int .u64 4294967295, .int .u64 0, .bool false] 51) := ⟨_, rfl⟩
  have hfw : Fr Non w W := by rw [hW]; exact (Fr.refl Non w).alloc _
  have R0 := hid (show RefIs a n cap f lo g W (⟨0, 4294967295, 0, false⟩ : RD Nat) from ⟨by rw [hW, hg]; exact blk_new w _, hr.fr hfw (fun _ _ => id), by omega, Nat.zero_le _, ⟨by show (0 : Int) ≤ 4294967295; decide, by show (4294967295 : Int) < 4294967296; decide, by show (0 : Int) ≤ 0; decide, by show (0 : Int) < 4294967296; decide⟩⟩)
  have Hf := hid hf
  have HFW := hid hfw
  have HG := hid hg
  clear hf hr hfw
  go_enter Try.func19, Try.ntmps19
  go_wp2_with fail
  rw [← hW, ← hg]
  have HW := hid hW
  clear hW hg
  obtain ⟨x, hx⟩ : ∃ x, x = (RD.next (feedNx f n) (⟨0, 4294967295, 0, false⟩ : RD Nat)).1 := ⟨_, rfl⟩
  have hcall := rnext_any a n cap f Hf.out lo g (⟨0, 4294967295, 0, false⟩ : RD Nat) W hn R0.out
  have hs := dnext_same (feedNx f n) (⟨0, 4294967295, 0, false⟩ : RD Nat)
  rw [hs, ← hx] at hcall
  have HX := hid hx
  have HSm := hid hs
  clear hx hs
  refine hcall.mono ?_
  clear hcall
  rintro e w1 ⟨rfl, hf1, hd1⟩
  have HF1 := hid hf1
  have HD1 := hid hd1
  have c4 := blk_cell hd1.at_ (j := 4) (v := .bool (RD.next (feedNx f n) (⟨0, 4294967295, 0, false⟩ : RD Nat)).2.bad) rfl
  have f4 := blk_frozen hd1.at_ 4
  clear hf1 hd1
  go_upto_if 12 with fail
  go_cut [] (fun wx => Fr (fun k => k = g) W wx ∧ RefIs a n cap f lo g wx (RD.first (feedNx f n) 0) ∧ (RD.first (feedNx f n) 0).code = 0)
  case first =>
    by_cases h0 : x = 0
    · have H0 := hid h0
      have h1 : (x != 0) = false := by rw [h0]; rfl
      have h2 : (x == 0) = true := by rw [h0]; rfl
      clear h0
      go_wp2_with fail
      go_meet
      have e : RD.first (feedNx f n) 0 = ⟨(RD.next (feedNx f n) (⟨0, 4294967295, 0, false⟩ : RD Nat)).2.src, 4294967295, 0, (RD.next (feedNx f n) (⟨0, 4294967295, 0, false⟩ : RD Nat)).2.bad⟩ := by
        unfold RD.first
        rw [← HX.out, if_pos H0.out]
        exact HSm.out
      rw [e]
      exact ⟨HF1.out, HD1.out, rfl⟩
    · have H0 := hid h0
      have h1 : (x != 0) = true := by simpa using h0
      have h2 : (x == 0) = false := by simpa using h0
      clear h0
      go_wp2_with fail
      go_meet
      have e : RD.first (feedNx f n) 0 = ⟨(RD.next (feedNx f n) (⟨0, 4294967295, 0, false⟩ : RD Nat)).2.src, 4294967295, 0, true⟩ := by
        unfold RD.first
        rw [← HX.out, if_neg H0.out]
      rw [e]
      exact ⟨HF1.out.setOne _ _, HD1.out.set4 true, rfl⟩
  case rest =>
    obtain ⟨hf0, hd0, hc0⟩ := hcut
    have HF := hid hf0
    have HD := hid hd0
    have HC0 := hid hc0
    clear hf0 hd0 hc0 c4 f4
    go_upto_block 0 with fail
    go_cut [] (fun wx => Fr (fun k => k = g) W wx ∧ RefIs a n cap f lo g wx (RD.four (feedNx f n) 4 (RD.first (feedNx f n) 0)))
    case first =>
      go_wp2_with fail
      go_loopw [5] (fun i wr => ∃ (k : Nat) (d1 : RD Nat), k ≤ 4 ∧ i = .int .i64 k ∧ d1.code < 256 ^ k ∧ RD.four (feedNx f n) (4 - k) d1 = RD.four (feedNx f n) 4 (RD.first (feedNx f n) 0) ∧ Fr (fun k => k = g) W wr ∧ RefIs a n cap f lo g wr d1)
        (fun i _ => 4 - (intOf i).toNat)
      case atStart => exact ⟨0, RD.first (feedNx f n) 0, by decide, rfl, by rw [HC0.out]; decide, rfl, HF.out, HD.out⟩
      case round =>
        obtain ⟨k, d1, hk, rfl, hck, hgo, hfr, hdec⟩ := hrel
        have c3 := blk_cell hdec.at_ (j := 3) (v := .int .u64 d1.code) rfl
        have f3 := blk_frozen hdec.at_ 3
        have o3 := hdec.ok.2.2.1
        have Hgo := hid hgo
        have Hfr := hid hfr
        have Hdec := hid hdec
        have Hck := hid hck
        clear hgo hfr hdec hck
        by_cases hlt : k < 4
        · have hc24 : d1.code < 16777216 := by
            have := Hck.out
            rcases (by omega : k = 0 ∨ k = 1 ∨ k = 2 ∨ k = 3) with rfl | rfl | rfl | rfl <;> omega
          obtain ⟨y, hy⟩ : ∃ y, y = (d1.next (feedNx f n)).1 := ⟨_, rfl⟩
          have hyb : 0 ≤ y ∧ y < 256 := by rw [hy]; exact feed_byte d1
          have hcall : ∀ w0, RefIs a n cap f lo g w0 d1 → Calls Try.prog 37 #[.pointer (some ⟨g, 0, none⟩)] w0 (RPost a n cap f lo g w0 (.int .u64 y) ⟨(d1.next (feedNx f n)).2.src, d1.rng, d1.code, (d1.next (feedNx f n)).2.bad⟩) := fun w0 h0 => by
            have h := rnext_any a n cap f Hf.out lo g d1 w0 hn h0
            rw [dnext_same (feedNx f n) d1, ← hy] at h
            exact h
          have HC := hid hcall
          have HY := hid hy
          obtain ⟨hb0, hb1⟩ := hyb
          clear hcall hy
          go_wp2_with fail
          go_region_with (go_at_call 37; refine (HC.out _ (by first | exact Hdec.out.drew | exact Hdec.out)).mono ?_; rintro e w2 ⟨rfl, hf2, hd2⟩; have k3 := blk_cell hd2.at_ (j := 3) (v := .int .u64 d1.code) rfl; have g3 := blk_frozen hd2.at_ 3; have HF2 := hid (((Fr.refl (fun k => k = g) _).drew).trans hf2); have HD2 := hid hd2; clear hf2 hd2)
          all_goals
            have e1 : IntKind.u64.wrap (d1.code * 256) = d1.code * 256 := by rw [IntKind.wrap_u64]; omega
            have e2 : IntKind.u64.wrap (d1.code * 256 + y) = d1.code * 256 + y := by rw [IntKind.wrap_u64]; omega
            go_wp2_with fail
            go_roundw
            case rel =>
              refine ⟨k + 1, ⟨(d1.next (feedNx f n)).2.src, d1.rng, d1.code * 256 % 4294967296 + (d1.next (feedNx f n)).1, (d1.next (feedNx f n)).2.bad⟩, by omega, by go_num, ?_, ?_, Hfr.out.trans (Fr.setOne HF2.out _ _), ?_⟩
              · have := Hck.out
                rw [← HY.out]
                show d1.code * 256 % 4294967296 + y < 256 ^ (k + 1)
                rw [Int.pow_succ]
                omega
              · have e : 4 - k = (4 - (k + 1)) + 1 := by omega
                have := Hgo.out
                rw [e] at this
                exact this
              · rw [← HY.out, show d1.code * 256 % 4294967296 + y = d1.code * 256 + y by omega]
                have := HD2.out.set3 (c := d1.code * 256 + y) (by omega) (by omega)
                simpa [e1, e2] using this
            case measure => simp [intOf]; omega
        · have e : k = 4 := by omega
          subst e
          have hgo := Hgo.out
          rw [Nat.sub_self] at hgo
          have HG := hid (show d1 = RD.four (feedNx f n) 4 (RD.first (feedNx f n) 0) from hgo)
          clear hgo
          go_wp2_with fail
          go_meet
          rw [← HG.out]
          exact ⟨Hfr.out, Hdec.out⟩
    case rest =>
      obtain ⟨hf0, hd0⟩ := hcut
      obtain ⟨d4, hd4⟩ : ∃ d4, d4 = RD.four (feedNx f n) 4 (RD.first (feedNx f n) 0) := ⟨_, rfl⟩
      have e : RD.new (feedNx f n) 0 = ⟨d4.src, d4.rng, d4.code, d4.bad || decide (d4.rng ≤ d4.code)⟩ := by rw [hd4]; rfl
      rw [← hd4] at hd0
      have c2 := blk_cell hd0.at_ (j := 2) (v := .int .u64 d4.rng) rfl
      have c3 := blk_cell hd0.at_ (j := 3) (v := .int .u64 d4.code) rfl
      have c4 := blk_cell hd0.at_ (j := 4) (v := .bool d4.bad) rfl
      have f4 := blk_frozen hd0.at_ 4
      have hgl := blk_lt hd0.at_
      have HE := hid e
      have HF := hid hf0
      have HD := hid hd0
      clear hf0 hd0 hd4 e
      by_cases hle : d4.rng ≤ d4.code
      · have hde : decide (d4.rng ≤ d4.code) = true := decide_eq_true hle
        have HDE := hid hde
        clear hde
        go_wp2_with fail
        go_quiet (fail)
        go_wp2_with fail
        go_ret
        rw [HE.out, HDE.out, Bool.or_true]
        refine ⟨g, by rw [HG.out]; exact Nat.le_refl _, by simpa using hgl, rfl, ?_, (HD.out.drewN _).set4 true⟩
        exact HFW.out.then (Fr.setOne (HF.out.drewN _) _ _) (fun i hi e => by have := HG.out; omega)
      · have hde : decide (d4.rng ≤ d4.code) = false := decide_eq_false hle
        have HDE := hid hde
        clear hde
        go_wp2_with fail
        go_quiet (fail)
        go_wp2_with fail
        go_ret
        rw [HE.out, HDE.out, Bool.or_false]
        refine ⟨g, by rw [HG.out]; exact Nat.le_refl _, by simpa using hgl, rfl, ?_, HD.out.drewN _⟩
        exact HFW.out.then (HF.out.drewN _) (fun i hi e => by have := HG.out; omega)
end Go.Proofs.Ytphdnfilenkanaa

/- a range coder, in plain numbers. -/
namespace Go.Proofs.Ytphdnfilenkanaa
open Go.RowKit

/-- a coder: low, range, the byte that waits, how many bytes 255 wait behind it, the bytes given. -/
structure RC where
  low : Int
  rng : Int
  waits : Int
  more : Nat
  out : List Int
def RC.moves (c : RC) : Prop := c.low < 4278190080 ∨ 4294967296 ≤ c.low
instance (c : RC) : Decidable c.moves := by unfold RC.moves; infer_instance
def RC.carry (c : RC) : Int := c.low / 4294967296
def RC.give (c : RC) : RC :=
  if c.moves then ⟨c.low % 16777216 * 256, c.rng, c.low / 16777216 % 256, 0, c.out ++ (c.waits + c.carry) % 256 :: List.replicate c.more ((255 + c.carry) % 256)⟩
  else ⟨c.low % 16777216 * 256, c.rng, c.waits, c.more + 1, c.out⟩
/-- to even out, at most so many times. -/
def RC.lev : Nat → RC → RC
  | 0, c => c
  | n + 1, c => if c.rng < 16777216 then RC.lev n ((⟨c.low, c.rng * 256, c.waits, c.more, c.out⟩ : RC).give) else c
def RC.level (c : RC) : RC := c.lev 3
/-- a part of the range: from a on, r wide. -/
def RC.part (c : RC) (a r : Int) : RC := (⟨c.low + a, r, c.waits, c.more, c.out⟩ : RC).level
def RC.bit (c : RC) (p : Int) (b : Nat) : Int × RC :=
  if b = 0 then (p + (2048 - p) / 32, c.part 0 (c.rng / 2048 * p)) else (p - p / 32, c.part (c.rng / 2048 * p) (c.rng - c.rng / 2048 * p))
theorem give_rng (c : RC) : c.give.rng = c.rng := by unfold RC.give; split <;> rfl
/-- what a coder's numbers are, ahead of a byte given. -/
structure RC.Fit (c : RC) (N : Nat) : Prop where
  low0 : 0 ≤ c.low
  low1 : c.low < 17179869184
  waits0 : 0 ≤ c.waits
  waits1 : c.waits < 256
  size : c.out.length + c.more ≤ N
theorem RC.Fit.mono {c : RC} {N M : Nat} (h : c.Fit N) (hm : N ≤ M) : c.Fit M := ⟨h.low0, h.low1, h.waits0, h.waits1, Nat.le_trans h.size hm⟩
theorem RC.Fit.give {c : RC} {N : Nat} (h : c.Fit N) : c.give.Fit (N + 1) ∧ c.give.low < 4294967296 := by
  obtain ⟨h1, h2, h3, h4, h5⟩ := h
  unfold RC.give
  by_cases hm : c.moves
  · rw [if_pos hm]
    refine ⟨⟨?_, ?_, ?_, ?_, ?_⟩, ?_⟩ <;> dsimp only <;> (try simp only [List.length_append, List.length_cons, List.length_replicate]) <;> omega
  · rw [if_neg hm]
    refine ⟨⟨?_, ?_, ?_, ?_, ?_⟩, ?_⟩ <;> dsimp only <;> omega
theorem give_size (c : RC) : c.give.out.length + c.give.more = c.out.length + c.more + 1 := by
  unfold RC.give
  by_cases hm : c.moves
  · rw [if_pos hm]; simp; omega
  · rw [if_neg hm]; simp; omega
theorem lev_stop (n : Nat) (c : RC) (h : 16777216 ≤ c.rng) : c.lev n = c := by
  cases n with
  | zero => rfl
  | succ n => exact if_neg (by omega)
theorem RC.Fit.lev (n : Nat) : ∀ (c : RC) (N : Nat), c.Fit N → (c.lev n).Fit (N + n) := by
  induction n with
  | zero => intro c N h; exact h
  | succ n ih =>
    intro c N h
    unfold RC.lev
    by_cases hr : c.rng < 16777216
    · rw [if_pos hr]
      have h2 : (⟨c.low, c.rng * 256, c.waits, c.more, c.out⟩ : RC).Fit N := ⟨h.1, h.2, h.3, h.4, h.5⟩
      exact (ih _ _ h2.give.1).mono (by omega)
    · rw [if_neg hr]; exact h.mono (by omega)
/-- a coder whose range is even. -/
structure RC.Ok (c : RC) (N : Nat) : Prop where
  low0 : 0 ≤ c.low
  rng0 : 16777216 ≤ c.rng
  rng1 : c.rng < 4294967296
  top : c.low + c.rng ≤ 8589934592
  waits0 : 0 ≤ c.waits
  waits1 : c.waits < 256
  full : c.waits = 255 → c.low + c.rng ≤ 4294967296
  size : c.out.length + c.more ≤ N
theorem RC.Ok.fit {c : RC} {N : Nat} (h : c.Ok N) : c.Fit N := ⟨h.low0, by have := h.top; have := h.rng0; omega, h.waits0, h.waits1, h.size⟩
theorem RC.Ok.mono {c : RC} {N M : Nat} (h : c.Ok N) (hm : N ≤ M) : c.Ok M := ⟨h.1, h.2, h.3, h.4, h.5, h.6, h.7, Nat.le_trans h.8 hm⟩
theorem lev_ok (n : Nat) : ∀ (c : RC) (N : Nat), 0 ≤ c.low → 16777216 ≤ c.rng * 256 ^ n → c.rng < 4294967296 → c.low + c.rng ≤ 8589934592 → 0 ≤ c.waits → c.waits < 256 → (c.waits = 255 → c.low + c.rng ≤ 4294967296) → c.out.length + c.more ≤ N → 1 ≤ c.rng →
    (c.lev n).Ok (N + n) := by
  induction n with
  | zero => intro c N h1 h2 h3 h4 h5 h6 h7 h8 _; exact ⟨h1, by show 16777216 ≤ c.rng; simpa using h2, h3, h4, h5, h6, h7, h8⟩
  | succ n ih =>
    intro c N h1 h2 h3 h4 h5 h6 h7 h8 h9
    unfold RC.lev
    by_cases hr : c.rng < 16777216
    · rw [if_pos hr]
      have hf : (⟨c.low, c.rng * 256, c.waits, c.more, c.out⟩ : RC).Fit N := ⟨h1, by show c.low < _; omega, h5, h6, h8⟩
      obtain ⟨⟨g1, g2, g3, g4, g5⟩, g6⟩ := hf.give
      refine (ih _ (N + 1) g1 ?_ ?_ ?_ g3 g4 ?_ g5 ?_).mono (by omega)
      · rw [give_rng]
        have e : c.rng * 256 * 256 ^ n = c.rng * 256 ^ (n + 1) := by rw [Int.pow_succ, Int.mul_assoc, Int.mul_comm 256]
        show 16777216 ≤ c.rng * 256 * 256 ^ n
        rw [e]; exact h2
      · rw [give_rng]; show c.rng * 256 < _; omega
      · rw [give_rng]; show _ + c.rng * 256 ≤ _; omega
      · rw [give_rng]
        show _ → _ + c.rng * 256 ≤ _
        unfold RC.give
        by_cases hm : (⟨c.low, c.rng * 256, c.waits, c.more, c.out⟩ : RC).moves
        · rw [if_pos hm]
          have hm' : c.low < 4278190080 ∨ 4294967296 ≤ c.low := hm
          dsimp only
          omega
        · rw [if_neg hm]
          have hm' : ¬ (c.low < 4278190080 ∨ 4294967296 ≤ c.low) := hm
          dsimp only
          intro hw
          have := h7 hw
          omega
      · rw [give_rng]; show 1 ≤ c.rng * 256; omega
    · rw [if_neg hr]; exact ⟨h1, by omega, h3, h4, h5, h6, h7, by omega⟩
theorem RC.Ok.part {c : RC} {N : Nat} (h : c.Ok N) {a r : Int} (ha : 0 ≤ a) (hr : 1 ≤ r) (har : a + r ≤ c.rng) : (c.part a r).Ok (N + 3) := by
  obtain ⟨h1, h2, h3, h4, h5, h6, h7, h8⟩ := h
  refine lev_ok 3 _ N ?_ ?_ ?_ ?_ h5 h6 ?_ h8 hr
  · show 0 ≤ c.low + a; omega
  · show 16777216 ≤ r * 16777216; omega
  · show r < _; omega
  · show c.low + a + r ≤ _; omega
  · intro hw; have := h7 hw; show c.low + a + r ≤ _; omega
theorem bound_pos (r p : Int) (h0 : 16777216 ≤ r) (hp : 31 ≤ p) : 253952 ≤ r / 2048 * p := by
  have h1 : 8192 * 31 ≤ r / 2048 * p := Int.mul_le_mul (by omega) hp (by omega) (by omega)
  omega
theorem bound_gap (r p : Int) (h0 : 16777216 ≤ r) (hp : p ≤ 2017) : r / 2048 * p + 253952 ≤ r := by
  have h1 : r / 2048 * p ≤ r / 2048 * 2017 := Int.mul_le_mul_of_nonneg_left hp (by omega)
  omega
theorem RC.Ok.bit {c : RC} {N : Nat} (h : c.Ok N) {p : Int} (h0 : 31 ≤ p) (h1 : p ≤ 2017) (b : Nat) : (c.bit p b).2.Ok (N + 3) := by
  have b1 := bound_pos c.rng p h.rng0 h0
  have b2 := bound_gap c.rng p h.rng0 h1
  unfold RC.bit
  by_cases hb : b = 0
  · rw [if_pos hb]; exact h.part (by omega) (by show 1 ≤ c.rng / 2048 * p; omega) (by omega)
  · rw [if_neg hb]; exact h.part (by show 0 ≤ c.rng / 2048 * p; omega) (by omega) (by omega)
theorem bit_prob' (c : RC) {p : Int} (h0 : 31 ≤ p) (h1 : p ≤ 2017) (b : Nat) : 31 ≤ (c.bit p b).1 ∧ (c.bit p b).1 ≤ 2017 := by
  unfold RC.bit
  by_cases hb : b = 0
  · rw [if_pos hb]; dsimp only; omega
  · rw [if_neg hb]; dsimp only; omega
end Go.Proofs.Ytphdnfilenkanaa

/- The range coder: its state, give. -/
namespace Go.Proofs.Ytphdnfilenkanaa
open Go.RowKit

/-- the coder lies at block g; its bytes in a row of its own; blocks of A are none of its. -/
structure CodV (A : Nat → Prop) (g : Nat) (w : World) (v : Value) (c : RC) : Prop where
  at_ : w.heap[g]? = some (.cells #[.int .u64 c.low, .int .u32 c.rng, .int .u8 c.waits, .int .i64 c.more, v] 86)
  own : Own w 0 .u8 5 v c.out
  sep : ∀ k, v.ownBlock = some k → k ≠ g ∧ ¬ A k
  old : ∀ k, A k → k < w.heap.size
  not : ¬ A g
def CodIs (A : Nat → Prop) (g : Nat) (w : World) (c : RC) : Prop := ∃ v, CodV A g w v c
def Out (A : Nat → Prop) : Nat → Prop := fun k => ¬ A k
def CPost (A : Nat → Prop) (g : Nat) (w : World) (c : RC) (e : Ending) (w' : World) : Prop := e = .returned (.tuple #[]) ∧ Fr (Out A) w w' ∧ CodIs A g w' c
theorem CodV.keep {A : Nat → Prop} {g : Nat} {w w' : World} {v : Value} {c : RC} (h : CodV A g w v c) {T : Nat → Prop} (hf : Fr T w w') (hg : ¬ T g) (ht : ∀ k, v.ownBlock = some k → ¬ T k) : CodV A g w' v c :=
  ⟨hf.blk h.at_ hg, h.own.fr hf ht, h.sep, fun k hk => Nat.lt_of_lt_of_le (h.old k hk) hf.size, h.not⟩
/-- a world where only blocks of A have turned. -/
theorem CodIs.keep {A : Nat → Prop} {g : Nat} {w w' : World} {c : RC} (h : CodIs A g w c) {T : Nat → Prop} (hf : Fr T w w') (ht : ∀ k, T k → A k) : CodIs A g w' c := by
  obtain ⟨v, hv⟩ := h
  exact ⟨v, hv.keep hf (fun e => hv.not (ht _ e)) (fun k hk e => (hv.sep k hk).2 (ht _ e))⟩
/-- what is new is none of the coder's. -/
theorem CodIs.more {A : Nat → Prop} {g : Nat} {w w' : World} {c : RC} (h : CodIs A g w c) {T : Nat → Prop} (hf : Fr T w w') (ht : ∀ k, T k → A k) : CodIs (fun k => A k ∨ (w.heap.size ≤ k ∧ k < w'.heap.size)) g w' c := by
  obtain ⟨v, hv⟩ := h
  have hk := hv.keep hf (fun e => hv.not (ht _ e)) (fun k hk e => (hv.sep k hk).2 (ht _ e))
  refine ⟨v, hk.at_, hk.own, fun k e => ⟨(hv.sep k e).1, fun q => ?_⟩, fun k q => ?_, fun q => ?_⟩
  · rcases q with q | q
    · exact (hv.sep k e).2 q
    · have := (hv.own.block k e).2; omega
  · rcases q with q | q
    · exact hk.old k q
    · exact q.2
  · rcases q with q | q
    · exact hv.not q
    · have := blk_lt hv.at_; omega
theorem CodIs.less {A A' : Nat → Prop} {g : Nat} {w : World} {c : RC} (h : CodIs A g w c) (hs : ∀ k, A' k → A k) : CodIs A' g w c := by
  obtain ⟨v, h1, h2, h3, h4, h5⟩ := h
  exact ⟨v, h1, h2, fun k e => ⟨(h3 k e).1, fun q => (h3 k e).2 (hs k q)⟩, fun k q => h4 k (hs k q), fun q => h5 (hs g q)⟩

theorem cod_app {A : Nat → Prop} {g : Nat} {w W w2 : World} {v v2 : Value} {c : RC} {xs : List Int} (h : CodV A g w v c) (hf : Fr Non w W) (hg : W.grownBy w2 v.ownBlock) (ho : Own w2 0 .u8 5 v2 xs)
    (hb : v2.ownBlock = v.ownBlock ∨ v2.ownBlock = some W.heap.size) :
    CodV A g (w2.setCell ⟨g, 4, none⟩ v2) v2 ⟨c.low, c.rng, c.waits, c.more, xs⟩ ∧ Fr (Out A) w (w2.setCell ⟨g, 4, none⟩ v2) := by
  have hgw := blk_lt h.at_
  have hne : v.ownBlock ≠ some g := fun e => (h.sep g e).1 rfl
  have hsz := hf.size
  have h1 : W.heap[g]? = some (.cells #[.int .u64 c.low, .int .u32 c.rng, .int .u8 c.waits, .int .i64 c.more, v] 86) := hf.blk h.at_ id
  have h2 := (Fr.grew hg).blk h1 hne
  have hs2 : ∀ k, v2.ownBlock = some k → k ≠ g ∧ ¬ A k := by
    intro k hk
    rcases hb with e | e
    · exact h.sep k (by rw [← e]; exact hk)
    · rw [e] at hk
      injection hk with hk
      subst hk
      exact ⟨by omega, fun q => by have := h.old _ q; omega⟩
  have hfr : Fr (Out A) w (w2.setCell ⟨g, 4, none⟩ v2) := by
    refine Fr.setCell (p := ⟨g, 4, none⟩) (Fr.then (hf.any (S := Out A)) (Fr.grew hg) fun i _ e => (h.sep i e).2) (fun _ => h.not) _
  refine ⟨⟨?_, ?_, hs2, ?_, h.not⟩, hfr⟩
  · exact blk_set (i := 4) h2
  · exact ho.fr (S := fun k => k = g) ((Fr.refl _ _).setOne _ _) (fun k hk e => (hs2 k hk).1 e)
  · intro k hk; exact Nat.lt_of_lt_of_le (h.old k hk) hfr.size
theorem low_and (x : Int) (h0 : 0 ≤ x) (h1 : x < 17179869184) : IntKind.u64.wrap (bits BinOp.and IntKind.u64 x 16777215 * 256) = x % 16777216 * 256 := by
  rw [u64_and x _ h0 (by omega) (by decide) (by decide)]
  obtain ⟨a, rfl⟩ := Int.eq_ofNat_of_zero_le h0
  show IntKind.u64.wrap (((a &&& 16777215 : Nat) : Int) * 256) = _
  rw [show (16777215 : Nat) = 2 ^ 24 - 1 by decide, Nat.and_two_pow_sub_one_eq_mod, IntKind.wrap_u64]
  omega
set_option maxRecDepth 100000 in
set_option maxHeartbeats 2000000 in
theorem give_any (A : Nat → Prop) (g : Nat) (c : RC) (w : World) (h : CodIs A g w c) (h0 : 0 ≤ c.low) (h1 : c.low < 17179869184) (h2 : 0 ≤ c.waits ∧ c.waits < 256) (h3 : c.out.length + c.more ≤ 1073741824) :
    Calls Try.prog 41 #[.pointer (some ⟨g, 0, none⟩)] w (CPost A g w c.give) := by
  obtain ⟨v, hv⟩ := h
  have c0 := blk_cell hv.at_ (j := 0) (v := .int .u64 c.low) rfl
  have c2 := blk_cell hv.at_ (j := 2) (v := .int .u8 c.waits) rfl
  have c3 := blk_cell hv.at_ (j := 3) (v := .int .i64 c.more) rfl
  have c4 := blk_cell hv.at_ (j := 4) (v := v) rfl
  have f0 := blk_frozen hv.at_ 0
  have f2 := blk_frozen hv.at_ 2
  have f3 := blk_frozen hv.at_ 3
  have f4 := blk_frozen hv.at_ 4
  have HV := hid hv
  clear hv
  by_cases hm : c.moves
  · have hm' : c.low < 4278190080 ∨ (¬ c.low < 4278190080 ∧ 4294967296 ≤ c.low) := by unfold RC.moves at hm; omega
    have HM := hid hm
    clear hm
    rcases hm' with m1 | ⟨m1, m2⟩
    · have q4 : ∀ o, (w.alloc o).cell? ⟨g, 4, none⟩ = some v := fun o => blk_cell (blk_alloc HV.out.at_) rfl
      go_enter Try.func41, Try.ntmps41
      go_upto_region 2 with fail
      go_cut [2] (fun kv wx => kv = .int .u8 c.carry ∧ ∃ v2, CodV A g wx v2 ⟨c.low, c.rng, c.waits, c.more, c.out ++ [(c.waits + c.carry) % 256]⟩ ∧ Fr (Out A) w wx)
      case first =>
        go_region_law (refine step_grow1 rfl (.tmp 25) (.tmp 32) 22 rfl .u8 5 1 Try.underlying22 Try.info_u8 v c.out rfl _ _ _ rfl (by exact Own.alloc HV.out.own _) (by exact cell_new1 _ _ _) (by decide) (by omega) ?_; intro v2 w2 hown2 hg2 hb2; obtain ⟨a2, cap2, hv2, _, _, _⟩ := hown2.rowN (n := c.out.length + 1) (by simp); subst hv2; obtain ⟨hc2, hf2⟩ := cod_app HV.out ((Fr.refl Non _).drew.alloc _) hg2 hown2 hb2; have g4 : w2.frozen? ⟨g, 4, none⟩ = false := blk_frozen ((Fr.grew hg2).blk (by exact blk_alloc HV.out.at_) (fun e => (HV.out.sep g e).1 rfl)) 4; have k4 : w2.cell? ⟨g, 4, none⟩ = some v := blk_cell ((Fr.grew hg2).blk (by exact blk_alloc HV.out.at_) (fun e => (HV.out.sep g e).1 rfl)) rfl; have HC2 := hid hc2; have HF2 := hid hf2; clear hown2 hg2 hb2 hc2 hf2)
        all_goals go_wp2_with fail
        all_goals go_meet
        all_goals (rw [IntKind.wrap_u8] at HC2; exact ⟨rfl, _, HC2.out, HF2.out⟩)
      case rest =>
        obtain ⟨hkv, v2, hc2, hf2⟩ := hcut
        subst hkv
        have c3 := blk_cell hc2.at_ (j := 3) (v := .int .i64 c.more) rfl
        have HC2 := hid hc2
        have HF2 := hid hf2
        clear hc2 hf2
        obtain ⟨y, hy⟩ : ∃ y, y = (c.waits + c.carry) % 256 := ⟨_, rfl⟩
        rw [← hy] at HC2
        go_wp2_with fail
        go_loopw [40] (fun iv wr => ∃ j : Nat, j ≤ c.more ∧ iv = .int .i64 j ∧ (∃ vr, CodV A g wr vr ⟨c.low, c.rng, c.waits, c.more, c.out ++ y :: List.replicate j ((255 + c.carry) % 256)⟩) ∧ Fr (Out A) w wr) (fun iv _ => c.more - (intOf iv).toNat)
        case atStart => exact ⟨0, Nat.zero_le _, rfl, ⟨v2, by simpa using HC2.out⟩, HF2.out⟩
        case round =>
          obtain ⟨j, hj, rfl, ⟨vr, hcr⟩, hfr⟩ := hrel
          have k4 := blk_cell hcr.at_ (j := 4) (v := vr) rfl
          have k0 := blk_cell hcr.at_ (j := 0) (v := .int .u64 c.low) rfl
          have k2 := blk_cell hcr.at_ (j := 2) (v := .int .u8 c.waits) rfl
          have k3 := blk_cell hcr.at_ (j := 3) (v := .int .i64 c.more) rfl
          have g0 := blk_frozen hcr.at_ 0
          have g2 := blk_frozen hcr.at_ 2
          have g3 := blk_frozen hcr.at_ 3
          have HCR := hid hcr
          have HFR := hid hfr
          clear hcr hfr
          by_cases hlt : j < c.more
          · go_wp2_with (refine opGrow1 (some 50) rfl rfl (.tmp 46) (.tmp 49) 22 rfl .u8 5 1 Try.underlying22 Try.info_u8 vr _ rfl (by exact Own.alloc HCR.out.own _) _ _ _ rfl (by exact cell_new1 _ _ _) (by decide) (by simp; omega) ?_; intro v3 w3 hown3 hg3 hb3; obtain ⟨a3, cap3, hv3, _, _, _⟩ := hown3.rowN (n := c.out.length + 1 + j + 1) (by simp; omega); subst hv3; obtain ⟨hc3, hf3⟩ := cod_app HCR.out ((Fr.refl Non _).alloc _) hg3 hown3 hb3; have g4 : w3.frozen? ⟨g, 4, none⟩ = false := blk_frozen ((Fr.grew hg3).blk (by exact blk_alloc HCR.out.at_) (fun e => (HCR.out.sep g e).1 rfl)) 4; have k5 : w3.cell? ⟨g, 4, none⟩ = some vr := blk_cell ((Fr.grew hg3).blk (by exact blk_alloc HCR.out.at_) (fun e => (HCR.out.sep g e).1 rfl)) rfl; have HC3 := hid hc3; have HF3 := hid hf3; clear hown3 hg3 hb3 hc3 hf3)
            go_roundw
            case rel =>
              refine ⟨j + 1, by omega, by congr 1, ?_, HFR.out.trans HF3.out⟩
              have := HC3.out
              rw [List.replicate_succ']
              exact ⟨_, by simpa using this⟩
            case measure => simp [intOf]; omega
          · have e : j = c.more := by omega
            subst e
            go_wp2_with fail
            go_end0
            rw [low_and _ h0 h1]
            have e : c.give = ⟨c.low % 16777216 * 256, c.rng, c.low / 16777216 % 256, 0, c.out ++ y :: List.replicate c.more ((255 + c.carry) % 256)⟩ := by rw [hy]; exact if_pos HM.out
            try rw [show c.low / 16777216 % 256 = c.low / 16777216 by omega] at e
            rw [e]
            refine ⟨rfl, Fr.setCell (p := ⟨g, 0, none⟩) (Fr.setCell (p := ⟨g, 3, none⟩) (Fr.setCell (p := ⟨g, 2, none⟩) HFR.out (fun _ => HV.out.not) _) (fun _ => HV.out.not) _) (fun _ => HV.out.not) _, vr, ?_, ?_, HCR.out.sep, ?_, HCR.out.not⟩
            · exact blk_set (i := 0) (blk_set (i := 3) (blk_set (i := 2) HCR.out.at_))
            · exact HCR.out.own.fr (S := fun k => k = g) ((((Fr.refl _ _)).setOne _ _).setOne _ _ |>.setOne _ _) (fun k hk e => (HCR.out.sep k hk).1 e)
            · intro k hk; have := HCR.out.old k hk; simpa using this
    · have q4 : ∀ o, (w.alloc o).cell? ⟨g, 4, none⟩ = some v := fun o => blk_cell (blk_alloc HV.out.at_) rfl
      go_enter Try.func41, Try.ntmps41
      go_upto_region 2 with fail
      go_cut [2] (fun kv wx => kv = .int .u8 c.carry ∧ ∃ v2, CodV A g wx v2 ⟨c.low, c.rng, c.waits, c.more, c.out ++ [(c.waits + c.carry) % 256]⟩ ∧ Fr (Out A) w wx)
      case first =>
        go_region_law (refine step_grow1 rfl (.tmp 25) (.tmp 32) 22 rfl .u8 5 1 Try.underlying22 Try.info_u8 v c.out rfl _ _ _ rfl (by exact Own.alloc HV.out.own _) (by exact cell_new1 _ _ _) (by decide) (by omega) ?_; intro v2 w2 hown2 hg2 hb2; obtain ⟨a2, cap2, hv2, _, _, _⟩ := hown2.rowN (n := c.out.length + 1) (by simp); subst hv2; obtain ⟨hc2, hf2⟩ := cod_app HV.out ((Fr.refl Non _).drew.alloc _) hg2 hown2 hb2; have g4 : w2.frozen? ⟨g, 4, none⟩ = false := blk_frozen ((Fr.grew hg2).blk (by exact blk_alloc HV.out.at_) (fun e => (HV.out.sep g e).1 rfl)) 4; have k4 : w2.cell? ⟨g, 4, none⟩ = some v := blk_cell ((Fr.grew hg2).blk (by exact blk_alloc HV.out.at_) (fun e => (HV.out.sep g e).1 rfl)) rfl; have HC2 := hid hc2; have HF2 := hid hf2; clear hown2 hg2 hb2 hc2 hf2)
        all_goals go_wp2_with fail
        all_goals go_meet
        all_goals (rw [IntKind.wrap_u8] at HC2; exact ⟨rfl, _, HC2.out, HF2.out⟩)
      case rest =>
        obtain ⟨hkv, v2, hc2, hf2⟩ := hcut
        subst hkv
        have c3 := blk_cell hc2.at_ (j := 3) (v := .int .i64 c.more) rfl
        have HC2 := hid hc2
        have HF2 := hid hf2
        clear hc2 hf2
        obtain ⟨y, hy⟩ : ∃ y, y = (c.waits + c.carry) % 256 := ⟨_, rfl⟩
        rw [← hy] at HC2
        go_wp2_with fail
        go_loopw [40] (fun iv wr => ∃ j : Nat, j ≤ c.more ∧ iv = .int .i64 j ∧ (∃ vr, CodV A g wr vr ⟨c.low, c.rng, c.waits, c.more, c.out ++ y :: List.replicate j ((255 + c.carry) % 256)⟩) ∧ Fr (Out A) w wr) (fun iv _ => c.more - (intOf iv).toNat)
        case atStart => exact ⟨0, Nat.zero_le _, rfl, ⟨v2, by simpa using HC2.out⟩, HF2.out⟩
        case round =>
          obtain ⟨j, hj, rfl, ⟨vr, hcr⟩, hfr⟩ := hrel
          have k4 := blk_cell hcr.at_ (j := 4) (v := vr) rfl
          have k0 := blk_cell hcr.at_ (j := 0) (v := .int .u64 c.low) rfl
          have k2 := blk_cell hcr.at_ (j := 2) (v := .int .u8 c.waits) rfl
          have k3 := blk_cell hcr.at_ (j := 3) (v := .int .i64 c.more) rfl
          have g0 := blk_frozen hcr.at_ 0
          have g2 := blk_frozen hcr.at_ 2
          have g3 := blk_frozen hcr.at_ 3
          have HCR := hid hcr
          have HFR := hid hfr
          clear hcr hfr
          by_cases hlt : j < c.more
          · go_wp2_with (refine opGrow1 (some 50) rfl rfl (.tmp 46) (.tmp 49) 22 rfl .u8 5 1 Try.underlying22 Try.info_u8 vr _ rfl (by exact Own.alloc HCR.out.own _) _ _ _ rfl (by exact cell_new1 _ _ _) (by decide) (by simp; omega) ?_; intro v3 w3 hown3 hg3 hb3; obtain ⟨a3, cap3, hv3, _, _, _⟩ := hown3.rowN (n := c.out.length + 1 + j + 1) (by simp; omega); subst hv3; obtain ⟨hc3, hf3⟩ := cod_app HCR.out ((Fr.refl Non _).alloc _) hg3 hown3 hb3; have g4 : w3.frozen? ⟨g, 4, none⟩ = false := blk_frozen ((Fr.grew hg3).blk (by exact blk_alloc HCR.out.at_) (fun e => (HCR.out.sep g e).1 rfl)) 4; have k5 : w3.cell? ⟨g, 4, none⟩ = some vr := blk_cell ((Fr.grew hg3).blk (by exact blk_alloc HCR.out.at_) (fun e => (HCR.out.sep g e).1 rfl)) rfl; have HC3 := hid hc3; have HF3 := hid hf3; clear hown3 hg3 hb3 hc3 hf3)
            go_roundw
            case rel =>
              refine ⟨j + 1, by omega, by congr 1, ?_, HFR.out.trans HF3.out⟩
              have := HC3.out
              rw [List.replicate_succ']
              exact ⟨_, by simpa using this⟩
            case measure => simp [intOf]; omega
          · have e : j = c.more := by omega
            subst e
            go_wp2_with fail
            go_end0
            rw [low_and _ h0 h1]
            have e : c.give = ⟨c.low % 16777216 * 256, c.rng, c.low / 16777216 % 256, 0, c.out ++ y :: List.replicate c.more ((255 + c.carry) % 256)⟩ := by rw [hy]; exact if_pos HM.out
            try rw [show c.low / 16777216 % 256 = c.low / 16777216 by omega] at e
            rw [e]
            refine ⟨rfl, Fr.setCell (p := ⟨g, 0, none⟩) (Fr.setCell (p := ⟨g, 3, none⟩) (Fr.setCell (p := ⟨g, 2, none⟩) HFR.out (fun _ => HV.out.not) _) (fun _ => HV.out.not) _) (fun _ => HV.out.not) _, vr, ?_, ?_, HCR.out.sep, ?_, HCR.out.not⟩
            · exact blk_set (i := 0) (blk_set (i := 3) (blk_set (i := 2) HCR.out.at_))
            · exact HCR.out.own.fr (S := fun k => k = g) ((((Fr.refl _ _)).setOne _ _).setOne _ _ |>.setOne _ _) (fun k hk e => (HCR.out.sep k hk).1 e)
            · intro k hk; have := HCR.out.old k hk; simpa using this
  · have hn : ¬ c.low < 4278190080 ∧ ¬ 4294967296 ≤ c.low := by unfold RC.moves at hm; omega
    obtain ⟨n1, n2⟩ := hn
    have HM := hid hm
    clear hm
    go_enter Try.func41, Try.ntmps41
    go_wp2
    go_end0
    rw [low_and _ h0 h1]
    have e : c.give = ⟨c.low % 16777216 * 256, c.rng, c.waits, c.more + 1, c.out⟩ := if_neg HM.out
    rw [e]
    refine ⟨rfl, Fr.setCell (Fr.setCell (Fr.refl _ _) (fun _ => HV.out.not) _) (fun _ => HV.out.not) _, v, ?_, ?_, HV.out.sep, ?_, HV.out.not⟩
    · exact blk_set (i := 0) (blk_set (i := 3) HV.out.at_)
    · exact HV.out.own.fr (S := fun k => k = g) ((((Fr.refl _ _)).setOne _ _).setOne _ _) (fun k hk e => (HV.out.sep k hk).1 e)
    · intro k hk; have := HV.out.old k hk; simpa using this
end Go.Proofs.Ytphdnfilenkanaa

/- The range coder: level, Bit. -/
namespace Go.Proofs.Ytphdnfilenkanaa
open Go.RowKit

def rngIn (g : Nat) (w : World) : Nat := match w.cell? ⟨g, 1, none⟩ with | some (.int _ r) => 16777216 - r.toNat | _ => 0
theorem rngIn_eq {A : Nat → Prop} {g : Nat} {w : World} {c : RC} (h : CodIs A g w c) : rngIn g w = 16777216 - c.rng.toNat := by
  obtain ⟨v, hv⟩ := h
  unfold rngIn
  rw [blk_cell hv.at_ (j := 1) (v := .int .u32 c.rng) rfl]
theorem cod_rng {A : Nat → Prop} {g : Nat} {w : World} {c : RC} (h : CodIs A g w c) (r : Int) : CodIs A g (w.setCell ⟨g, 1, none⟩ (.int .u32 r)) ⟨c.low, r, c.waits, c.more, c.out⟩ := by
  obtain ⟨v, hv⟩ := h
  exact ⟨v, blk_set (i := 1) hv.at_, hv.own.fr (S := fun k => k = g) ((Fr.refl _ _).setOne _ _) (fun k hk e => (hv.sep k hk).1 e), hv.sep, fun k hk => by have := hv.old k hk; simpa using this, hv.not⟩
theorem cod_low {A : Nat → Prop} {g : Nat} {w : World} {c : RC} (h : CodIs A g w c) (l : Int) : CodIs A g (w.setCell ⟨g, 0, none⟩ (.int .u64 l)) ⟨l, c.rng, c.waits, c.more, c.out⟩ := by
  obtain ⟨v, hv⟩ := h
  exact ⟨v, blk_set (i := 0) hv.at_, hv.own.fr (S := fun k => k = g) ((Fr.refl _ _).setOne _ _) (fun k hk e => (hv.sep k hk).1 e), hv.sep, fun k hk => by have := hv.old k hk; simpa using this, hv.not⟩
theorem CodIs.not {A : Nat → Prop} {g : Nat} {w : World} {c : RC} (h : CodIs A g w c) : ¬ A g := by
  obtain ⟨v, hv⟩ := h
  exact hv.not

set_option maxRecDepth 100000 in
set_option maxHeartbeats 2000000 in
theorem level_any (A : Nat → Prop) (g : Nat) (c : RC) (w : World) (h : CodIs A g w c) (hf : c.Fit 1073741820) (h1 : 1 ≤ c.rng) (h2 : c.rng < 4294967296) :
    Calls Try.prog 40 #[.pointer (some ⟨g, 0, none⟩)] w (CPost A g w c.level) := by
  have H := hid h
  have Hf := hid hf
  clear h hf
  go_enter Try.func40, Try.ntmps40
  go_wp2
  go_loopw [] (fun wr => ∃ (n : Nat) (c1 : RC), n ≤ 3 ∧ c1.lev n = c.level ∧ 16777216 ≤ c1.rng * 256 ^ n ∧ 1 ≤ c1.rng ∧ c1.rng < 4294967296 ∧ c1.Fit (1073741823 - n) ∧ Fr (Out A) w wr ∧ CodIs A g wr c1) (fun wr => rngIn g wr)
  case atStart =>
    exact ⟨3, c, by omega, rfl, by omega, h1, h2, Hf.out, Fr.refl _ _, H.out⟩
  case round =>
    obtain ⟨n, c1, hn, hlev, hr, hr1, hr2, hfit, hfr, hc⟩ := hrel
    obtain ⟨v, hv⟩ := hc
    have k1 := blk_cell hv.at_ (j := 1) (v := .int .u32 c1.rng) rfl
    have g1 := blk_frozen hv.at_ 1
    have HV := hid (show CodIs A g wr c1 from ⟨v, hv⟩)
    have HFR := hid hfr
    have HL := hid hlev
    have HR := hid hr
    have HFIT := hid hfit
    clear hv hfr hlev hr hfit
    by_cases hlt : c1.rng < 16777216
    · have hn0 : n ≠ 0 := by
        intro e
        have := HR.out
        rw [e] at this
        simp at this
        omega
      obtain ⟨k, rfl⟩ := Nat.exists_eq_succ_of_ne_zero hn0
      go_wp2_with fail
      refine (give_any A g ⟨c1.low, c1.rng * 256, c1.waits, c1.more, c1.out⟩ _ (cod_rng HV.out _) HFIT.out.1 HFIT.out.2 ⟨HFIT.out.3, HFIT.out.4⟩ (by have := HFIT.out.5; show c1.out.length + c1.more ≤ _; omega)).mono ?_
      rintro e w1 ⟨rfl, hf1, hc1⟩
      have HF1 := hid hf1
      have HC1 := hid hc1
      clear hf1 hc1
      go_wp2_with fail
      go_roundw
      case rel =>
        refine ⟨k, _, by omega, ?_, ?_, ?_, ?_, ?_, HFR.out.trans (Fr.trans (Fr.setCell (p := ⟨g, 1, none⟩) (Fr.refl _ _) (fun _ => HV.out.not) _) HF1.out), HC1.out⟩
        · rw [← HL.out]
          exact (if_pos hlt).symm
        · rw [give_rng]
          have e : c1.rng * 256 * 256 ^ k = c1.rng * 256 ^ (k + 1) := by rw [Int.pow_succ, Int.mul_assoc, Int.mul_comm 256]
          show 16777216 ≤ c1.rng * 256 * 256 ^ k
          rw [e]; exact HR.out
        · rw [give_rng]; show 1 ≤ c1.rng * 256; omega
        · rw [give_rng]; show c1.rng * 256 < _; omega
        · have hh := HFIT.out
          have h3 : (⟨c1.low, c1.rng * 256, c1.waits, c1.more, c1.out⟩ : RC).Fit (1073741823 - (k + 1)) := ⟨hh.1, hh.2, hh.3, hh.4, hh.5⟩
          exact h3.give.1.mono (by omega)
      case measure =>
        rw [rngIn_eq HC1.out, rngIn_eq HV.out, give_rng]
        show _ - (c1.rng * 256).toNat < _
        omega
    · go_wp2_with fail
      go_end0
      have e := HL.out
      rw [lev_stop _ _ (by omega)] at e
      rw [← e]
      exact ⟨rfl, HFR.out, HV.out⟩
end Go.Proofs.Ytphdnfilenkanaa

/- The range coder: Bit. -/
namespace Go.Proofs.Ytphdnfilenkanaa
open Go.RowKit

def BPost (A : Nat → Prop) (g gp o : Nat) (cs : Array Value) (T : TypeId) (w : World) (r : Int × RC) (e : Ending) (w' : World) : Prop :=
  e = .returned (.tuple #[]) ∧ Fr (fun k => ¬ A k ∨ k = gp) w w' ∧ CodIs A g w' r.2 ∧ w'.heap[gp]? = some (.cells (cs.setIfInBounds o (.int .u16 r.1)) T)
theorem CodIs.set {A : Nat → Prop} {g gp o : Nat} {w : World} {c : RC} (h : CodIs A g w c) (hA : A gp) (v : Value) : CodIs A g (w.setCell ⟨gp, o, none⟩ v) c :=
  h.keep ((Fr.refl (fun k => k = gp) w).setOne o v) (fun k e => by rw [e]; exact hA)

theorem CodIs.drewN {A : Nat → Prop} {g : Nat} {w : World} {c : RC} (h : CodIs A g w c) (n : Nat) : CodIs A g (w.drewN n) c := h.keep ((Fr.refl Non w).drewN n) (fun k e => e.elim)
theorem CodIs.drew {A : Nat → Prop} {g : Nat} {w : World} {c : RC} (h : CodIs A g w c) : CodIs A g w.drew c := h.keep ((Fr.refl Non w).drew) (fun k e => e.elim)
theorem bit_zero (c : RC) (p : Int) : c.bit p 0 = (p + (2048 - p) / 32, (⟨c.low, c.rng / 2048 * p, c.waits, c.more, c.out⟩ : RC).level) := by
  unfold RC.bit RC.part
  rw [if_pos rfl, Int.add_zero]
theorem bit_one (c : RC) (p : Int) : c.bit p 1 = (p - p / 32, (⟨c.low + c.rng / 2048 * p, c.rng - c.rng / 2048 * p, c.waits, c.more, c.out⟩ : RC).level) := rfl

set_option maxRecDepth 100000 in
set_option maxHeartbeats 2000000 in
theorem cbit_any (A : Nat → Prop) (g gp o N : Nat) (cs : Array Value) (T : TypeId) (c : RC) (p : Int) (b : Nat) (w : World) (h : CodIs A g w c) (hA : A gp) (hok : c.Ok N) (hN : N ≤ 1073741800)
    (hb : w.heap[gp]? = some (.cells cs T)) (hc : cs[o]? = some (.int .u16 p)) (hp0 : 31 ≤ p) (hp1 : p ≤ 2017) (hbit : b ≤ 1) :
    Calls Try.prog 27 #[.pointer (some ⟨g, 0, none⟩), .pointer (some ⟨gp, o, none⟩), .int .i64 b] w (BPost A g gp o cs T w (c.bit p b)) := by
  have hne : gp ≠ g := fun e => h.not (by rw [← e]; exact hA)
  have hne' : g ≠ gp := fun e => hne e.symm
  obtain ⟨v, hv⟩ := h
  have c0 := blk_cell hv.at_ (j := 0) (v := .int .u64 c.low) rfl
  have c1 := blk_cell hv.at_ (j := 1) (v := .int .u32 c.rng) rfl
  have cp := blk_cell hb hc
  have f0 := blk_frozen hv.at_ 0
  have f1 := blk_frozen hv.at_ 1
  have fp := blk_frozen hb o
  obtain ⟨o1, o2, o3, o4, o5, o6, o7, o8⟩ := hok
  have b1 := bound_pos c.rng p o2 hp0
  have b2 := bound_gap c.rng p o2 hp1
  have HV := hid (show CodIs A g w c from ⟨v, hv⟩)
  have Hb := hid hb
  have HO7 := hid o7
  clear hv hb o7
  rcases Nat.le_one_iff_eq_zero_or_eq_one.1 hbit with rfl | rfl
  · go_enter Try.func27, Try.ntmps27
    go_wp2
    go_quiet (fail)
    go_wp2
    go_region
    all_goals go_wp2_with fail
    refine (level_any A g ⟨c.low, c.rng / 2048 * p, c.waits, c.more, c.out⟩ _ (by exact ((cod_rng (HV.out.drewN _) _).set hA _).drew) ⟨by show 0 ≤ c.low; omega, by show c.low < _; omega, o5, o6, by show c.out.length + c.more ≤ _; omega⟩ (by show 1 ≤ c.rng / 2048 * p; omega) (by show c.rng / 2048 * p < _; omega)).mono ?_
    rintro e w1 ⟨rfl, hf1, hc1⟩
    have HF := hid hf1
    have HC := hid hc1
    clear hf1 hc1
    go_wp2_with fail
    go_end0
    rw [bit_zero]
    refine ⟨rfl, ?_, HC.out, ?_⟩
    · refine Fr.then (S := fun k => ¬ A k ∨ k = gp) ?_ HF.out (fun _ _ h => .inl h)
      refine Fr.drew ?_
      refine Fr.setCell ?_ (fun _ => .inr rfl) _
      refine Fr.setCell ?_ (fun _ => .inl HV.out.not) _
      exact (Fr.refl _ _).drewN _
    · exact HF.out.blk (blk_drew (blk_set (blk_set_ne (blk_drewN Hb.out) hne))) (fun e => e hA)
  · go_enter Try.func27, Try.ntmps27
    go_wp2
    go_quiet (fail)
    go_wp2
    go_region
    all_goals go_wp2_with fail
    refine (level_any A g ⟨c.low + c.rng / 2048 * p, c.rng - c.rng / 2048 * p, c.waits, c.more, c.out⟩ _ (by exact ((cod_rng (cod_low (HV.out.drewN _) _) _).set hA _).drew) ⟨by show 0 ≤ c.low + c.rng / 2048 * p; omega, by show c.low + c.rng / 2048 * p < _; omega, o5, o6, by show c.out.length + c.more ≤ _; omega⟩ (by show 1 ≤ c.rng - c.rng / 2048 * p; omega) (by show c.rng - c.rng / 2048 * p < _; omega)).mono ?_
    rintro e w1 ⟨rfl, hf1, hc1⟩
    have HF := hid hf1
    have HC := hid hc1
    clear hf1 hc1
    go_wp2_with fail
    go_end0
    rw [bit_one]
    refine ⟨rfl, ?_, HC.out, ?_⟩
    · refine Fr.then (S := fun k => ¬ A k ∨ k = gp) ?_ HF.out (fun _ _ h => .inl h)
      refine Fr.drew ?_
      refine Fr.setCell ?_ (fun _ => .inr rfl) _
      refine Fr.setCell ?_ (fun _ => .inl HV.out.not) _
      refine Fr.setCell ?_ (fun _ => .inl HV.out.not) _
      exact (Fr.refl _ _).drewN _
    · exact HF.out.blk (blk_drew (blk_set (blk_set_ne (blk_set_ne (blk_drewN Hb.out) hne) hne))) (fun e => e hA)
end Go.Proofs.Ytphdnfilenkanaa

/- The range coder: Tree. -/
namespace Go.Proofs.Ytphdnfilenkanaa
open Go.RowKit

/-- k bits more of a tree, m so far. -/
def RC.treeGo : Nat → RC → (Nat → Int) → Nat → Nat → (Nat → Int) × RC
  | 0, c, q, _, _ => (q, c)
  | k + 1, c, q, m, v => RC.treeGo k (c.bit (q m) (v / 2 ^ k % 2)).2 (upd q m (c.bit (q m) (v / 2 ^ k % 2)).1) (2 * m + v / 2 ^ k % 2) v
def RC.tree (B : Nat) (c : RC) (q : Nat → Int) (v : Nat) : (Nat → Int) × RC := RC.treeGo B c q 1 v
/-- k bits more of a reverse tree, the next one the i-th. -/
def RC.revGo : Nat → Nat → RC → (Nat → Int) → Nat → Nat → (Nat → Int) × RC
  | 0, _, c, q, _, _ => (q, c)
  | k + 1, i, c, q, m, v => RC.revGo k (i + 1) (c.bit (q m) (v / 2 ^ i % 2)).2 (upd q m (c.bit (q m) (v / 2 ^ i % 2)).1) (2 * m + v / 2 ^ i % 2) v
def RC.rev (B : Nat) (c : RC) (q : Nat → Int) (v : Nat) : (Nat → Int) × RC := RC.revGo B 0 c q 1 v
def RC.str1 (c : RC) (b : Nat) : RC := c.part (if b = 1 then c.rng / 2 else 0) (c.rng / 2)
def RC.strGo : Nat → RC → Nat → RC
  | 0, c, _ => c
  | k + 1, c, v => RC.strGo k (c.str1 (v / 2 ^ k % 2)) v
def RTPost (A : Nat → Prop) (g gp off L : Nat) (cs : Array Value) (T : TypeId) (w : World) (r : (Nat → Int) × RC) (e : Ending) (w' : World) : Prop :=
  e = .returned (.tuple #[]) ∧ Fr (fun k => ¬ A k ∨ k = gp) w w' ∧ CodIs A g w' r.2 ∧ ∃ cs', w'.heap[gp]? = some (.cells cs' T) ∧ Win cs cs' off L r.1

theorem nat_and_one (x : Nat) (h : x < 4294967296) : bits .and .u32 (x : Int) 1 = ((x % 2 : Nat) : Int) := by
  rw [u32_and _ _ (by omega) (by omega) (by decide) (by decide)]
  show ((x &&& 1 : Nat) : Int) = _
  rw [Nat.and_one_is_mod]
theorem bit_of (v k : Nat) (h : v < 4294967296) : bits .and .u32 ((v : Int) / 2 ^ k) 1 = ((v / 2 ^ k % 2 : Nat) : Int) := by
  have e : ((v : Int) / 2 ^ k) = ((v / 2 ^ k : Nat) : Int) := by simp
  have := Nat.div_le_self v (2 ^ k)
  rw [e, nat_and_one _ (by omega)]
theorem or_bit32 (m b : Nat) (hb : b ≤ 1) (hm : m < 1073741824) : bits .or .u32 ((m : Int) * 2) (b : Int) = ((2 * m + b : Nat) : Int) := by
  rw [u32_or _ _ (by omega) (by omega) (by omega) (by omega)]
  have e : ((m : Int) * 2).toNat = m * 2 ^ 1 := by omega
  rw [e]
  simp only [Int.toNat_natCast]
  rw [nat_or_low _ _ 1 (by omega)]
  omega

end Go.Proofs.Ytphdnfilenkanaa

/- a range coder's bytes, as one great number. -/
namespace Go.Proofs.Ytphdnfilenkanaa
open Go.RowKit

def valL (l : List Int) : Int := l.foldl (fun a x => a * 256 + x) 0
theorem valL_snoc (l : List Int) (x : Int) : valL (l ++ [x]) = valL l * 256 + x := by unfold valL; rw [List.foldl_append]; rfl
theorem pow_pos256 (m : Nat) : 1 ≤ (256 : Int) ^ m := by
  induction m with
  | zero => decide
  | succ m ih => rw [Int.pow_succ]; omega
theorem valL_rep (l : List Int) (m : Nat) : valL (l ++ List.replicate m 255) = valL l * 256 ^ m + (256 ^ m - 1) ∧ valL (l ++ List.replicate m 0) = valL l * 256 ^ m := by
  induction m with
  | zero => simp
  | succ m ih =>
    rw [List.replicate_succ', List.replicate_succ', ← List.append_assoc, ← List.append_assoc, valL_snoc, valL_snoc, ih.1, ih.2, Int.pow_succ, ← Int.mul_assoc]
    omega
theorem valL_append (l k : List Int) : valL (l ++ k) = valL l * 256 ^ k.length + valL k := by
  have aux : ∀ (k : List Int) (a : Int), k.foldl (fun a x => a * 256 + x) a = a * 256 ^ k.length + k.foldl (fun a x => a * 256 + x) 0 := by
    intro k
    induction k with
    | nil => intro a; simp
    | cons x k ih =>
      intro a
      simp only [List.foldl_cons, List.length_cons]
      rw [ih (a * 256 + x), ih (0 * 256 + x), Int.pow_succ, Int.add_mul, Int.add_mul, Int.mul_assoc, Int.mul_comm (256 ^ k.length)]
      omega
  unfold valL
  rw [List.foldl_append, aux]
/-- all that a coder has told so far. -/
def RC.val (c : RC) : Int := ((valL c.out * 256 + c.waits) * 256 ^ c.more + (256 ^ c.more - 1)) * 4294967296 + c.low
def RC.len (c : RC) : Nat := c.out.length + c.more + 5
def RC.bytes (c : RC) : Prop := ∀ x, x ∈ c.out → 0 ≤ x ∧ x < 256
theorem give_len (c : RC) : c.give.len = c.len + 1 := by
  have := give_size c
  unfold RC.len; omega
theorem give_bytes {c : RC} (h : c.bytes) : c.give.bytes := by
  unfold RC.give
  by_cases hm : c.moves
  · rw [if_pos hm]
    intro x hx
    simp only [List.mem_append, List.mem_cons, List.mem_replicate] at hx
    rcases hx with hx | hx | hx
    · exact h x hx
    · omega
    · omega
  · rw [if_neg hm]; exact h
theorem give_val (c : RC) (h0 : 0 ≤ c.low) (h1 : c.low < 8589934592) (hw0 : 0 ≤ c.waits) (hw1 : c.waits < 256) (hw : c.waits = 255 → c.low < 4294967296) : c.give.val = 256 * c.val := by
  obtain ⟨X, hX⟩ : ∃ X, X = valL c.out * 256 + c.waits := ⟨_, rfl⟩
  obtain ⟨P, hP⟩ : ∃ P : Int, P = 256 ^ c.more := ⟨_, rfl⟩
  have hv : c.val = (X * P + (P - 1)) * 4294967296 + c.low := by unfold RC.val; rw [hX, hP]
  rw [hv]
  clear hv
  unfold RC.give
  by_cases hm : c.moves
  · rw [if_pos hm]
    have hm' : c.low < 4278190080 ∨ 4294967296 ≤ c.low := hm
    have hcons : ∀ (a : Int) (l : List Int), c.out ++ a :: l = (c.out ++ [a]) ++ l := by simp
    unfold RC.val
    dsimp only
    rw [hcons]
    unfold RC.carry
    by_cases hc : c.low < 4294967296
    · have e0 : c.low / 4294967296 = 0 := by omega
      have e1 : (c.waits + 0) % 256 = c.waits := by omega
      rw [e0, e1, show ((255 : Int) + 0) % 256 = 255 by decide, (valL_rep _ _).1, valL_snoc, ← hX, ← hP]
      generalize X * P = Y
      simp only [Int.pow_zero, Int.mul_one]
      omega
    · have e0 : c.low / 4294967296 = 1 := by omega
      have e1 : (c.waits + 1) % 256 = c.waits + 1 := by omega
      have e2 : (X + 1) * P = X * P + P := by rw [Int.add_mul, Int.one_mul]
      rw [e0, e1, show ((255 : Int) + 1) % 256 = 0 by decide, (valL_rep _ _).2, valL_snoc, show valL c.out * 256 + (c.waits + 1) = X + 1 by omega, ← hP, e2]
      generalize X * P = Y
      simp only [Int.pow_zero, Int.mul_one]
      omega
  · rw [if_neg hm]
    have hm' : ¬ (c.low < 4278190080 ∨ 4294967296 ≤ c.low) := hm
    have e2 : X * (P * 256) = X * P * 256 := by rw [Int.mul_assoc]
    unfold RC.val
    dsimp only
    rw [Int.pow_succ, ← hX, ← hP, e2]
    generalize X * P = Y
    omega
theorem part_val (c : RC) (a r : Int) : (⟨c.low + a, r, c.waits, c.more, c.out⟩ : RC).val = c.val + a := by unfold RC.val; dsimp only; omega
theorem rng_val (c : RC) (r : Int) : (⟨c.low, r, c.waits, c.more, c.out⟩ : RC).val = c.val := rfl
/-- evening out: k bytes more, both numbers that much greater. -/
theorem lev_val (n : Nat) : ∀ (c : RC), 0 ≤ c.low → 16777216 ≤ c.rng * 256 ^ n → c.rng < 4294967296 → c.low + c.rng ≤ 8589934592 → 0 ≤ c.waits → c.waits < 256 → (c.waits = 255 → c.low + c.rng ≤ 4294967296) → 1 ≤ c.rng → c.bytes →
    ∃ k, (c.lev n).val = 256 ^ k * c.val ∧ (c.lev n).rng = 256 ^ k * c.rng ∧ (c.lev n).len = c.len + k ∧ (c.lev n).bytes := by
  induction n with
  | zero => intro c _ _ _ _ _ _ _ _ h; exact ⟨0, by simp [RC.lev], by simp [RC.lev], rfl, h⟩
  | succ n ih =>
    intro c h1 h2 h3 h4 h5 h6 h7 h8 h9
    unfold RC.lev
    by_cases hr : c.rng < 16777216
    · rw [if_pos hr]
      have hf : (⟨c.low, c.rng * 256, c.waits, c.more, c.out⟩ : RC).Fit (c.out.length + c.more) := ⟨h1, by show c.low < _; omega, h5, h6, Nat.le_refl _⟩
      obtain ⟨⟨g1, g2, g3, g4, g5⟩, g6⟩ := hf.give
      have hlow : (⟨c.low, c.rng * 256, c.waits, c.more, c.out⟩ : RC).give.low = c.low % 16777216 * 256 := by unfold RC.give; split <;> rfl
      have a1 : 16777216 ≤ (⟨c.low, c.rng * 256, c.waits, c.more, c.out⟩ : RC).give.rng * 256 ^ n := by
        rw [give_rng]
        have e : c.rng * 256 * 256 ^ n = c.rng * 256 ^ (n + 1) := by rw [Int.pow_succ, Int.mul_assoc, Int.mul_comm 256]
        show 16777216 ≤ c.rng * 256 * 256 ^ n
        rw [e]; exact h2
      have a2 : (⟨c.low, c.rng * 256, c.waits, c.more, c.out⟩ : RC).give.rng < 4294967296 := by rw [give_rng]; show c.rng * 256 < _; omega
      have a3 : (⟨c.low, c.rng * 256, c.waits, c.more, c.out⟩ : RC).give.low + (⟨c.low, c.rng * 256, c.waits, c.more, c.out⟩ : RC).give.rng ≤ 8589934592 := by rw [give_rng, hlow]; show _ + c.rng * 256 ≤ _; omega
      have a4 : (⟨c.low, c.rng * 256, c.waits, c.more, c.out⟩ : RC).give.waits = 255 → (⟨c.low, c.rng * 256, c.waits, c.more, c.out⟩ : RC).give.low + (⟨c.low, c.rng * 256, c.waits, c.more, c.out⟩ : RC).give.rng ≤ 4294967296 := by
        rw [give_rng, hlow]
        show _ → _ + c.rng * 256 ≤ _
        unfold RC.give
        by_cases hm : (⟨c.low, c.rng * 256, c.waits, c.more, c.out⟩ : RC).moves
        · rw [if_pos hm]
          have hm' : c.low < 4278190080 ∨ 4294967296 ≤ c.low := hm
          dsimp only
          omega
        · rw [if_neg hm]
          have hm' : ¬ (c.low < 4278190080 ∨ 4294967296 ≤ c.low) := hm
          dsimp only
          intro hw
          have := h7 hw
          omega
      have a5 : 1 ≤ (⟨c.low, c.rng * 256, c.waits, c.more, c.out⟩ : RC).give.rng := by rw [give_rng]; show 1 ≤ c.rng * 256; omega
      obtain ⟨k, k1, k2, k3, k4⟩ := ih (⟨c.low, c.rng * 256, c.waits, c.more, c.out⟩ : RC).give g1 a1 a2 a3 g3 g4 a4 a5 (give_bytes (c := ⟨c.low, c.rng * 256, c.waits, c.more, c.out⟩) h9)
      refine ⟨k + 1, ?_, ?_, ?_, k4⟩
      · rw [k1, give_val ⟨c.low, c.rng * 256, c.waits, c.more, c.out⟩ h1 (by show c.low < _; omega) h5 h6 (fun e => by have := h7 e; show c.low < _; omega), Int.pow_succ, Int.mul_assoc]
        rfl
      · rw [k2, give_rng, Int.pow_succ, Int.mul_assoc, Int.mul_comm 256 c.rng]
      · rw [k3, give_len]; show c.len + 1 + k = _; omega
    · rw [if_neg hr]; exact ⟨0, by simp, by simp, rfl, h9⟩
theorem RC.Ok.part_val {c : RC} {N : Nat} (h : c.Ok N) (hb : c.bytes) {a r : Int} (ha : 0 ≤ a) (hr : 1 ≤ r) (har : a + r ≤ c.rng) :
    ∃ k, (c.part a r).val = 256 ^ k * (c.val + a) ∧ (c.part a r).rng = 256 ^ k * r ∧ (c.part a r).len = c.len + k ∧ (c.part a r).bytes := by
  obtain ⟨h1, h2, h3, h4, h5, h6, h7, h8⟩ := h
  have := lev_val 3 (⟨c.low + a, r, c.waits, c.more, c.out⟩ : RC) (by show 0 ≤ c.low + a; omega) (by show 16777216 ≤ r * 16777216; omega) (by show r < _; omega) (by show c.low + a + r ≤ _; omega) h5 h6 (fun hw => by have := h7 hw; show c.low + a + r ≤ _; omega) hr hb
  rw [Go.Proofs.Ytphdnfilenkanaa.part_val] at this
  exact this
end Go.Proofs.Ytphdnfilenkanaa

/- a range coder's steps, and its end. -/
namespace Go.Proofs.Ytphdnfilenkanaa
open Go.RowKit

/-- c' told k bytes more, within c's range. -/
structure Reach (c c' : RC) (k : Nat) : Prop where
  low : 256 ^ k * c.val ≤ c'.val
  high : c'.val + c'.rng ≤ 256 ^ k * (c.val + c.rng)
  len : c'.len = c.len + k
  bytes : c.bytes → c'.bytes
theorem Reach.refl (c : RC) : Reach c c 0 := ⟨by simp, by simp, rfl, id⟩
theorem Reach.trans {a b c : RC} {j k : Nat} (h : Reach a b j) (g : Reach b c k) : Reach a c (j + k) := by
  have hp := pow_pos256 k
  refine ⟨?_, ?_, by rw [g.len, h.len]; omega, fun e => g.bytes (h.bytes e)⟩
  · have h1 := Int.mul_le_mul_of_nonneg_left h.low (show (0:Int) ≤ 256 ^ k by omega)
    have h2 := g.low
    rw [Nat.add_comm, Int.pow_add, Int.mul_assoc]
    omega
  · have h1 := Int.mul_le_mul_of_nonneg_left h.high (show (0:Int) ≤ 256 ^ k by omega)
    have h2 := g.high
    rw [Nat.add_comm, Int.pow_add, Int.mul_assoc]
    omega
theorem RC.Ok.reach_part {c : RC} {N : Nat} (h : c.Ok N) (hb : c.bytes) {a r : Int} (ha : 0 ≤ a) (hr : 1 ≤ r) (har : a + r ≤ c.rng) : ∃ k, Reach c (c.part a r) k := by
  obtain ⟨k, h1, h2, h3, h4⟩ := h.part_val hb ha hr har
  have hp := pow_pos256 k
  refine ⟨k, ?_, ?_, h3, fun _ => h4⟩
  · rw [h1]; exact Int.mul_le_mul_of_nonneg_left (by omega) (by omega)
  · rw [h1, h2, ← Int.mul_add]; exact Int.mul_le_mul_of_nonneg_left (by omega) (by omega)
theorem RC.Ok.reach_bit {c : RC} {N : Nat} (h : c.Ok N) (hb : c.bytes) {p : Int} (h0 : 31 ≤ p) (h1 : p ≤ 2017) (b : Nat) : ∃ k, Reach c (c.bit p b).2 k := by
  have b1 := bound_pos c.rng p h.rng0 h0
  have b2 := bound_gap c.rng p h.rng0 h1
  unfold RC.bit
  by_cases hb0 : b = 0
  · rw [if_pos hb0]; exact h.reach_part hb (by omega) (by show 1 ≤ c.rng / 2048 * p; omega) (by omega)
  · rw [if_neg hb0]; exact h.reach_part hb (by show 0 ≤ c.rng / 2048 * p; omega) (by omega) (by omega)
def RC.gives : Nat → RC → RC
  | 0, c => c
  | k + 1, c => RC.gives k c.give
theorem give_low (c : RC) : c.give.low = c.low % 16777216 * 256 := by unfold RC.give; split <;> rfl
structure RC.Fin (c : RC) : Prop where
  low0 : 0 ≤ c.low
  low1 : c.low < 8589934592
  waits0 : 0 ≤ c.waits
  waits1 : c.waits < 256
  full : c.waits = 255 → c.low < 4294967296
  bytes : c.bytes
theorem RC.Fin.give {c : RC} (h : c.Fin) : c.give.Fin ∧ c.give.val = 256 * c.val ∧ c.give.len = c.len + 1 := by
  obtain ⟨h1, h2, h3, h4, h5, h6⟩ := h
  have e := give_low c
  refine ⟨⟨by rw [e]; omega, by rw [e]; omega, ?_, ?_, fun _ => by rw [e]; omega, give_bytes h6⟩, give_val c h1 h2 h3 h4 h5, give_len c⟩
  · unfold RC.give; split <;> dsimp only <;> omega
  · unfold RC.give; split <;> dsimp only <;> omega
theorem RC.Ok.fin {c : RC} {N : Nat} (h : c.Ok N) (hb : c.bytes) : c.Fin := by
  obtain ⟨h1, h2, h3, h4, h5, h6, h7, h8⟩ := h
  exact ⟨h1, by omega, h5, h6, fun e => by have := h7 e; omega, hb⟩
/-- the bytes at the end are the number, as many as were told. -/
theorem gives_out {c : RC} (h : c.Fin) : valL (c.gives 5).out = c.val ∧ (c.gives 5).out.length = c.len ∧ (c.gives 5).bytes := by
  obtain ⟨f1, v1, l1⟩ := h.give
  obtain ⟨f2, v2, l2⟩ := f1.give
  obtain ⟨f3, v3, l3⟩ := f2.give
  obtain ⟨f4, v4, l4⟩ := f3.give
  obtain ⟨f5, v5, l5⟩ := f4.give
  have e1 := give_low c
  have e2 := give_low c.give
  have e3 := give_low c.give.give
  have e4 := give_low c.give.give.give
  have hl : c.give.give.give.give.low = 0 := by omega
  have hm : c.give.give.give.give.moves := .inl (by omega)
  have hg : c.give.give.give.give.give = ⟨c.give.give.give.give.low % 16777216 * 256, c.give.give.give.give.rng, c.give.give.give.give.low / 16777216 % 256, 0, c.give.give.give.give.out ++ (c.give.give.give.give.waits + c.give.give.give.give.carry) % 256 :: List.replicate c.give.give.give.give.more ((255 + c.give.give.give.give.carry) % 256)⟩ := if_pos hm
  have w5 : c.give.give.give.give.give.waits = 0 := by rw [hg, hl]; rfl
  have m5 : c.give.give.give.give.give.more = 0 := by rw [hg]
  have o5 : c.give.give.give.give.give.low = 0 := by rw [hg, hl]; rfl
  show valL c.give.give.give.give.give.out = c.val ∧ c.give.give.give.give.give.out.length = c.len ∧ c.give.give.give.give.give.bytes
  refine ⟨?_, ?_, f5.bytes⟩
  · have : c.give.give.give.give.give.val = ((valL c.give.give.give.give.give.out * 256 + c.give.give.give.give.give.waits) * 256 ^ c.give.give.give.give.give.more + (256 ^ c.give.give.give.give.give.more - 1)) * 4294967296 + c.give.give.give.give.give.low := rfl
    rw [w5, m5, o5] at this
    simp only [Int.pow_zero, Int.mul_one] at this
    omega
  · have : c.give.give.give.give.give.len = c.give.give.give.give.give.out.length + c.give.give.give.give.give.more + 5 := rfl
    rw [m5] at this
    omega
/-- a coder that begins. -/
def RC.new : RC := ⟨0, 4294967295, 0, 0, []⟩
theorem new_ok (N : Nat) : RC.new.Ok N := ⟨by decide, by decide, by decide, by decide, by decide, by decide, by decide, Nat.zero_le _⟩
theorem new_bytes : RC.new.bytes := fun x hx => by simp [RC.new] at hx
theorem new_val : RC.new.val = 0 := by decide
theorem reach_top {c : RC} {k : Nat} (h : Reach RC.new c k) : c.val + c.rng ≤ 256 ^ (c.len - 1) ∧ 0 ≤ c.val := by
  have h1 := h.high
  have h2 := h.low
  have h3 := h.len
  have hp := pow_pos256 k
  rw [new_val] at h1 h2
  have e : c.len - 1 = k + 4 := by have : RC.new.len = 5 := rfl; omega
  have hr : RC.new.rng = 4294967295 := rfl
  rw [hr] at h1
  rw [e, Int.pow_add]
  have : (256 : Int) ^ 4 = 4294967296 := by decide
  rw [this]
  omega
theorem valL_nonneg {l : List Int} (h : ∀ x, x ∈ l → 0 ≤ x ∧ x < 256) : 0 ≤ valL l ∧ valL l < 256 ^ l.length := by
  have aux : ∀ n (l : List Int), l.length = n → (∀ x, x ∈ l → 0 ≤ x ∧ x < 256) → 0 ≤ valL l ∧ valL l < 256 ^ l.length := by
    intro n
    induction n with
    | zero =>
      intro l hl _
      have : l = [] := List.eq_nil_of_length_eq_zero hl
      subst this
      decide
    | succ n ih =>
      intro l hl hb
      obtain ⟨k, x, rfl⟩ : ∃ k x, l = k ++ [x] := by
        have hne : l ≠ [] := by intro e; subst e; simp at hl
        exact ⟨l.dropLast, l.getLast hne, (List.dropLast_concat_getLast hne).symm⟩
      have hk : k.length = n := by simpa using hl
      obtain ⟨h1, h2⟩ := ih k hk (fun y hy => hb y (by simp [hy]))
      have hx := hb x (by simp)
      rw [valL_snoc, List.length_append, List.length_singleton, Int.pow_succ]
      omega
  exact aux _ l rfl h
theorem valL_first {x : Int} {l : List Int} (h : ∀ y, y ∈ x :: l → 0 ≤ y ∧ y < 256) (hv : valL (x :: l) < 256 ^ l.length) : x = 0 := by
  have e : valL (x :: l) = x * 256 ^ l.length + valL l := by
    have := valL_append [x] l
    simpa [valL] using this
  have h1 := (valL_nonneg (l := l) fun y hy => h y (by simp [hy])).1
  have h2 := h x (by simp)
  have hp := pow_pos256 l.length
  rw [e] at hv
  apply Decidable.byContradiction
  intro hne
  have : 1 * 256 ^ l.length ≤ x * 256 ^ l.length := Int.mul_le_mul_of_nonneg_right (by omega) (by omega)
  omega
/-- rows of bytes that are one number, and as long, are one row. -/
theorem valL_inj : ∀ (a b : List Int), a.length = b.length → (∀ x, x ∈ a → 0 ≤ x ∧ x < 256) → (∀ x, x ∈ b → 0 ≤ x ∧ x < 256) → valL a = valL b → a = b := by
  intro a
  induction a with
  | nil => intro b hl _ _ _; exact (List.eq_nil_of_length_eq_zero (by simpa using hl.symm)).symm
  | cons x a ih =>
    intro b hl ha hb hv
    cases b with
    | nil => simp at hl
    | cons y b =>
      have hl' : a.length = b.length := by simpa using hl
      have e1 : valL (x :: a) = x * 256 ^ a.length + valL a := by
        have := valL_append [x] a
        simpa [valL] using this
      have e2 : valL (y :: b) = y * 256 ^ b.length + valL b := by
        have := valL_append [y] b
        simpa [valL] using this
      have n1 := valL_nonneg (l := a) fun z hz => ha z (by simp [hz])
      have n2 := valL_nonneg (l := b) fun z hz => hb z (by simp [hz])
      rw [e1, e2, hl'] at hv
      rw [hl'] at n1
      generalize (256 : Int) ^ b.length = P at *
      have hxy : x = y := by
        apply Decidable.byContradiction
        intro hne
        rcases Int.lt_or_gt_of_ne hne with h | h
        · have : (x + 1) * P ≤ y * P := Int.mul_le_mul_of_nonneg_right (by omega) (by omega)
          rw [Int.add_mul] at this
          omega
        · have : (y + 1) * P ≤ x * P := Int.mul_le_mul_of_nonneg_right (by omega) (by omega)
          rw [Int.add_mul] at this
          omega
      subst hxy
      rw [ih b hl' (fun z hz => ha z (by simp [hz])) (fun z hz => hb z (by simp [hz])) (by omega)]
end Go.Proofs.Ytphdnfilenkanaa

/- The range coder: Straight, Finish, Count, New. -/
namespace Go.Proofs.Ytphdnfilenkanaa
open Go.RowKit

theorem RC.Ok.str1 {c : RC} {N : Nat} (h : c.Ok N) (b : Nat) : (c.str1 b).Ok (N + 3) := by
  have h2 := h.rng0
  refine h.part ?_ (by omega) ?_
  · by_cases hb : b = 1
    · rw [if_pos hb]; omega
    · rw [if_neg hb]; omega
  · by_cases hb : b = 1
    · rw [if_pos hb]; omega
    · rw [if_neg hb]; omega

def CNewPost (w : World) (e : Ending) (w' : World) : Prop :=
  ∃ g, e = .returned (.pointer (some ⟨g, 0, none⟩)) ∧ w.heap.size ≤ g ∧ Fr Non w w' ∧ CodIs (fun k => k < w.heap.size) g w' RC.new
def newCells : Array Value := #[.int .u64 0, .int .u32 4294967295, .int .u8 0, .int .i64 0, .slice none 0 0]
theorem cnew_raw (w : World) : Calls Try.prog 23 #[] w fun e w' => e = .returned (.pointer (some ⟨w.heap.size, 0, none⟩)) ∧ w' = w.alloc (.cells #[.int .u64 0, .int .u32 4294967295, .int .u8 0, .int .i64 0, .slice none 0 0] 86) := by
  go_enter Try.func23, Try.ntmps23
  go_wp2
  go_ret
  exact ⟨rfl, rfl⟩
theorem cnew_any (w : World) : Calls Try.prog 23 #[] w (CNewPost w) := by
  refine (cnew_raw w).mono ?_
  rintro e w' ⟨rfl, rfl⟩
  refine ⟨w.heap.size, rfl, Nat.le_refl _, (Fr.refl _ _).alloc _, .slice none 0 0, blk_new _ _, Own.nil _ _ _ _, fun k hk => by simp [Value.ownBlock] at hk, fun k hk => ?_, fun hk => ?_⟩
  · have hk' : k < w.heap.size := hk
    simp; omega
  · have hk' : w.heap.size < w.heap.size := hk
    omega
def FPost (A : Nat → Prop) (g : Nat) (w : World) (c : RC) (e : Ending) (w' : World) : Prop :=
  ∃ v, e = .returned v ∧ Own w' 0 .u8 5 v (c.gives 5).out ∧ (∀ k, v.ownBlock = some k → k ≠ g ∧ ¬ A k) ∧ Fr (Out A) w w' ∧ CodIs A g w' RC.new

set_option maxRecDepth 100000 in
set_option maxHeartbeats 2000000 in
theorem cfinish_any (A : Nat → Prop) (g : Nat) (c : RC) (w : World) (h : CodIs A g w c) (hf : c.Fit 1073741810) :
    Calls Try.prog 28 #[.pointer (some ⟨g, 0, none⟩)] w (FPost A g w c) := by
  have H := hid h
  have Hf := hid hf
  clear h hf
  go_enter Try.func28, Try.ntmps28
  go_wp2

  go_loopw [4] (fun i wr => ∃ (k : Nat) (c1 : RC), k ≤ 5 ∧ i = .int .i64 k ∧ RC.gives (5 - k) c1 = c.gives 5 ∧ Fr (Out A) w wr ∧ CodIs A g wr c1 ∧ c1.Fit (1073741810 + k))
    (fun i _ => 5 - (intOf i).toNat)
  case atStart => exact ⟨0, c, by omega, rfl, rfl, Fr.refl _ _, H.out, Hf.out⟩
  case round =>
    obtain ⟨k, c1, hk, rfl, hgo, hfr, hcod, hfit⟩ := hrel
    have Hgo := hid hgo
    have Hfr := hid hfr
    have Hcod := hid hcod
    have Hfit := hid hfit
    clear hgo hfr hcod hfit
    by_cases hlt : k < 5
    · go_wp2_with fail
      refine (give_any A g c1 _ Hcod.out Hfit.out.1 Hfit.out.2 ⟨Hfit.out.3, Hfit.out.4⟩ (by have := Hfit.out.5; omega)).mono ?_
      rintro e w1 ⟨rfl, hf1, hd1⟩
      have Hf1 := hid hf1
      have Hd1 := hid hd1
      clear hf1 hd1
      go_wp2_with fail
      go_roundw
      case rel =>
        refine ⟨k + 1, _, by omega, by go_num, ?_, Hfr.out.trans Hf1.out, Hd1.out, Hfit.out.give.1⟩
        have := Hgo.out
        rw [show 5 - k = (5 - (k + 1)) + 1 by omega] at this
        exact this
      case measure => simp [intOf]; omega
    · have e : k = 5 := by omega
      subst e
      have hgo := Hgo.out
      rw [Nat.sub_self] at hgo
      have hgo' : c1 = c.gives 5 := hgo
      obtain ⟨v, hv⟩ := Hcod.out
      have HV := hid hv
      clear hv
      have k0 := blk_cell HV.out.at_ (j := 0) (v := .int .u64 c1.low) rfl
      have g0 := blk_frozen HV.out.at_ 0
      have q0 := fun o => blk_cell (blk_alloc (o' := o) HV.out.at_) (j := 0) (v := .int .u64 c1.low) rfl
      have r0 := fun o => blk_frozen (blk_alloc (o' := o) HV.out.at_) 0
      have k1 := blk_cell HV.out.at_ (j := 1) (v := .int .u32 c1.rng) rfl
      have g1 := blk_frozen HV.out.at_ 1
      have q1 := fun o => blk_cell (blk_alloc (o' := o) HV.out.at_) (j := 1) (v := .int .u32 c1.rng) rfl
      have r1 := fun o => blk_frozen (blk_alloc (o' := o) HV.out.at_) 1
      have k2 := blk_cell HV.out.at_ (j := 2) (v := .int .u8 c1.waits) rfl
      have g2 := blk_frozen HV.out.at_ 2
      have q2 := fun o => blk_cell (blk_alloc (o' := o) HV.out.at_) (j := 2) (v := .int .u8 c1.waits) rfl
      have r2 := fun o => blk_frozen (blk_alloc (o' := o) HV.out.at_) 2
      have k3 := blk_cell HV.out.at_ (j := 3) (v := .int .i64 c1.more) rfl
      have g3 := blk_frozen HV.out.at_ 3
      have q3 := fun o => blk_cell (blk_alloc (o' := o) HV.out.at_) (j := 3) (v := .int .i64 c1.more) rfl
      have r3 := fun o => blk_frozen (blk_alloc (o' := o) HV.out.at_) 3
      have k4 := blk_cell HV.out.at_ (j := 4) (v := v) rfl
      have g4 := blk_frozen HV.out.at_ 4
      have q4 := fun o => blk_cell (blk_alloc (o' := o) HV.out.at_) (j := 4) (v := v) rfl
      have r4 := fun o => blk_frozen (blk_alloc (o' := o) HV.out.at_) 4
      go_wp2_with fail
      refine (cnew_raw _).mono ?_
      rintro e w2 ⟨rfl, rfl⟩
      go_wp2_with fail
      go_ret
      have hfr : Fr (fun k => k = g) wr ((((((wr.alloc (.cells #[.int .u64 0, .int .u32 4294967295, .int .u8 0, .int .i64 0, .slice none 0 0] 86)).setCell ⟨g, 0, none⟩ (.int .u64 0)).setCell ⟨g, 1, none⟩ (.int .u32 4294967295)).setCell ⟨g, 2, none⟩ (.int .u8 0)).setCell ⟨g, 3, none⟩ (.int .i64 0)).setCell ⟨g, 4, none⟩ (.slice none 0 0)) :=
        ((((((Fr.refl _ _).alloc _).setOne _ _).setOne _ _).setOne _ _).setOne _ _).setOne _ _
      refine ⟨v, rfl, ?_, HV.out.sep, Hfr.out.trans (hfr.mono fun k _ e => by rw [e]; exact HV.out.not), .slice none 0 0, ?_, Own.nil _ _ _ _, fun k hk => by simp [Value.ownBlock] at hk, fun k hk => Nat.lt_of_lt_of_le (HV.out.old k hk) hfr.size, HV.out.not⟩
      · rw [← hgo']
        exact HV.out.own.fr hfr (fun k hk e => (HV.out.sep k hk).1 e)
      · exact blk_set (i := 4) (blk_set (i := 3) (blk_set (i := 2) (blk_set (i := 1) (blk_set (i := 0) (blk_alloc HV.out.at_)))))
end Go.Proofs.Ytphdnfilenkanaa
