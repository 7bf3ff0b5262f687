/- The walk through BcjCall. -/
import Derived.Test.YtfedllfpgalalaaBcj12
import Derived.Laws.IdiomStrings
import Derived.Deep.RegionWith
namespace Go.Proofs.Ytfedllfpgalalaa
open Go.RowKit

/-- the bytes F, as a string. -/
def strOf (N : Nat) (F : Nat → Int) : ByteArray := ⟨((List.range N).map fun j => UInt8.ofNat (F j).toNat).toArray⟩
theorem conv_row (w : World) (b o N cap : Nat) (F : Nat → Int) (hF : ∀ j, j < N → 0 ≤ F j ∧ F j < 256) (hc : ∀ j, j < N → w.cell? ⟨b, o + j, none⟩ = some (.int .u8 (F j))) :
    (convert 22 9 (.slice (some ⟨b, o, none⟩) N cap)).run Try.prog w = .ok (.string (strOf N F)) w := by
  have h := run_convert_bytes_back (P := Try.prog) w 22 9 5 ⟨b, o, none⟩ cap ((List.range N).map fun j => UInt8.ofNat (F j).toNat) Try.underlying22 (by kernel_rfl) (by kernel_rfl) (fun j hj => by
    have hj' : j < N := by simpa using hj
    have hr := hF j hj'
    have e : (((List.range N).map fun j => UInt8.ofNat (F j).toNat)[j]).toNat = (F j).toNat := by
      simp [UInt8.toNat_ofNat']
      omega
    rw [e, Int.toNat_of_nonneg hr.1]
    by_cases h0 : j = 0
    · subst h0; simpa [Addr.add] using hc 0 hj'
    · simpa [Addr.add, h0] using hc j hj')
  rw [List.length_map, List.length_range] at h
  exact h
set_option maxRecDepth 100000 in
set_option maxHeartbeats 4000000 in
theorem bcjCall_walk (ah tg : Nat) (jm : Bool) (w : World) (hah : ah < 65536) (htg : tg < 4294967296) :
    Calls Try.prog 10 #[.int .u16 ah, .int .u32 tg, .bool jm] w fun e w' => e = .returned (.bool true) ∧ Fr Non w w' := by
  obtain ⟨n, hn⟩ : ∃ n, n = ah % 1000 := ⟨_, rfl⟩
  have hn1 : n < 1000 := by omega
  have hni : IntKind.i64.wrap ((ah : Int).tmod 1000) = (n : Int) := by rw [Int.tmod_eq_emod_of_nonneg (by omega), IntKind.wrap_i64]; omega
  have hni2 : ((ah : Int).tmod 1000) = (n : Int) := by rw [Int.tmod_eq_emod_of_nonneg (by omega)]; omega
  obtain ⟨N, hN⟩ : ∃ N, N = n + 9 := ⟨_, rfl⟩
  have hNi : (n : Int) + 9 = (N : Int) := by omega
  have hmk := make_u8 N (by omega)
  have hN3 : N < 1009 := by omega
  have hN9 : 9 ≤ N := by omega
  have HN := hid hn
  have HNN := hid hN
  have hmod : (ah : Int) % 1000 = (n : Int) := by omega
  clear hn hN hni2 hni
  go_enter Try.func10, Try.ntmps10
  go_upto_block 0 with (go_at_call 20; refine (bawake_any _).mono ?_; rintro e w1 ⟨rfl, hf1⟩)
  rw [hmod]
  obtain ⟨gb, hgb⟩ : ∃ gb, gb = w1.heap.size := ⟨_, rfl⟩
  have F1 := hid hf1
  have B1 := hid (show (w1.alloc (.cells (arr .u8 N fun _ => 0) 5)).heap[gb]? = some (.cells (arr .u8 N fun _ => 0) 5) by rw [hgb]; exact blk_new w1 _)
  have hgw : w.heap.size ≤ gb := by rw [hgb]; exact hf1.size
  rw [← hgb]
  have HGB := hid hgb
  clear hf1 hgb hmod hmk
  go_cut [] (fun wx => Fr Non w wx ∧ wx.heap[gb]? = some (.cells (arr .u8 N fun _ => 144) 5))
  case first =>
    go_wp2_with fail
    go_loopw [9] (fun iv wr => ∃ i : Nat, i ≤ N ∧ iv = .int .i64 i ∧ Fr Non w wr ∧ wr.heap[gb]? = some (.cells (arr .u8 N fun j => if j < i then 144 else 0) 5)) (fun iv _ => N - (intOf iv).toNat)
    case atStart => exact ⟨0, Nat.zero_le _, rfl, F1.out.alloc _, by have := B1.out; simpa using this⟩
    case round =>
      obtain ⟨i, hi, rfl, hfr, hb⟩ := hrel
      have HFR := hid hfr
      have HB := hid hb
      by_cases hlt : i < N
      · have cb := blk_cell hb (arr_get .u8 N _ hlt)
        have fb := blk_frozen hb i
        clear hfr hb
        go_wp2_with fail
        go_roundw
        case rel =>
          refine ⟨i + 1, by omega, by go_num, Fr.setNew HFR.out hgw i _, ?_⟩
          have := blk_set (i := i) (v := .int .u8 144) HB.out
          rw [arr_set] at this
          rw [this]
          congr 2
          refine arr_ext fun j hj => ?_
          unfold upd
          by_cases e1 : j = i
          · rw [if_pos e1, if_pos (by omega)]
          · rw [if_neg e1]
            show (if j < i then (144 : Int) else 0) = _
            by_cases e2 : j < i
            · rw [if_pos e2, if_pos (by omega)]
            · rw [if_neg e2, if_neg (by omega)]
        case measure => simp [intOf]; omega
      · have e : i = N := by omega
        subst e
        clear hfr hb
        go_wp2_with fail
        go_meet
        refine ⟨HFR.out, ?_⟩
        rw [HB.out]
        congr 2
        exact arr_ext fun j hj => if_pos hj
  case rest =>
    obtain ⟨hfr, hb⟩ := hcut
    have HFR := hid hfr
    have HB := hid hb
    have cn := blk_cell hb (arr_get .u8 N _ (show n < N by omega))
    have fn := blk_frozen hb n
    clear hfr hb
    have hnN : n < N := by omega
    obtain ⟨c, hc⟩ : ∃ c : Int, c = if jm = true then 233 else 232 := ⟨_, rfl⟩
    have hcall : isCall c = true := by rw [hc]; cases jm <;> decide
    have hcr : 0 ≤ c ∧ c < 256 := by rw [hc]; cases jm <;> decide
    have HC := hid hc
    have HCall := hid hcall
    have HCR := hid hcr
    clear hc hcall hcr
    go_upto_if 36 with fail
    go_cut [] (fun wx => Fr Non w wx ∧ wx.heap[gb]? = some (.cells (arr .u8 N (upd (fun _ => 144) n c)) 5))
    case first =>
      cases jm with
      | true =>
        go_wp2_with fail
        go_meet
        have hc1 : c = 233 := HC.out
        have h1 := blk_set (i := n) (v := .int .u8 233) (blk_set (i := n) (v := .int .u8 232) HB.out)
        rw [arr_set, arr_set] at h1
        refine ⟨Fr.setNew (Fr.setNew HFR.out hgw n _) hgw n _, ?_⟩
        rw [h1, hc1]
        congr 2
        refine arr_ext fun j hj => ?_
        unfold upd
        by_cases e1 : j = n
        · rw [if_pos e1, if_pos e1]
        · rw [if_neg e1, if_neg e1, if_neg e1]
      | false =>
        go_wp2_with fail
        go_meet
        have hc1 : c = 232 := HC.out
        have h1 := blk_set (i := n) (v := .int .u8 232) HB.out
        rw [arr_set] at h1
        exact ⟨Fr.setNew HFR.out hgw n _, by rw [h1, hc1]⟩
    case rest =>
      obtain ⟨hfr, hb⟩ := hcut
      have HFR := hid hfr
      have HB := hid hb
      clear hfr hb cn fn
      obtain ⟨s, hs⟩ : ∃ s, s = edgeT (tg : Int) := ⟨_, rfl⟩
      have HS := hid hs
      have hsr := edgeT_range (tg : Int)
      rw [← hs] at hsr
      clear hs
      go_upto_if 43 with fail
      go_cut [10] (fun sv wx => sv = .int .u32 s ∧ Fr Non w wx ∧ wx.heap[gb]? = some (.cells (arr .u8 N (upd (fun _ => 144) n c)) 5))
      case first =>
        obtain ⟨u, hu⟩ : ∃ u : Nat, u = tg % 33554432 := ⟨_, rfl⟩
        have hmod2 : (tg : Int) % 33554432 = (u : Int) := by omega
        have hu25 : u < 33554432 := by omega
        have hor : bits BinOp.or IntKind.u32 (u : Int) 4261412864 = (u : Int) + 4261412864 := or_shift (u : Int) 127 25 (by omega) (by show (u : Int) < 33554432; omega) (by decide) (by show (u : Int) + 127 * 33554432 < _; omega)
        have HOR := hid hor
        have HU := hid hu25
        clear hu hu25
        by_cases h24 : (16777216 : Int) ≤ (u : Int)
        · have hs1 : s = (u : Int) + 4261412864 := by
            rw [HS.out]; unfold edgeT; rw [hmod2, if_pos h24]
          have HS1 := hid hs1
          have hd : decide ((16777216 : Int) ≤ (u : Int)) = true := decide_eq_true h24
          rw [hmod2, hd]
          clear hs1 hd h24 hmod2 hor
          go_wp2_with fail
          go_meet
          rw [HOR.out, ← HS1.out]
          exact ⟨rfl, HFR.out, HB.out⟩
        · have hs1 : s = (u : Int) := by
            rw [HS.out]; unfold edgeT; rw [hmod2, if_neg h24]
          have HS1 := hid hs1
          have hd : decide ((16777216 : Int) ≤ (u : Int)) = false := decide_eq_false h24
          rw [hmod2, hd]
          clear hs1 hd h24 hmod2 hor
          go_wp2_with fail
          go_meet
          rw [← HS1.out]
          exact ⟨rfl, HFR.out, HB.out⟩
      case rest =>
        obtain ⟨hsv, hfr, hb⟩ := hcut
        subst hsv
        have HFR := hid hfr
        have HB := hid hb
        clear hfr hb
        go_upto_block 2 with fail
        go_cut [] (fun wx => Fr Non w wx ∧ wx.heap[gb]? = some (.cells (arr .u8 N (callF n c s)) 5))
        case first =>
          go_wp2_with fail
          go_loopw [11] (fun iv wr => ∃ i : Nat, i ≤ 4 ∧ iv = .int .i64 i ∧ Fr Non w wr ∧ wr.heap[gb]? = some (.cells (arr .u8 N fun j => if n < j ∧ j < n + 1 + i then s / 2 ^ (8 * (j - n - 1)) % 256 else upd (fun _ => 144) n c j) 5)) (fun iv _ => 4 - (intOf iv).toNat)
          case atStart =>
            refine ⟨0, by omega, rfl, HFR.out, ?_⟩
            rw [HB.out]
            congr 2
            refine arr_ext fun j hj => ?_
            show upd (fun _ => 144) n c j = if n < j ∧ j < n + 1 + 0 then _ else _
            rw [if_neg (by omega)]
          case round =>
            obtain ⟨i, hi, rfl, hfr, hb⟩ := hrel
            have HFR2 := hid hfr
            have HB2 := hid hb
            by_cases hlt : i < 4
            · obtain ⟨p, hp⟩ : ∃ p, p = n + 1 + i := ⟨_, rfl⟩
              have hpN : p < N := by omega
              have hpi : (n : Int) + 1 + (i : Int) = (p : Int) := by omega
              obtain ⟨x0, cb⟩ : ∃ x0, wr.cell? ⟨gb, p, none⟩ = some (.int .u8 x0) := ⟨_, blk_cell hb (arr_get .u8 N _ hpN)⟩
              have fb := blk_frozen hb p
              have HP := hid hp
              have HF9 := hid (show ∀ x : Int, x = s / 2 ^ (8 * i) % 256 → Fr Non w (wr.setCell ⟨gb, p, none⟩ (.int .u8 x)) ∧ (wr.setCell ⟨gb, p, none⟩ (.int .u8 x)).heap[gb]? = some (.cells (arr .u8 N fun j => if n < j ∧ j < n + 1 + (i + 1) then s / 2 ^ (8 * (j - n - 1)) % 256 else upd (fun _ => 144) n c j) 5) from fun x hx => by
                refine ⟨Fr.setNew HFR2.out hgw p _, ?_⟩
                have := blk_set (i := p) (v := .int .u8 x) HB2.out
                rw [arr_set] at this
                rw [this]
                congr 2
                refine arr_ext fun j hj => ?_
                have hpp := HP.out
                by_cases e1 : j = p
                · show (if j = p then x else _) = _
                  rw [if_pos e1, if_pos (by omega), hx, show j - n - 1 = i by omega]
                · show (if j = p then x else if n < j ∧ j < n + 1 + i then s / 2 ^ (8 * (j - n - 1)) % 256 else upd (fun _ => 144) n c j) = _
                  rw [if_neg e1]
                  by_cases e2 : n < j ∧ j < n + 1 + i
                  · rw [if_pos e2, if_pos (by omega)]
                  · rw [if_neg e2, if_neg (by omega)])
              clear hfr hb hp HB2 HFR2
              have hi4 : i = 0 ∨ i = 1 ∨ i = 2 ∨ i = 3 := by omega
              rcases hi4 with rfl | rfl | rfl | rfl
              · simp at hpi
                go_wp2_with fail
                go_roundw
                case rel => exact ⟨1, by omega, by first | rfl | go_num, HF9.out _ (by first | rfl | (show _ = s / 1 % 256; rw [IntKind.wrap_u8]) | (show _ = s / 1 % 256; omega) | simp)⟩
                case measure => simp [intOf]
              · simp at hpi
                go_wp2_with fail
                go_roundw
                case rel => exact ⟨2, by omega, by first | rfl | go_num, HF9.out _ (by first | rfl | (show _ = s / 256 % 256; rw [IntKind.wrap_u8]) | (show _ = s / 256 % 256; omega) | simp)⟩
                case measure => simp [intOf]
              · simp at hpi
                go_wp2_with fail
                go_roundw
                case rel => exact ⟨3, by omega, by first | rfl | go_num, HF9.out _ (by first | rfl | (show _ = s / 65536 % 256; rw [IntKind.wrap_u8]) | (show _ = s / 65536 % 256; omega) | simp)⟩
                case measure => simp [intOf]
              · simp at hpi
                go_wp2_with fail
                go_roundw
                case rel => exact ⟨4, by omega, by first | rfl | go_num, HF9.out _ (by first | rfl | (show _ = s / 16777216 % 256; rw [IntKind.wrap_u8]) | (show _ = s / 16777216 % 256; omega) | simp)⟩
                case measure => simp [intOf]
            · have e : i = 4 := by omega
              subst e
              clear hfr hb
              go_wp2_with fail
              go_meet
              refine ⟨HFR2.out, ?_⟩
              rw [HB2.out]
              congr 2
              refine arr_ext fun j hj => ?_
              show (if n < j ∧ j < n + 1 + 4 then s / 2 ^ (8 * (j - n - 1)) % 256 else if j = n then c else 144) = (if j = n then c else if n < j ∧ j < n + 5 then s / 2 ^ (8 * (j - n - 1)) % 256 else 144)
              by_cases e1 : j = n
              · rw [if_neg (by omega), if_pos e1, if_pos e1]
              · by_cases e2 : n < j ∧ j < n + 1 + 4
                · rw [if_pos e2, if_neg e1, if_pos (by omega)]
                · rw [if_neg e2, if_neg e1, if_neg e1, if_neg (by omega)]
        case rest =>
          obtain ⟨hfr, hb⟩ := hcut
          have hgl := blk_lt hb
          have HR := hid (show RowIn (gb + 1) .u8 wc (some ⟨gb, 0, none⟩) N (callF n c s) from .inr ⟨gb, 0, rfl, by omega, fun i hi => by simpa using blk_cell hb (arr_get .u8 N _ hi)⟩)
          have HFR := hid hfr
          have HB := hid hb
          have HF0 := hid (fun j (_ : j < N) => callF_range (n := n) (s := s) HCR.out j)
          clear hfr hb
          go_wp2_with fail
          refine (bcode_any (some ⟨gb, 0, none⟩) N N (callF n c s) _ (by omega) (Nat.le_refl _) (fun e => by cases e) (HR.out.mono (by omega)) HF0.out).mono ?_
          rintro e w6 ⟨a6, c6, rfl, hn6, hm6, hz6, hr6, hf6, _⟩
          have HR6 := hid hr6
          have HF6 := hid hf6
          have HZ6 := hid hz6
          have s6 := hf6.size
          clear hr6 hf6 hz6
          go_upto_if 71 with fail
          obtain ⟨T, hT⟩ : ∃ T, T = edgeT (s + n + 5) := ⟨_, rfl⟩
          have hTr := edgeT_range (s + n + 5)
          rw [← hT] at hTr
          have HT := hid hT
          clear hT
          go_cut [13] (fun tv wx => tv = .int .u32 T ∧ wx = w6)
          case first =>
            obtain ⟨u, hu⟩ : ∃ u, u = (s + n + 5) % 33554432 := ⟨_, rfl⟩
            have hu1 : (s + n + 5) % 4294967296 % 33554432 = u := by omega
            have hu2 : (s + n + 5) % 33554432 = u := hu.symm
            have hur : 0 ≤ u ∧ u < 33554432 := by omega
            have hor : bits BinOp.or IntKind.u32 u 4261412864 = u + 4261412864 := or_shift u 127 25 hur.1 (by show u < 33554432; omega) (by decide) (by show u + 127 * 33554432 < _; omega)
            have HOR := hid hor
            clear hu hor
            by_cases h24 : (16777216 : Int) ≤ u
            · have hs1 : T = u + 4261412864 := by
                rw [HT.out]; unfold edgeT; rw [hu2, if_pos h24]
              have HS1 := hid hs1
              have hd : decide ((16777216 : Int) ≤ u) = true := decide_eq_true h24
              rw [hu1, hu2, hd]
              clear hs1 hd h24 hu1 hu2 hur
              go_wp2_with fail
              go_meet
              rw [HOR.out, ← HS1.out]
              exact ⟨rfl, rfl⟩
            · have hs1 : T = u := by
                rw [HT.out]; unfold edgeT; rw [hu2, if_neg h24]
              have HS1 := hid hs1
              have hd : decide ((16777216 : Int) ≤ u) = false := decide_eq_false h24
              rw [hu1, hu2, hd]
              clear hs1 hd h24 hu1 hu2 hur
              go_wp2_with fail
              go_meet
              rw [← HS1.out]
              exact ⟨rfl, rfl⟩
          case rest =>
            obtain ⟨htv, hwx⟩ := hcut
            have hwx' := hwx.symm
            subst htv hwx'
            have HF7 := hid (HFR.out.trans HF6.out)
            have HB6 := hid (HF6.out.blk HB.out id)
            have HXJ := hid (show ∀ j, allB true N (callF n c s) j = if n < j ∧ j < n + 5 then T / 2 ^ (8 * (j - n - 1)) % 256 else callF n c s j from fun j => by
              have := call_code n (by omega) c (tg : Int) HCall.out j
              rw [← HNN.out, ← HS.out, ← HT.out] at this
              exact this)
            go_upto_block 4 with fail
            go_cut [] (fun wx => ∃ m, wx = w6.drewN m)
            case first =>
              go_wp2_with fail
              go_loopw [14] (fun iv wr => ∃ i : Nat, i ≤ N ∧ iv = .int .i64 i ∧ ∃ m, wr = w6.drewN m) (fun iv _ => N - (intOf iv).toNat)
              case atStart => exact ⟨0, Nat.zero_le _, rfl, 0, rfl⟩
              case round =>
                obtain ⟨i, hi, rfl, m, rfl⟩ := hrel
                by_cases hlt : i < N
                · obtain ⟨bx, ox, rfl, hbx, cx⟩ := HR6.out.at hlt
                  have cb := blk_cell HB6.out (arr_get .u8 N (callF n c s) hlt)
                  have hx := HXJ.out i
                  obtain ⟨y, hy⟩ : ∃ y, y = callF n c s i := ⟨_, rfl⟩
                  obtain ⟨z, hz⟩ : ∃ z, z = allB true N (callF n c s) i := ⟨_, rfl⟩
                  rw [← hy] at cb hx
                  rw [← hz] at cx hx
                  clear hy hz
                  by_cases hin : n < i ∧ i < n + 5
                  · rw [if_pos hin] at hx
                    obtain ⟨k, hk⟩ : ∃ k, k = i - n - 1 := ⟨_, rfl⟩
                    rw [← hk] at hx
                    have hk4 : k = 0 ∨ k = 1 ∨ k = 2 ∨ k = 3 := by omega
                    have hik : (i : Int) - (n : Int) - 1 = (k : Int) := by omega
                    have i1 : (n : Int) < (i : Int) := by omega
                    have i2 : (i : Int) < (n : Int) + 5 := by omega
                    have HX2 := hid hx
                    clear hk hin hx
                    rcases hk4 with rfl | rfl | rfl | rfl
                    · simp at hik
                      have hz : z = T % 256 := by
                        have h := HX2.out
                        simpa using h
                      subst hz
                      clear HX2
                      go_wp2_with fail
                      go_roundw
                      case rel => exact ⟨i + 1, by omega, by go_num, m, rfl⟩
                      case measure => simp [intOf]; omega
                    · simp at hik
                      have hz : z = T / 256 % 256 := by
                        have h := HX2.out
                        exact h
                      subst hz
                      clear HX2
                      go_wp2_with fail
                      go_roundw
                      case rel => exact ⟨i + 1, by omega, by go_num, m, rfl⟩
                      case measure => simp [intOf]; omega
                    · simp at hik
                      have hz : z = T / 65536 % 256 := by
                        have h := HX2.out
                        exact h
                      subst hz
                      clear HX2
                      go_wp2_with fail
                      go_roundw
                      case rel => exact ⟨i + 1, by omega, by go_num, m, rfl⟩
                      case measure => simp [intOf]; omega
                    · simp at hik
                      have hz : z = T / 16777216 := by
                        have h : z = T / 16777216 % 256 := HX2.out
                        omega
                      subst hz
                      clear HX2
                      go_wp2_with fail
                      go_roundw
                      case rel => exact ⟨i + 1, by omega, by go_num, m, rfl⟩
                      case measure => simp [intOf]; omega
                  · rw [if_neg hin] at hx
                    subst hx
                    by_cases i1 : (n : Int) < (i : Int)
                    · have i2 : (n : Int) + 5 ≤ (i : Int) := by omega
                      have i3 : decide ((i : Int) < (n : Int) + 5) = false := decide_eq_false (by omega)
                      have i4 : decide ((n : Int) < (i : Int)) = true := decide_eq_true i1
                      have i6 : n + 5 ≤ i := by omega
                      have i7 : n < i := by omega
                      have i8 : ¬ (i : Int) < (n : Int) + 5 := by omega
                      clear hin
                      go_wp2_with fail
                      go_roundw
                      case rel => exact ⟨i + 1, by omega, by go_num, m, rfl⟩
                      case measure => simp [intOf]; omega
                    · have i4 : decide ((n : Int) < (i : Int)) = false := decide_eq_false i1
                      have i5 : (i : Int) ≤ (n : Int) := by omega
                      clear hin i1
                      go_wp2_with fail
                      go_roundw
                      case rel => exact ⟨i + 1, by omega, by go_num, m, rfl⟩
                      case measure => simp [intOf]; omega
                · have e : i = N := by omega
                  subst e
                  go_wp2_with fail
                  go_meet
                  exact ⟨m, rfl⟩
            case rest =>
              obtain ⟨m, rfl⟩ := hcut
              go_wp2_with fail
              have HFb := hid (conv_row (w6.drewN (m + 1)) gb 0 N N (callF n c s) HF0.out (fun j hj => by simpa using blk_cell HB6.out (arr_get .u8 N _ hj)))
              have hv0 := HFb.out
              go_cut [6] (fun bv wx => bv = .bool true ∧ Fr Non w wx)
              case first =>
                go_region_with (go_at_call 21; refine (bdecode_any a6 N c6 (allB true N (callF n c s)) _ (by omega) hn6 HZ6.out (by exact HR6.out) (allB_range HF0.out)).mono ?_; rintro e w8 ⟨a8, c8, rfl, hn8, hm8, hz8, hr8, hf8, _⟩; obtain ⟨b8, o8, rfl, _, _⟩ := hr8.at (show 0 < N by omega); have hv8 := conv_row w8 b8 o8 N c8 (callF n c s) HF0.out (fun j hj => by obtain ⟨b9, o9, he9, _, hc9⟩ := hr8.at hj; injection he9 with he9; injection he9 with e1 e2 _; subst e1 e2; rw [hc9, all_back N _ HF0.out j]); have hvb := conv_row w8 gb 0 N N (callF n c s) HF0.out (fun j hj => by simpa using blk_cell (hf8.blk HB6.out id) (arr_get .u8 N _ hj)); have HF8 := hid (((Fr.refl Non w6).drewN m).drew.trans hf8); clear hr8 hz8 hf8)
                all_goals
                  go_wp2_with fail
                  go_meet
                  refine ⟨?_, HF7.out.trans HF8.out⟩
                  first | rfl | (simp; done) | (congr 1; simp)
              case rest =>
                obtain ⟨hbv, hfz⟩ := hcut
                subst hbv
                go_wp2_with fail
                go_ret
                exact ⟨rfl, hfz⟩
end Go.Proofs.Ytfedllfpgalalaa
