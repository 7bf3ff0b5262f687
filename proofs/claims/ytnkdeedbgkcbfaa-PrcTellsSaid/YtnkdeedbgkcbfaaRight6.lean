/- garblerref06.Right. -/
import Derived.Test.YtnkdeedbgkcbfaaShare
import Derived.Test.YtnkdeedbgkcbfaaPrd3
namespace Go.Proofs.Ytnkdeedbgkcbfaa
open Go.RowKit

def RightPost (w : World) (b : Bool) (e : Ending) (w' : World) : Prop := e = .returned (.bool b) ∧ Fr Non w w'
set_option maxRecDepth 100000 in
set_option maxHeartbeats 4000000 in
theorem right_any (k : Int) (st sz tt : Nat) (w : World) (h0 : st < 4294967296) (h1 : sz < 4294967296) (h2 : tt < 4294967296) :
    Calls Try.prog 11 #[.agg #[.int .i64 k, .int .u32 st, .int .u32 sz, .int .u32 tt]] w (RightPost w (Share.rightB ⟨k, st, sz, tt⟩)) := by
  have key : ∀ x : Bool, (x = true ↔ Share.Right ⟨k, st, sz, tt⟩) → Share.rightB ⟨k, st, sz, tt⟩ = x := by
    intro x hx
    unfold Share.rightB
    cases x with
    | true => exact decide_eq_true (hx.1 rfl)
    | false => exact decide_eq_false (fun h => by cases hx.2 h)
  unfold Share.Right at key
  simp only at key
  have Key := hid key
  clear key
  by_cases k0 : k = 0
  · subst k0
    by_cases c0 : (1 : Int) ≤ (tt : Int)
    · by_cases c1 : (tt : Int) ≤ 1048576
      · by_cases c2 : (1 : Int) ≤ (sz : Int)
        · by_cases c3 : (sz : Int) ≤ (tt : Int)
          · by_cases c4 : (st : Int) ≤ (tt : Int) - (sz : Int)
            · go_enter Try.func11, Try.ntmps11
              go_wp2_with fail
              try (go_quiet (fail))
              try (go_wp2_with fail)
              go_ret
              exact ⟨by rw [Key.out true (by simp; omega)]; rfl, by repeat (first | exact Fr.refl _ _ | refine Fr.drewN ?_ _ | refine Fr.drew ?_ | refine Fr.alloc ?_ _)⟩
            · have e4 : decide ((st : Int) ≤ (tt : Int) - (sz : Int)) = false := by simp; omega
              go_enter Try.func11, Try.ntmps11
              go_wp2_with fail
              try (go_quiet (fail))
              try (go_wp2_with fail)
              go_ret
              exact ⟨by rw [Key.out false (by simp; omega)]; rfl, by repeat (first | exact Fr.refl _ _ | refine Fr.drewN ?_ _ | refine Fr.drew ?_ | refine Fr.alloc ?_ _)⟩
          · have e3 : decide ((sz : Int) ≤ (tt : Int)) = false := by simp; omega
            go_enter Try.func11, Try.ntmps11
            go_wp2_with fail
            try (go_quiet (fail))
            try (go_wp2_with fail)
            go_ret
            exact ⟨by rw [Key.out false (by simp; omega)]; rfl, by repeat (first | exact Fr.refl _ _ | refine Fr.drewN ?_ _ | refine Fr.drew ?_ | refine Fr.alloc ?_ _)⟩
        · have e2 : decide ((1 : Int) ≤ (sz : Int)) = false := by simp; omega
          go_enter Try.func11, Try.ntmps11
          go_wp2_with fail
          try (go_quiet (fail))
          try (go_wp2_with fail)
          go_ret
          exact ⟨by rw [Key.out false (by simp; omega)]; rfl, by repeat (first | exact Fr.refl _ _ | refine Fr.drewN ?_ _ | refine Fr.drew ?_ | refine Fr.alloc ?_ _)⟩
      · have e1 : decide ((tt : Int) ≤ 1048576) = false := by simp; omega
        go_enter Try.func11, Try.ntmps11
        go_wp2_with fail
        try (go_quiet (fail))
        try (go_wp2_with fail)
        go_ret
        exact ⟨by rw [Key.out false (by simp; omega)]; rfl, by repeat (first | exact Fr.refl _ _ | refine Fr.drewN ?_ _ | refine Fr.drew ?_ | refine Fr.alloc ?_ _)⟩
    · have e0 : decide ((1 : Int) ≤ (tt : Int)) = false := by simp; omega
      go_enter Try.func11, Try.ntmps11
      go_wp2_with fail
      try (go_quiet (fail))
      try (go_wp2_with fail)
      go_ret
      exact ⟨by rw [Key.out false (by simp; omega)]; rfl, by repeat (first | exact Fr.refl _ _ | refine Fr.drewN ?_ _ | refine Fr.drew ?_ | refine Fr.alloc ?_ _)⟩
  · have e0 : (k == 0) = false := by simpa using k0
    by_cases k1 : k = 1
    · subst k1
      by_cases c0 : (st : Int) ≤ 1
      · by_cases c1 : (1 : Int) ≤ (tt : Int)
        · by_cases c2 : (tt : Int) ≤ 16
          · obtain ⟨P, hP⟩ : ∃ P : Nat, P = 2 ^ tt := ⟨_, rfl⟩
            have hP2 : P ≤ 65536 := by
              have : 2 ^ tt ≤ 2 ^ 16 := Nat.pow_le_pow_right (by decide) (by omega)
              omega
            have hPI : (2 : Int) ^ tt = (P : Int) := by rw [hP]; simp
            rw [← hP] at Key
            have HP := hid hP
            clear hP
            by_cases c3 : (1 : Int) ≤ (sz : Int)
            · by_cases c4 : (sz : Int) < (P : Int)
              · go_enter Try.func11, Try.ntmps11
                go_wp2_with fail
                try (go_quiet (fail))
                try (go_wp2_with fail)
                go_ret
                have HP2 := HP.out
                exact ⟨by rw [Key.out true (by simp; omega)]; rfl, by repeat (first | exact Fr.refl _ _ | refine Fr.drewN ?_ _ | refine Fr.drew ?_ | refine Fr.alloc ?_ _)⟩
              · have e4 : decide ((sz : Int) < (P : Int)) = false := by simp; omega
                go_enter Try.func11, Try.ntmps11
                go_wp2_with fail
                try (go_quiet (fail))
                try (go_wp2_with fail)
                go_ret
                have HP2 := HP.out
                exact ⟨by rw [Key.out false (by simp; omega)]; rfl, by repeat (first | exact Fr.refl _ _ | refine Fr.drewN ?_ _ | refine Fr.drew ?_ | refine Fr.alloc ?_ _)⟩
            · have e3 : decide ((1 : Int) ≤ (sz : Int)) = false := by simp; omega
              go_enter Try.func11, Try.ntmps11
              go_wp2_with fail
              try (go_quiet (fail))
              try (go_wp2_with fail)
              go_ret
              have HP2 := HP.out
              exact ⟨by rw [Key.out false (by simp; omega)]; rfl, by repeat (first | exact Fr.refl _ _ | refine Fr.drewN ?_ _ | refine Fr.drew ?_ | refine Fr.alloc ?_ _)⟩
          · have e2 : decide ((tt : Int) ≤ 16) = false := by simp; omega
            go_enter Try.func11, Try.ntmps11
            go_wp2_with fail
            try (go_quiet (fail))
            try (go_wp2_with fail)
            go_ret
            exact ⟨by rw [Key.out false (by simp; omega)]; rfl, by repeat (first | exact Fr.refl _ _ | refine Fr.drewN ?_ _ | refine Fr.drew ?_ | refine Fr.alloc ?_ _)⟩
        · have e1 : decide ((1 : Int) ≤ (tt : Int)) = false := by simp; omega
          go_enter Try.func11, Try.ntmps11
          go_wp2_with fail
          try (go_quiet (fail))
          try (go_wp2_with fail)
          go_ret
          exact ⟨by rw [Key.out false (by simp; omega)]; rfl, by repeat (first | exact Fr.refl _ _ | refine Fr.drewN ?_ _ | refine Fr.drew ?_ | refine Fr.alloc ?_ _)⟩
      · have e0 : decide ((st : Int) ≤ 1) = false := by simp; omega
        go_enter Try.func11, Try.ntmps11
        go_wp2_with fail
        try (go_quiet (fail))
        try (go_wp2_with fail)
        go_ret
        exact ⟨by rw [Key.out false (by simp; omega)]; rfl, by repeat (first | exact Fr.refl _ _ | refine Fr.drewN ?_ _ | refine Fr.drew ?_ | refine Fr.alloc ?_ _)⟩
    · have e1 : (k == 1) = false := by simpa using k1
      go_enter Try.func11, Try.ntmps11
      go_wp2_with fail
      try (go_quiet (fail))
      try (go_wp2_with fail)
      go_ret
      exact ⟨by rw [Key.out false (by simp; omega)]; rfl, by repeat (first | exact Fr.refl _ _ | refine Fr.drewN ?_ _ | refine Fr.drew ?_ | refine Fr.alloc ?_ _)⟩
end Go.Proofs.Ytnkdeedbgkcbfaa
