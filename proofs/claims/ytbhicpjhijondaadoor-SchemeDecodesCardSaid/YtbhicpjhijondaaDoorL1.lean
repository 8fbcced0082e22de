/- The reference's lexer: its bytes. -/
import Derived.Test.YtbhicpjhijondaaDoorTA
namespace Go.Typ
def whiteN (n : Nat) : Bool := decide (n = 32 ∨ n = 9 ∨ n = 10 ∨ n = 13)
end Go.Typ
namespace Go.Proofs.YtbhicpjhijondaaDoor
open Go.RowKit Go.Lib Go.Vfs Go.Par Go.Typ
set_option linter.unusedVariables false
set_option linter.unusedSimpArgs false

theorem r8small_any (x : Nat) (w : World) : Calls Tryd.prog 118 #[.int .u8 x] w fun e w' => e = .returned (.bool (smallN x)) ∧ w' = w := by
  by_cases h1 : (97 : Int) ≤ x
  · by_cases h2 : (x : Int) ≤ 122
    · have h : smallN x = true := decide_eq_true (by omega)
      rw [h]; clear h
      go_enter Tryd.func118, Tryd.ntmps118
      go_wp2
      go_ret
      exact ⟨rfl, rfl⟩
    · have h : smallN x = false := decide_eq_false (by omega)
      rw [h]; clear h
      go_enter Tryd.func118, Tryd.ntmps118
      go_wp2
      go_ret
      exact ⟨rfl, rfl⟩
  · have h : smallN x = false := decide_eq_false (by omega)
    rw [h]; clear h
    go_enter Tryd.func118, Tryd.ntmps118
    go_wp2
    go_ret
    exact ⟨rfl, rfl⟩
theorem r8great_any (x : Nat) (w : World) : Calls Tryd.prog 119 #[.int .u8 x] w fun e w' => e = .returned (.bool (greatN x)) ∧ w' = w := by
  by_cases h1 : (65 : Int) ≤ x
  · by_cases h2 : (x : Int) ≤ 90
    · have h : greatN x = true := decide_eq_true (by omega)
      rw [h]; clear h
      go_enter Tryd.func119, Tryd.ntmps119
      go_wp2
      go_ret
      exact ⟨rfl, rfl⟩
    · have h : greatN x = false := decide_eq_false (by omega)
      rw [h]; clear h
      go_enter Tryd.func119, Tryd.ntmps119
      go_wp2
      go_ret
      exact ⟨rfl, rfl⟩
  · have h : greatN x = false := decide_eq_false (by omega)
    rw [h]; clear h
    go_enter Tryd.func119, Tryd.ntmps119
    go_wp2
    go_ret
    exact ⟨rfl, rfl⟩
theorem r8digit_any (x : Nat) (w : World) : Calls Tryd.prog 120 #[.int .u8 x] w fun e w' => e = .returned (.bool (digitN x)) ∧ w' = w := by
  by_cases h1 : (48 : Int) ≤ x
  · by_cases h2 : (x : Int) ≤ 57
    · have h : digitN x = true := decide_eq_true (by omega)
      rw [h]; clear h
      go_enter Tryd.func120, Tryd.ntmps120
      go_wp2
      go_ret
      exact ⟨rfl, rfl⟩
    · have h : digitN x = false := decide_eq_false (by omega)
      rw [h]; clear h
      go_enter Tryd.func120, Tryd.ntmps120
      go_wp2
      go_ret
      exact ⟨rfl, rfl⟩
  · have h : digitN x = false := decide_eq_false (by omega)
    rw [h]; clear h
    go_enter Tryd.func120, Tryd.ntmps120
    go_wp2
    go_ret
    exact ⟨rfl, rfl⟩
theorem r8white_any (x : Nat) (w : World) : Calls Tryd.prog 108 #[.int .u8 x] w fun e w' => e = .returned (.bool (whiteN x)) ∧ w' = w := by
  have key : ∀ c : Nat, ((x : Int) == (c : Int)) = decide (x = c) := fun c => by
    by_cases h : x = c
    · subst h; simp
    · have : ¬ (x : Int) = c := by omega
      simp [h, this]
  have g1 : ((x : Int) == 32) = decide (x = 32) := key 32
  have g2 : ((x : Int) == 9) = decide (x = 9) := key 9
  have g3 : ((x : Int) == 10) = decide (x = 10) := key 10
  have g4 : ((x : Int) == 13) = decide (x = 13) := key 13
  have HN : Hid (whiteN x = (decide (x = 32) || decide (x = 9) || decide (x = 10) || decide (x = 13))) := Lib.hid (by unfold whiteN; simp only [Bool.decide_or, Bool.or_assoc])
  rw [HN.out]
  clear key
  go_enter Tryd.func108, Tryd.ntmps108
  go_wp2
  all_goals go_ret
  all_goals refine ⟨congrArg (fun b => Ending.returned (.bool b)) (?_ : _ = _), rfl⟩
  all_goals simp_all
end Go.Proofs.YtbhicpjhijondaaDoor
