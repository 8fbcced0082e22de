/- The reader of a type's words: its small methods. -/
import Derived.Test.YtbhicpjhijondaaDoorT19
namespace Go.Proofs.YtbhicpjhijondaaDoor
open Go.RowKit Go.Lib Go.Vfs Go.Par Go.Typ Go.Shelf
set_option linter.unusedVariables false
set_option linter.unusedSimpArgs false

/-- a reader in its block. -/
def rdr (s : ByteArray) (a : Nat) (c : Int) (bad : Bool) : Obj := .cells #[.string s, .int .i64 a, .int .i64 c, .bool bad] 77 (0, 0)
theorem rdr_cells {W : World} {p : Nat} {s : ByteArray} {a : Nat} {c : Int} {bad : Bool} (h : W.heap[p]? = some (rdr s a c bad)) :
    (W.cell? ⟨p, 0, none⟩ = some (.string s) ∧ W.cell? ⟨p, 1, none⟩ = some (.int .i64 a) ∧ W.cell? ⟨p, 2, none⟩ = some (.int .i64 c) ∧ W.cell? ⟨p, 3, none⟩ = some (.bool bad)) := by
  unfold rdr at h
  exact box4 h
theorem rdr_frozen {W : World} {p : Nat} {s : ByteArray} {a : Nat} {c : Int} {bad : Bool} (h : W.heap[p]? = some (rdr s a c bad)) :
    (W.frozen? ⟨p, 0, none⟩ = false ∧ W.frozen? ⟨p, 1, none⟩ = false ∧ W.frozen? ⟨p, 2, none⟩ = false ∧ W.frozen? ⟨p, 3, none⟩ = false) := by
  unfold rdr at h
  exact box4_frozen h

set_option maxRecDepth 20000 in
set_option maxHeartbeats 1000000 in
theorem nameByte_any (x : Nat) (w : World) : Calls Tryd.prog 115 #[.int .u8 x] w fun e w' => e = .returned (.bool (nmN true x)) ∧ w' = w := by
  have h1 : smallN x = decide (97 ≤ x ∧ x ≤ 122) := rfl
  have h2 : greatN x = decide (65 ≤ x ∧ x ≤ 90) := rfl
  have h3 : digitN x = decide (48 ≤ x ∧ x ≤ 57) := rfl
  have HN : Hid (nmN true x = (decide (97 ≤ x ∧ x ≤ 122) || decide (65 ≤ x ∧ x ≤ 90) || decide (48 ≤ x ∧ x ≤ 57) || decide (x = 95) || decide (x = 39))) := Lib.hid (by unfold nmN; rw [h1, h2, h3, Bool.true_and])
  clear h1 h2 h3
  have g4 : ((x : Int) == 95) = decide (x = 95) := by
    by_cases h : x = 95
    · subst h; rfl
    · have : ¬ (x : Int) = 95 := by omega
      simp [h, this]
  have g5 : ((x : Int) == 39) = decide (x = 39) := by
    by_cases h : x = 39
    · subst h; rfl
    · have : ¬ (x : Int) = 39 := by omega
      simp [h, this]
  rw [HN.out]
  go_enter Tryd.func115, Tryd.ntmps115
  go_wp2
  all_goals go_ret
  all_goals refine ⟨congrArg (fun b => Ending.returned (.bool b)) ?_, rfl⟩
  all_goals first | rfl | (rw [Bool.eq_iff_iff]; simp only [Bool.or_eq_true, Bool.and_eq_true, decide_eq_true_iff, true_iff, iff_true, Bool.false_eq_true, false_iff]; omega)

end Go.Proofs.YtbhicpjhijondaaDoor
