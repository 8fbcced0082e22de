/- Plain: a line as the program reads it: cut at its colon. -/
import Derived.Test.YtffblcefnckacaaDoorFC
namespace Go.Frm
open Go.Lib
set_option linter.unusedVariables false
set_option linter.unusedSimpArgs false

def col (line : List UInt8) : List UInt8 := line.takeWhile (· != 58)
def val (line : List UInt8) : List UInt8 := line.dropWhile (· != 58)
def isNm (l : List UInt8) : Bool := !l.isEmpty && l.all nmB
/-- a line as the program reads it. -/
def progField (line : List UInt8) : Option (Option Nat) := match val line with
  | [] => none
  | _ :: v => if isNm (col line) = false then none else if v.any (fun c => c == 13 || c == 10) then none else if (col line).map foldB = clen then (sizeV (trimB v)).map some else some none
theorem nm58 : nmB 58 = false := by decide
theorem progField_eq : ∀ line, progField line = fieldV line := by
  intro line
  unfold progField fieldV
  have key : ∀ line : List UInt8, (val line = [] ∧ ∀ v, line.dropWhile nmB ≠ 58 :: v) ∨ (∃ v, val line = 58 :: v ∧ ((line.dropWhile nmB = 58 :: v ∧ line.takeWhile nmB = col line ∧ (col line).all nmB = true) ∨ ((col line).all nmB = false ∧ ∀ u, line.dropWhile nmB ≠ 58 :: u))) := by
    intro line
    induction line with
    | nil => left; simp [val]
    | cons c l ih =>
      by_cases h58 : c = 58
      · subst h58
        right
        refine ⟨l, by simp [val], .inl ⟨by simp [List.dropWhile, nm58], by simp [List.takeWhile, nm58, col], by simp [col]⟩⟩
      · have hne : (c != 58) = true := by simpa using h58
        have hv : val (c :: l) = val l := by simp [val, List.dropWhile, hne]
        have hc : col (c :: l) = c :: col l := by simp [col, List.takeWhile, hne]
        rw [hv, hc]
        cases hn : nmB c with
        | true =>
          have hd : (c :: l).dropWhile nmB = l.dropWhile nmB := by simp [List.dropWhile, hn]
          have ht : (c :: l).takeWhile nmB = c :: l.takeWhile nmB := by simp [List.takeWhile, hn]
          rw [hd, ht]
          rcases ih with ⟨h1, h2⟩ | ⟨v, h1, h2⟩
          · exact .inl ⟨h1, h2⟩
          · refine .inr ⟨v, h1, ?_⟩
            rcases h2 with ⟨a, b, d⟩ | ⟨a, b⟩
            · exact .inl ⟨a, by rw [b], by simp [hn, d]⟩
            · exact .inr ⟨by simp [hn, a], b⟩
        | false =>
          have hd : (c :: l).dropWhile nmB = c :: l := by simp [List.dropWhile, hn]
          rw [hd]
          rcases ih with ⟨h1, h2⟩ | ⟨v, h1, h2⟩
          · exact .inl ⟨h1, fun v h => by injection h with h _; exact h58 h⟩
          · exact .inr ⟨v, h1, .inr ⟨by simp [hn], fun v h => by injection h with h _; exact h58 h⟩⟩
  rcases key line with ⟨h1, h2⟩ | ⟨v, h1, h2⟩
  · rw [h1]
    simp only
  · rw [h1]
    simp only
    rcases h2 with ⟨a, b, d⟩ | ⟨a, b⟩
    · rw [a, b]
      simp only
      unfold isNm
      rw [d]
      cases hcol : col line with
      | nil => simp
      | cons x xs => simp
    · unfold isNm
      rw [a]
      simp only [Bool.and_false, if_true, reduceIte]
/-- the colon, in the words of the library. -/
theorem index_col : ∀ line : List UInt8, index line [58] = if val line = [] then -1 else ((col line).length : Int)
  | [] => rfl
  | c :: l => by
    have ih := index_col l
    unfold index
    by_cases h58 : c = 58
    · subst h58
      simp [val, col]
    · have hne : (c != 58) = true := by simpa using h58
      have hv : val (c :: l) = val l := by simp [val, List.dropWhile, hne]
      have hc : col (c :: l) = c :: col l := by simp [col, List.takeWhile, hne]
      rw [hv, hc, ih]
      have hp : ([58] : List UInt8).isPrefixOf (c :: l) = false := by
        simp [List.isPrefixOf]
        exact fun e => h58 e.symm
      rw [hp]
      by_cases hvl : val l = []
      · simp [hvl]
      · simp [hvl]
theorem col_val (line : List UInt8) : col line ++ val line = line := List.takeWhile_append_dropWhile
end Go.Frm
