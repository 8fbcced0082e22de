/- Plain: blanks off both ends; lower case; in the words of the library. -/
import Derived.Test.YtffblcefnckacaaDoorFD
import Derived.Lib.SlTrimSet
import Derived.Lib.Case
namespace Go.Frm
open Go.Lib
set_option linter.unusedVariables false
set_option linter.unusedSimpArgs false

theorem dw_append {α : Type} (p : α → Bool) : ∀ (x y : List α), (x ++ y).dropWhile p = if x.dropWhile p = [] then y.dropWhile p else x.dropWhile p ++ y
  | [], y => by simp
  | a :: x, y => by
    have ih := dw_append p x y
    cases h : p a with
    | true => simp [List.dropWhile, h, ih]
    | false => simp [List.dropWhile, h]
/-- off the end. -/
def rdw {α : Type} (p : α → Bool) (l : List α) : List α := (l.reverse.dropWhile p).reverse
theorem rdw_cons {α : Type} (p : α → Bool) (c : α) (t : List α) : rdw p (c :: t) = if rdw p t = [] then (if p c then [] else [c]) else c :: rdw p t := by
  unfold rdw
  rw [List.reverse_cons, dw_append]
  by_cases h : t.reverse.dropWhile p = []
  · rw [if_pos h, h]
    cases hp : p c <;> simp [List.dropWhile, hp]
  · rw [if_neg h]
    have : ¬ (t.reverse.dropWhile p).reverse = [] := by simpa using h
    rw [if_neg this]
    simp
theorem dw_rdw {α : Type} (p : α → Bool) : ∀ l : List α, (rdw p l).dropWhile p = rdw p (l.dropWhile p)
  | [] => by simp [rdw]
  | c :: t => by
    have ih := dw_rdw p t
    rw [rdw_cons]
    cases hp : p c with
    | true =>
      rw [show (c :: t).dropWhile p = t.dropWhile p by simp [List.dropWhile, hp], ← ih]
      by_cases h : rdw p t = []
      · rw [if_pos h, h]; simp
      · rw [if_neg h]; simp [List.dropWhile, hp]
    | false =>
      rw [show (c :: t).dropWhile p = c :: t by simp [List.dropWhile, hp], rdw_cons]
      by_cases h : rdw p t = []
      · simp only [if_pos h, hp]; simp [List.dropWhile, hp]
      · simp only [if_neg h]; simp [List.dropWhile, hp]
theorem blank_contains : (fun c : UInt8 => ([32, 9] : List UInt8).contains c) = blankB := by
  funext c
  unfold blankB
  rw [List.contains_cons, List.contains_cons, List.contains_nil, Bool.or_false]
theorem trimS_eq (l : List UInt8) : trimS l [32, 9] = trimB l := by
  unfold trimS trimLeftS trimRightS trimB trimL
  rw [blank_contains]
  exact dw_rdw blankB l
theorem fold_lower (l : List UInt8) : toLowerA l = l.map foldB := by
  unfold toLowerA
  refine List.map_congr_left fun c _ => ?_
  unfold lowerB foldB isUpperB
  rfl
end Go.Frm
