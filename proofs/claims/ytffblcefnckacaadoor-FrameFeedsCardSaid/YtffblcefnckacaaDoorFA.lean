/- Plain: the head of a message, its end. -/
import Derived.Lib.Index
namespace Go.Frm
open Go.Lib
set_option linter.unusedVariables false
set_option linter.unusedSimpArgs false

/-- where the first "\r\n\r\n" ends; 0: there is none. -/
def hd4 : List UInt8 → Nat
  | [] => 0
  | c :: l => if [13, 10, 13, 10].isPrefixOf (c :: l) then 4 else if hd4 l = 0 then 0 else hd4 l + 1
/-- where a head ends; 0: its end is not there. -/
def hd (b : List UInt8) : Nat := if [13, 10].isPrefixOf b then 2 else hd4 b
theorem pre_len {p b : List UInt8} (h : p.isPrefixOf b = true) : p.length ≤ b.length := (List.isPrefixOf_iff_prefix.1 h).length_le
theorem pre_append {p b : List UInt8} (h : p.isPrefixOf b = true) (c : List UInt8) : p.isPrefixOf (b ++ c) = true := List.isPrefixOf_iff_prefix.2 ((List.isPrefixOf_iff_prefix.1 h).trans (List.prefix_append _ _))
theorem pre_take {p b : List UInt8} {k : Nat} : p.isPrefixOf (b.take k) = (p.isPrefixOf b && decide (p.length ≤ k)) := by
  rw [Bool.eq_iff_iff, Bool.and_eq_true, List.isPrefixOf_iff_prefix, List.isPrefixOf_iff_prefix, decide_eq_true_iff, List.prefix_take_iff]
theorem pre_front {p b c : List UInt8} (h : p.length ≤ b.length) : p.isPrefixOf (b ++ c) = p.isPrefixOf b := by
  rw [Bool.eq_iff_iff, List.isPrefixOf_iff_prefix, List.isPrefixOf_iff_prefix]
  exact ⟨fun hp => List.prefix_of_prefix_length_le hp (List.prefix_append _ _) h, fun hp => hp.trans (List.prefix_append _ _)⟩
theorem hd4_le : ∀ b, hd4 b ≤ b.length
  | [] => Nat.le_refl _
  | c :: l => by
    unfold hd4
    have := hd4_le l
    split
    · rename_i h; have := pre_len h; simpa using this
    · split
      · omega
      · simp; omega
theorem hd4_ge : ∀ {b}, hd4 b ≠ 0 → 4 ≤ hd4 b
  | [], h => absurd rfl h
  | c :: l, h => by
    unfold hd4 at h ⊢
    split
    · omega
    · rename_i hp
      rw [if_neg hp] at h
      split
      · rename_i h0; rw [if_pos h0] at h; exact absurd rfl h
      · rename_i h0; have := hd4_ge h0; omega
theorem hd4_app : ∀ {b} (c : List UInt8), hd4 b ≠ 0 → hd4 (b ++ c) = hd4 b
  | [], c, h => absurd rfl h
  | x :: l, c, h => by
    rw [List.cons_append]
    unfold hd4 at h ⊢
    by_cases hp : [13, 10, 13, 10].isPrefixOf (x :: l) = true
    · rw [if_pos hp, if_pos (by have := pre_append hp c; rwa [List.cons_append] at this)]
    · rw [if_neg hp] at h
      by_cases h0 : hd4 l = 0
      · rw [if_pos h0] at h; exact absurd rfl h
      · have ih := hd4_app c h0
        have h4 := hd4_ge h0
        have hl := hd4_le l
        have hlen : ([13, 10, 13, 10] : List UInt8).length ≤ (x :: l).length := by simp; omega
        have hf := pre_front (c := c) hlen
        rw [List.cons_append] at hf
        rw [hf, if_neg hp, if_neg hp, ih]
theorem hd4_take : ∀ (b : List UInt8) (k : Nat), hd4 (b.take k) = if hd4 b ≤ k then hd4 b else 0
  | [], k => by simp [hd4]
  | x :: l, 0 => by
    have := @hd4_ge (x :: l)
    show 0 = _
    split
    · have h0 : hd4 (x :: l) = 0 := by
        apply Classical.byContradiction
        intro hne
        have := this hne
        omega
      exact h0.symm
    · rfl
  | x :: l, k + 1 => by
    have ih := hd4_take l k
    have hp := pre_take (p := [13, 10, 13, 10]) (b := x :: l) (k := k + 1)
    rw [List.take_succ_cons] at hp ⊢
    show (if [13, 10, 13, 10].isPrefixOf (x :: l.take k) then 4 else if hd4 (l.take k) = 0 then 0 else hd4 (l.take k) + 1) = if (if [13, 10, 13, 10].isPrefixOf (x :: l) then 4 else if hd4 l = 0 then 0 else hd4 l + 1) ≤ k + 1 then (if [13, 10, 13, 10].isPrefixOf (x :: l) then 4 else if hd4 l = 0 then 0 else hd4 l + 1) else 0
    rw [hp, ih]
    by_cases h1 : [13, 10, 13, 10].isPrefixOf (x :: l) = true
    · rw [h1]
      by_cases h4 : 4 ≤ k + 1
      · simp [h4]
      · have hk : ¬ hd4 l ≤ k ∨ hd4 l = 0 := by
          by_cases h0 : hd4 l = 0
          · exact .inr h0
          · have := hd4_ge h0; left; omega
        simp only [List.length_cons, List.length_nil, Nat.reduceAdd, h4, decide_false, Bool.and_false, Bool.false_eq_true, if_false, if_true, reduceIte]
        rcases hk with hk | hk
        · rw [if_neg hk]; simp
        · rw [hk]; simp
    · rw [show [13, 10, 13, 10].isPrefixOf (x :: l) = false from Bool.eq_false_iff.2 h1]
      simp only [Bool.false_and, Bool.false_eq_true, if_false, reduceIte]
      by_cases h0 : hd4 l = 0
      · simp [h0]
      · by_cases hk : hd4 l ≤ k
        · simp [hk, h0]
        · simp [hk, h0]
theorem hd_le (b : List UInt8) : hd b ≤ b.length := by
  unfold hd; split
  · rename_i h; have := pre_len h; simpa using this
  · exact hd4_le b
theorem hd_app {b : List UInt8} (c : List UInt8) (h : hd b ≠ 0) : hd (b ++ c) = hd b := by
  unfold hd at h ⊢
  by_cases hp : [13, 10].isPrefixOf b = true
  · rw [if_pos hp, if_pos (pre_append hp c)]
  · rw [if_neg hp] at h
    have h4 := hd4_ge h
    have hl := hd4_le b
    have hf := pre_front (p := [13, 10]) (b := b) (c := c) (by simp; omega)
    rw [hf, if_neg hp, if_neg hp, hd4_app c h]
theorem hd_take (b : List UInt8) {k : Nat} (hk : 2 ≤ k) : hd (b.take k) = if hd b ≤ k then hd b else 0 := by
  unfold hd
  rw [pre_take, hd4_take]
  by_cases hp : [13, 10].isPrefixOf b = true
  · rw [hp]; simp [hk]
  · rw [show [13, 10].isPrefixOf b = false from Bool.eq_false_iff.2 hp]; simp
/-- in the words of the library. -/
theorem hd4_index : ∀ b : List UInt8, index b [13, 10, 13, 10] = if hd4 b = 0 then -1 else (hd4 b : Int) - 4
  | [] => rfl
  | c :: l => by
    have ih := hd4_index l
    have h4 := @hd4_ge l
    unfold index hd4
    by_cases hp : [13, 10, 13, 10].isPrefixOf (c :: l) = true
    · rw [if_pos hp, if_pos hp]; rfl
    · rw [if_neg hp, if_neg hp, ih]
      by_cases h0 : hd4 l = 0
      · simp [h0]
      · have := h4 h0
        rw [if_neg h0, if_neg h0]
        have hne : (((hd4 l : Int) - 4) == -1) = false := by rw [beq_eq_false_iff_ne]; omega
        rw [if_neg (by simp [hne]), if_neg (by omega)]
        omega
end Go.Frm
