/- Plain: a head's lines, one behind the other, in the program's words and in the document's; a head that is known. -/
import Derived.Test.YtffblcefnckacaaDoorFG
namespace Go.Frm
open Go.Lib
set_option linter.unusedVariables false
set_option linter.unusedSimpArgs false

def EndsLn (h : List UInt8) : Prop := ∃ t, h = t ++ [13, 10]
theorem eol_ends : ∀ (t : List UInt8), eol (t ++ [13, 10]) + 2 ≤ (t ++ [13, 10]).length ∧ ((t ++ [13, 10]).drop (eol (t ++ [13, 10]) + 2) = [] ∨ EndsLn ((t ++ [13, 10]).drop (eol (t ++ [13, 10]) + 2)))
  | [] => by
    have : eol ([] ++ [13, 10]) = 0 := rfl
    rw [this]; exact ⟨Nat.le_refl _, .inl rfl⟩
  | c :: t => by
    have ih := eol_ends t
    by_cases hp : [13, 10].isPrefixOf (c :: (t ++ [13, 10])) = true
    · have he : eol (c :: t ++ [13, 10]) = 0 := by
        show (if [13, 10].isPrefixOf (c :: (t ++ [13, 10])) then 0 else _) = 0
        rw [if_pos hp]
      rw [he]
      refine ⟨by simp, .inr ?_⟩
      cases t with
      | nil =>
        have h2 : ((13 : UInt8) == c && ((10 : UInt8) == 13 && true)) = true := hp
        rw [Bool.and_eq_true] at h2
        exact absurd h2.2 (by decide)
      | cons x t => exact ⟨t, rfl⟩
    · have he : eol (c :: t ++ [13, 10]) = eol (t ++ [13, 10]) + 1 := by
        show (if [13, 10].isPrefixOf (c :: (t ++ [13, 10])) then 0 else eol (t ++ [13, 10]) + 1) = _
        rw [if_neg hp]
      rw [he]
      refine ⟨by have := ih.1; rw [List.cons_append, List.length_cons]; omega, ?_⟩
      rw [List.cons_append, show eol (t ++ [13, 10]) + 1 + 2 = (eol (t ++ [13, 10]) + 2) + 1 by omega, List.drop_succ_cons]
      exact ih.2
theorem hd4_ends : ∀ {b : List UInt8}, hd4 b ≠ 0 → EndsLn (b.take (hd4 b - 2))
  | [], h => absurd rfl h
  | c :: l, h => by
    by_cases hp : [13, 10, 13, 10].isPrefixOf (c :: l) = true
    · have he : hd4 (c :: l) = 4 := by unfold hd4; rw [if_pos hp]
      obtain ⟨t, ht⟩ := List.isPrefixOf_iff_prefix.1 hp
      rw [he, ← ht]; exact ⟨[], rfl⟩
    · have he : hd4 (c :: l) = if hd4 l = 0 then 0 else hd4 l + 1 := by rw [hd4, if_neg hp]
      by_cases h0 : hd4 l = 0
      · rw [he, if_pos h0] at h; exact absurd rfl h
      · rw [if_neg h0] at he
        have h4 := hd4_ge h0
        obtain ⟨t, ht⟩ := hd4_ends h0
        rw [he, show hd4 l + 1 - 2 = (hd4 l - 2) + 1 by omega, List.take_succ_cons, ht]
        exact ⟨c :: t, rfl⟩
/-- a head without its end: nothing, or lines that each have an end. -/
theorem head_ends {b : List UInt8} (h : hd b ≠ 0) : b.take (hd b - 2) = [] ∨ EndsLn (b.take (hd b - 2)) := by
  unfold hd at h ⊢
  by_cases hp : [13, 10].isPrefixOf b = true
  · rw [if_pos hp]; exact .inl (by simp)
  · rw [if_neg hp] at h ⊢; exact .inr (hd4_ends h)
theorem head_cut {b : List UInt8} : (b.take (hd b)).take ((b.take (hd b)).length - 2) = b.take (hd b - 2) := by
  rw [List.length_take, Nat.min_eq_left (hd_le b), List.take_take, Nat.min_eq_left (by omega)]
theorem linesF_enough : ∀ (f : Nat) (b : List UInt8), b.length ≤ f → linesF f b = lines b := by
  have key : ∀ (m f g : Nat) (b : List UInt8), b.length ≤ m → b.length ≤ f → b.length ≤ g → linesF f b = linesF g b := by
    intro m
    induction m with
    | zero =>
      intro f g b hm _ _
      have : b = [] := List.length_eq_zero_iff.1 (by omega)
      subst this
      have h0 : ∀ f, linesF f [] = [] := fun f => by cases f <;> rfl
      rw [h0, h0]
    | succ m ih =>
      intro f g b hm hf hg
      by_cases hb : b = []
      · subst hb
        have h0 : ∀ f, linesF f [] = [] := fun f => by cases f <;> rfl
        rw [h0, h0]
      · have hl : 0 < b.length := List.length_pos_iff.2 hb
        obtain ⟨f', rfl⟩ : ∃ f', f = f' + 1 := ⟨f - 1, by omega⟩
        obtain ⟨g', rfl⟩ : ∃ g', g = g' + 1 := ⟨g - 1, by omega⟩
        rw [linesF, linesF, if_neg hb, if_neg hb, ih f' g' _ (by rw [List.length_drop]; omega) (by rw [List.length_drop]; omega) (by rw [List.length_drop]; omega)]
  intro f b h
  exact key b.length f b.length b (Nat.le_refl _) h (Nat.le_refl _)
theorem lines_nil : lines [] = [] := rfl
theorem lines_cons {b : List UInt8} (h : b ≠ []) : lines b = b.take (eol b) :: lines (b.drop (eol b + 2)) := by
  have hl : 0 < b.length := List.length_pos_iff.2 h
  have he := linesF_enough (b.length - 1) (b.drop (eol b + 2)) (by rw [List.length_drop]; omega)
  rw [← he]
  show linesF b.length b = _
  obtain ⟨k, hk⟩ : ∃ k, b.length = k + 1 := ⟨b.length - 1, by omega⟩
  rw [hk, linesF, if_neg h, Nat.add_sub_cancel]
/-- in the words of the library. -/
theorem eol_index : ∀ b : List UInt8, index b [13, 10] = if [13, 10].isPrefixOf (b.drop (eol b)) then (eol b : Int) else -1
  | [] => rfl
  | c :: l => by
    have ih := eol_index l
    unfold index
    by_cases hp : [13, 10].isPrefixOf (c :: l) = true
    · have he : eol (c :: l) = 0 := by rw [eol, if_pos hp]
      rw [if_pos hp, he, List.drop_zero, if_pos hp]; rfl
    · have he : eol (c :: l) = eol l + 1 := by rw [eol, if_neg hp]
      rw [if_neg hp, he, List.drop_succ_cons, ih]
      by_cases hq : [13, 10].isPrefixOf (l.drop (eol l)) = true
      · rw [if_pos hq, if_pos hq]
        have hne : ((eol l : Int) == -1) = false := by rw [beq_eq_false_iff_ne]; omega
        rw [if_neg (by simp [hne])]; omega
      · rw [if_neg hq, if_neg hq]; rfl
theorem eol_none : ∀ {b : List UInt8}, [13, 10].isPrefixOf (b.drop (eol b)) = false → eol b = b.length
  | [], _ => rfl
  | c :: l, h => by
    by_cases hp : [13, 10].isPrefixOf (c :: l) = true
    · have he : eol (c :: l) = 0 := by rw [eol, if_pos hp]
      rw [he, List.drop_zero, hp] at h; exact absurd h (by decide)
    · have he : eol (c :: l) = eol l + 1 := by rw [eol, if_neg hp]
      rw [he, List.drop_succ_cons] at h
      rw [he, eol_none h]; rfl

/-! ### The lengths told -/
/-- the program's: the last length, and how many. -/
def scan : List (List UInt8) → Nat → Nat → Option (Nat × Nat)
  | [], s, k => some (s, k)
  | l :: ls, s, k => match fieldV l with
    | none => none
    | some none => scan ls s k
    | some (some n) => scan ls n (k + 1)
theorem scan_told : ∀ (ls : List (List UInt8)) (s k : Nat), scan ls s k = (told ls).map fun ns => (ns.getLastD s, k + ns.length)
  | [], s, k => rfl
  | l :: ls, s, k => by
    unfold scan told
    cases fieldV l with
    | none => rfl
    | some o => cases o with
      | none =>
        show scan ls s k = _
        rw [scan_told ls s k]; cases told ls <;> rfl
      | some n =>
        show scan ls n (k + 1) = _
        rw [scan_told ls n (k + 1)]
        cases told ls with
        | none => rfl
        | some ns =>
          show some (ns.getLastD n, k + 1 + ns.length) = some ((n :: ns).getLastD s, k + (ns.length + 1))
          rw [List.getLastD_cons, show k + 1 + ns.length = k + (ns.length + 1) by omega]
theorem scan_len (h : List UInt8) : lengthV h = match scan (lines (h.take (h.length - 2))) 0 0 with
    | some (s, 1) => some s
    | _ => none := by
  rw [scan_told]
  unfold lengthV
  cases told (lines (h.take (h.length - 2))) with
  | none => rfl
  | some ns => cases ns with
    | nil => rfl
    | cons n ns => cases ns with
      | nil => rfl
      | cons m ns =>
        show none = match some ((n :: m :: ns).getLastD 0, 0 + (ns.length + 1 + 1)) with
          | some (s, 1) => some s
          | _ => none
        rw [show 0 + (ns.length + 1 + 1) = ns.length + 2 by omega]; rfl
/-- the document's: the one length. -/
def rscan : List (List UInt8) → Option Nat → Option Nat
  | [], f => f
  | l :: ls, f => match fieldV l with
    | none => none
    | some none => rscan ls f
    | some (some n) => if f.isSome then none else rscan ls (some n)
theorem rscan_some : ∀ (ls : List (List UInt8)) (x : Nat), rscan ls (some x) = match told ls with
    | some [] => some x
    | _ => none
  | [], x => rfl
  | l :: ls, x => by
    have ih := rscan_some ls x
    unfold rscan told
    cases fieldV l with
    | none => rfl
    | some o => cases o with
      | none =>
        show rscan ls (some x) = _
        rw [ih]; cases told ls <;> rfl
      | some n =>
        show none = _
        cases told ls <;> rfl
theorem rscan_told : ∀ (ls : List (List UInt8)), rscan ls none = match told ls with
    | some [n] => some n
    | _ => none
  | [] => rfl
  | l :: ls => by
    have ih := rscan_told ls
    unfold rscan told
    cases fieldV l with
    | none => rfl
    | some o => cases o with
      | none =>
        show rscan ls none = _
        rw [ih]; cases told ls <;> rfl
      | some n =>
        show rscan ls (some n) = _
        rw [rscan_some]
        cases told ls with
        | none => rfl
        | some ns => cases ns <;> rfl
theorem rscan_len (h : List UInt8) : lengthV h = rscan (lines (h.take (h.length - 2))) none := by rw [rscan_told]; rfl

/-! ### A head that is known -/
def Known (m : List UInt8) (h b : Nat) : Prop := h ≠ 0 → hd m = h ∧ h ≤ 1024 ∧ lengthV (m.take h) = some b ∧ b ≤ 65536
theorem known_zero (m : List UInt8) (b : Nat) : Known m 0 b := fun h => absurd rfl h
theorem known_app {m : List UInt8} {h b : Nat} (c : List UInt8) (hk : Known m h b) : Known (m ++ c) h b := by
  intro h0
  obtain ⟨h1, h2, h3, h4⟩ := hk h0
  have hl := hd_le m
  exact ⟨by rw [hd_app c (by omega), h1], h2, by rw [take_app (by omega), h3], h4⟩
theorem known_msg {m : List UInt8} {h b : Nat} (hk : Known m h b) (h0 : h ≠ 0) : msg m = if m.length < h + b then .more else .body h b := by
  obtain ⟨h1, h2, h3, h4⟩ := hk h0
  unfold msg
  rw [h1, if_pos ⟨h0, h2⟩, h3]
  show (if 65536 < b then Msg.bad 31 else _) = _
  rw [if_neg (by omega)]
theorem msg_zero {m : List UInt8} (h : hd (m.take 1024) = 0) : msg m = if 1024 ≤ m.length then .bad 30 else .more := by
  rw [hd_take m (by omega)] at h
  unfold msg
  rw [if_neg (by rintro ⟨h1, h2⟩; rw [if_pos h2] at h; exact h1 h)]
theorem hd_1024 {m : List UInt8} (h : hd (m.take 1024) ≠ 0) : hd (m.take 1024) = hd m ∧ hd m ≤ 1024 ∧ hd m ≠ 0 := by
  rw [hd_take m (by omega)] at h ⊢
  by_cases h2 : hd m ≤ 1024
  · rw [if_pos h2] at h ⊢; exact ⟨rfl, h2, h⟩
  · rw [if_neg h2] at h; exact absurd rfl h
theorem msg_head {m : List UInt8} (h0 : hd m ≠ 0) (h1 : hd m ≤ 1024) : msg m = match lengthV (m.take (hd m)) with
    | none => .bad 30
    | some l => if 65536 < l then .bad 31 else if m.length < hd m + l then .more else .body (hd m) l := by
  rw [msg, if_pos ⟨h0, h1⟩]; rfl
end Go.Frm
