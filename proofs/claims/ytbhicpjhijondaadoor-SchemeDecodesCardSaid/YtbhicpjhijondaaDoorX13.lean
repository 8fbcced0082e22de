/- Putting, finding, dropping: plain. -/
import Derived.Test.YtbhicpjhijondaaDoorX12
namespace Go.Typ
open Go.RowKit Go.Lib Go.Vfs Go.Par
theorem less_irrefl : ∀ a : List UInt8, Op.bytesLess a a = false
  | [] => rfl
  | x :: a => by
    have := less_irrefl a
    simp [Op.bytesLess, this]
theorem less_trans : ∀ a b c : List UInt8, Op.bytesLess a b = true → Op.bytesLess b c = true → Op.bytesLess a c = true
  | [], b, [], h1, h2 => by cases b <;> simp [Op.bytesLess] at h1 h2
  | [], b, z :: c, h1, h2 => by simp [Op.bytesLess]
  | x :: a, [], c, h1, h2 => by simp [Op.bytesLess] at h1
  | x :: a, y :: b, [], h1, h2 => by simp [Op.bytesLess] at h2
  | x :: a, y :: b, z :: c, h1, h2 => by
    simp only [Op.bytesLess, Bool.or_eq_true, decide_eq_true_eq, Bool.and_eq_true, beq_iff_eq] at h1 h2 ⊢
    rcases h1 with h1 | ⟨rfl, h1⟩
    · rcases h2 with h2 | ⟨rfl, h2⟩
      · exact .inl (UInt8.lt_trans h1 h2)
      · exact .inl h1
    · rcases h2 with h2 | ⟨rfl, h2⟩
      · exact .inl h2
      · exact .inr ⟨rfl, less_trans a b c h1 h2⟩
theorem less_total : ∀ a b : List UInt8, Op.bytesLess a b = false → Op.bytesLess b a = false → a = b
  | [], [], _, _ => rfl
  | [], y :: b, h, _ => by simp [Op.bytesLess] at h
  | x :: a, [], _, h => by simp [Op.bytesLess] at h
  | x :: a, y :: b, h1, h2 => by
    simp only [Op.bytesLess, Bool.or_eq_false_iff, decide_eq_false_iff_not, Bool.and_eq_false_iff, beq_eq_false_iff_ne] at h1 h2
    have hxy : x = y := UInt8.le_antisymm (UInt8.not_lt.1 h2.1) (UInt8.not_lt.1 h1.1)
    subst hxy
    rw [less_total a b (h1.2.resolve_left fun h => h rfl) (h2.2.resolve_left fun h => h rfl)]
theorem ltB_irrefl (a : ByteArray) : ltB a a = false := less_irrefl _
theorem ltB_trans {a b c : ByteArray} (h1 : ltB a b = true) (h2 : ltB b c = true) : ltB a c = true := less_trans _ _ _ h1 h2
theorem ltB_total {a b : ByteArray} (h1 : ltB a b = false) (h2 : ltB b a = false) : a = b := (beqS a b).1 (beq_iff_eq.2 (less_total _ _ h1 h2))
theorem gtB_lt {a b : ByteArray} (h : ¬ a = b) : gtB a b = ltB b a := by
  have he : (a.toList == b.toList) = false := beqS_ne h
  unfold gtB
  rw [he, Bool.or_false]
  show (!ltB a b) = ltB b a
  cases h1 : ltB a b with
  | true =>
    cases h2 : ltB b a with
    | false => rfl
    | true => have := ltB_trans h1 h2; rw [ltB_irrefl] at this; cases this
  | false =>
    cases h2 : ltB b a with
    | true => rfl
    | false => exact absurd (ltB_total h1 h2) h
open Classical in
/-- a put, from the left. -/
noncomputable def insR (one : Ex) : List Ex → List Ex
  | [] => [one]
  | x :: xs => if x.name = one.name then insR one xs else if gtB x.name one.name = true then one :: x :: dropX xs one.name else x :: insR one xs
theorem put_true (one : Ex) : ∀ (xs acc : List Ex), xs.foldl (putStep one) (acc, true) = (acc ++ dropX xs one.name, true)
  | [], acc => by simp [dropX]
  | x :: xs, acc => by
    rw [List.foldl_cons]
    by_cases h : x.name = one.name
    · rw [show putStep one (acc, true) x = (acc, true) by unfold putStep; rw [if_pos h], put_true one xs]
      simp [dropX, h]
    · rw [show putStep one (acc, true) x = (acc ++ [x], true) by unfold putStep; rw [if_neg h, if_neg (by simp)], put_true one xs]
      simp [dropX, h]
theorem put_false (one : Ex) : ∀ (xs acc : List Ex), (if (xs.foldl (putStep one) (acc, false)).2 then (xs.foldl (putStep one) (acc, false)).1 else (xs.foldl (putStep one) (acc, false)).1 ++ [one]) = acc ++ insR one xs
  | [], acc => by simp [insR]
  | x :: xs, acc => by
    rw [List.foldl_cons, insR]
    by_cases h : x.name = one.name
    · rw [show putStep one (acc, false) x = (acc, false) by unfold putStep; rw [if_pos h], if_pos h]
      exact put_false one xs acc
    · rw [if_neg h]
      by_cases hg : gtB x.name one.name = true
      · rw [show putStep one (acc, false) x = (acc ++ [one] ++ [x], true) by unfold putStep; rw [if_neg h, if_pos ⟨rfl, hg⟩], if_pos hg, put_true]
        simp
      · rw [show putStep one (acc, false) x = (acc ++ [x], false) by unfold putStep; rw [if_neg h, if_neg (fun h => hg h.2)], if_neg hg, put_false one xs (acc ++ [x])]
        simp
theorem putX_ins (xs : List Ex) (one : Ex) : putX xs one = insR one xs := by
  have := put_false one xs []
  rw [List.nil_append] at this
  exact this
theorem dropX_cons (x : Ex) (xs : List Ex) (nm : ByteArray) : dropX (x :: xs) nm = if x.name = nm then dropX xs nm else x :: dropX xs nm := by
  unfold dropX
  by_cases h : x.name = nm
  · rw [if_pos h, List.filter_cons_of_neg (by simp [h])]
  · rw [if_neg h, List.filter_cons_of_pos (by simp [h])]
theorem dropX_append (xs ys : List Ex) (nm : ByteArray) : dropX (xs ++ ys) nm = dropX xs nm ++ dropX ys nm := by
  unfold dropX; exact List.filter_append _ _
theorem dropX_mem {xs : List Ex} {nm : ByteArray} {x : Ex} : x ∈ dropX xs nm ↔ x ∈ xs ∧ ¬ x.name = nm := by
  unfold dropX; simp
theorem dropX_none {xs : List Ex} {nm : ByteArray} (h : ∀ x ∈ xs, ¬ x.name = nm) : dropX xs nm = xs := by
  unfold dropX
  exact List.filter_eq_self.2 fun x hx => by simp [h x hx]
/-- where the export stands among the others. -/
theorem ins_split (one : Ex) : ∀ xs : List Ex, ∃ pre post, insR one xs = pre ++ one :: post ∧ dropX xs one.name = pre ++ post
  | [] => ⟨[], [], rfl, rfl⟩
  | x :: xs => by
    obtain ⟨pre, post, h1, h2⟩ := ins_split one xs
    rw [insR, dropX_cons]
    by_cases h : x.name = one.name
    · rw [if_pos h, if_pos h]; exact ⟨pre, post, h1, h2⟩
    · rw [if_neg h, if_neg h]
      by_cases hg : gtB x.name one.name = true
      · rw [if_pos hg]; exact ⟨[], x :: dropX xs one.name, rfl, rfl⟩
      · rw [if_neg hg]; exact ⟨x :: pre, post, by rw [h1]; rfl, by rw [h2]; rfl⟩
theorem findX_append (nm : ByteArray) : ∀ xs ys : List Ex, findX (xs ++ ys) nm = (findX ys nm).or (findX xs nm)
  | [], ys => by simp [findX]
  | x :: xs, ys => by
    rw [List.cons_append, findX, findX_append nm xs ys, findX]
    cases findX ys nm with
    | some t => rfl
    | none =>
      cases findX xs nm with
      | some t => rfl
      | none => simp
theorem findX_drop_other {nm other : ByteArray} (h : ¬ other = nm) : ∀ xs : List Ex, findX (dropX xs nm) other = findX xs other
  | [] => rfl
  | x :: xs => by
    rw [dropX_cons]
    by_cases e : x.name = nm
    · rw [if_pos e, findX_drop_other h xs, findX]
      cases findX xs other with
      | some t => rfl
      | none => simp only; rw [if_neg (show ¬ x.name = other from fun e2 => h (e2.symm.trans e))]
    · rw [if_neg e, findX, findX, findX_drop_other h xs]
theorem findX_none {nm : ByteArray} : ∀ {xs : List Ex}, (∀ x ∈ xs, ¬ x.name = nm) → findX xs nm = none
  | [], _ => rfl
  | x :: xs, h => by
    rw [findX, findX_none (fun y hy => h y (by simp [hy]))]
    simp [h x (by simp)]
/-- what was put is found; all others are as they were; dropped it is gone. -/
theorem puts_find (xs : List Ex) (one : Ex) : findX (putX xs one) one.name = some one.ty ∧ (∀ other, ¬ other = one.name → findX (putX xs one) other = findX xs other) ∧
    findX (dropX (putX xs one) one.name) one.name = none ∧ (dropX (putX xs one) one.name).length + 1 = (putX xs one).length := by
  obtain ⟨pre, post, h1, h2⟩ := ins_split one xs
  have hn : ∀ x ∈ pre ++ post, ¬ x.name = one.name := fun x hx => by rw [← h2] at hx; exact (dropX_mem.1 hx).2
  have hp : ∀ x ∈ post, ¬ x.name = one.name := fun x hx => hn x (by simp [hx])
  have hq : ∀ x ∈ pre, ¬ x.name = one.name := fun x hx => hn x (by simp [hx])
  rw [putX_ins, h1]
  have hd : dropX (pre ++ one :: post) one.name = pre ++ post := by
    rw [dropX_append, dropX_cons, if_pos rfl, dropX_none hq, dropX_none hp]
  refine ⟨?_, fun other ho => ?_, ?_, ?_⟩
  · rw [findX_append, findX, findX_none hp]; simp
  · rw [← findX_drop_other ho xs, h2, findX_append, findX, findX_append]
    cases findX post other with
    | some t => rfl
    | none => simp only [Option.none_or]; rw [if_neg (fun e => ho e.symm)]; rfl
  · rw [hd]; exact findX_none hn
  · rw [hd]; simp; omega
end Go.Typ
