/- Plain facts on a text's places: the rune behind the first k. No program in sight. -/
import Derived.Test.YtdldkidccjkhgaaDoorU8
namespace Go.Par
open Go.Lib
set_option linter.unusedVariables false

theorem take_snoc {α : Type} (xs : List α) (k : Nat) (x : α) (h : xs[k]? = some x) : xs.take (k + 1) = xs.take k ++ [x] := by
  obtain ⟨hk, e⟩ := List.getElem?_eq_some_iff.1 h
  rw [List.take_succ_eq_append_getElem hk, e]

theorem AllR.take {rs : List Int} (h : AllR rs) (k : Nat) : AllR (rs.take k) := fun r hr => h r (List.mem_of_mem_take hr)
theorem AllR.drop {rs : List Int} (h : AllR rs) (k : Nat) : AllR (rs.drop k) := fun r hr => h r (List.mem_of_mem_drop hr)

/-- the rune behind the first k. -/
theorem rune_at (s : ByteArray) (rs : List Int) (hs : s.data.toList = txt rs) (ha : AllR rs) (k : Nat) (hk : k < rs.length) :
    ∃ m : Nat, rs[k]? = some (m : Int) ∧ m ≤ 1114111 ∧ isR m = true ∧ (txt (rs.take k)).length < s.size ∧
      Utf8.decode s (txt (rs.take k)).length = (m, (encodeRune m).length) ∧ (txt (rs.take k)).length + (encodeRune m).length = (txt (rs.take (k + 1))).length := by
  have hr : isR rs[k] = true := ha _ (List.getElem_mem hk)
  have hb := isR_iff.1 hr
  obtain ⟨m, hm⟩ := Int.eq_ofNat_of_zero_le hb.1
  have hk' : rs[k]? = some (m : Int) := by rw [List.getElem?_eq_getElem hk, hm]
  have hsplit : rs = rs.take k ++ ((m : Int) :: rs.drop (k + 1)) := by
    rw [← hm, ← List.drop_eq_getElem_cons hk, List.take_append_drop]
  have hdrop : s.data.toList.drop (txt (rs.take k)).length = encodeRune m ++ txt (rs.drop (k + 1)) := by
    rw [hs]
    conv => lhs; arg 2; rw [hsplit]
    rw [txt_append, List.drop_left, txt_cons]
  rw [hm] at hr
  have hdec : Utf8.decode s (txt (rs.take k)).length = (m, (encodeRune m).length) := by
    rw [← decodeL_drop, hdrop, decode_enc _ _ hr]; simp
  refine ⟨m, hk', by omega, hr, ?_, hdec, ?_⟩
  · have h1 := congrArg List.length hdrop
    have hp := enc_pos m
    rw [List.length_drop, List.length_append, ← size_eq] at h1
    omega
  · rw [take_snoc rs k m hk', txt_append]; simp [txt]

theorem txt_size (s : ByteArray) (rs : List Int) (hs : s.data.toList = txt rs) : s.size = (txt rs).length := by rw [← hs, ← size_eq]
theorem take_all {α : Type} (xs : List α) : xs.take xs.length = xs := List.take_of_length_le (Nat.le_refl _)
theorem isR_bd {m : Nat} (h : isR m = true) : m ≤ 1114111 ∧ (m < 55296 ∨ 57344 ≤ m) := by have := isR_iff.1 h; omega
end Go.Par
