/- The reference's lexer: a word at a place. -/
import Derived.Test.YtbhicpjhijondaaDoorL1
namespace Go.Typ
/-- do these words stand there? -/
def atB (s : ByteArray) (i : Nat) (wd : List UInt8) : Bool := wd.isPrefixOf (s.data.toList.drop i)
end Go.Typ
namespace Go.Proofs.YtbhicpjhijondaaDoor
open Go.RowKit Go.Lib Go.Vfs Go.Par Go.Typ
set_option linter.unusedVariables false
set_option linter.unusedSimpArgs false

theorem ext_list (s : ByteArray) (i j : Nat) : (s.extract i j).data.toList = (s.data.toList.drop i).take (j - i) := by
  rw [ByteArray.data_extract, Array.toList_extract]
theorem ext_eq (s wd : ByteArray) (i : Nat) (h : i + wd.size ≤ s.size) : (s.extract i (i + wd.size) = wd) ↔ atB s i wd.data.toList = true := by
  have hl : wd.data.toList.length = wd.size := by rw [Array.length_toList]; rfl
  unfold atB
  rw [List.isPrefixOf_iff_prefix]
  constructor
  · intro e
    have : wd.data.toList = (s.data.toList.drop i).take wd.size := by rw [← e, ext_list, e, Nat.add_sub_cancel_left]
    rw [this]; exact List.take_prefix _ _
  · intro h
    have e := List.prefix_iff_eq_take.1 h
    apply ByteArray.ext
    apply Array.toList_inj.mp
    rw [ext_list, Nat.add_sub_cancel_left, e, hl]
theorem atB_len {s : ByteArray} {i : Nat} {wd : List UInt8} (h : atB s i wd = true) (hw : 0 < wd.length) : i + wd.length ≤ s.size := by
  unfold atB at h
  rw [List.isPrefixOf_iff_prefix] at h
  have := h.length_le
  have hs : s.data.toList.length = s.size := by rw [Array.length_toList]; rfl
  rw [List.length_drop, hs] at this
  omega
set_option maxRecDepth 20000 in
set_option maxHeartbeats 1000000 in
theorem r8at_any (s wd : ByteArray) (i : Nat) (hs : s.size ≤ 9223372036854775000) (hi : i ≤ s.size) (hw : wd.size ≤ 100) (hw0 : 0 < wd.size) (w : World) :
    Calls Tryd.prog 109 #[.string s, .int .i64 i, .string wd] w fun e w' => e = .returned (.bool (atB s i wd.data.toList)) ∧ ∃ n, w' = w.drewN n := by
  have hl : wd.data.toList.length = wd.size := by rw [Array.length_toList]; rfl
  by_cases h : i + wd.size ≤ s.size
  · have hq := ext_eq s wd i h
    have hii : ((i : Int) + (wd.size : Int) ≤ (s.size : Int)) := by omega
    have hcmp : ((s.extract i (i + wd.size)).toList == wd.toList) = atB s i wd.data.toList := by
      rw [Bool.eq_iff_iff, beq_iff_eq, ByteArray.toList_eq, ByteArray.toList_eq, ← hq]
      exact ⟨fun e => ByteArray.ext (Array.toList_inj.mp e), fun e => by rw [e]⟩
    clear hq
    go_enter Tryd.func109, Tryd.ntmps109
    go_wp2
    go_ret
    exact ⟨by rw [← hcmp]; rfl, 0, rfl⟩
  · have hq : atB s i wd.data.toList = false := by
      cases hb : atB s i wd.data.toList with
      | false => rfl
      | true => have := atB_len hb (by omega); omega
    have hii : ¬ ((i : Int) + (wd.size : Int) ≤ (s.size : Int)) := by omega
    rw [hq]
    clear hq
    go_enter Tryd.func109, Tryd.ntmps109
    go_wp2
    go_ret
    exact ⟨rfl, 0, rfl⟩
end Go.Proofs.YtbhicpjhijondaaDoor
