/- Plain: the places of a text rise. No program in sight. -/
import Derived.Test.YtdldkidccjkhgaaDoorUtfP
namespace Go.Proofs.YtdldkidccjkhgaaDoor
open Go.Par

theorem plc_lt (rs : List Int) (ha : AllR rs) {i j : Nat} (h : i < j) (hj : j ≤ rs.length) : (plc rs i).1 < (plc rs j).1 ∧ (plc rs i).2 < (plc rs j).2 := by
  have e : rs.take j = rs.take i ++ (rs.take j).drop i := by
    conv => lhs; rw [← List.take_append_drop i (rs.take j)]
    rw [List.take_take, Nat.min_eq_left (by omega)]
  have hne : 0 < ((rs.take j).drop i).length := by simp; omega
  have ha' : AllR ((rs.take j).drop i) := (ha.take j).drop i
  have h1 := txt_length_le ((rs.take j).drop i)
  have h2 := (units_le _ ha').1
  unfold plc
  constructor
  · show _ < (txt (rs.take j)).length
    rw [e, txt_append]; simp only [List.length_append]; omega
  · show _ < (units (rs.take j)).length
    rw [e, units_append]; simp only [List.length_append]; omega

theorem findP_some {q : Nat × Nat → Bool} {rs : List Int} {p : Nat × Nat} (h : findP q rs = some p) : ∃ k, k ≤ rs.length ∧ p = plc rs k ∧ q p = true := by
  have hm := List.mem_of_find?_eq_some h
  have hq := List.find?_some h
  unfold plcs at hm
  obtain ⟨k, hk, rfl⟩ := List.mem_map.1 hm
  exact ⟨k, by simp at hk; omega, rfl, hq⟩

theorem findP_none {q : Nat × Nat → Bool} {rs : List Int} (h : findP q rs = none) (k : Nat) (hk : k ≤ rs.length) : q (plc rs k) = false := by
  have := List.find?_eq_none.1 h (plc rs k) (List.mem_map.2 ⟨k, by simp; omega, rfl⟩)
  simpa using this

theorem findP_at {q : Nat × Nat → Bool} {rs : List Int} (k : Nat) (hk : k ≤ rs.length) (hq : q (plc rs k) = true) (huniq : ∀ j, j ≤ rs.length → q (plc rs j) = true → j = k) : findP q rs = some (plc rs k) := by
  cases h : findP q rs with
  | none => have := findP_none h k hk; rw [this] at hq; cases hq
  | some p =>
    obtain ⟨j, hj, rfl, hqj⟩ := findP_some h
    rw [huniq j hj hqj]

theorem plc_inj1 (rs : List Int) (ha : AllR rs) {i j : Nat} (hi : i ≤ rs.length) (hj : j ≤ rs.length) (h : (plc rs i).1 = (plc rs j).1) : i = j := by
  rcases Nat.lt_trichotomy i j with hl | hl | hl
  · have := (plc_lt rs ha hl hj).1; omega
  · exact hl
  · have := (plc_lt rs ha hl hi).1; omega
theorem plc_inj2 (rs : List Int) (ha : AllR rs) {i j : Nat} (hi : i ≤ rs.length) (hj : j ≤ rs.length) (h : (plc rs i).2 = (plc rs j).2) : i = j := by
  rcases Nat.lt_trichotomy i j with hl | hl | hl
  · have := (plc_lt rs ha hl hj).2; omega
  · exact hl
  · have := (plc_lt rs ha hl hi).2; omega
theorem plc_le (rs : List Int) (k : Nat) : (plc rs k).1 ≤ (txt rs).length := by
  unfold plc
  conv => rhs; rw [← List.take_append_drop k rs, txt_append]
  simp
end Go.Proofs.YtdldkidccjkhgaaDoor
