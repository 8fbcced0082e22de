/- Plain: the runes of units. No program in sight. -/
import Derived.Test.YtdldkidccjkhgaaDoorU8b
namespace Go.Par
open Go.Lib
set_option linter.unusedVariables false

def lone (r : Int) : Bool := isR r && decide (r < 65536)
def pair (r n : Int) : Bool := decide (55296 ≤ r ∧ r < 56320 ∧ 56320 ≤ n ∧ n < 57344)
def comb (r n : Int) : Int := 65536 + (r - 55296) * 1024 + n - 56320
def joinZ : List Int → Option (List Int)
  | [] => some []
  | [r] => if lone r then some [r] else none
  | r :: n :: t => if pair r n then (joinZ t).map (comb r n :: ·) else if lone r then (joinZ (n :: t)).map (r :: ·) else none

theorem pair_iff {r n : Int} : pair r n = true ↔ (55296 ≤ r ∧ r < 56320 ∧ 56320 ≤ n ∧ n < 57344) := by simp [pair]
theorem lone_iff {r : Int} : lone r = true ↔ (isR r = true ∧ r < 65536) := by simp [lone]
theorem joinZ_nil : joinZ [] = some [] := rfl
theorem joinZ_pair {r n : Int} (t : List Int) (h : pair r n = true) : joinZ (r :: n :: t) = (joinZ t).map (comb r n :: ·) := by
  rw [joinZ, if_pos h]
theorem joinZ_lone {r : Int} (t : List Int) (h : lone r = true) : joinZ (r :: t) = (joinZ t).map (r :: ·) := by
  cases t with
  | nil => simp [joinZ, h]
  | cons n t =>
    rw [joinZ, if_neg, if_pos h]
    have := isR_iff.1 (lone_iff.1 h).1
    rw [pair_iff]; omega
theorem joinZ_none {r : Int} (t : List Int) (h : lone r = false) (hp : ∀ n u, t = n :: u → pair r n = false) : joinZ (r :: t) = none := by
  cases t with
  | nil => rw [joinZ, if_neg (by simp [h])]
  | cons n t => rw [joinZ, if_neg (by simp [hp n t rfl]), if_neg (by simp [h])]
theorem isR_comb {r n : Int} (h : pair r n = true) : isR (comb r n) = true := by
  have := pair_iff.1 h
  rw [isR_iff]; unfold comb; omega

theorem drop_cons {zs : List Int} {k : Nat} (hk : k < zs.length) : zs.drop k = zs.getD k 0 :: zs.drop (k + 1) := by
  rw [List.drop_eq_getElem_cons hk]; simp [List.getD_eq_getElem?_getD, hk]

/-- what is to come behind acc. -/
def JoinAt (zs acc : List Int) (k : Nat) : Prop := joinZ zs = (joinZ (zs.drop k)).map (acc ++ ·)
theorem JoinAt.start (zs : List Int) : JoinAt zs [] 0 := by unfold JoinAt; simp
theorem JoinAt.lone {zs acc : List Int} {k : Nat} (h : JoinAt zs acc k) (hk : k < zs.length) (hl : lone (zs.getD k 0) = true) : JoinAt zs (acc ++ [zs.getD k 0]) (k + 1) := by
  unfold JoinAt at *
  rw [h, drop_cons hk, joinZ_lone _ hl]
  cases joinZ (zs.drop (k + 1)) <;> simp
theorem JoinAt.pair {zs acc : List Int} {k : Nat} (h : JoinAt zs acc k) (hk : k + 1 < zs.length) (hl : pair (zs.getD k 0) (zs.getD (k + 1) 0) = true) : JoinAt zs (acc ++ [comb (zs.getD k 0) (zs.getD (k + 1) 0)]) (k + 2) := by
  unfold JoinAt at *
  rw [h, drop_cons (by omega), drop_cons hk, joinZ_pair _ hl]
  cases joinZ (zs.drop (k + 1 + 1)) <;> simp
theorem JoinAt.bad {zs acc : List Int} {k : Nat} (h : JoinAt zs acc k) (hk : k < zs.length) (hl : Par.lone (zs.getD k 0) = false) (hp : k + 1 < zs.length → Par.pair (zs.getD k 0) (zs.getD (k + 1) 0) = false) : joinZ zs = none := by
  unfold JoinAt at h
  rw [h, drop_cons hk, joinZ_none _ hl]
  · rfl
  · intro n u e
    by_cases h1 : k + 1 < zs.length
    · rw [drop_cons h1] at e
      injection e with e1 e2
      rw [← e1]; exact hp h1
    · rw [List.drop_eq_nil_of_le (by omega)] at e; cases e
theorem JoinAt.done {zs acc : List Int} (h : JoinAt zs acc zs.length) : joinZ zs = some acc := by
  unfold JoinAt at h
  rw [h, List.drop_length]; simp [joinZ]
end Go.Par
