/- What a part of a right type can be. -/
import Derived.Test.YtbhicpjhijondaaDoorT6
namespace Go.Typ
/-- can it be a part of a right type, whatever its own parts are? -/
def fitsT (T : Ty) : Bool :=
  (decide (T.kind = 1) && (decide (0 ≤ T.num) && decide (T.num < 1073741824) && decide (T.name.toList = []) && decide (T.args.length = 0))) ||
  (decide (T.kind = 2) && (decide (T.num = 0) && nameOk T.name.data.toList)) ||
  (decide (T.kind = 3) && (decide (T.num = 0) && decide (T.name.toList = []) && decide (2 ≤ T.args.length))) ||
  (decide (T.kind = 4) && (decide (T.num = 0) && decide (T.name.toList = []) && decide (T.args.length = 2)))
end Go.Typ
namespace Go.Proofs.YtbhicpjhijondaaDoor
open Go.RowKit Go.Lib Go.Vfs Go.Par Go.Typ
set_option linter.unusedVariables false
set_option linter.unusedSimpArgs false

theorem beq_zero (n : Nat) : ((n : Int) == 0) = decide (n = 0) := by
  by_cases h : n = 0
  · subst h; rfl
  · have : ¬ (n : Int) = 0 := by omega
    simp [h]
theorem beq_two (n : Nat) : ((n : Int) == 2) = decide (n = 2) := by
  by_cases h : n = 2
  · subst h; rfl
  · have : ¬ (n : Int) = 2 := by omega
    simp [h, this]

set_option maxRecDepth 20000 in
set_option maxHeartbeats 2000000 in
theorem fits_any (T : Ty) (v : Value) (w : World) (hT : TyAt (· < w.heap.size) w v T) :
    Calls Tryd.prog 60 #[v] w fun e w' => e = .returned (.bool (fitsT T)) ∧ Below w.heap.size w w' := by
  obtain ⟨A, c, rfl, hc, hm, hn⟩ := hT.form
  have hla : T.args.length ≤ 9223372036854775807 := by simp only [maxLen] at hm; omega
  have HK : Hid (∀ W, Calls Tryd.prog 71 #[.string T.name] W fun e w' => ∃ z, e = .returned (.int .i64 z) ∧ (z = 1 ↔ nameOk T.name.data.toList = true) ∧ w' = W) := Lib.hid fun W => kind_any T.name W hn
  obtain ⟨r, hr⟩ : ∃ r, r = fitsT T := ⟨_, rfl⟩
  rw [← hr]
  unfold fitsT at hr
  have HB : Hid (∀ o : Obj, Below w.heap.size w (w.alloc o)) := Lib.hid fun o => (Below.refl _ _).alloc (Nat.le_refl _) _
  have HR := Lib.hid hr
  clear hr hT hc hm hn
  unfold tyV
  by_cases k1 : T.kind = 1
  · rw [k1] at HR ⊢
    go_enter Tryd.func60, Tryd.ntmps60
    go_wp2
    all_goals (go_ret; refine ⟨congrArg (fun b => Ending.returned (.bool b)) ?_, HB.out _⟩; rw [HR.out])
    all_goals first | (simp [*, beq_zero, beq_two]; done) | (simp [*, beq_zero, beq_two]; omega)
  by_cases k2 : T.kind = 2
  · rw [k2] at HR ⊢
    go_enter Tryd.func60, Tryd.ntmps60
    go_wp2_with (go_at_call 71; refine (HK.out _).mono ?_; rintro e w2 ⟨z, rfl, hz, rfl⟩; have hz1 : (z == 1) = nameOk T.name.data.toList := by (rw [Bool.eq_iff_iff, ← hz]; simp))
    all_goals (go_ret; refine ⟨congrArg (fun b => Ending.returned (.bool b)) ?_, HB.out _⟩; rw [HR.out])
    all_goals first | (simp [*, beq_zero, beq_two]; done) | (simp [*, beq_zero, beq_two]; omega)
  by_cases k3 : T.kind = 3
  · rw [k3] at HR ⊢
    go_enter Tryd.func60, Tryd.ntmps60
    go_wp2
    all_goals (go_ret; refine ⟨congrArg (fun b => Ending.returned (.bool b)) ?_, HB.out _⟩; rw [HR.out])
    all_goals first | (simp [*, beq_zero, beq_two]; done) | (simp [*, beq_zero, beq_two]; omega)
  by_cases k4 : T.kind = 4
  · rw [k4] at HR ⊢
    go_enter Tryd.func60, Tryd.ntmps60
    go_wp2
    all_goals (go_ret; refine ⟨congrArg (fun b => Ending.returned (.bool b)) ?_, HB.out _⟩; rw [HR.out])
    all_goals first | (simp [*, beq_zero, beq_two]; done) | (simp [*, beq_zero, beq_two]; omega)
  have g1 : (T.kind == 1) = false := by simpa using k1
  have g2 : (T.kind == 2) = false := by simpa using k2
  have g3 : (T.kind == 3) = false := by simpa using k3
  have g4 : (T.kind == 4) = false := by simpa using k4
  have HR2 : Hid (r = false) := Lib.hid (by rw [HR.out]; simp [k1, k2, k3, k4])
  clear k1 k2 k3 k4
  go_enter Tryd.func60, Tryd.ntmps60
  go_wp2
  go_ret
  exact ⟨by rw [HR2.out]; rfl, HB.out _⟩
end Go.Proofs.YtbhicpjhijondaaDoor
