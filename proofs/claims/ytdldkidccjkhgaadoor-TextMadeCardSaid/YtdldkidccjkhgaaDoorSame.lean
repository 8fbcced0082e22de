import Derived.Test.YtdldkidccjkhgaaDoorMem
import Derived.Test.YtdldkidccjkhgaaDoorShelf
import Derived.WalkLawsBesides
import Derived.WalkSpells
import Derived.Outline
import Derived.BigQuiet
import Derived.Deep.QuietTactic
namespace Go.Proofs.YtdldkidccjkhgaaDoor
open Go.RowKit Go.Par

theorem ret_bool {a b : Bool} (h : a = b) : Ending.returned (.bool a) = .returned (.bool b) := by rw [h]

set_option maxHeartbeats 400000 in
theorem sameInts_any (u v : Value) (xs ys : List Int) (B : Nat) (w : World) (hu : Seg w B u (ints xs)) (hv : Seg w B v (ints ys)) :
    Calls Tryd.prog 21 #[u, v] w fun e w' => e = .returned (.bool (decide (xs = ys))) ∧ ∃ n, w' = w.drewN n := by
  obtain ⟨A, c, rfl, hc, hm, ha⟩ := hu.open_ints
  obtain ⟨A', c', rfl, hc', hm', ha'⟩ := hv.open_ints
  clear hu hv
  by_cases hl : xs.length = ys.length
  · have hne : ((xs.length : Int) != (ys.length : Int)) = false := by simp [hl]
    have Hl := Lib.hid hl
    clear hl
    go_enter Tryd.func21, Tryd.ntmps21
    go_wp2
    go_loopw [5] (fun i wr => ∃ k n : Nat, k ≤ xs.length ∧ i = .int .i64 k ∧ Agree k xs ys ∧ wr = w.drewN n) (fun i _ => xs.length - (intOf i).toNat)
    case atStart => exact ⟨0, 0, by omega, rfl, Agree.zero _ _, rfl⟩
    case round =>
      obtain ⟨k, n, hk, rfl, hal, rfl⟩ := hrel
      by_cases hlt : k < xs.length
      · have hlt' : k < ys.length := by have := Hl.out; omega
        obtain ⟨b, off, x, rfl, hb, hc1, Hx⟩ := ha.int hlt
        obtain ⟨b', off', y, rfl, hb', hc2, Hy⟩ := ha'.int hlt'
        have HA := Lib.hid ha; clear ha
        have HA' := Lib.hid ha'; clear ha'
        by_cases he : x = y
        · have hbe : (x != y) = false := by simp [he]
          have He := Lib.hid he
          clear he
          go_wp2
          go_quiet (fail)
          go_wp2
          go_roundw
          case rel => exact ⟨k + 1, _, by omega, by go_num, hal.step hlt hlt' 0 (by rw [Hx.out, Hy.out, He.out]), rfl⟩
          case measure => simp [intOf]; omega
        · have hbe : (x != y) = true := by simp [he]
          have He := Lib.hid he
          clear he
          go_wp2
          go_quiet (fail)
          go_wp2
          go_ret
          refine ⟨ret_bool ?_, _, World.drewN_drewN _ _ _⟩
          have h1 := Hx.out
          have h2 := Hy.out
          have h3 := He.out
          simp
          rintro rfl
          exact h3 (h1.symm.trans h2)
      · have hkl : k = xs.length := by omega
        have Hk := Lib.hid hkl
        clear hkl
        go_wp2
        go_ret
        refine ⟨ret_bool ?_, _, rfl⟩
        rw [Hk.out] at hal
        simp [hal.whole Hl.out]
  · have hne : ((xs.length : Int) != (ys.length : Int)) = true := by simp; omega
    have Hl := Lib.hid hl
    clear hl
    go_enter Tryd.func21, Tryd.ntmps21
    go_wp2
    go_ret
    refine ⟨ret_bool ?_, 0, rfl⟩
    have := Hl.out
    simp
    rintro rfl
    exact this rfl
end Go.Proofs.YtdldkidccjkhgaaDoor
