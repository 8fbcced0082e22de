/- The reference's lexer: remarks. -/
import Derived.Test.YtbhicpjhijondaaDoorL2
namespace Go.Proofs.YtbhicpjhijondaaDoor
open Go.RowKit Go.Lib Go.Vfs Go.Par Go.Typ
set_option linter.unusedVariables false
set_option linter.unusedSimpArgs false

set_option maxRecDepth 20000 in
set_option maxHeartbeats 1000000 in
theorem remark_any (s : ByteArray) (i : Nat) (hs : s.size ≤ 9223372036854775000) (hi : i ≤ s.size) (w : World) :
    Calls Tryd.prog 110 #[.string s, .int .i64 i] w fun e w' => ∃ j : Nat, e = .returned (.int .i64 j) ∧ (j = 0 ∨ (i < j ∧ j ≤ s.size)) ∧ ∃ n, w' = w.drewN n := by
  go_enter Tryd.func110, Tryd.ntmps110
  go_wp2
  go_loopw [1, 5] (fun iv dv W => ∃ (k : Nat) (d : Int), iv = .int .i64 k ∧ dv = .int .i64 d ∧ i ≤ k ∧ k ≤ s.size ∧ -(k : Int) ≤ d ∧ d ≤ (k : Int) ∧ ∃ n, W = w.drewN n) (fun iv _ _ => s.size - (RowKit.intOf iv).toNat)
  case atStart => exact ⟨i, 0, rfl, rfl, Nat.le_refl _, hi, by omega, by omega, 0, rfl⟩
  case round =>
    obtain ⟨k, d, rfl, rfl, hik, hk, hd1, hd2, n0, rfl⟩ := hrel
    by_cases hlt : k < s.size
    · have hlti : (k : Int) < (s.size : Int) := by omega
      have H1 := Lib.hid (r8at_any s ⟨#[40, 42]⟩ k hs hk (by decide) (by decide) (w.drewN n0))
      obtain ⟨b1, hb1⟩ : ∃ b1, b1 = atB s k [40, 42] := ⟨_, rfl⟩
      rw [show (⟨#[40, 42]⟩ : ByteArray).data.toList = [40, 42] from rfl, ← hb1] at H1
      have HB1 := Lib.hid hb1
      clear hb1
      go_wp2_with fail
      refine H1.out.mono ?_
      rintro e w1 ⟨rfl, n1, rfl⟩
      cases b1 with
      | true =>
        have hle := atB_len HB1.out.symm (by decide)
        simp only [List.length_cons, List.length_nil] at hle
        go_wp2
        go_roundw
        case rel => exact ⟨k + 2, d + 1, by go_num, rfl, by omega, by omega, by omega, by omega, n0 + n1, rfl⟩
        case measure => simp [RowKit.intOf]; omega
      | false =>
        have H2 := Lib.hid (r8at_any s ⟨#[42, 41]⟩ k hs hk (by decide) (by decide) (w.drewN (n0 + n1)))
        obtain ⟨b2, hb2⟩ : ∃ b2, b2 = atB s k [42, 41] := ⟨_, rfl⟩
        rw [show (⟨#[42, 41]⟩ : ByteArray).data.toList = [42, 41] from rfl, ← hb2] at H2
        have HB2 := Lib.hid hb2
        clear hb2
        go_wp2_with fail
        refine H2.out.mono ?_
        rintro e w2 ⟨rfl, n2, rfl⟩
        cases b2 with
        | true =>
          have hle := atB_len HB2.out.symm (by decide)
          simp only [List.length_cons, List.length_nil] at hle
          by_cases h0 : d = 1
          · subst h0
            go_wp2
            go_ret
            exact ⟨k + 2, by go_num, .inr ⟨by omega, by omega⟩, n0 + n1 + n2, rfl⟩
          · have g0 : (d - 1 == 0) = false := by simp; omega
            go_wp2
            go_roundw
            case rel => exact ⟨k + 2, d - 1, by go_num, rfl, by omega, by omega, by omega, by omega, n0 + n1 + n2, rfl⟩
            case measure => simp [RowKit.intOf]; omega
        | false =>
          go_wp2
          go_roundw
          case rel => exact ⟨k + 1, d, by go_num, rfl, by omega, by omega, by omega, by omega, n0 + n1 + n2, rfl⟩
          case measure => simp [RowKit.intOf]; omega
    · have hlti : ¬ ((k : Int) < (s.size : Int)) := by omega
      go_wp2
      go_ret
      exact ⟨0, rfl, .inl rfl, n0, rfl⟩
end Go.Proofs.YtbhicpjhijondaaDoor
