/- The lexer's bytes and words. -/
import Derived.Test.YtbhicpjhijondaaDoorT4
import Derived.Lib.SliceRun
namespace Go.Typ
def smallN (n : Nat) : Bool := decide (97 ≤ n ∧ n ≤ 122)
def greatN (n : Nat) : Bool := decide (65 ≤ n ∧ n ≤ 90)
def digitN (n : Nat) : Bool := decide (48 ≤ n ∧ n ≤ 57)
/-- a byte of a name. -/
def nmN (t : Bool) (n : Nat) : Bool := smallN n || greatN n || digitN n || decide (n = 95) || (t && decide (n = 39))
def keyWords : List (List UInt8) := [[95], [108, 101, 116], [114, 101, 99], [105, 110], [102, 117, 110], [105, 102], [116, 104, 101, 110], [101, 108, 115, 101], [109, 97, 116, 99, 104], [119, 105, 116, 104], [116, 121, 112, 101], [111, 102], [116, 114, 117, 101], [102, 97, 108, 115, 101]]
end Go.Typ
namespace Go.Proofs.YtbhicpjhijondaaDoor
open Go.RowKit Go.Lib Go.Vfs Go.Par Go.Typ
set_option linter.unusedVariables false
set_option linter.unusedSimpArgs false

theorem lxsmall_any (x : Nat) (w : World) : Calls Tryd.prog 102 #[.int .u8 x] w fun e w' => e = .returned (.bool (smallN x)) ∧ w' = w := by
  by_cases h1 : (97 : Int) ≤ x
  · by_cases h2 : (x : Int) ≤ 122
    · have h : smallN x = true := decide_eq_true (by omega)
      rw [h]; clear h
      go_enter Tryd.func102, Tryd.ntmps102
      go_wp2
      go_ret
      exact ⟨rfl, rfl⟩
    · have h : smallN x = false := decide_eq_false (by omega)
      rw [h]; clear h
      go_enter Tryd.func102, Tryd.ntmps102
      go_wp2
      go_ret
      exact ⟨rfl, rfl⟩
  · have h : smallN x = false := decide_eq_false (by omega)
    rw [h]; clear h
    go_enter Tryd.func102, Tryd.ntmps102
    go_wp2
    go_ret
    exact ⟨rfl, rfl⟩
theorem lxgreat_any (x : Nat) (w : World) : Calls Tryd.prog 105 #[.int .u8 x] w fun e w' => e = .returned (.bool (greatN x)) ∧ w' = w := by
  by_cases h1 : (65 : Int) ≤ x
  · by_cases h2 : (x : Int) ≤ 90
    · have h : greatN x = true := decide_eq_true (by omega)
      rw [h]; clear h
      go_enter Tryd.func105, Tryd.ntmps105
      go_wp2
      go_ret
      exact ⟨rfl, rfl⟩
    · have h : greatN x = false := decide_eq_false (by omega)
      rw [h]; clear h
      go_enter Tryd.func105, Tryd.ntmps105
      go_wp2
      go_ret
      exact ⟨rfl, rfl⟩
  · have h : greatN x = false := decide_eq_false (by omega)
    rw [h]; clear h
    go_enter Tryd.func105, Tryd.ntmps105
    go_wp2
    go_ret
    exact ⟨rfl, rfl⟩
theorem lxdigit_any (x : Nat) (w : World) : Calls Tryd.prog 106 #[.int .u8 x] w fun e w' => e = .returned (.bool (digitN x)) ∧ w' = w := by
  by_cases h1 : (48 : Int) ≤ x
  · by_cases h2 : (x : Int) ≤ 57
    · have h : digitN x = true := decide_eq_true (by omega)
      rw [h]; clear h
      go_enter Tryd.func106, Tryd.ntmps106
      go_wp2
      go_ret
      exact ⟨rfl, rfl⟩
    · have h : digitN x = false := decide_eq_false (by omega)
      rw [h]; clear h
      go_enter Tryd.func106, Tryd.ntmps106
      go_wp2
      go_ret
      exact ⟨rfl, rfl⟩
  · have h : digitN x = false := decide_eq_false (by omega)
    rw [h]; clear h
    go_enter Tryd.func106, Tryd.ntmps106
    go_wp2
    go_ret
    exact ⟨rfl, rfl⟩
theorem data_toList (s : ByteArray) : s.data.toList = s.toList := (ByteArray.toList_eq s).symm
set_option maxHeartbeats 1000000 in
theorem wordKind_any (s : ByteArray) (w : World) : Calls Tryd.prog 104 #[.string s] w fun e w' => ∃ z, e = .returned (.int .i64 z) ∧ (z = 1 ↔ s.data.toList ∉ keyWords) ∧ w' = w := by
  rw [data_toList]
  go_enter Tryd.func104, Tryd.ntmps104
  go_wp2
  all_goals go_ret
  all_goals refine ⟨_, rfl, ?_, rfl⟩
  all_goals simp_all [keyWords]
/-- byte j of a text. -/
def byteS (s : ByteArray) (j : Nat) : Nat := (s.data.toList.getD j 0).toNat
theorem byteS_get (s : ByteArray) (k : Nat) (h : k < s.size) : s[k].toNat = byteS s k := by
  have : s[k] = s.data.toList.getD k 0 := by
    have h' : k < s.data.size := h
    rw [List.getD_eq_getElem?_getD, List.getElem?_eq_getElem (by simpa using h')]
    rfl
  rw [this]; rfl
set_option maxRecDepth 20000 in
set_option maxHeartbeats 2000000 in
theorem run_any (s : ByteArray) (t : Bool) (a : Nat) (w : World) (ha : a ≤ s.size) (hs : s.size ≤ 9223372036854775807) :
    Calls Tryd.prog 103 #[.string s, .int .i64 a, .bool t] w fun e w' => ∃ n : Nat, e = .returned (.int .i64 n) ∧ a + n ≤ s.size ∧ Hid ((∀ j, a ≤ j → j < a + n → nmN t (byteS s j) = true) ∧ (a + n < s.size → nmN t (byteS s (a + n)) = false)) ∧ w' = w := by
  go_enter Tryd.func103, Tryd.ntmps103
  go_wp2
  go_loopw [7] (fun iv W => ∃ (k : Nat), a ≤ k ∧ k ≤ s.size ∧ iv = .int .i64 k ∧ Hid (∀ j, a ≤ j → j < k → nmN t (byteS s j) = true) ∧ W = w) (fun iv _ => s.size - (intOf iv).toNat)
  case atStart => exact ⟨a, by omega, by omega, rfl, Lib.hid (fun j h1 h2 => by omega), rfl⟩
  case round =>
    obtain ⟨k, hk0, hk, rfl, HJ, rfl⟩ := hrel
    by_cases hlt : k < s.size
    · have HX := Lib.hid (byteS_get s k hlt)
      obtain ⟨x, hx⟩ : ∃ x, x = s[k].toNat := ⟨_, rfl⟩
      have HX2 : Hid (byteS s k = x) := Lib.hid (by rw [hx, HX.out])
      clear HX
      have HY : Hid (nmN t x = true → ∀ j, a ≤ j → j < k + 1 → nmN t (byteS s j) = true) := Lib.hid fun h j h1 h2 => by
        by_cases hj : j < k
        · exact HJ.out j h1 hj
        · have : j = k := by omega
          rw [this, HX2.out]; exact h
      have HS := Lib.hid (lxsmall_any x wr); have HG := Lib.hid (lxgreat_any x wr); have HD := Lib.hid (lxdigit_any x wr)
      have HN : Hid (nmN t x = (smallN x || greatN x || digitN x || decide (x = 95) || (t && decide (x = 39)))) := Lib.hid rfl
      have g4 : ((x : Int) != 95) = !decide (x = 95) := by
        by_cases h : x = 95
        · subst h; rfl
        · simp [h]; omega
      have g5 : ((x : Int) == 39) = decide (x = 39) := by
        by_cases h : x = 39
        · subst h; rfl
        · simp [h]; omega
      generalize smallN x = b1 at *
      generalize greatN x = b2 at *
      generalize digitN x = b3 at *
      generalize decide (x = 95) = b4 at *
      generalize decide (x = 39) = b5 at *
      have HQ0 : ∃ q, q = nmN t x := ⟨_, rfl⟩
      obtain ⟨q, hq⟩ := HQ0
      have HQ := Lib.hid hq.symm
      rw [← hq] at HN HY
      clear hq
      replace hx := hx.symm
      have LEAVE : Hid (q = false → ∃ n : Nat, (k : Int) - a = n ∧ a + n ≤ s.size ∧ Hid ((∀ j, a ≤ j → j < a + n → nmN t (byteS s j) = true) ∧ (a + n < s.size → nmN t (byteS s (a + n)) = false))) := Lib.hid fun h => by
        refine ⟨k - a, by omega, by omega, Lib.hid ⟨fun j h1 h2 => HJ.out j h1 (by omega), fun _ => ?_⟩⟩
        rw [show a + (k - a) = k by omega, HX2.out, HQ.out]; exact h
      have hh : b1 = true ∨ (b1 = false ∧ b2 = true) ∨ (b1 = false ∧ b2 = false ∧ b3 = true) ∨ (b1 = false ∧ b2 = false ∧ b3 = false ∧ b4 = true) ∨ (b1 = false ∧ b2 = false ∧ b3 = false ∧ b4 = false ∧ t = true ∧ b5 = true) ∨ (b1 = false ∧ b2 = false ∧ b3 = false ∧ b4 = false ∧ t = false) ∨ (b1 = false ∧ b2 = false ∧ b3 = false ∧ b4 = false ∧ t = true ∧ b5 = false) := by
        cases b1 <;> cases b2 <;> cases b3 <;> cases b4 <;> cases t <;> cases b5 <;> simp
      rcases hh with rfl | ⟨rfl, rfl⟩ | ⟨rfl, rfl, rfl⟩ | ⟨rfl, rfl, rfl, rfl⟩ | ⟨rfl, rfl, rfl, rfl, rfl, rfl⟩ | ⟨rfl, rfl, rfl, rfl, rfl⟩ | ⟨rfl, rfl, rfl, rfl, rfl, rfl⟩
      all_goals go_wp2_with (first | (go_at_call 102; refine HS.out.mono ?_; rintro e w2 ⟨rfl, rfl⟩) | (go_at_call 105; refine HG.out.mono ?_; rintro e w2 ⟨rfl, rfl⟩) | (go_at_call 106; refine HD.out.mono ?_; rintro e w2 ⟨rfl, rfl⟩))
      all_goals first
        | (go_ret
           obtain ⟨n, h1, h2, h3⟩ := LEAVE.out (by rw [HN.out]; rfl)
           exact ⟨n, by rw [← h1]; rfl, h2, h3, rfl⟩)
        | (go_roundw
           case rel => exact ⟨k + 1, by omega, by omega, by go_num, Lib.hid (HY.out (by rw [HN.out]; simp)), by first | rfl | trivial⟩
           case measure => simp [intOf]; omega)
    · have hkl : k = s.size := by omega
      have LEAVE : Hid (∃ n : Nat, (k : Int) - a = n ∧ a + n ≤ s.size ∧ Hid ((∀ j, a ≤ j → j < a + n → nmN t (byteS s j) = true) ∧ (a + n < s.size → nmN t (byteS s (a + n)) = false))) := Lib.hid
        ⟨k - a, by omega, by omega, Lib.hid ⟨fun j h1 h2 => HJ.out j h1 (by omega), fun h => by omega⟩⟩
      clear hkl
      go_wp2
      go_ret
      obtain ⟨n, h1, h2, h3⟩ := LEAVE.out
      exact ⟨n, by rw [← h1]; rfl, h2, h3, rfl⟩
end Go.Proofs.YtbhicpjhijondaaDoor
