/- isName, number. -/
import Derived.Test.YtffblcefnckacaaDoorFI
import Derived.Test.YtffblcefnckacaaDoorFH
namespace Go.Proofs.YtffblcefnckacaaDoor
open Go.RowKit Go.Lib Go.Vfs Go.Par Go.Frm
set_option linter.unusedVariables false
set_option linter.unusedSimpArgs false

theorem nmB_nat (c : UInt8) : nmB c = decide ((65 ≤ c.toNat ∧ c.toNat ≤ 90) ∨ (97 ≤ c.toNat ∧ c.toNat ≤ 122) ∨ c.toNat = 45) := by
  have h256 : ∀ n : Fin 256, nmB (UInt8.ofNat n.val) = decide ((65 ≤ (UInt8.ofNat n.val).toNat ∧ (UInt8.ofNat n.val).toNat ≤ 90) ∨ (97 ≤ (UInt8.ofNat n.val).toNat ∧ (UInt8.ofNat n.val).toNat ≤ 122) ∨ (UInt8.ofNat n.val).toNat = 45) := by decide +kernel
  have := h256 ⟨c.toNat, c.toNat_lt⟩
  simpa only [UInt8.ofNat_toNat] using this
theorem all_take_succ {l : List UInt8} {k : Nat} {p : UInt8 → Bool} (h : (l.take k).all p = true) (hk : k < l.length) (hp : p (l.getD k 0) = true) : (l.take (k + 1)).all p = true := by
  rw [List.take_succ_eq_append_getElem hk, List.all_append, h]
  rw [List.getD_eq_getElem?_getD, List.getElem?_eq_getElem hk] at hp
  simpa using hp
theorem all_stop {l : List UInt8} {k : Nat} {p : UInt8 → Bool} (hk : k < l.length) (hp : p (l.getD k 0) = false) : l.all p = false := by
  rw [List.getD_eq_getElem?_getD, List.getElem?_eq_getElem hk] at hp
  rw [List.all_eq_false]
  exact ⟨_, List.getElem_mem hk, by simpa using hp⟩

set_option maxRecDepth 20000 in
set_option maxHeartbeats 2000000 in
theorem isNm_any (v : Value) (l : List UInt8) (B : Nat) (w : World) (h : Seg w B v (Lib.byteCells l)) :
    Calls Tryd.prog 40 #[v] w fun e w' => e = .returned (.bool (isNm l)) ∧ w' = w := by
  obtain ⟨A, c, rfl, hc, hm, ha⟩ := h.open_bytes
  clear h
  obtain ⟨r, hr⟩ : ∃ r, r = isNm l := ⟨_, rfl⟩
  rw [← hr]
  have HRR := Lib.hid hr; clear hr
  go_enter Tryd.func40, Tryd.ntmps40
  go_wp2
  go_loopw [9] (fun i wr => ∃ k : Nat, k ≤ l.length ∧ i = .int .i64 k ∧ Hid ((l.take k).all nmB = true) ∧ wr = w) (fun i _ => l.length - (intOf i).toNat)
  case atStart => exact ⟨0, by omega, rfl, Lib.hid (by simp), rfl⟩
  case round =>
    obtain ⟨k, hk, rfl, HN, rfl⟩ := hrel
    by_cases hlt : k < l.length
    · obtain ⟨b, off, x, rfl, hb, hc1, hx, Hx⟩ := ha.byte hlt
      have HA := Lib.hid ha; clear ha
      have HP := Lib.hid (nmB_nat (l.getD k 0))
      have hcase : (65 ≤ x ∧ x ≤ 90) ∨ (97 ≤ x ∧ x ≤ 122) ∨ x = 45 ∨ (x < 65 ∧ x ≠ 45) ∨ (90 < x ∧ x < 97) ∨ 122 < x := by omega
      rcases hcase with hq | hq | hq | hq | hq | hq
      all_goals (have HQ := Lib.hid hq)
      all_goals (try have g1 : (65 : Int) ≤ (x : Int) := by omega)
      all_goals (try have g1 : ¬ (65 : Int) ≤ (x : Int) := by omega)
      all_goals (try have g2 : (x : Int) ≤ 90 := by omega)
      all_goals (try have g2 : ¬ (x : Int) ≤ 90 := by omega)
      all_goals (try have g3 : (97 : Int) ≤ (x : Int) := by omega)
      all_goals (try have g3 : ¬ (97 : Int) ≤ (x : Int) := by omega)
      all_goals (try have g4 : (x : Int) ≤ 122 := by omega)
      all_goals (try have g4 : ¬ (x : Int) ≤ 122 := by omega)
      all_goals (try have g5 : ((x : Int) != 45) = false := by simp; omega)
      all_goals (try have g5 : ((x : Int) != 45) = true := by simp; omega)
      all_goals clear hq
      · go_wp2
        go_roundw
        case rel => exact ⟨k + 1, by omega, by go_num, Lib.hid (all_take_succ HN.out hlt (by rw [HP.out, Hx.out]; exact decide_eq_true (.inl HQ.out))), trivial⟩
        case measure => simp [intOf]; omega
      · go_wp2
        go_roundw
        case rel => exact ⟨k + 1, by omega, by go_num, Lib.hid (all_take_succ HN.out hlt (by rw [HP.out, Hx.out]; exact decide_eq_true (.inr (.inl HQ.out)))), trivial⟩
        case measure => simp [intOf]; omega
      · go_wp2
        go_roundw
        case rel => exact ⟨k + 1, by omega, by go_num, Lib.hid (all_take_succ HN.out hlt (by rw [HP.out, Hx.out]; exact decide_eq_true (.inr (.inr HQ.out)))), trivial⟩
        case measure => simp [intOf]; omega
      all_goals
        have HR : Hid (isNm l = false) := Lib.hid (by
          unfold isNm
          rw [all_stop hlt (by rw [HP.out, Hx.out]; exact decide_eq_false (by have := HQ.out; omega)), Bool.and_false])
        go_wp2
        go_ret
        exact ⟨ret_bool (by rw [HRR.out, HR.out]), rfl⟩
    · have hkl : k = l.length := by omega
      have HR : Hid (isNm l = decide (0 < l.length)) := Lib.hid (by
        have hn := HN.out
        rw [hkl, List.take_of_length_le (Nat.le_refl _)] at hn
        unfold isNm
        rw [hn, Bool.and_true]
        cases l <;> simp)
      have HKL := Lib.hid hkl; clear hkl
      go_wp2
      go_ret
      exact ⟨ret_bool (by rw [HRR.out, HR.out]), rfl⟩
end Go.Proofs.YtffblcefnckacaaDoor
