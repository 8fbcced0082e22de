/- number. -/
import Derived.Test.YtffblcefnckacaaDoorFJ
namespace Go.Proofs.YtffblcefnckacaaDoor
open Go.RowKit Go.Lib Go.Vfs Go.Par Go.Frm
set_option linter.unusedVariables false
set_option linter.unusedSimpArgs false

theorem digB_nat (c : UInt8) : digB c = decide (48 ≤ c.toNat ∧ c.toNat ≤ 57) := by
  have h256 : ∀ n : Fin 256, digB (UInt8.ofNat n.val) = decide (48 ≤ (UInt8.ofNat n.val).toNat ∧ (UInt8.ofNat n.val).toNat ≤ 57) := by decide +kernel
  have := h256 ⟨c.toNat, c.toNat_lt⟩
  simpa only [UInt8.ofNat_toNat] using this
theorem numD_take {l : List UInt8} {k : Nat} (hk : k < l.length) : numD (l.take (k + 1)) = numD (l.take k) * 10 + ((l.getD k 0).toNat - 48) := by
  unfold numD
  rw [List.take_succ_eq_append_getElem hk, List.foldl_append, List.getD_eq_getElem?_getD, List.getElem?_eq_getElem hk]; rfl
theorem numD_lt {l : List UInt8} : ∀ {k : Nat}, k ≤ l.length → (l.take k).all digB = true → numD (l.take k) < 10 ^ k
  | 0, _, _ => by simp [numD]
  | k + 1, hk, ha => by
    have h1 : (l.take k).all digB = true := by
      rw [List.take_succ_eq_append_getElem (by omega), List.all_append, Bool.and_eq_true] at ha; exact ha.1
    have h2 : digB (l.getD k 0) = true := by
      rw [List.take_succ_eq_append_getElem (by omega), List.all_append, Bool.and_eq_true] at ha
      rw [List.getD_eq_getElem?_getD, List.getElem?_eq_getElem (by omega)]
      simpa using ha.2
    rw [digB_nat, decide_eq_true_iff] at h2
    have ih := numD_lt (k := k) (by omega) h1
    rw [numD_take (by omega), Nat.pow_succ]; omega

set_option maxRecDepth 20000 in
set_option maxHeartbeats 2000000 in
theorem number_any (v : Value) (l : List UInt8) (B : Nat) (w : World) (h : Seg w B v (Lib.byteCells l)) :
    Calls Tryd.prog 43 #[v] w fun e w' => e = .returned (.tuple #[.int .i64 ((sizeV l).getD 0 : Nat), .bool (sizeV l).isSome]) ∧ w' = w := by
  obtain ⟨A, c, rfl, hc, hm, ha⟩ := h.open_bytes
  clear h
  obtain ⟨r, hr⟩ : ∃ r, r = sizeV l := ⟨_, rfl⟩
  rw [← hr]
  by_cases hlen : 1 ≤ l.length ∧ l.length ≤ 6
  · have HRR := Lib.hid hr; clear hr
    obtain ⟨hl1, hl6⟩ := hlen
    go_enter Tryd.func43, Tryd.ntmps43
    go_wp2
    go_loopw [4, 17] (fun n i wr => ∃ k m : Nat, k ≤ l.length ∧ i = .int .i64 k ∧ n = .int .i64 m ∧ m < 1000000 ∧ Hid (m = numD (l.take k) ∧ (l.take k).all digB = true) ∧ wr = w) (fun _ i _ => l.length - (intOf i).toNat)
    case atStart => exact ⟨0, 0, by omega, rfl, rfl, by omega, Lib.hid ⟨rfl, by simp⟩, rfl⟩
    case round =>
      obtain ⟨k, m, hk, rfl, rfl, hm6, HN, rfl⟩ := hrel
      by_cases hlt : k < l.length
      · obtain ⟨b, off, x, rfl, hb, hc1, hx, Hx⟩ := ha.byte hlt
        have HA := Lib.hid ha; clear ha
        have HP := Lib.hid (digB_nat (l.getD k 0))
        by_cases hq : 48 ≤ x ∧ x ≤ 57
        · have hd : digB (l.getD k 0) = true := by rw [HP.out, Hx.out]; exact decide_eq_true hq
          have ht := all_take_succ HN.out.2 hlt hd
          have hn := numD_take hlt
          rw [← HN.out.1, Hx.out] at hn
          have hb6 := numD_lt (k := k + 1) (by omega) ht
          have hp : 10 ^ (k + 1) ≤ 10 ^ 6 := Nat.pow_le_pow_right (by decide) (by omega)
          have hm7 : m * 10 + (x - 48) < 1000000 := by omega
          have HN2 : Hid (m * 10 + (x - 48) = numD (l.take (k + 1)) ∧ (l.take (k + 1)).all digB = true) := Lib.hid ⟨hn.symm, ht⟩
          obtain ⟨h48, h57⟩ := hq
          have g1 : ¬ (x : Int) < 48 := by omega
          have g2 : ¬ (57 : Int) < (x : Int) := by omega
          clear ht hn hb6 hp hd HN
          go_wp2
          go_roundw
          case rel => exact ⟨k + 1, m * 10 + (x - 48), by omega, by go_num, by go_num, hm7, HN2, trivial⟩
          case measure => simp [intOf]; omega
        · have hd : digB (l.getD k 0) = false := by rw [HP.out, Hx.out]; exact decide_eq_false hq
          have HR : Hid (r = none) := Lib.hid (by
            rw [HRR.out]; unfold sizeV
            rw [if_neg]; rintro ⟨-, -, h⟩; rw [all_stop hlt hd] at h; exact absurd h (by decide))
          by_cases g1 : (x : Int) < 48
          · clear hq hd
            go_wp2
            go_ret2
            exact ⟨by rw [HR.out]; rfl, rfl⟩
          · have g2 : (57 : Int) < (x : Int) := by omega
            clear hq hd
            go_wp2
            go_ret2
            exact ⟨by rw [HR.out]; rfl, rfl⟩
      · have hkl : k = l.length := by omega
        have HR : Hid (r = some m) := Lib.hid (by
          have h1 := HN.out.1; have h2 := HN.out.2
          rw [hkl, List.take_of_length_le (Nat.le_refl _)] at h1 h2
          rw [HRR.out]; unfold sizeV
          rw [if_pos ⟨hl1, hl6, h2⟩, h1])
        have HKL := Lib.hid hkl; clear hkl
        go_wp2
        go_ret2
        exact ⟨by rw [HR.out]; rfl, rfl⟩
  · have HR : Hid (r = none) := Lib.hid (by
      rw [hr]; unfold sizeV
      rw [if_neg]; rintro ⟨h1, h2, -⟩; exact hlen ⟨h1, h2⟩)
    clear hr ha
    by_cases hl1 : (l.length : Int) < 1
    · clear hlen
      go_enter Tryd.func43, Tryd.ntmps43
      go_wp2
      go_ret2
      exact ⟨by rw [HR.out]; rfl, rfl⟩
    · have hl6 : (6 : Int) < (l.length : Int) := by omega
      clear hlen
      go_enter Tryd.func43, Tryd.ntmps43
      go_wp2
      go_ret2
      exact ⟨by rw [HR.out]; rfl, rfl⟩
end Go.Proofs.YtffblcefnckacaaDoor
