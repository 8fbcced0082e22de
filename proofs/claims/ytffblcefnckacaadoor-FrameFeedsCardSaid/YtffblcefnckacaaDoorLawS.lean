/- The reference: at, head, folded. -/
import Derived.Test.YtffblcefnckacaaDoorLawR
namespace Go.Proofs.YtffblcefnckacaaDoor
open Go.RowKit Go.Lib Go.Vfs Go.Par Go.Frm Go.Shelf
set_option linter.unusedVariables false
set_option linter.unusedSimpArgs false

theorem drop_pre {p b : List UInt8} {i : Nat} (h : ¬ i + p.length ≤ b.length) (hp : p ≠ []) : p.isPrefixOf (b.drop i) = false := by
  apply Bool.eq_false_iff.2
  intro hq
  have := pre_len hq
  rw [List.length_drop] at this
  have : p.length ≠ 0 := fun h => hp (List.length_eq_zero_iff.1 h)
  omega
theorem take_pre {p b : List UInt8} {i : Nat} (h : i + p.length ≤ b.length) : p.isPrefixOf (b.drop i) = ((b.drop i).take p.length == p) := by
  rw [Bool.eq_iff_iff, List.isPrefixOf_iff_prefix, beq_iff_eq, List.prefix_iff_eq_take]
  exact eq_comm

set_option maxRecDepth 20000 in
theorem at_any (A : Option Addr) (c : Nat) (b p : List UInt8) (i : Nat) (w : World) (hs : Seg w w.heap.size (.slice A b.length c) (byteCells b)) (hnil : A = none → c = 0) (hl : b.length ≤ 1000000000) (hi : i ≤ 2000000000) (hp : p ≠ []) (hpl : p.length ≤ 100) :
    Calls Tryd.prog 33 #[.slice A b.length c, .int .i64 (i : Int), .string ⟨p.toArray⟩] w fun e w' => e = .returned (.bool (p.isPrefixOf (b.drop i))) ∧ w' = w := by
  have f0 : (⟨p.toArray⟩ : ByteArray).size = p.length := by show p.toArray.size = _; simp
  by_cases h : i + p.length ≤ b.length
  · have hf := seg_front hs.toS rfl (i + p.length) h
    have hlt : (b.take (i + p.length)).length = i + p.length := by rw [List.length_take]; omega
    obtain ⟨A2, e2, hsg, -⟩ := seg_from hf.2 hlt.symm i (by omega) hnil
    have hcv := fun X : World => slice_lh A b.length c i (i + p.length) X (by omega) hf.1
    have ei : ((i + p.length : Nat) : Int) = (i : Int) + (p.length : Int) := by omega
    rw [ei] at hcv
    have hdt : (b.take (i + p.length)).drop i = (b.drop i).take p.length := by rw [List.drop_take]; congr 1; omega
    rw [hdt] at hsg e2
    have hlq : ((b.drop i).take p.length).length = p.length := by rw [List.length_take, List.length_drop]; omega
    rw [hlq] at e2 hsg
    simp only [e2] at hcv
    have hcs : (convert 22 9 (.slice A2 p.length (c - i))).run Tryd.prog w = .ok (.string ⟨((b.drop i).take p.length).toArray⟩) w := conv_seg (hsg.seg fun _ h => h)
    have g1 : (i : Int) + (p.length : Int) ≤ (b.length : Int) := by omega
    have HP := Lib.hid (take_pre h)
    obtain ⟨q, hq⟩ : ∃ q, q = (b.drop i).take p.length := ⟨_, rfl⟩
    rw [← hq] at hcs HP
    clear hf hlt e2 hsg ei hdt hlq h hq hs
    go_enter Tryd.func33, Tryd.ntmps33
    go_wp2
    go_ret
    exact ⟨ret_bool HP.out.symm, rfl⟩
  · have g1 : ¬ (i : Int) + (p.length : Int) ≤ (b.length : Int) := by omega
    have HP := Lib.hid (drop_pre h hp)
    go_enter Tryd.func33, Tryd.ntmps33
    go_wp2
    go_ret
    rw [HP.out]
    exact ⟨rfl, rfl⟩
theorem hd4_drop (b : List UInt8) (k : Nat) (h : k < b.length) : hd4 (b.drop k) = if [13, 10, 13, 10].isPrefixOf (b.drop k) then 4 else if hd4 (b.drop (k + 1)) = 0 then 0 else hd4 (b.drop (k + 1)) + 1 := by
  rw [List.drop_eq_getElem_cons h]; rfl
set_option maxRecDepth 20000 in
theorem head_any (A : Option Addr) (c : Nat) (b : List UInt8) (w : World) (hs : Seg w w.heap.size (.slice A b.length c) (byteCells b)) (hnil : A = none → c = 0) (hl : b.length ≤ 1000000000) :
    Calls Tryd.prog 28 #[.slice A b.length c] w fun e w' => e = .returned (.int .i64 (if 0 < hd b ∧ hd b ≤ 1024 then (hd b : Int) else if 1024 ≤ b.length then -1 else 0)) ∧ w' = w := by
  have HA1 := Lib.hid (at_any A c b [13, 10] 0 w hs hnil hl (by omega) (by simp) (by simp))
  have HA2 : Hid (∀ i : Nat, i ≤ 1000000000 → Calls Tryd.prog 33 #[.slice A b.length c, .int .i64 (i : Int), .string ⟨#[13, 10, 13, 10]⟩] w fun e w' => e = .returned (.bool ([13, 10, 13, 10].isPrefixOf (b.drop i))) ∧ w' = w) := Lib.hid fun i hi => at_any A c b [13, 10, 13, 10] i w hs hnil hl (by omega) (by simp) (by simp)
  rw [List.drop_zero] at HA1
  clear hs
  obtain ⟨q, hq⟩ : ∃ q, q = [13, 10].isPrefixOf b := ⟨_, rfl⟩
  rw [← hq] at HA1
  have HQ := Lib.hid hq
  clear hq
  obtain ⟨M, hM⟩ : ∃ M, M = hd b := ⟨_, rfl⟩
  have hMl : M ≤ b.length := by rw [hM]; exact hd_le b
  have HM := Lib.hid hM
  rw [← hM]
  clear hM
  have HS0 : Hid (∃ N : Nat, (if q = true then (2 : Int) else 0) = N ∧ ((N = 0 ∧ M = (if hd4 (b.drop 0) = 0 then 0 else hd4 (b.drop 0) + 0)) ∨ (N ≠ 0 ∧ N = M))) := Lib.hid (by
    cases q
    · refine ⟨0, by simp, .inl ⟨rfl, ?_⟩⟩
      rw [HM.out]; unfold hd; rw [← HQ.out, List.drop_zero]; simp
    · refine ⟨2, by simp, .inr ⟨by omega, ?_⟩⟩
      rw [HM.out]; unfold hd; rw [← HQ.out]; rfl)
  clear HQ
  cases q
  all_goals
    go_enter Tryd.func28, Tryd.ntmps28
    go_wp2_with (go_at_call 33; refine HA1.out.mono ?_; rintro e w1 ⟨rfl, rfl⟩)
    go_loopw [3, 4] (fun nv iv W => ∃ N k : Nat, nv = .int .i64 N ∧ iv = .int .i64 k ∧ k ≤ b.length ∧ N ≤ b.length ∧ Hid ((N = 0 ∧ M = (if hd4 (b.drop k) = 0 then 0 else hd4 (b.drop k) + k)) ∨ (N ≠ 0 ∧ N = M)) ∧ W = w1) (fun _ iv _ => b.length - (intOf iv).toNat)
    case atStart =>
      obtain ⟨N, h1, h2⟩ := HS0.out
      refine ⟨N, 0, ?_, rfl, by omega, ?_, Lib.hid h2, rfl⟩
      · rw [← h1]; rfl
      · rcases h2 with ⟨h3, -⟩ | ⟨-, h3⟩ <;> omega
    case round =>
      obtain ⟨N, k, rfl, rfl, hk, hN, HI, rfl⟩ := hrel
      by_cases hN0 : N = 0
      · have HI2 : Hid (M = (if hd4 (b.drop k) = 0 then 0 else hd4 (b.drop k) + k)) := Lib.hid (by rcases HI.out with h | h; exact h.2; exact absurd hN0 h.1)
        have g0 : ((N : Int) == 0) = true := by simp; omega
        by_cases hlt : k < b.length
        · have HD := Lib.hid (hd4_drop b k hlt)
          have HC := Lib.hid (HA2.out k (by omega))
          obtain ⟨r, hr⟩ : ∃ r, r = [13, 10, 13, 10].isPrefixOf (b.drop k) := ⟨_, rfl⟩
          rw [← hr] at HC
          have HR := Lib.hid hr
          clear hr
          cases r
          · go_wp2_with (go_at_call 33; refine HC.out.mono ?_; rintro e w2 ⟨rfl, rfl⟩)
            go_roundw
            case rel =>
              refine ⟨N, k + 1, by go_num, by go_num, hlt, hN, Lib.hid (.inl ⟨hN0, ?_⟩), trivial⟩
              rw [HI2.out, HD.out, ← HR.out]
              by_cases h0 : hd4 (b.drop (k + 1)) = 0
              · simp [h0]
              · simp [h0]; omega
            case measure => simp [intOf]; omega
          · have hM4 : M = k + 4 := by
              rw [HI2.out, HD.out, ← HR.out]; simp; omega
            have hMl2 : k + 4 ≤ b.length := by omega
            have HM4 := Lib.hid hM4
            clear hM4
            go_wp2_with (go_at_call 33; refine HC.out.mono ?_; rintro e w2 ⟨rfl, rfl⟩)
            go_roundw
            case rel => exact ⟨k + 4, k + 1, by go_num, by go_num, hlt, hMl2, Lib.hid (.inr ⟨by omega, HM4.out.symm⟩), trivial⟩
            case measure => simp [intOf]; omega
        · have g3 : ¬ 0 < (N : Int) := by omega
          have hM0 : M = 0 := by
            have h1 : b.drop k = [] := List.drop_eq_nil_of_le (by omega)
            rw [HI2.out, h1]; rfl
          subst hM0
          clear HI HI2
          by_cases hz : 1024 ≤ b.length
          · have g1 : (1024 : Int) ≤ (b.length : Int) := by omega
            go_wp2
            go_ret
            exact ⟨by simp [hz], rfl⟩
          · have g1 : ¬ (1024 : Int) ≤ (b.length : Int) := by omega
            go_wp2
            go_ret
            exact ⟨by simp [hz], rfl⟩
      · have hNM : N = M := by rcases HI.out with h | h; exact absurd h.1 hN0; exact h.2
        subst hNM
        have g0 : 0 < N := by omega
        have g2 : ((N : Int) == 0) = false := by simp; omega
        clear HI
        by_cases h24 : N ≤ 1024
        · have g3 : (N : Int) ≤ 1024 := by omega
          go_wp2
          go_ret
          exact ⟨by simp [h24, g0], rfl⟩
        · have g3 : ¬ (N : Int) ≤ 1024 := by omega
          have g4 : (1024 : Int) ≤ (b.length : Int) := by omega
          have g5 : 1024 ≤ b.length := by omega
          go_wp2
          go_ret
          exact ⟨by simp [h24, g5], rfl⟩

theorem folded_any (x : UInt8) (w : World) : Calls Tryd.prog 45 #[.int .u8 (x.toNat : Int)] w fun e w' => e = .returned (.int .u8 ((foldB x).toNat : Int)) ∧ w' = w := by
  have hx := x.toNat_lt
  have HF : Hid (((foldB x).toNat : Int) = if 65 ≤ x.toNat ∧ x.toNat ≤ 90 then (x.toNat : Int) + 32 else x.toNat) := Lib.hid (by
    unfold foldB
    have e1 : (65 ≤ x ∧ x ≤ 90) ↔ (65 ≤ x.toNat ∧ x.toNat ≤ 90) := by rw [UInt8.le_iff_toNat_le, UInt8.le_iff_toNat_le]; exact Iff.rfl
    by_cases h : 65 ≤ x.toNat ∧ x.toNat ≤ 90
    · rw [if_pos h, if_pos (by simpa using e1.2 h)]
      rw [UInt8.toNat_add]
      show (((x.toNat + 32) % 256 : Nat) : Int) = _
      rw [Nat.mod_eq_of_lt (by omega)]; rfl
    · rw [if_neg h, if_neg (by simpa using fun h2 h3 => h (e1.1 ⟨h2, h3⟩))])
  obtain ⟨n, hn⟩ : ∃ n : Nat, n = x.toNat := ⟨_, rfl⟩
  rw [← hn] at HF ⊢ hx
  clear hn
  by_cases h1 : 65 ≤ n
  · have g1 : (65 : Int) ≤ (n : Int) := by omega
    by_cases h2 : n ≤ 90
    · have g2 : (n : Int) ≤ 90 := by omega
      go_enter Tryd.func45, Tryd.ntmps45
      go_wp2
      go_ret
      refine ⟨?_, rfl⟩
      rw [HF.out, if_pos ⟨h1, h2⟩]; rfl
    · have g2 : ¬ (n : Int) ≤ 90 := by omega
      go_enter Tryd.func45, Tryd.ntmps45
      go_wp2
      go_ret
      refine ⟨?_, rfl⟩
      rw [HF.out, if_neg (fun h => h2 h.2)]; rfl
  · have g1 : ¬ (65 : Int) ≤ (n : Int) := by omega
    go_enter Tryd.func45, Tryd.ntmps45
    go_wp2
    go_ret
    refine ⟨?_, rfl⟩
    rw [HF.out, if_neg (fun h => h1 h.1)]; rfl
end Go.Proofs.YtffblcefnckacaaDoor
