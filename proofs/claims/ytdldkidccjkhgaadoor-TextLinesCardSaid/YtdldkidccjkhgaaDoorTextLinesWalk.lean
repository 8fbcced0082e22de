import Derived.Test.YtdldkidccjkhgaaDoorT7d
namespace Go.Proofs.YtdldkidccjkhgaaDoor
open Go.RowKit Go.Par
set_option linter.unusedVariables false

theorem count_take (l : List UInt8) (k : Nat) (hk : k < l.length) : (l.take (k + 1)).count 10 = (l.take k).count 10 + if l.getD k 0 = 10 then 1 else 0 := by
  rw [take_snoc l k (l.getD k 0) (by simp [List.getD_eq_getElem?_getD, hk]), List.count_append, List.count_singleton]
  simp

set_option maxRecDepth 20000 in
set_option maxHeartbeats 1000000 in
theorem textLines_walk (s : ByteArray) (hs : s.size ≤ 140737488351232) (t : ByteArray) (ht : t.size ≤ 140737488351232) (w : World) (hT : Tabs w) :
    Calls Tryd.prog 13 #[.string s, .string t] w fun e w' => e = .returned (.bool true) ∧ Below w.heap.size w w' := by
  obtain ⟨cs, hcs⟩ : ∃ n, n = Lib.countByte s.data.toList 10 := ⟨_, rfl⟩
  obtain ⟨ct, hct⟩ : ∃ n, n = Lib.countByte t.data.toList 10 := ⟨_, rfl⟩
  have hst : Lib.countByte (s ++ t).data.toList 10 = cs + ct := by
    rw [hcs, hct]; unfold Lib.countByte; rw [ByteArray.data_append, Array.toList_append, List.count_append]
  have hcle : cs ≤ s.size := by rw [hcs, Lib.size_eq]; exact List.count_le_length
  have htle : ct ≤ t.size := by rw [hct, Lib.size_eq]; exact List.count_le_length
  have h1 := fun wx => lines_any s (by omega) wx
  have h2 := fun wx => lines_any t (by omega) wx
  have h3 := fun wx => lines_any (s ++ t) (by rw [ByteArray.size_append]; omega) wx
  rw [← hcs] at h1
  rw [← hct] at h2
  rw [hst] at h3
  have HC := Lib.hid hcs; clear hcs hct hst
  go_enter Tryd.func13, Tryd.ntmps13
  go_wp2_with fail
  refine (alive7_any _ hT).mono ?_
  rintro e w1 ⟨rfl, hb1⟩
  go_wp2
  go_loopw [5, 6] (fun n i wr => ∃ k m : Nat, k ≤ s.size ∧ i = .int .i64 k ∧ n = .int .i64 ((m : Int) + 1) ∧ m ≤ k ∧ Hid ((s.data.toList.take k).count 10 = m) ∧ w1 = wr) (fun _ i _ => s.size - (intOf i).toNat)
  case atStart => exact ⟨0, 0, by omega, rfl, rfl, by omega, Lib.hid rfl, rfl⟩
  case round =>
    obtain ⟨k, m, hk, rfl, rfl, hmk, HM, rfl⟩ := hrel
    by_cases hlt : k < s.size
    · have hck := count_take s.data.toList k (by rw [← Lib.size_eq]; exact hlt)
      rw [HM.out] at hck
      have hg : s[k] = s.data.toList.getD k 0 := by
        have hk' : k < s.data.size := hlt
        simp only [List.getD_eq_getElem?_getD, Array.getElem?_toList, Array.getElem?_eq_getElem hk']
        rfl
      clear h1 h2 h3
      by_cases h10 : s.data.toList.getD k 0 = 10
      · rw [if_pos h10] at hck
        have HCK := Lib.hid hck; clear hck
        have hq : ((s[k].toNat : Int) == 10) = true := by rw [hg, h10]; rfl
        clear hg h10
        go_wp2
        go_roundw
        case rel => exact ⟨k + 1, m + 1, by omega, by go_num, by go_num, by omega, HCK, trivial⟩
        case measure => simp [intOf]; omega
      · rw [if_neg h10] at hck
        have HCK := Lib.hid hck; clear hck
        have hq : ((s[k].toNat : Int) == 10) = false := by
          rw [hg]
          refine beq_eq_false_iff_ne.2 fun e => h10 ?_
          apply UInt8.toNat.inj; have : (10 : UInt8).toNat = 10 := rfl; omega
        clear hg h10
        go_wp2
        go_roundw
        case rel => exact ⟨k + 1, m, by omega, by go_num, by go_num, by omega, HCK, trivial⟩
        case measure => simp [intOf]; omega
    · have hkl : k = s.size := by omega
      have hm : cs = m := by
        rw [HC.out, ← HM.out, hkl, Lib.size_eq, take_all]; rfl
      subst hm
      have HKL := Lib.hid hkl; clear hkl
      go_wp2_with fail
      refine (h1 _).mono ?_
      rintro e w2 ⟨rfl, rfl⟩
      go_wp2_with fail
      refine (h3 _).mono ?_
      rintro e w3 ⟨rfl, rfl⟩
      go_wp2_with fail
      refine (h1 _).mono ?_
      rintro e w4 ⟨rfl, rfl⟩
      go_wp2_with fail
      refine (h2 _).mono ?_
      rintro e w5 ⟨rfl, rfl⟩
      clear h1 h2 h3
      go_wp2
      go_ret
      exact ⟨congrArg (fun x => Ending.returned (.bool x)) (beq_iff_eq.2 (by omega) : ((cs : Int) + ct + 1 == cs + 1 + (ct + 1) - 1) = true), hb1⟩
end Go.Proofs.YtdldkidccjkhgaaDoor
