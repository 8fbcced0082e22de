/- The walk of FrameOthers. -/
import Derived.Test.YtffblcefnckacaaDoorLawB
namespace Go.Proofs.YtffblcefnckacaaDoor
open Go.RowKit Go.Lib Go.Vfs Go.Par Go.Frm Go.Shelf
set_option linter.unusedVariables false
set_option linter.unusedSimpArgs false

theorem bytes_seg (s : ByteArray) (w : World) (hs : s.size ≤ 2147483648) : ∃ cap w1, (convert 9 22 (.string s)).run Tryd.prog w = .ok (.slice (some ⟨w.heap.size, 0, none⟩) s.size cap) w1 ∧ Seg w1 w1.heap.size (.slice (some ⟨w.heap.size, 0, none⟩) s.size cap) (byteCells s.data.toList) ∧ Below w.heap.size w w1 := by
  obtain ⟨cap, cur, fz, w1, hr, hg, hfz, hcs, hn, hcm, htk, hb, hz⟩ := bytes_of s w hs
  refine ⟨cap, w1, hr, ⟨_, cap, by rw [byteCells_length, ← Lib.size_eq], by rw [byteCells_length, ← Lib.size_eq]; exact hn, hcm, fun hp => ⟨w.heap.size, 0, rfl, by omega, fun j hj => ?_⟩⟩, hb⟩
  rw [Nat.zero_add, cell_of_row _ _ j cur 5 fz hg, ← htk, List.getElem?_take]
  rw [byteCells_length, ← Lib.size_eq] at hj
  rw [if_pos hj]; simp
theorem rows_two (W : World) (v1 v2 : Value) (l1 l2 : List UInt8) (h1 : Seg W W.heap.size v1 (byteCells l1)) (h2 : Seg W W.heap.size v2 (byteCells l2)) : RowsAt (· < (W.alloc (.cells #[v1, v2] 22)).heap.size) (W.alloc (.cells #[v1, v2] 22)) (.slice (some ⟨W.heap.size, 0, none⟩) 2 2) [l1, l2] := by
  have hb : Below W.heap.size W (W.alloc (.cells #[v1, v2] 22)) := (Below.refl _ _).alloc (Nat.le_refl _) _
  refine ⟨[v1, v2], rfl, ?_, fun i hi => ?_⟩
  · have := Seg.new W 22 #[v1, v2] [v1, v2] rfl (by simp [maxLen])
    have e : (W.alloc (.cells #[v1, v2] 22)).heap.size = W.heap.size + 1 := by simp
    rw [e]
    exact this.toS
  · have hi2 : i < 2 := hi
    rcases (show i = 0 ∨ i = 1 by omega) with rfl | rfl
    · exact (h1.below hb).more hb.size
    · exact (h2.below hb).more hb.size
theorem byte_at (s : ByteArray) (k : Nat) (h : k < s.size) : s[k] = s.data.toList.getD k 0 := by
  have hl : k < s.data.toList.length := by rw [← Lib.size_eq]; exact h
  rw [List.getD_eq_getElem?_getD, List.getElem?_eq_getElem hl]
  rfl

set_option maxRecDepth 100000 in
set_option maxHeartbeats 4000000 in
theorem frameOthers_walk (v0 : Value) (l0 : List UInt8) (b0 : l0.length ≤ 140737488351232) (s1 : ByteArray) (b1 : s1.size ≤ 140737488351232) (s2 : ByteArray) (b2 : s2.size ≤ 140737488351232) (a3 : Bool) (w : World) (m : Int) (g0 : Seg w w.heap.size v0 (byteCells l0)) (hG : Gl w m) :
    Calls Tryd.prog 7 #[v0, .string s1, .string s2, .bool a3] w fun e w' => e = .returned (.bool true) ∧ Below w.heap.size w w' := by
  obtain ⟨A0, c0, rfl, -, -, -⟩ := g0.open_bytes
  have HAL := Lib.hid (alive_s w m hG)
  have G0 := Lib.hid g0; have HG := Lib.hid hG
  clear g0 hG
  by_cases hbig : 900 < s1.size + s2.size
  · have g1 : (900 : Int) < (s1.size : Int) + (s2.size : Int) := by omega
    go_enter Tryd.func7, Tryd.ntmps7
    go_wp2_with (go_at_call 10; refine HAL.out.mono ?_; rintro e wa ⟨rfl, HBA⟩)
    go_ret
    exact ⟨rfl, HBA.out⟩
  have g1 : ¬ (900 : Int) < (s1.size : Int) + (s2.size : Int) := by omega
  by_cases he : s1.size = 0
  · have ge : s1.toList.isEmpty = true := by
      rw [Lib.toList_data]
      have : s1.data.toList.length = 0 := by rw [← Lib.size_eq]; exact he
      rw [List.length_eq_zero_iff.1 this]; rfl
    go_enter Tryd.func7, Tryd.ntmps7
    go_wp2_with (go_at_call 10; refine HAL.out.mono ?_; rintro e wa ⟨rfl, HBA⟩)
    go_ret
    exact ⟨rfl, HBA.out⟩
  have ge : s1.toList.isEmpty = false := by
    rw [Lib.toList_data]
    cases h : s1.data.toList with
    | nil => have := Lib.size_eq s1; rw [h, List.length_nil] at this; exact absurd this he
    | cons _ _ => rfl
  by_cases hb6 : 65536 < l0.length
  · have g2 : (65536 : Int) < (l0.length : Int) := by omega
    go_enter Tryd.func7, Tryd.ntmps7
    go_wp2_with (go_at_call 10; refine HAL.out.mono ?_; rintro e wa ⟨rfl, HBA⟩)
    go_ret
    exact ⟨rfl, HBA.out⟩
  have g2 : ¬ (65536 : Int) < (l0.length : Int) := by omega
  go_enter Tryd.func7, Tryd.ntmps7
  go_wp2_with (go_at_call 10; refine HAL.out.mono ?_; rintro e wa ⟨rfl, HBA⟩)
  go_loopw [9, 10] (fun i _ wr => ∃ k : Nat, k ≤ s1.size ∧ i = .int .i64 k ∧ Hid ((s1.data.toList.take k).all nmB = true) ∧ wr = wa) (fun i _ _ => s1.size - (intOf i).toNat)
  case atStart => exact ⟨0, by omega, rfl, Lib.hid (by simp), rfl⟩
  case round =>
    obtain ⟨k, hk, rfl, HN, rfl⟩ := hrel
    by_cases hlt : k < s1.size
    · obtain ⟨x, hxe⟩ : ∃ x : Nat, (s1[k]'hlt).toNat = x := ⟨_, rfl⟩
      have hxe2 : (s1.data[k]'hlt).toNat = x := hxe
      have hxl : (s1.data.toList.getD k 0).toNat = x := by rw [← byte_at s1 k hlt]; exact hxe
      have hlk : k < s1.data.toList.length := by rw [← Lib.size_eq]; exact hlt
      have HP := Lib.hid (nmB_nat (s1.data.toList.getD k 0))
      rw [hxl] at HP
      have HLK := Lib.hid hlk
      clear hxl hlk
      have hcase : (65 ≤ x ∧ x ≤ 90) ∨ (97 ≤ x ∧ x ≤ 122) ∨ x = 45 ∨ (x < 65 ∧ x ≠ 45) ∨ (90 < x ∧ x < 97) ∨ 122 < x := by omega
      rcases hcase with hq | hq | hq | hq | hq | hq
      all_goals (have HQ := Lib.hid hq)
      all_goals (try have g5 : (65 : Int) ≤ (x : Int) := by omega)
      all_goals (try have g5 : ¬ (65 : Int) ≤ (x : Int) := by omega)
      all_goals (try have g6 : (x : Int) ≤ 90 := by omega)
      all_goals (try have g6 : ¬ (x : Int) ≤ 90 := by omega)
      all_goals (try have g7 : (97 : Int) ≤ (x : Int) := by omega)
      all_goals (try have g7 : ¬ (97 : Int) ≤ (x : Int) := by omega)
      all_goals (try have g8 : (x : Int) ≤ 122 := by omega)
      all_goals (try have g8 : ¬ (x : Int) ≤ 122 := by omega)
      all_goals (try have g9 : ((x : Int) == 45) = false := by simp; omega)
      all_goals (try have g9 : ((x : Int) == 45) = true := by simp; omega)
      all_goals clear hq
      · go_wp2
        go_roundw
        case rel => exact ⟨k + 1, by omega, by go_num, Lib.hid (all_take_succ HN.out HLK.out (by rw [HP.out]; exact decide_eq_true (.inl HQ.out))), trivial⟩
        case measure => simp [intOf]; omega
      · go_wp2
        go_roundw
        case rel => exact ⟨k + 1, by omega, by go_num, Lib.hid (all_take_succ HN.out HLK.out (by rw [HP.out]; exact decide_eq_true (.inr (.inl HQ.out)))), trivial⟩
        case measure => simp [intOf]; omega
      · go_wp2
        go_roundw
        case rel => exact ⟨k + 1, by omega, by go_num, Lib.hid (all_take_succ HN.out HLK.out (by rw [HP.out]; exact decide_eq_true (.inr (.inr HQ.out)))), trivial⟩
        case measure => simp [intOf]; omega
      all_goals
        go_wp2
        go_ret
        exact ⟨rfl, HBA.out⟩
    · have hall : s1.data.toList.all nmB = true := by
        have h := HN.out
        rwa [List.take_of_length_le (by rw [← Lib.size_eq]; omega)] at h
      have HALL := Lib.hid hall
      clear hall HN
      go_wp2
      go_loopw [11] (fun i wr2 => ∃ k2 : Nat, k2 ≤ s2.size ∧ i = .int .i64 k2 ∧ Hid ((s2.data.toList.take k2).any crlf = false) ∧ wr2 = wr) (fun i _ => s2.size - (intOf i).toNat)
      case atStart => exact ⟨0, by omega, rfl, Lib.hid (by simp), rfl⟩
      case round =>
        obtain ⟨k2, hk2, rfl, HN2, hwr2⟩ := hrel
        subst hwr2
        by_cases hlt2 : k2 < s2.size
        · obtain ⟨x, hxe⟩ : ∃ x : Nat, (s2[k2]'hlt2).toNat = x := ⟨_, rfl⟩
          have hxe2 : (s2.data[k2]'hlt2).toNat = x := hxe
          have hxl : (s2.data.toList.getD k2 0).toNat = x := by rw [← byte_at s2 k2 hlt2]; exact hxe
          have hlk : k2 < s2.data.toList.length := by rw [← Lib.size_eq]; exact hlt2
          have HX : Hid (crlf (s2.data.toList.getD k2 0) = decide (x = 13 ∨ x = 10)) := Lib.hid (by rw [crlf_nat, hxl])
          have HLK := Lib.hid hlk
          clear hxl hlk
          by_cases h13 : x = 13
          · have g5 : ((x : Int) == 13) = true := by simp [h13]
            clear h13
            go_wp2
            go_ret
            exact ⟨rfl, HBA.out⟩
          · have g5 : ((x : Int) == 13) = false := by simp; omega
            by_cases h10 : x = 10
            · have g6 : ((x : Int) == 10) = true := by simp [h10]
              clear h13 h10
              go_wp2
              go_ret
              exact ⟨rfl, HBA.out⟩
            · have g6 : ((x : Int) == 10) = false := by simp; omega
              have HT : Hid ((s2.data.toList.take (k2 + 1)).any crlf = false) := Lib.hid (any_one HLK.out HN2.out (by rw [HX.out]; exact decide_eq_false (by omega)))
              clear h13 h10
              go_wp2
              go_roundw
              case rel => exact ⟨k2 + 1, by omega, by go_num, HT, trivial⟩
              case measure => simp [intOf]; omega
        · have hany : s2.data.toList.any crlf = false := by
            have h := HN2.out
            rwa [List.take_of_length_le (by rw [← Lib.size_eq]; omega)] at h
          have HANY := Lib.hid hany
          clear hany HN2
          have h0s : 0 < s1.size := by omega
          obtain ⟨y, hye⟩ : ∃ y : Nat, (s1[0]'h0s).toNat = y := ⟨_, rfl⟩
          have hye2 : (s1.data[0]'h0s).toNat = y := hye
          have hhead : s1.data.toList.head? = some (s1[0]'h0s) := by
            rw [List.head?_eq_getElem?, List.getElem?_eq_getElem (by rw [← Lib.size_eq]; exact h0s)]; rfl
          by_cases hc14 : s1.size = 14 ∧ (y = 99 ∨ y = 67)
          · have g5 : ((s1.size : Int) == 14) = true := by simp [hc14.1]
            by_cases h99 : y = 99
            · have g6 : ((y : Int) == 99) = true := by simp [h99]
              clear hc14 h99
              go_wp2
              go_ret
              exact ⟨rfl, HBA.out⟩
            · have g6 : ((y : Int) == 99) = false := by simp; omega
              have g7 : ((y : Int) == 67) = true := by simp; omega
              clear hc14 h99
              go_wp2
              go_ret
              exact ⟨rfl, HBA.out⟩
          · have HFST : Hid (¬ (s1.data.toList.length = 14 ∧ (s1.data.toList.head? = some 99 ∨ s1.data.toList.head? = some 67))) := Lib.hid (by
              rw [← Lib.size_eq, hhead]
              rintro ⟨h1, h2⟩
              apply hc14
              refine ⟨h1, ?_⟩
              rcases h2 with h2 | h2
              · injection h2 with h2; left; rw [← hye, h2]; rfl
              · injection h2 with h2; right; rw [← hye, h2]; rfl)
            have hit := show_any l0.length wr (by omega)
            obtain ⟨E, hE⟩ : ∃ E : ByteArray, E = ⟨(decDigits l0.length).toArray⟩ := ⟨_, rfl⟩
            rw [← hE] at hit
            obtain ⟨k5, hk5⟩ : ∃ k5, k5 = E.size := ⟨_, rfl⟩
            have hk6 : k5 ≤ 6 := by
              have h := decDigits_length l0.length
              have h2 := nd_le 5 l0.length (by omega)
              rw [hk5, hE]
              show (decDigits l0.length).toArray.size ≤ 6
              simp only [List.size_toArray]
              omega
            have f0 : E.size = k5 := hk5.symm
            have f1 : ((⟨#[67, 111, 110, 116, 101, 110, 116, 45, 76, 101, 110, 103, 116, 104, 58]⟩ : ByteArray) ++ E).size = 15 + k5 := by rw [ByteArray.size_append, f0]; rfl
            have f2 : ((⟨#[67, 111, 110, 116, 101, 110, 116, 45, 76, 101, 110, 103, 116, 104, 58]⟩ : ByteArray) ++ E ++ (⟨#[13, 10]⟩ : ByteArray)).size = 17 + k5 := by rw [ByteArray.size_append, f1]; show 15 + k5 + 2 = _; omega
            have p1 : (s1 ++ (⟨#[58]⟩ : ByteArray)).size = s1.size + 1 := by rw [ByteArray.size_append]; rfl
            have p2 : (s1 ++ (⟨#[58]⟩ : ByteArray) ++ s2).size = s1.size + 1 + s2.size := by rw [ByteArray.size_append, p1]
            have p3 : (s1 ++ (⟨#[58]⟩ : ByteArray) ++ s2 ++ (⟨#[13, 10]⟩ : ByteArray)).size = s1.size + 1 + s2.size + 2 := by rw [ByteArray.size_append, p2]; rfl
            have q1 : ((s1 ++ (⟨#[58]⟩ : ByteArray) ++ s2 ++ (⟨#[13, 10]⟩ : ByteArray)) ++ ((⟨#[67, 111, 110, 116, 101, 110, 116, 45, 76, 101, 110, 103, 116, 104, 58]⟩ : ByteArray) ++ E ++ (⟨#[13, 10]⟩ : ByteArray))).size = s1.size + 1 + s2.size + 2 + (17 + k5) := by rw [ByteArray.size_append, p3, f2]
            have q2 : (((⟨#[67, 111, 110, 116, 101, 110, 116, 45, 76, 101, 110, 103, 116, 104, 58]⟩ : ByteArray) ++ E ++ (⟨#[13, 10]⟩ : ByteArray)) ++ (s1 ++ (⟨#[58]⟩ : ByteArray) ++ s2 ++ (⟨#[13, 10]⟩ : ByteArray))).size = 17 + k5 + (s1.size + 1 + s2.size + 2) := by rw [ByteArray.size_append, p3, f2]
            have HSH := Lib.hid hit; have HE := Lib.hid hE
            clear hit hE hk5 hhead
            have hs14 : s1.size ≠ 14 ∨ (s1.size = 14 ∧ y ≠ 99 ∧ y ≠ 67) := by omega
            have hsum : s1.size + s2.size ≤ 900 := by omega
            rcases hs14 with h14 | ⟨h14, h14a, h14b⟩
            · have g5 : ((s1.size : Int) == 14) = false := by simp; omega
              clear hc14 h14
              cases a3
              ·
                obtain ⟨S, hS⟩ : ∃ S, S = ((s1 ++ (⟨#[58]⟩ : ByteArray) ++ s2 ++ (⟨#[13, 10]⟩ : ByteArray)) ++ ((⟨#[67, 111, 110, 116, 101, 110, 116, 45, 76, 101, 110, 103, 116, 104, 58]⟩ : ByteArray) ++ E ++ (⟨#[13, 10]⟩ : ByteArray)) ++ (⟨#[13, 10]⟩ : ByteArray)) := ⟨_, rfl⟩
                have hSs : S.size ≤ 1000 := by rw [hS, ByteArray.size_append, q1]; show _ + 2 ≤ 1000; omega
                have hSl : S.data.toList ++ l0 = (s1.data.toList ++ 58 :: s2.data.toList ++ 13 :: 10 :: (lenLine l0.length ++ [13, 10])) ++ 13 :: 10 :: l0 := by
                  rw [hS, HE.out]
                  simp [ByteArray.data_append, lenLine, clenC]
                have HSL := Lib.hid hSl
                clear hSl
                go_wp2_with (go_at_call 21; refine HSH.out.mono ?_; rintro e w2 ⟨rfl, HB2⟩)
                rw [← hS]
                have hb2 := HBA.out.trans (HB2.out.mono HBA.out.size)
                obtain ⟨cap, w3, hr, hsg3, hb3⟩ := bytes_seg S w2 (by omega)
                rw [hr]
                simp only [Result.andThen]
                rw [Oper.upon_value]
                have hb4 := hb2.trans (hb3.mono hb2.size)
                have hrows := rows_two w3 _ _ S.data.toList l0 hsg3 ((G0.out.below hb4).more hb4.size)
                have hb5 := hb4.alloc hb4.size (.cells #[.slice (some ⟨w2.heap.size, 0, none⟩) S.size cap, .slice A0 l0.length c0] 22)
                have hro := run_others (nm := s1.data.toList) (v := s2.data.toList) (b := l0) false (by intro h; have h3 := Lib.size_eq s1; rw [h] at h3; exact he h3) (fun c hc => List.all_eq_true.1 HALL.out c hc) (fun c hc => by
                  have h3 := List.any_eq_false.1 HANY.out c hc
                  unfold crlf at h3
                  simp at h3
                  exact h3) (by rw [← Lib.size_eq, ← Lib.size_eq]; omega) (by omega) HFST.out
                rw [if_neg (by decide)] at hro
                rw [← HSL.out] at hro
                have hflat : [S.data.toList, l0].flatten = S.data.toList ++ l0 := by simp
                have hall := all_any _ [S.data.toList, l0] _ m hrows (fun l hl => by
                  simp only [List.mem_cons, List.not_mem_nil, or_false] at hl
                  rcases hl with rfl | rfl
                  · rw [← Lib.size_eq]; omega
                  · omega) (by rw [hflat, List.length_append, ← Lib.size_eq]; omega) (HG.out.below hb5)
                rw [hflat, hro] at hall
                dsimp only [List.length_cons, List.length_nil] at hall
                have HAL2 := Lib.hid hall; have HB5 := Lib.hid hb5
                clear hall hb5 hro hrows hb4 hsg3 hb3 hr hb2 hS hSs f1 f2 p1 p2 p3 q1 q2 f0
                go_wp2_with fail
                refine HAL2.out.mono ?_
                rintro e w6 ⟨A6, c6, rfl, H6⟩
                have hb6 := HB5.out.trans (H6.out.2.mono HB5.out.size)
                have hb7 := hb6.alloc hb6.size (.cells #[.slice A0 l0.length c0] 22)
                have hr2 := rows_one w6 (.slice A0 l0.length c0) l0 ((G0.out.below hb6).more hb6.size)
                have hr1 : RowsAt (· < (w6.alloc (.cells #[.slice A0 l0.length c0] 22)).heap.size) (w6.alloc (.cells #[.slice A0 l0.length c0] 22)) (.slice A6 1 c6) [l0] := H6.out.1.keep fun g hg => ⟨by simp; omega, Below.heap_alloc _ _ _ hg.2⟩
                have hsm := sameRows_any _ _ _ _ _ hr1 hr2
                rw [decide_eq_true rfl] at hsm
                have HSM := Lib.hid hsm; have HB7 := Lib.hid hb7
                clear hb6 hb7 hr1 hr2 hsm
                go_wp2_with (go_at_call 18; refine HSM.out.mono ?_; rintro e w8 ⟨rfl, q, rfl⟩)
                go_ret
                exact ⟨rfl, below_drewN HB7.out q⟩
              ·
                obtain ⟨S, hS⟩ : ∃ S, S = (((⟨#[67, 111, 110, 116, 101, 110, 116, 45, 76, 101, 110, 103, 116, 104, 58]⟩ : ByteArray) ++ E ++ (⟨#[13, 10]⟩ : ByteArray)) ++ (s1 ++ (⟨#[58]⟩ : ByteArray) ++ s2 ++ (⟨#[13, 10]⟩ : ByteArray)) ++ (⟨#[13, 10]⟩ : ByteArray)) := ⟨_, rfl⟩
                have hSs : S.size ≤ 1000 := by rw [hS, ByteArray.size_append, q2]; show _ + 2 ≤ 1000; omega
                have hSl : S.data.toList ++ l0 = (lenLine l0.length ++ 13 :: 10 :: (s1.data.toList ++ 58 :: s2.data.toList ++ [13, 10])) ++ 13 :: 10 :: l0 := by
                  rw [hS, HE.out]
                  simp [ByteArray.data_append, lenLine, clenC]
                have HSL := Lib.hid hSl
                clear hSl
                go_wp2_with (go_at_call 21; refine HSH.out.mono ?_; rintro e w2 ⟨rfl, HB2⟩)
                rw [← hS]
                have hb2 := HBA.out.trans (HB2.out.mono HBA.out.size)
                obtain ⟨cap, w3, hr, hsg3, hb3⟩ := bytes_seg S w2 (by omega)
                rw [hr]
                simp only [Result.andThen]
                rw [Oper.upon_value]
                have hb4 := hb2.trans (hb3.mono hb2.size)
                have hrows := rows_two w3 _ _ S.data.toList l0 hsg3 ((G0.out.below hb4).more hb4.size)
                have hb5 := hb4.alloc hb4.size (.cells #[.slice (some ⟨w2.heap.size, 0, none⟩) S.size cap, .slice A0 l0.length c0] 22)
                have hro := run_others (nm := s1.data.toList) (v := s2.data.toList) (b := l0) true (by intro h; have h3 := Lib.size_eq s1; rw [h] at h3; exact he h3) (fun c hc => List.all_eq_true.1 HALL.out c hc) (fun c hc => by
                  have h3 := List.any_eq_false.1 HANY.out c hc
                  unfold crlf at h3
                  simp at h3
                  exact h3) (by rw [← Lib.size_eq, ← Lib.size_eq]; omega) (by omega) HFST.out
                rw [if_pos rfl] at hro
                rw [← HSL.out] at hro
                have hflat : [S.data.toList, l0].flatten = S.data.toList ++ l0 := by simp
                have hall := all_any _ [S.data.toList, l0] _ m hrows (fun l hl => by
                  simp only [List.mem_cons, List.not_mem_nil, or_false] at hl
                  rcases hl with rfl | rfl
                  · rw [← Lib.size_eq]; omega
                  · omega) (by rw [hflat, List.length_append, ← Lib.size_eq]; omega) (HG.out.below hb5)
                rw [hflat, hro] at hall
                dsimp only [List.length_cons, List.length_nil] at hall
                have HAL2 := Lib.hid hall; have HB5 := Lib.hid hb5
                clear hall hb5 hro hrows hb4 hsg3 hb3 hr hb2 hS hSs f1 f2 p1 p2 p3 q1 q2 f0
                go_wp2_with fail
                refine HAL2.out.mono ?_
                rintro e w6 ⟨A6, c6, rfl, H6⟩
                have hb6 := HB5.out.trans (H6.out.2.mono HB5.out.size)
                have hb7 := hb6.alloc hb6.size (.cells #[.slice A0 l0.length c0] 22)
                have hr2 := rows_one w6 (.slice A0 l0.length c0) l0 ((G0.out.below hb6).more hb6.size)
                have hr1 : RowsAt (· < (w6.alloc (.cells #[.slice A0 l0.length c0] 22)).heap.size) (w6.alloc (.cells #[.slice A0 l0.length c0] 22)) (.slice A6 1 c6) [l0] := H6.out.1.keep fun g hg => ⟨by simp; omega, Below.heap_alloc _ _ _ hg.2⟩
                have hsm := sameRows_any _ _ _ _ _ hr1 hr2
                rw [decide_eq_true rfl] at hsm
                have HSM := Lib.hid hsm; have HB7 := Lib.hid hb7
                clear hb6 hb7 hr1 hr2 hsm
                go_wp2_with (go_at_call 18; refine HSM.out.mono ?_; rintro e w8 ⟨rfl, q, rfl⟩)
                go_ret
                exact ⟨rfl, below_drewN HB7.out q⟩
            · have g5 : ((s1.size : Int) == 14) = true := by simp; omega
              have g6 : ((y : Int) == 99) = false := by simp; omega
              have g7 : ((y : Int) == 67) = false := by simp; omega
              clear hc14 h14 h14a h14b
              cases a3
              ·
                obtain ⟨S, hS⟩ : ∃ S, S = ((s1 ++ (⟨#[58]⟩ : ByteArray) ++ s2 ++ (⟨#[13, 10]⟩ : ByteArray)) ++ ((⟨#[67, 111, 110, 116, 101, 110, 116, 45, 76, 101, 110, 103, 116, 104, 58]⟩ : ByteArray) ++ E ++ (⟨#[13, 10]⟩ : ByteArray)) ++ (⟨#[13, 10]⟩ : ByteArray)) := ⟨_, rfl⟩
                have hSs : S.size ≤ 1000 := by rw [hS, ByteArray.size_append, q1]; show _ + 2 ≤ 1000; omega
                have hSl : S.data.toList ++ l0 = (s1.data.toList ++ 58 :: s2.data.toList ++ 13 :: 10 :: (lenLine l0.length ++ [13, 10])) ++ 13 :: 10 :: l0 := by
                  rw [hS, HE.out]
                  simp [ByteArray.data_append, lenLine, clenC]
                have HSL := Lib.hid hSl
                clear hSl
                go_wp2_with (go_at_call 21; refine HSH.out.mono ?_; rintro e w2 ⟨rfl, HB2⟩)
                rw [← hS]
                have hb2 := HBA.out.trans (HB2.out.mono HBA.out.size)
                obtain ⟨cap, w3, hr, hsg3, hb3⟩ := bytes_seg S w2 (by omega)
                rw [hr]
                simp only [Result.andThen]
                rw [Oper.upon_value]
                have hb4 := hb2.trans (hb3.mono hb2.size)
                have hrows := rows_two w3 _ _ S.data.toList l0 hsg3 ((G0.out.below hb4).more hb4.size)
                have hb5 := hb4.alloc hb4.size (.cells #[.slice (some ⟨w2.heap.size, 0, none⟩) S.size cap, .slice A0 l0.length c0] 22)
                have hro := run_others (nm := s1.data.toList) (v := s2.data.toList) (b := l0) false (by intro h; have h3 := Lib.size_eq s1; rw [h] at h3; exact he h3) (fun c hc => List.all_eq_true.1 HALL.out c hc) (fun c hc => by
                  have h3 := List.any_eq_false.1 HANY.out c hc
                  unfold crlf at h3
                  simp at h3
                  exact h3) (by rw [← Lib.size_eq, ← Lib.size_eq]; omega) (by omega) HFST.out
                rw [if_neg (by decide)] at hro
                rw [← HSL.out] at hro
                have hflat : [S.data.toList, l0].flatten = S.data.toList ++ l0 := by simp
                have hall := all_any _ [S.data.toList, l0] _ m hrows (fun l hl => by
                  simp only [List.mem_cons, List.not_mem_nil, or_false] at hl
                  rcases hl with rfl | rfl
                  · rw [← Lib.size_eq]; omega
                  · omega) (by rw [hflat, List.length_append, ← Lib.size_eq]; omega) (HG.out.below hb5)
                rw [hflat, hro] at hall
                dsimp only [List.length_cons, List.length_nil] at hall
                have HAL2 := Lib.hid hall; have HB5 := Lib.hid hb5
                clear hall hb5 hro hrows hb4 hsg3 hb3 hr hb2 hS hSs f1 f2 p1 p2 p3 q1 q2 f0
                go_wp2_with fail
                refine HAL2.out.mono ?_
                rintro e w6 ⟨A6, c6, rfl, H6⟩
                have hb6 := HB5.out.trans (H6.out.2.mono HB5.out.size)
                have hb7 := hb6.alloc hb6.size (.cells #[.slice A0 l0.length c0] 22)
                have hr2 := rows_one w6 (.slice A0 l0.length c0) l0 ((G0.out.below hb6).more hb6.size)
                have hr1 : RowsAt (· < (w6.alloc (.cells #[.slice A0 l0.length c0] 22)).heap.size) (w6.alloc (.cells #[.slice A0 l0.length c0] 22)) (.slice A6 1 c6) [l0] := H6.out.1.keep fun g hg => ⟨by simp; omega, Below.heap_alloc _ _ _ hg.2⟩
                have hsm := sameRows_any _ _ _ _ _ hr1 hr2
                rw [decide_eq_true rfl] at hsm
                have HSM := Lib.hid hsm; have HB7 := Lib.hid hb7
                clear hb6 hb7 hr1 hr2 hsm
                go_wp2_with (go_at_call 18; refine HSM.out.mono ?_; rintro e w8 ⟨rfl, q, rfl⟩)
                go_ret
                exact ⟨rfl, below_drewN HB7.out q⟩
              ·
                obtain ⟨S, hS⟩ : ∃ S, S = (((⟨#[67, 111, 110, 116, 101, 110, 116, 45, 76, 101, 110, 103, 116, 104, 58]⟩ : ByteArray) ++ E ++ (⟨#[13, 10]⟩ : ByteArray)) ++ (s1 ++ (⟨#[58]⟩ : ByteArray) ++ s2 ++ (⟨#[13, 10]⟩ : ByteArray)) ++ (⟨#[13, 10]⟩ : ByteArray)) := ⟨_, rfl⟩
                have hSs : S.size ≤ 1000 := by rw [hS, ByteArray.size_append, q2]; show _ + 2 ≤ 1000; omega
                have hSl : S.data.toList ++ l0 = (lenLine l0.length ++ 13 :: 10 :: (s1.data.toList ++ 58 :: s2.data.toList ++ [13, 10])) ++ 13 :: 10 :: l0 := by
                  rw [hS, HE.out]
                  simp [ByteArray.data_append, lenLine, clenC]
                have HSL := Lib.hid hSl
                clear hSl
                go_wp2_with (go_at_call 21; refine HSH.out.mono ?_; rintro e w2 ⟨rfl, HB2⟩)
                rw [← hS]
                have hb2 := HBA.out.trans (HB2.out.mono HBA.out.size)
                obtain ⟨cap, w3, hr, hsg3, hb3⟩ := bytes_seg S w2 (by omega)
                rw [hr]
                simp only [Result.andThen]
                rw [Oper.upon_value]
                have hb4 := hb2.trans (hb3.mono hb2.size)
                have hrows := rows_two w3 _ _ S.data.toList l0 hsg3 ((G0.out.below hb4).more hb4.size)
                have hb5 := hb4.alloc hb4.size (.cells #[.slice (some ⟨w2.heap.size, 0, none⟩) S.size cap, .slice A0 l0.length c0] 22)
                have hro := run_others (nm := s1.data.toList) (v := s2.data.toList) (b := l0) true (by intro h; have h3 := Lib.size_eq s1; rw [h] at h3; exact he h3) (fun c hc => List.all_eq_true.1 HALL.out c hc) (fun c hc => by
                  have h3 := List.any_eq_false.1 HANY.out c hc
                  unfold crlf at h3
                  simp at h3
                  exact h3) (by rw [← Lib.size_eq, ← Lib.size_eq]; omega) (by omega) HFST.out
                rw [if_pos rfl] at hro
                rw [← HSL.out] at hro
                have hflat : [S.data.toList, l0].flatten = S.data.toList ++ l0 := by simp
                have hall := all_any _ [S.data.toList, l0] _ m hrows (fun l hl => by
                  simp only [List.mem_cons, List.not_mem_nil, or_false] at hl
                  rcases hl with rfl | rfl
                  · rw [← Lib.size_eq]; omega
                  · omega) (by rw [hflat, List.length_append, ← Lib.size_eq]; omega) (HG.out.below hb5)
                rw [hflat, hro] at hall
                dsimp only [List.length_cons, List.length_nil] at hall
                have HAL2 := Lib.hid hall; have HB5 := Lib.hid hb5
                clear hall hb5 hro hrows hb4 hsg3 hb3 hr hb2 hS hSs f1 f2 p1 p2 p3 q1 q2 f0
                go_wp2_with fail
                refine HAL2.out.mono ?_
                rintro e w6 ⟨A6, c6, rfl, H6⟩
                have hb6 := HB5.out.trans (H6.out.2.mono HB5.out.size)
                have hb7 := hb6.alloc hb6.size (.cells #[.slice A0 l0.length c0] 22)
                have hr2 := rows_one w6 (.slice A0 l0.length c0) l0 ((G0.out.below hb6).more hb6.size)
                have hr1 : RowsAt (· < (w6.alloc (.cells #[.slice A0 l0.length c0] 22)).heap.size) (w6.alloc (.cells #[.slice A0 l0.length c0] 22)) (.slice A6 1 c6) [l0] := H6.out.1.keep fun g hg => ⟨by simp; omega, Below.heap_alloc _ _ _ hg.2⟩
                have hsm := sameRows_any _ _ _ _ _ hr1 hr2
                rw [decide_eq_true rfl] at hsm
                have HSM := Lib.hid hsm; have HB7 := Lib.hid hb7
                clear hb6 hb7 hr1 hr2 hsm
                go_wp2_with (go_at_call 18; refine HSM.out.mono ?_; rintro e w8 ⟨rfl, q, rfl⟩)
                go_ret
                exact ⟨rfl, below_drewN HB7.out q⟩
end Go.Proofs.YtffblcefnckacaaDoor
