import Derived.Test.YtdldkidccjkhgaaDoorUtfA
namespace Go.Proofs.YtdldkidccjkhgaaDoor
open Go.RowKit Go.Par

/-- a string is a text, or it isn't. -/
theorem text_or (s : ByteArray) : (∃ rs, AllR rs ∧ s.data.toList = txt rs) ∨ Lib.validD s.data.toList = false := by
  cases h : Lib.validD s.data.toList with
  | false => exact .inr rfl
  | true => exact .inl ((validD_iff _).1 h)

set_option maxHeartbeats 1000000 in
theorem utfJoined_walk (s : ByteArray) (hs : s.size ≤ 140737488351232) (t : ByteArray) (ht : t.size ≤ 140737488351232) (w : World) (hT : Tabs w) :
    Calls Tryd.prog 3 #[.string s, .string t] w fun e w' => e = .returned (.bool true) ∧ Below w.heap.size w w' := by
  by_cases hg : 5000 < (s.size : Int) + t.size
  · go_enter Tryd.func3, Tryd.ntmps3
    go_wp2_with (go_at_call 19; refine (alive_any _ hT).mono ?_; rintro e w1 ⟨rfl, hb1⟩)
    go_ret
    exact ⟨rfl, hb1⟩
  · rcases text_or s with ⟨rs, har, hsr⟩ | hsb
    · rcases text_or t with ⟨qs, haq, htq⟩ | htb
      · have HSR := Lib.hid hsr; clear hsr
        have HTQ := Lib.hid htq; clear htq
        go_enter Tryd.func3, Tryd.ntmps3
        go_wp2_with fail
        refine (alive_any _ hT).mono ?_
        rintro e w1 ⟨rfl, hb1⟩
        have hT1 := hT.below hb1
        go_wp2_with fail
        refine (units_ok s rs HSR.out har w1 hT1 (by omega)).mono ?_
        rintro e w2 ⟨v2, rfl, hown2, hb2⟩
        have hbw2 := hb1.trans (hb2.mono hb1.size)
        have hT2 := hT1.below hb2
        go_wp2_with fail
        refine (units_ok t qs HTQ.out haq w2 hT2 (by omega)).mono ?_
        rintro e w3 ⟨v3, rfl, hown3, hb3⟩
        have hbw3 := hbw2.trans (hb3.mono hbw2.size)
        have hT3 := hT2.below hb3
        go_wp2_with fail
        have hst : (s ++ t).data.toList = txt (rs ++ qs) := by
          rw [txt_append, ← HSR.out, ← HTQ.out]; simp
        have hstz : (s ++ t).size ≤ 100000 := by rw [ByteArray.size_append]; omega
        have HST := Lib.hid hst; clear hst
        refine (units_ok (s ++ t) (rs ++ qs) HST.out (har.append haq) w3 hT3 hstz).mono ?_
        rintro e w4 ⟨v4, rfl, hown4, hb4⟩
        have hbw4 := hbw3.trans (hb4.mono hbw3.size)
        rw [units_append, ints_append] at hown4
        have hown2' := (hown2.below hb3).below hb4
        have hown3' := hown3.below hb4
        have hl1 := units_le rs har
        have hl2 := units_le qs haq
        have hz1 := txt_size s rs HSR.out
        have hz2 := txt_size t qs HTQ.out
        have hbd : (units rs).length + (units qs).length ≤ 2147483648 := by omega
        have hw1 := hb1.size
        have hw4 := hbw4.size
        have hw14 : w1.heap.size ≤ w4.heap.size := Nat.le_trans hb2.size (Nat.le_trans hb3.size hb4.size)
        clear hl1 hl2 hz1 hz2
        go_wp2_with (at_builtin; refine wpList_app_g _ rfl _ _ _ rfl w1.heap.size 3 _ intE v2 _ rfl hown2' _ v3 _ rfl hown3'.seg (one_ints _) ?c1 ?c2 ?_)
        case c1 => rw [ints_length, ints_length]; exact hbd
        case c2 => exact hw14
        intro v5 w5 hown5 hg5 hat5
        have hb5 : Below w.heap.size w w5 := hbw4.grown hg5 hbw4.size (fun k hk => Nat.le_trans hw1 (hown2'.lt k hk).1)
        have hseg4 : Seg w5 w5.heap.size v4 (ints (units rs) ++ ints (units qs)) := by
          have hk : v4.ownBlock = none ∨ v4.ownBlock ≠ v2.ownBlock := by
            cases h4 : v4.ownBlock with
            | none => exact .inl rfl
            | some k =>
              refine .inr (fun e => ?_)
              have a := (hown4.lt k h4).1
              have b := (((hown2.below hb3).lt k e.symm)).2
              omega
          exact (show Par.Own w5 w3.heap.size 3 v4 _ from World.ownsRow.kept hown4 hg5 hk).seg
        rw [← ints_append] at hseg4 hown5
        go_wp2_with (go_at_call 21; refine (sameInts_any _ _ _ _ _ _ hseg4 hown5.seg).mono ?_; rintro e w6 ⟨rfl, n6, rfl⟩; rw [decide_eq_true rfl])
        go_ret
        exact ⟨rfl, below_drewN hb5 n6⟩
      · have HSR := Lib.hid hsr; clear hsr
        go_enter Tryd.func3, Tryd.ntmps3
        go_wp2_with fail
        refine (alive_any _ hT).mono ?_
        rintro e w1 ⟨rfl, hb1⟩
        have hT1 := hT.below hb1
        go_wp2_with fail
        refine (units_ok s rs HSR.out har w1 hT1 (by omega)).mono ?_
        rintro e w2 ⟨v2, rfl, hown2, hb2⟩
        have hbw2 := hb1.trans (hb2.mono hb1.size)
        have hT2 := hT1.below hb2
        go_wp2_with fail
        refine (units_bad t htb w2 hT2 (by omega)).mono ?_
        rintro e w3 ⟨rfl, hb3⟩
        go_wp2
        go_ret
        exact ⟨rfl, hbw2.trans (hb3.mono hbw2.size)⟩
    · go_enter Tryd.func3, Tryd.ntmps3
      go_wp2_with fail
      refine (alive_any _ hT).mono ?_
      rintro e w1 ⟨rfl, hb1⟩
      have hT1 := hT.below hb1
      go_wp2_with fail
      refine (units_bad s hsb w1 hT1 (by omega)).mono ?_
      rintro e w2 ⟨rfl, hb2⟩
      have hbw2 := hb1.trans (hb2.mono hb1.size)
      have hT2 := hT1.below hb2
      go_wp2_with fail
      rcases text_or t with ⟨qs, haq, htq⟩ | htb
      · have HTQ := Lib.hid htq; clear htq
        refine (units_ok t qs HTQ.out haq w2 hT2 (by omega)).mono ?_
        rintro e w3 ⟨v3, rfl, hown3, hb3⟩
        go_wp2
        go_ret
        exact ⟨rfl, hbw2.trans (hb3.mono hbw2.size)⟩
      · refine (units_bad t htb w2 hT2 (by omega)).mono ?_
        rintro e w3 ⟨rfl, hb3⟩
        go_wp2
        go_ret
        exact ⟨rfl, hbw2.trans (hb3.mono hbw2.size)⟩
end Go.Proofs.YtdldkidccjkhgaaDoor
