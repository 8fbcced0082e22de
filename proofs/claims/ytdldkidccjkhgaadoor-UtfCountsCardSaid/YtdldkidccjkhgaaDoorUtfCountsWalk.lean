import Derived.Test.YtdldkidccjkhgaaDoorUtfJoinedWalk
namespace Go.Proofs.YtdldkidccjkhgaaDoor
open Go.RowKit Go.Par

set_option maxHeartbeats 1000000 in
theorem utfCounts_walk (s : ByteArray) (hs : s.size ≤ 140737488351232) (w : World) (hT : Tabs w) :
    Calls Tryd.prog 6 #[.string s] w fun e w' => e = .returned (.bool true) ∧ Below w.heap.size w w' := by
  by_cases hg : 20000 < (s.size : Int)
  · go_enter Tryd.func6, Tryd.ntmps6
    go_wp2_with (go_at_call 19; refine (alive_any _ hT).mono ?_; rintro e w1 ⟨rfl, hb1⟩)
    go_ret
    exact ⟨rfl, hb1⟩
  · rcases text_or s with ⟨rs, har, hsr⟩ | hsb
    · have hul := units_le rs har
      have hz := txt_size s rs hsr
      have h1 : (rs.length : Int) ≤ (units rs).length := by omega
      have h2 : ((units rs).length : Int) ≤ s.size := by omega
      have h3 : (s.size : Int) ≤ 3 * (units rs).length := by omega
      have HSR := Lib.hid hsr; clear hsr
      clear hul hz
      go_enter Tryd.func6, Tryd.ntmps6
      go_wp2_with fail
      refine (alive_any _ hT).mono ?_
      rintro e w1 ⟨rfl, hb1⟩
      have hT1 := hT.below hb1
      go_wp2_with fail
      refine (runes_ok s rs HSR.out har w1 hT1 (by omega)).mono ?_
      rintro e w2 ⟨v2, rfl, hown2, hb2⟩
      obtain ⟨A2, c2, hv2⟩ := hown2.form
      rw [ints_length] at hv2
      rw [hv2]
      have hbw2 := hb1.trans (hb2.mono hb1.size)
      have hT2 := hT1.below hb2
      clear hown2 hv2
      go_wp2_with fail
      refine (units_ok s rs HSR.out har w2 hT2 (by omega)).mono ?_
      rintro e w3 ⟨v3, rfl, hown3, hb3⟩
      obtain ⟨A3, c3, hv3⟩ := hown3.form
      rw [ints_length] at hv3
      rw [hv3]
      clear hown3 hv3
      go_wp2
      go_ret
      exact ⟨rfl, hbw2.trans (hb3.mono hbw2.size)⟩
    · go_enter Tryd.func6, Tryd.ntmps6
      go_wp2_with fail
      refine (alive_any _ hT).mono ?_
      rintro e w1 ⟨rfl, hb1⟩
      have hT1 := hT.below hb1
      go_wp2_with fail
      refine (runes_bad s hsb w1 hT1 (by omega)).mono ?_
      rintro e w2 ⟨rfl, hb2⟩
      have hbw2 := hb1.trans (hb2.mono hb1.size)
      have hT2 := hT1.below hb2
      go_wp2_with fail
      refine (units_bad s hsb w2 hT2 (by omega)).mono ?_
      rintro e w3 ⟨rfl, hb3⟩
      go_wp2
      go_ret
      exact ⟨rfl, hbw2.trans (hb3.mono hbw2.size)⟩
end Go.Proofs.YtdldkidccjkhgaaDoor
