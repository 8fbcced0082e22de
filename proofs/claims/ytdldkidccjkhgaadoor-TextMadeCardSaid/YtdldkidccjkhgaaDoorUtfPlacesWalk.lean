import Derived.Test.YtdldkidccjkhgaaDoorUtfJoinsWalk
import Derived.Test.YtdldkidccjkhgaaDoorRefO
namespace Go.Proofs.YtdldkidccjkhgaaDoor
open Go.RowKit Go.Par
set_option linter.unusedVariables false

/-- a text, or a text and what is none. -/
theorem text_or2 (s : ByteArray) : (∃ rs, AllR rs ∧ s.data.toList = txt rs) ∨ (Lib.validD s.data.toList = false ∧ ∃ rs rest, AllR rs ∧ Bad rest ∧ s.data.toList = txt rs ++ rest) := by
  obtain ⟨rs, rest, har, hsplit, hrest⟩ := Par.split s.data.toList
  rcases hrest with h0 | hb
  · exact .inl ⟨rs, har, by rw [hsplit, h0, List.append_nil]⟩
  · exact .inr ⟨by rw [hsplit, validD_txt rs _ har]; exact validD_bad hb, rs, rest, har, hb, hsplit⟩

theorem NumPost.open {w w' : World} {o : Option Nat} {e : Ending} (h : NumPost w o e w') : Below w.heap.size w w' ∧ e = .returned (.tuple #[.int .i64 (o.getD 0 : Nat), .int .i64 (if o.isSome then 0 else 70 : Int)]) := by
  cases o with
  | none => exact ⟨h.2, h.1⟩
  | some n => exact ⟨h.2, h.1⟩

set_option maxRecDepth 20000 in
set_option maxHeartbeats 2000000 in
theorem utfPlaces_walk (s : ByteArray) (hs : s.size ≤ 140737488351232) (n : Int) (_hn : -9223372036854775808 ≤ n ∧ n ≤ 9223372036854775807) (w : World) (hT : Tabs w) :
    Calls Tryd.prog 7 #[.string s, .int .i64 n] w fun e w' => e = .returned (.bool true) ∧ Below w.heap.size w w' := by
  clear _hn
  by_cases hg : 5000 < (s.size : Int)
  · go_enter Tryd.func7, Tryd.ntmps7
    go_wp2_with (go_at_call 19; refine (alive_any _ hT).mono ?_; rintro e w1 ⟨rfl, hb1⟩)
    go_ret
    exact ⟨rfl, hb1⟩
  · rcases text_or2 s with ⟨rs, har, hsr⟩ | ⟨hsb, rs, rest, har, hbad, hsr⟩
    · have HSR := Lib.hid hsr; clear hsr
      obtain ⟨o1, ho1⟩ : ∃ o, o = (findP (fun p => decide ((p.2 : Int) = n)) rs).map (·.1) := ⟨_, rfl⟩
      obtain ⟨o2, ho2⟩ : ∃ o, o = (findP (fun p => decide ((p.1 : Int) = n)) rs).map (·.2) := ⟨_, rfl⟩
      have HO1 := Lib.hid ho1; clear ho1
      have HO2 := Lib.hid ho2; clear ho2
      obtain ⟨x1, hx1⟩ : ∃ x, x = o1.getD 0 := ⟨_, rfl⟩
      obtain ⟨x2, hx2⟩ : ∃ x, x = o2.getD 0 := ⟨_, rfl⟩
      obtain ⟨y1, hy1⟩ : ∃ y : Int, y = if o1.isSome then 0 else 70 := ⟨_, rfl⟩
      obtain ⟨y2, hy2⟩ : ∃ y : Int, y = if o2.isSome then 0 else 70 := ⟨_, rfl⟩
      have HX1 := Lib.hid hx1; clear hx1
      have HX2 := Lib.hid hx2; clear hx2
      have HY1 := Lib.hid hy1; clear hy1
      have HY2 := Lib.hid hy2; clear hy2
      go_enter Tryd.func7, Tryd.ntmps7
      go_wp2_with fail
      refine (alive_any _ hT).mono ?_
      rintro e w1 ⟨rfl, hb1⟩
      have hT1 := hT.below hb1
      go_wp2_with fail
      refine (offset_ok s rs HSR.out har n w1 hT1 (by omega)).mono ?_
      intro e w2 h2
      obtain ⟨hb2, rfl⟩ := h2.open
      rw [← HO1.out, ← HX1.out, ← HY1.out]
      clear h2
      have hbw2 := hb1.trans (hb2.mono hb1.size)
      have hT2 := hT1.below hb2
      go_wp2_with fail
      refine (refOffset_ok s rs HSR.out har n w2 (by omega)).mono ?_
      intro e w3 h3
      obtain ⟨hb3, rfl⟩ := h3.open
      rw [← HO1.out, ← HX1.out, ← HY1.out]
      clear h3
      have hbw3 := hbw2.trans (hb3.mono hbw2.size)
      have hT3 := hT2.below hb3
      go_wp2_with fail
      refine (unit_ok s rs HSR.out har n w3 hT3 (by omega)).mono ?_
      intro e w4 h4
      obtain ⟨hb4, rfl⟩ := h4.open
      rw [← HO2.out, ← HX2.out, ← HY2.out]
      clear h4
      have hbw4 := hbw3.trans (hb4.mono hbw3.size)
      go_wp2_with fail
      refine (refUnit_ok s rs HSR.out har n w4 (by omega)).mono ?_
      intro e w5 h5
      obtain ⟨hb5, rfl⟩ := h5.open
      rw [← HO2.out, ← HX2.out, ← HY2.out]
      clear h5
      go_wp2
      go_ret
      exact ⟨rfl, hbw4.trans (hb5.mono hbw4.size)⟩
    · have HSR := Lib.hid hsr; clear hsr
      go_enter Tryd.func7, Tryd.ntmps7
      go_wp2_with fail
      refine (alive_any _ hT).mono ?_
      rintro e w1 ⟨rfl, hb1⟩
      have hT1 := hT.below hb1
      go_wp2_with fail
      refine (offset_bad s hsb n w1 hT1 (by omega)).mono ?_
      rintro e w2 ⟨rfl, hb2⟩
      have hbw2 := hb1.trans (hb2.mono hb1.size)
      have hT2 := hT1.below hb2
      go_wp2_with fail
      refine (refOffset_bad s rs rest HSR.out har hbad n w2 (by omega)).mono ?_
      rintro e w3 ⟨rfl, hb3⟩
      have hbw3 := hbw2.trans (hb3.mono hbw2.size)
      have hT3 := hT2.below hb3
      go_wp2_with fail
      refine (unit_bad s hsb n w3 hT3 (by omega)).mono ?_
      rintro e w4 ⟨rfl, hb4⟩
      have hbw4 := hbw3.trans (hb4.mono hbw3.size)
      go_wp2_with fail
      refine (refUnit_bad s rs rest HSR.out har hbad n w4 (by omega)).mono ?_
      rintro e w5 ⟨rfl, hb5⟩
      go_wp2
      go_ret
      exact ⟨rfl, hbw4.trans (hb5.mono hbw4.size)⟩
end Go.Proofs.YtdldkidccjkhgaaDoor
