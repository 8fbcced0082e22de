import Derived.Test.YtdldkidccjkhgaaDoorT10c
namespace Go.Proofs.YtdldkidccjkhgaaDoor
open Go.RowKit Go.Par
set_option linter.unusedVariables false

set_option maxRecDepth 100000 in
set_option maxHeartbeats 2000000 in
theorem textBetweens_walk (s : ByteArray) (hs : s.size ≤ 140737488351232) (t : ByteArray) (ht : t.size ≤ 140737488351232) (w : World) (hT : Tabs w) :
    Calls Tryd.prog 16 #[.string s, .string t] w fun e w' => e = .returned (.bool true) ∧ Below w.heap.size w w' := by
  by_cases hg : 20000 < (s.size : Int) + (t.size : Int)
  · go_enter Tryd.func16, Tryd.ntmps16
    go_wp2_with (go_at_call 39; refine (alive7_any _ hT).mono ?_; rintro e w1 ⟨rfl, hb1⟩)
    go_ret
    exact ⟨rfl, hb1⟩
  · have hsl : s.size ≤ 100000 := by omega
    have htl : t.size ≤ 100000 := by omega
    by_cases hv : Lib.validD s.data.toList = false ∨ Lib.validD t.data.toList = false
    · have HV := Lib.hid hv; clear hv
      go_enter Tryd.func16, Tryd.ntmps16
      go_wp2_with fail
      refine (alive7_any _ hT).mono ?_
      rintro e w1 ⟨rfl, hb1⟩
      have hT1 := hT.below hb1
      go_wp2_with fail
      refine (between_bad s t HV.out hsl htl w1 hT1).mono ?_
      rintro e w2 ⟨rfl, hb2⟩
      have hbw2 := hb1.trans (hb2.mono hb1.size)
      go_wp2_with fail
      refine (rbetween_bad s t HV.out hsl htl _).mono ?_
      rintro e w3 ⟨rfl, hb3⟩
      have hz3 : w2.heap.size + 1 ≤ w3.heap.size := by have := hb3.size; simpa using this
      obtain ⟨c0, c1, c2, c3, c4, _⟩ := (Box5.new w2 (.int .i64 0) (.int .i64 0) (.int .i64 0) (.int .i64 0) (.string ⟨#[]⟩)).below (by simp) hb3
      have hbw3 : Below w.heap.size w w3 := (hbw2.alloc hbw2.size _).trans (hb3.mono (by have := hbw2.size; simp; omega))
      have hz2 := hbw2.size
      have hne : w2.heap.size ≠ w3.heap.size := by omega
      have hlt : w2.heap.size < w3.heap.size := by omega
      clear hb2 hb3
      go_wp2
      go_ret
      exact ⟨by simp, hbw3.alloc (by omega) _⟩
    · have hv1 : Lib.validD s.data.toList = true := by cases h : Lib.validD s.data.toList with | true => rfl | false => exact absurd (.inl h) hv
      have hv2 : Lib.validD t.data.toList = true := by cases h : Lib.validD t.data.toList with | true => rfl | false => exact absurd (.inr h) hv
      obtain ⟨a, ha, hsa⟩ := (validD_iff _).1 hv1
      obtain ⟨b, hb, htb⟩ := (validD_iff _).1 hv2
      obtain ⟨n, hN⟩ := isN_ex a b
      obtain ⟨m, hM⟩ := isM_ex a b n
      have HN := Lib.hid hN; clear hN
      have HM := Lib.hid hM; clear hM
      have HSA := Lib.hid hsa; clear hsa
      have HTB := Lib.hid htb; clear htb
      clear hv hv1 hv2
      go_enter Tryd.func16, Tryd.ntmps16
      go_wp2_with fail
      refine (alive7_any _ hT).mono ?_
      rintro e w1 ⟨rfl, hb1⟩
      have hT1 := hT.below hb1
      go_wp2_with fail
      refine (between_ok s t a b HSA.out HTB.out ha hb hsl htl n m HN HM w1 hT1).mono ?_
      rintro e w2 ⟨X, hX, rfl, hb2⟩
      have HX := Lib.hid hX; clear hX
      have hbw2 := hb1.trans (hb2.mono hb1.size)
      go_wp2_with fail
      refine (rbetween_ok s t a b HSA.out HTB.out ha hb hsl htl n m HN HM _).mono ?_
      rintro e w3 ⟨Y, hY, rfl, hb3⟩
      have hXY : Y = X := by
        have : Y.data = X.data := Array.toList_inj.1 (hY.trans HX.out.symm)
        cases X; cases Y; cases this; rfl
      subst hXY
      clear hY HX
      have hz3 : w2.heap.size + 1 ≤ w3.heap.size := by have := hb3.size; simpa using this
      obtain ⟨c0, c1, c2, c3, c4, _⟩ := (Box5.new w2 (.int .i64 (posT a n).1) (.int .i64 (posT a n).2) (.int .i64 (posT a (a.length - m)).1) (.int .i64 (posT a (a.length - m)).2) (.string Y)).below (by simp) hb3
      have hbw3 : Below w.heap.size w w3 := (hbw2.alloc hbw2.size _).trans (hb3.mono (by have := hbw2.size; simp; omega))
      have hz2 := hbw2.size
      have hne : w2.heap.size ≠ w3.heap.size := by omega
      have hlt : w2.heap.size < w3.heap.size := by omega
      clear hb2 hb3
      go_wp2
      go_ret
      exact ⟨by simp, hbw3.alloc (by omega) _⟩
end Go.Proofs.YtdldkidccjkhgaaDoor
