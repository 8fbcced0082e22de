import Derived.Test.YtdldkidccjkhgaaDoorT10a
namespace Go.Proofs.YtdldkidccjkhgaaDoor
open Go.RowKit Go.Par
set_option linter.unusedVariables false

def BetwBad (w : World) (e : Ending) (w' : World) : Prop :=
  e = .returned (.tuple #[.agg #[.int .i64 0, .int .i64 0, .int .i64 0, .int .i64 0, .string ⟨#[]⟩], .int .i64 40]) ∧ Below w.heap.size w w'

set_option maxRecDepth 100000 in
set_option maxHeartbeats 2000000 in
theorem between_bad (s t : ByteArray) (h : Lib.validD s.data.toList = false ∨ Lib.validD t.data.toList = false) (hl : s.size ≤ 100000) (hl2 : t.size ≤ 100000) (w : World) (hT : Tabs w) :
    Calls Tryd.prog 50 #[.string s, .string t] w (BetwBad w) := by
  have hz0 : w.heap.size < (w.alloc (.cells #[.int .i64 0, .int .i64 0, .int .i64 0, .int .i64 0, .string ⟨#[]⟩] 52)).heap.size := by simp
  cases hv : Lib.validD s.data.toList with
  | false =>
    have HV := Lib.hid hv; clear hv h
    go_enter Tryd.func50, Tryd.ntmps50
    go_wp2_with fail
    refine (valid_any s _ (by omega) (hT.below ((Below.refl _ _).alloc (Nat.le_refl _) _))).mono ?_
    rintro e w1 ⟨rfl, hb1⟩
    rw [HV.out]
    have hbw1 : Below w.heap.size w w1 := ((Below.refl _ _).alloc (Nat.le_refl _) _).trans (hb1.mono (by simp))
    have hx1 := (Box5.new w (.int .i64 0) (.int .i64 0) (.int .i64 0) (.int .i64 0) (.string ⟨#[]⟩)).below (by simp) hb1
    obtain ⟨c0, c1, c2, c3, c4, f0, f1, f2, f3, f4⟩ := hx1
    clear hz0 hb1
    go_wp2
    refine bodyPost_ret (v := .tuple #[.agg #[.int .i64 0, .int .i64 0, .int .i64 0, .int .i64 0, .string ⟨#[]⟩], .int .i64 40]) (by simp [results, Tryd.results50, go_sem, c0, c1, c2, c3, c4]) rfl ⟨rfl, ?_⟩
    exact ((((hbw1.setCell (p := ⟨w.heap.size, 0, none⟩) (Nat.le_refl _) _).setCell (p := ⟨w.heap.size, 1, none⟩) (Nat.le_refl _) _).setCell (p := ⟨w.heap.size, 2, none⟩) (Nat.le_refl _) _).setCell (p := ⟨w.heap.size, 3, none⟩) (Nat.le_refl _) _).setCell (p := ⟨w.heap.size, 4, none⟩) (Nat.le_refl _) _
  | true =>
    have hv2 : Lib.validD t.data.toList = false := by rcases h with h | h <;> simp_all
    have HV := Lib.hid hv; clear hv h
    have HV2 := Lib.hid hv2; clear hv2
    go_enter Tryd.func50, Tryd.ntmps50
    go_wp2_with fail
    refine (valid_any s _ (by omega) (hT.below ((Below.refl _ _).alloc (Nat.le_refl _) _))).mono ?_
    rintro e w1 ⟨rfl, hb1⟩
    rw [HV.out]
    have hbw1 : Below w.heap.size w w1 := ((Below.refl _ _).alloc (Nat.le_refl _) _).trans (hb1.mono (by simp))
    have hz1 : w.heap.size < w1.heap.size := by have := hb1.size; simp at this; omega
    have HX1 := Lib.hid ((Box5.new w (.int .i64 0) (.int .i64 0) (.int .i64 0) (.int .i64 0) (.string ⟨#[]⟩)).below (by simp) hb1)
    clear hb1 hz0
    go_wp2_with fail
    refine (valid_any t _ (by omega) (hT.below hbw1)).mono ?_
    rintro e w2 ⟨rfl, hb2⟩
    rw [HV2.out]
    have hbw2 := hbw1.trans (hb2.mono hbw1.size)
    obtain ⟨c0, c1, c2, c3, c4, f0, f1, f2, f3, f4⟩ := HX1.out.below hz1 hb2
    clear HX1 hb2
    go_wp2
    refine bodyPost_ret (v := .tuple #[.agg #[.int .i64 0, .int .i64 0, .int .i64 0, .int .i64 0, .string ⟨#[]⟩], .int .i64 40]) (by simp [results, Tryd.results50, go_sem, c0, c1, c2, c3, c4]) rfl ⟨rfl, ?_⟩
    exact ((((hbw2.setCell (p := ⟨w.heap.size, 0, none⟩) (Nat.le_refl _) _).setCell (p := ⟨w.heap.size, 1, none⟩) (Nat.le_refl _) _).setCell (p := ⟨w.heap.size, 2, none⟩) (Nat.le_refl _) _).setCell (p := ⟨w.heap.size, 3, none⟩) (Nat.le_refl _) _).setCell (p := ⟨w.heap.size, 4, none⟩) (Nat.le_refl _) _

set_option maxRecDepth 100000 in
set_option maxHeartbeats 2000000 in
theorem rbetween_bad (s t : ByteArray) (h : Lib.validD s.data.toList = false ∨ Lib.validD t.data.toList = false) (hl : s.size ≤ 100000) (hl2 : t.size ≤ 100000) (w : World) :
    Calls Tryd.prog 51 #[.string s, .string t] w (BetwBad w) := by
  have hz0 : w.heap.size < (w.alloc (.cells #[.int .i64 0, .int .i64 0, .int .i64 0, .int .i64 0, .string ⟨#[]⟩] 52)).heap.size := by simp
  obtain ⟨rs, rest, har, hsr, hrest⟩ := Par.split s.data.toList
  obtain ⟨qs, rest2, haq, hsq, hrest2⟩ := Par.split t.data.toList
  obtain ⟨o1, HO1, hn1⟩ : ∃ o1 : Option (List Int), Hid ((rest = [] → o1 = some rs) ∧ (rest ≠ [] → o1 = none)) ∧ (rest ≠ [] → o1 = none) := by
    by_cases h : rest = []
    · exact ⟨some rs, Lib.hid ⟨fun _ => rfl, fun x => absurd h x⟩, fun x => absurd h x⟩
    · exact ⟨none, Lib.hid ⟨fun x => absurd x h, fun _ => rfl⟩, fun _ => rfl⟩
  obtain ⟨o2, HO2, hn2⟩ : ∃ o2 : Option (List Int), Hid ((rest2 = [] → o2 = some qs) ∧ (rest2 ≠ [] → o2 = none)) ∧ (rest2 ≠ [] → o2 = none) := by
    by_cases h : rest2 = []
    · exact ⟨some qs, Lib.hid ⟨fun _ => rfl, fun x => absurd h x⟩, fun x => absurd h x⟩
    · exact ⟨none, Lib.hid ⟨fun x => absurd x h, fun _ => rfl⟩, fun _ => rfl⟩
  have hor : o1 = none ∨ o2 = none := by
    rcases h with h | h
    · left; refine hn1 fun e => ?_
      rw [hsr, e, List.append_nil, validD_of har] at h; cases h
    · right; refine hn2 fun e => ?_
      rw [hsq, e, List.append_nil, validD_of haq] at h; cases h
  clear hn1 hn2 h
  have HSR := Lib.hid hsr; clear hsr
  have HSQ := Lib.hid hsq; clear hsq
  go_enter Tryd.func51, Tryd.ntmps51
  go_wp2_with fail
  refine (refRunes_any s rs rest HSR.out har hrest _ (by omega) o1 HO1).mono ?_
  rintro e w1 ⟨hb1, h1⟩
  have hbw1 : Below w.heap.size w w1 := ((Below.refl _ _).alloc (Nat.le_refl _) _).trans (hb1.mono (by simp))
  have hz1 : w.heap.size < w1.heap.size := by have := hb1.size; simp at this; omega
  have HX1 := Lib.hid ((Box5.new w (.int .i64 0) (.int .i64 0) (.int .i64 0) (.int .i64 0) (.string ⟨#[]⟩)).below (by simp) hb1)
  clear hb1 hz0 HO1
  cases o1 with
  | none =>
    obtain rfl := h1
    clear hor
    go_wp2_with fail
    refine (refRunes_any t qs rest2 HSQ.out haq hrest2 _ (by omega) o2 HO2).mono ?_
    rintro e w2 ⟨hb2, h2⟩
    have hbw2 := hbw1.trans (hb2.mono hbw1.size)
    obtain ⟨c0, c1, c2, c3, c4, f0, f1, f2, f3, f4⟩ := HX1.out.below hz1 hb2
    clear HX1 hb2 HO2
    have key : ∃ v y, e = .returned (.tuple #[v, .int .i64 y]) := by
      cases o2 with
      | none => exact ⟨_, _, h2⟩
      | some l => obtain ⟨v, hv, _⟩ := h2; exact ⟨_, _, hv⟩
    clear h2
    obtain ⟨v, y, rfl⟩ := key
    go_wp2
    refine bodyPost_ret (v := .tuple #[.agg #[.int .i64 0, .int .i64 0, .int .i64 0, .int .i64 0, .string ⟨#[]⟩], .int .i64 40]) (by simp [results, Tryd.results51, go_sem, c0, c1, c2, c3, c4]) rfl ⟨rfl, ?_⟩
    exact ((((hbw2.setCell (p := ⟨w.heap.size, 0, none⟩) (Nat.le_refl _) _).setCell (p := ⟨w.heap.size, 1, none⟩) (Nat.le_refl _) _).setCell (p := ⟨w.heap.size, 2, none⟩) (Nat.le_refl _) _).setCell (p := ⟨w.heap.size, 3, none⟩) (Nat.le_refl _) _).setCell (p := ⟨w.heap.size, 4, none⟩) (Nat.le_refl _) _
  | some l =>
    obtain ⟨v1, rfl, hown1⟩ := h1
    have ho2 : o2 = none := by rcases hor with h | h; cases h; exact h
    subst ho2
    clear hor
    go_wp2_with fail
    refine (refRunes_any t qs rest2 HSQ.out haq hrest2 _ (by omega) none (Lib.hid ⟨HO2.out.1, fun _ => rfl⟩)).mono ?_
    rintro e w2 ⟨hb2, rfl⟩
    have hbw2 := hbw1.trans (hb2.mono hbw1.size)
    obtain ⟨c0, c1, c2, c3, c4, f0, f1, f2, f3, f4⟩ := HX1.out.below hz1 hb2
    clear HX1 hb2 HO2
    go_wp2
    refine bodyPost_ret (v := .tuple #[.agg #[.int .i64 0, .int .i64 0, .int .i64 0, .int .i64 0, .string ⟨#[]⟩], .int .i64 40]) (by simp [results, Tryd.results51, go_sem, c0, c1, c2, c3, c4]) rfl ⟨rfl, ?_⟩
    exact ((((hbw2.setCell (p := ⟨w.heap.size, 0, none⟩) (Nat.le_refl _) _).setCell (p := ⟨w.heap.size, 1, none⟩) (Nat.le_refl _) _).setCell (p := ⟨w.heap.size, 2, none⟩) (Nat.le_refl _) _).setCell (p := ⟨w.heap.size, 3, none⟩) (Nat.le_refl _) _).setCell (p := ⟨w.heap.size, 4, none⟩) (Nat.le_refl _) _
end Go.Proofs.YtdldkidccjkhgaaDoor
