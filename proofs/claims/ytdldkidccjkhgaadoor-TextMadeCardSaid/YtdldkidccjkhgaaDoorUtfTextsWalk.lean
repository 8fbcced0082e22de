import Derived.Test.YtdldkidccjkhgaaDoorUtfJoinedWalk
import Derived.Test.YtdldkidccjkhgaaDoorRefU
import Derived.Test.YtdldkidccjkhgaaDoorCopy
namespace Go.Proofs.YtdldkidccjkhgaaDoor
open Go.RowKit Go.Par
set_option linter.unusedVariables false

/-- 'string(b)' -/
theorem conv_seg {w : World} {B : Nat} {v : Value} {l : List UInt8} (h : Seg w B v (Lib.byteCells l)) : (convert 29 9 v).run Tryd.prog w = .ok (.string ⟨l.toArray⟩) w := by
  obtain ⟨A, c, rfl, hc, hm, hat⟩ := h
  rw [Lib.byteCells_length] at hat ⊢
  rcases A with _ | a
  · have h0 : l.length = 0 := by
      rcases Nat.eq_zero_or_pos l.length with h | h
      · exact h
      · obtain ⟨_, _, e, _⟩ := hat h; cases e
    have : l = [] := List.eq_nil_of_length_eq_zero h0
    subst this
    rw [List.length_nil, run_convert_bytes_string _ 29 9 5 none 0 c Tryd.underlying29 Tryd.underlying5 Tryd.underlying9]
    rfl
  · refine run_convert_bytes_back (P := Tryd.prog) w 29 9 5 a c l Tryd.underlying29 Tryd.underlying5 Tryd.underlying9 (fun j hj => ?_)
    obtain ⟨b, off, e, _, hcell⟩ := hat (by omega)
    cases e
    rw [add_addr, hcell j hj]
    simp [Lib.byteCells, hj]

set_option maxHeartbeats 400000 in
theorem refValid_seg (v : Value) (l : List UInt8) (rs : List Int) (rest : List UInt8) (hl : l = txt rs ++ rest) (ha : AllR rs) (hr : rest = [] ∨ Bad rest) (B : Nat) (w : World) (hsg : Seg w B v (Lib.byteCells l)) (hB : B ≤ w.heap.size) (hlen : l.length ≤ 1000000) :
    Calls Tryd.prog 24 #[v] w fun e w' => e = .returned (.int .i64 (txt rs).length) ∧ Below w.heap.size w w' := by
  obtain ⟨A, c, rfl, hc, hm, hat⟩ := hsg.open_bytes
  clear hsg
  by_cases h0 : l.length = 0
  · have : l = [] := List.eq_nil_of_length_eq_zero h0
    subst this
    have h1 : (txt rs).length = 0 := by
      have := congrArg List.length hl
      simp at this; omega
    rw [h1]
    have HL := Lib.hid hl; clear hl hat
    go_enter Tryd.func24, Tryd.ntmps24
    go_wp2
    go_loop [3] (fun i => i = .int .i64 0) (fun _ => 0)
    case atStart => rfl
    case round =>
      subst hrel
      go_wp2
      go_ret
      exact ⟨rfl, Below.refl _ _⟩
  · obtain ⟨b, off, rfl, _, _⟩ := hat 0 (by omega)
    exact refValid_any b off c l rs rest hl ha hr B w hat hB hlen hc hm

theorem Own.cut {w : World} {base : Nat} {e : TypeId} {g n c : Nat} {xs ys : List Value} (h : Par.Own w base e (.slice (some ⟨g, 0, none⟩) n c) (xs ++ ys)) : Seg w w.heap.size (.slice (some ⟨g, 0, none⟩) xs.length c) xs := by
  obtain ⟨A, c', e1, hc, hm, hat⟩ := h.seg
  injection e1 with e1 e2 e3
  subst e1 e3
  refine ⟨_, c, rfl, by simp at hc; omega, hm, fun hp => ?_⟩
  obtain ⟨b, off, e, hb, hcell⟩ := hat (by simp; omega)
  refine ⟨b, off, e, hb, fun i hi => ?_⟩
  rw [hcell i (by simp; omega), List.getElem?_append_left hi]

set_option maxHeartbeats 2000000 in
theorem utfTexts_walk (v : Value) (l : List UInt8) (hl : l.length ≤ 9223372036854775807) (w : World) (hsg : Seg w w.heap.size v (Lib.byteCells l)) (hT : Tabs w) :
    Calls Tryd.prog 4 #[v] w fun e w' => e = .returned (.bool true) ∧ Below w.heap.size w w' := by
  obtain ⟨A, c, rfl, hc, hm, _⟩ := hsg.open_bytes
  by_cases hg : 20000 < (l.length : Int)
  · have HSG := Lib.hid hsg; clear hsg
    go_enter Tryd.func4, Tryd.ntmps4
    go_wp2_with (go_at_call 19; refine (alive_any _ hT).mono ?_; rintro e w1 ⟨rfl, hb1⟩)
    go_ret
    exact ⟨rfl, hb1⟩
  · obtain ⟨rs, rest, har, hsplit, hrest⟩ := Par.split l
    have HSP := Lib.hid hsplit; clear hsplit
    have HRE := Lib.hid hrest; clear hrest
    go_enter Tryd.func4, Tryd.ntmps4
    go_wp2_with fail
    refine (alive_any _ hT).mono ?_
    rintro e w1 ⟨rfl, hb1⟩
    have hT1 := hT.below hb1
    have hsg1 := hsg.below hb1
    have hz1 := hb1.size
    go_wp2_with fail
    refine (spare_any _ l _ w1 hsg1 hz1 (by omega)).mono ?_
    rintro e w2 ⟨u2, rfl, hown2, hb2⟩
    have hbw2 := hb1.trans (hb2.mono hz1)
    have hT2 := hT1.below hb2
    have hsg2 := hsg.below hbw2
    have hz2 := hbw2.size
    obtain ⟨g2, c2, rfl⟩ : ∃ g c, u2 = .slice (some ⟨g, 0, none⟩) (l.length + 8) c := by
      rcases hown2.2 with ⟨_, h0⟩ | ⟨g, cap, cur, hv, _⟩
      · rw [Lib.byteCells_length] at h0; simp [marks] at h0
      · refine ⟨g, cap, ?_⟩; rw [hv, Lib.byteCells_length]; simp [marks]
    rw [Lib.byteCells_append] at hown2
    have hcut := Own.cut hown2
    rw [Lib.byteCells_length] at hcut
    have hcutb : (l.length : Int) ≤ (l.length : Int) + 8 := by omega
    have hc2 : l.length + 8 ≤ c2 := by
      rcases hown2.2 with ⟨hv, _⟩ | ⟨g, cap, cur, hv, _, _, hnc, _⟩
      · cases hv
      · simp only [Value.slice.injEq] at hv
        obtain ⟨_, h1, rfl⟩ := hv
        omega
    go_wp2_with fail
    have hv := uvalid_any _ rs rest har HRE.out _ w2 (HSP.out ▸ hcut) (Nat.le_refl _) hT2
    rw [← HSP.out] at hv
    refine hv.mono ?_
    rintro e w3 ⟨rfl, hb3⟩
    clear hv
    have hbw3 := hbw2.trans (hb3.mono hz2)
    have hT3 := hT2.below hb3
    have hsg3 := hsg.below hbw3
    have hz3 := hbw3.size
    go_wp2_with fail
    refine (refValid_seg _ l rs rest HSP.out har HRE.out _ w3 hsg3 hz3 (by omega)).mono ?_
    rintro e w4 ⟨rfl, hb4⟩
    have hbw4 := hbw3.trans (hb4.mono hz3)
    have hT4 := hT3.below hb4
    have hsg4 := hsg.below hbw4
    have hz4 := hbw4.size
    have hown4 := (hown2.below hb3).below hb4
    go_wp2_with fail
    refine (spare_any _ l _ w4 hsg4 hz4 (by omega)).mono ?_
    rintro e w5 ⟨u5, rfl, hown5, hb5⟩
    have hbw5 := hbw4.trans (hb5.mono hz4)
    have hT5 := hT4.below hb5
    have hsg5 := hsg.below hbw5
    have hz5 := hbw5.size
    have hown2' := (hown4.below hb5).seg
    rw [← Lib.byteCells_append] at hown2'
    go_wp2_with fail
    refine (sameBytes_any _ _ (l ++ marks 8) (l ++ marks 8) _ w5 hown2' hown5.seg).mono ?_
    rintro e w6 ⟨rfl, n6, rfl⟩
    rw [decide_eq_true rfl]
    have hbw6 := below_drewN hbw5 n6
    have hT6 : Tabs (w5.drewN n6) := hT5
    have hconv : (convert 29 9 (.slice A l.length c)).run Tryd.prog (w5.drewN n6) = _ := conv_seg (hsg5.drewN n6)
    obtain ⟨S, hS, hSl, hSz⟩ := str_of l
    rw [← hS] at hconv
    have HS := Lib.hid hS; clear hS
    have hsz : S.size ≤ 20000 := by omega
    have HSZ := Lib.hid hSz; clear hSz
    have HSL := Lib.hid hSl; clear hSl
    clear hsg1 hsg2 hsg3 hsg4 hsg5 hown2 hown4 hown5 hown2' hcut hsg
    generalize w5.drewN n6 = w7 at *
    have hz7 := hbw6.size
    clear hT1 hT2 hT3 hT4 hT5 hb1 hb2 hb3 hb4 hb5 hbw2 hbw3 hbw4 hbw5 hz1 hz2 hz3 hz4 hz5
    rcases HRE.out with h0 | hbad
    · have hl0 : S.data.toList = txt rs := by rw [HSL.out, HSP.out, h0]; simp
      have HL0 := Lib.hid hl0; clear hl0
      go_wp2_with fail
      refine (runes_ok S rs HL0.out har w7 hT6 (by omega)).mono ?_
      rintro e w8 ⟨v8, rfl, hown8, hb8⟩
      have hbw8 := hbw6.trans (hb8.mono hz7)
      have hT8 := hT6.below hb8
      have hz8 := hbw8.size
      go_wp2_with fail
      refine (refRunes_any S rs [] (by rw [HL0.out]; simp) har (.inl rfl) w8 (by omega) (some rs) (Lib.hid ⟨fun _ => rfl, fun h => absurd rfl h⟩)).mono ?_
      rintro e w9 ⟨hb9, v9, rfl, hown9⟩
      have hbw9 := hbw8.trans (hb9.mono hz8)
      have hT9 := hT8.below hb9
      have hz9 := hbw9.size
      go_wp2_with fail
      refine (sameInts_any _ _ rs rs _ w9 (hown8.below hb9).seg hown9.seg).mono ?_
      rintro e wa ⟨rfl, na, rfl⟩
      rw [decide_eq_true rfl]
      have hbwa := below_drewN hbw9 na
      have hTa : Tabs (w9.drewN na) := hT9
      clear hown8 hown9
      generalize w9.drewN na = wb at *
      have hzb := hbwa.size
      go_wp2_with fail
      refine (units_ok S rs HL0.out har wb hTa (by omega)).mono ?_
      rintro e wc ⟨vc, rfl, hownc, hbc⟩
      have hbwc := hbwa.trans (hbc.mono hzb)
      have hzc := hbwc.size
      go_wp2_with fail
      refine (refUnits_ok S rs HL0.out har wc (by omega)).mono ?_
      rintro e wd ⟨hbd, vd, rfl, hownd⟩
      have hbwd := hbwc.trans (hbd.mono hzc)
      go_wp2_with fail
      refine (sameInts_any _ _ (units rs) (units rs) _ wd (hownc.below hbd).seg hownd.seg).mono ?_
      rintro e we ⟨rfl, ne, rfl⟩
      rw [decide_eq_true rfl]
      go_wp2
      go_ret
      exact ⟨rfl, below_drewN hbwd ne⟩
    · have hl0 : S.data.toList = txt rs ++ rest := by rw [HSL.out, HSP.out]
      have hvb : Lib.validD S.data.toList = false := by rw [hl0, validD_txt rs _ har]; exact validD_bad hbad
      have HL0 := Lib.hid hl0; clear hl0
      have HVB := Lib.hid hvb; clear hvb
      go_wp2_with fail
      refine (runes_bad S HVB.out w7 hT6 (by omega)).mono ?_
      rintro e w8 ⟨rfl, hb8⟩
      have hbw8 := hbw6.trans (hb8.mono hz7)
      have hT8 := hT6.below hb8
      have hz8 := hbw8.size
      go_wp2_with fail
      refine (refRunes_any S rs rest HL0.out har (.inr hbad) w8 (by omega) none (Lib.hid ⟨fun h => absurd h hbad.1, fun _ => rfl⟩)).mono ?_
      rintro e w9 ⟨hb9, rfl⟩
      have hbw9 := hbw8.trans (hb9.mono hz8)
      have hT9 := hT8.below hb9
      have hz9 := hbw9.size
      go_wp2_with fail
      refine (sameInts_any _ _ [] [] 0 w9 (Seg.nil _ _) (Seg.nil _ _)).mono ?_
      rintro e wa ⟨rfl, na, rfl⟩
      rw [decide_eq_true rfl]
      have hbwa := below_drewN hbw9 na
      have hTa : Tabs (w9.drewN na) := hT9
      generalize w9.drewN na = wb at *
      have hzb := hbwa.size
      go_wp2_with fail
      refine (units_bad S HVB.out wb hTa (by omega)).mono ?_
      rintro e wc ⟨rfl, hbc⟩
      have hbwc := hbwa.trans (hbc.mono hzb)
      have hzc := hbwc.size
      go_wp2_with fail
      refine (refUnits_bad S rs rest HL0.out har hbad wc (by omega)).mono ?_
      rintro e wd ⟨hbd, rfl⟩
      have hbwd := hbwc.trans (hbd.mono hzc)
      go_wp2_with fail
      refine (sameInts_any _ _ [] [] 0 wd (Seg.nil _ _) (Seg.nil _ _)).mono ?_
      rintro e we ⟨rfl, ne, rfl⟩
      rw [decide_eq_true rfl]
      go_wp2
      go_ret
      exact ⟨rfl, below_drewN hbwd ne⟩
end Go.Proofs.YtdldkidccjkhgaaDoor
