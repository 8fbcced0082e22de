import Derived.Test.YtdldkidccjkhgaaDoorT7d
namespace Go.Proofs.YtdldkidccjkhgaaDoor
open Go.RowKit Go.Par
set_option linter.unusedVariables false

theorem posT_app (rs qs : List Int) (k : Nat) (hk : k ≤ rs.length) : posT (rs ++ qs) k = posT rs k := by
  unfold posT; rw [List.take_append_of_le_length hk]
theorem plc_app (rs qs : List Int) (k : Nat) (hk : k ≤ rs.length) : plc (rs ++ qs) k = plc rs k := by
  unfold plc; rw [List.take_append_of_le_length hk]

/-- '[]byte(s)' as a row. -/
theorem seg_bytes_of (s : ByteArray) (w : World) (hs : s.size ≤ 9223372036854775807) : ∃ cap w1, (convert 9 29 (.string s)).run Tryd.prog w = .ok (.slice (some ⟨w.heap.size, 0, none⟩) s.size cap) w1 ∧
    Below w.heap.size w w1 ∧ Seg w1 w1.heap.size (.slice (some ⟨w.heap.size, 0, none⟩) s.size cap) (Lib.byteCells s.data.toList) := by
  obtain ⟨cap, wb, hconv, hcap1, hcap2, hbb, hzb, hatb⟩ := bytes_of s w hs
  refine ⟨cap, wb, hconv, hbb, ?_⟩
  have hsl : (Lib.byteCells s.data.toList).length = s.size := by rw [Lib.byteCells_length]; exact (Lib.size_eq s).symm
  refine ⟨_, cap, by rw [hsl], by rw [hsl]; exact hcap1, by simpa [maxLen] using hcap2, fun hp => ⟨w.heap.size, 0, rfl, by omega, fun i hi => ?_⟩⟩
  rw [Lib.byteCells_length] at hi
  obtain ⟨_, _, ee, _, hcc⟩ := hatb i hi
  cases ee
  rw [hcc]
  simp only [Lib.byteCells, List.getElem?_map, List.getD_eq_getElem?_getD, List.getElem?_eq_getElem hi]
  rfl

set_option maxRecDepth 100000 in
set_option maxHeartbeats 2000000 in
theorem textFront_walk (s : ByteArray) (hs : s.size ≤ 140737488351232) (t : ByteArray) (ht : t.size ≤ 140737488351232) (off : Int) (_ho : -9223372036854775808 ≤ off ∧ off ≤ 9223372036854775807) (w : World) (hT : Tabs w) :
    Calls Tryd.prog 17 #[.string s, .string t, .int .i64 off] w fun e w' => e = .returned (.bool true) ∧ Below w.heap.size w w' := by
  clear _ho
  by_cases hg : 20000 < (s.size : Int) + t.size
  · go_enter Tryd.func17, Tryd.ntmps17
    go_wp2_with (go_at_call 39; refine (alive7_any _ hT).mono ?_; rintro e w1 ⟨rfl, hb1⟩)
    go_ret
    exact ⟨rfl, hb1⟩
  · have hsl : s.size ≤ 100000 := by omega
    have htl : t.size ≤ 100000 := by omega
    have hstl : (s ++ t).size ≤ 100000 := by rw [ByteArray.size_append]; omega
    have hstd : (s ++ t).data.toList = s.data.toList ++ t.data.toList := by rw [ByteArray.data_append, Array.toList_append]
    have HSTD := Lib.hid hstd; clear hstd
    rcases text_or s with ⟨rs, har, hsr⟩ | hsb
    · have HSR := Lib.hid hsr; clear hsr
      obtain ⟨o1, ho1⟩ := isO_ex rs off
      go_enter Tryd.func17, Tryd.ntmps17
      go_wp2_with fail
      refine (alive7_any _ hT).mono ?_
      rintro e w1 ⟨rfl, hb1⟩
      have hT1 := hT.below hb1
      go_wp2_with fail
      refine (tplace_ok s rs HSR.out har hsl off o1 (Lib.hid ho1) w1 hT1).mono ?_
      rcases text_or2 t with ⟨ts, hat, hts⟩ | ⟨htb, ts, rest, hat, hbad, hts⟩
      · have hst : (s ++ t).data.toList = txt (rs ++ ts) := by rw [HSTD.out, HSR.out, hts, txt_append]
        have HST := Lib.hid hst; clear hst
        have HTS := Lib.hid hts; clear hts
        cases o1 with
        | none =>
          rintro e w2 ⟨rfl, hb2⟩
          have hbw2 := hb1.trans (hb2.mono hb1.size)
          have hT2 := hT1.below hb2
          obtain ⟨o2, ho2⟩ := isO_ex (rs ++ ts) off
          clear ho1
          go_wp2_with fail
          refine (tplace_ok (s ++ t) (rs ++ ts) HST.out (har.append hat) hstl off o2 (Lib.hid ho2) w2 hT2).mono ?_
          clear ho2
          cases o2 with
          | none =>
            rintro e w3 ⟨rfl, hb3⟩
            go_wp2
            go_ret
            exact ⟨rfl, hbw2.trans (hb3.mono hbw2.size)⟩
          | some m =>
            rintro e w3 ⟨rfl, hb3⟩
            go_wp2
            go_ret
            exact ⟨rfl, hbw2.trans (hb3.mono hbw2.size)⟩
        | some k =>
          rintro e w2 ⟨rfl, hb2⟩
          have hbw2 := hb1.trans (hb2.mono hb1.size)
          have hT2 := hT1.below hb2
          have ho2 : IsO (rs ++ ts) off (some k) := ⟨by have := ho1.1; simp; omega, by rw [plc_app rs ts k ho1.1]; exact ho1.2⟩
          have hpe := posT_app rs ts k ho1.1
          have HPE := Lib.hid hpe; clear hpe ho1
          go_wp2_with fail
          refine (tplace_ok (s ++ t) (rs ++ ts) HST.out (har.append hat) hstl off (some k) (Lib.hid ho2) w2 hT2).mono ?_
          rintro e w3 ⟨rfl, hb3⟩
          clear ho2
          rw [HPE.out]
          go_wp2
          go_ret
          exact ⟨rfl, hbw2.trans (hb3.mono hbw2.size)⟩
      · have hstb : Lib.validD (s ++ t).data.toList = false := by
          rw [HSTD.out, HSR.out, validD_txt rs _ har]; exact htb
        have hltb : (txt ts).length < t.size := by
          have h1 := List.length_pos_iff.2 hbad.1
          have h2 := congrArg List.length hts
          rw [← Lib.size_eq, List.length_append] at h2
          omega
        have HTS := Lib.hid hts; clear hts
        cases o1 with
        | none =>
          rintro e w2 ⟨rfl, hb2⟩
          have hbw2 := hb1.trans (hb2.mono hb1.size)
          have hT2 := hT1.below hb2
          clear ho1
          go_wp2_with fail
          refine (tplace_bad (s ++ t) hstb (by omega) off w2 hT2).mono ?_
          rintro e w3 ⟨rfl, hb3⟩
          go_wp2
          go_ret
          exact ⟨rfl, hbw2.trans (hb3.mono hbw2.size)⟩
        | some k =>
          rintro e w2 ⟨rfl, hb2⟩
          have hbw2 := hb1.trans (hb2.mono hb1.size)
          have hT2 := hT1.below hb2
          clear ho1
          go_wp2_with fail
          refine (tplace_bad (s ++ t) hstb (by omega) off w2 hT2).mono ?_
          rintro e w3 ⟨rfl, hb3⟩
          have hbw3 := hbw2.trans (hb3.mono hbw2.size)
          have hT3 := hT2.below hb3
          obtain ⟨cap, wb, hconv, hbb, hsgb⟩ := seg_bytes_of t w3 (by omega)
          rw [HTS.out] at hsgb
          have hbwb := hbw3.trans (hbb.mono hbw3.size)
          go_wp2_with fail
          refine (uvalid_any _ ts rest hat (.inr hbad) _ wb hsgb (Nat.le_refl _) (hT.below hbwb)).mono ?_
          rintro e wd ⟨rfl, hbd⟩
          go_wp2
          go_ret
          exact ⟨rfl, hbwb.trans (hbd.mono hbwb.size)⟩
    · go_enter Tryd.func17, Tryd.ntmps17
      go_wp2_with fail
      refine (alive7_any _ hT).mono ?_
      rintro e w1 ⟨rfl, hb1⟩
      have hT1 := hT.below hb1
      go_wp2_with fail
      refine (tplace_bad s hsb (by omega) off w1 hT1).mono ?_
      rintro e w2 ⟨rfl, hb2⟩
      have hbw2 := hb1.trans (hb2.mono hb1.size)
      have hT2 := hT1.below hb2
      rcases text_or (s ++ t) with ⟨rs, har, hsr⟩ | hstb
      · have HSR := Lib.hid hsr; clear hsr
        obtain ⟨o2, ho2⟩ := isO_ex rs off
        go_wp2_with fail
        refine (tplace_ok (s ++ t) rs HSR.out har hstl off o2 (Lib.hid ho2) w2 hT2).mono ?_
        clear ho2
        cases o2 with
        | none =>
          rintro e w3 ⟨rfl, hb3⟩
          go_wp2
          go_ret
          exact ⟨rfl, hbw2.trans (hb3.mono hbw2.size)⟩
        | some m =>
          rintro e w3 ⟨rfl, hb3⟩
          go_wp2
          go_ret
          exact ⟨rfl, hbw2.trans (hb3.mono hbw2.size)⟩
      · go_wp2_with fail
        refine (tplace_bad (s ++ t) hstb (by omega) off w2 hT2).mono ?_
        rintro e w3 ⟨rfl, hb3⟩
        go_wp2
        go_ret
        exact ⟨rfl, hbw2.trans (hb3.mono hbw2.size)⟩
end Go.Proofs.YtdldkidccjkhgaaDoor
