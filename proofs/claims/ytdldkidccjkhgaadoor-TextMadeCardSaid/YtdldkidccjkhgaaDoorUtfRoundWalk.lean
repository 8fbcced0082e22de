import Derived.Test.YtdldkidccjkhgaaDoorUtfJoinsWalk
namespace Go.Proofs.YtdldkidccjkhgaaDoor
open Go.RowKit Go.Par
set_option linter.unusedVariables false

theorem joinZ_units : ∀ (rs : List Int), AllR rs → joinZ (units rs) = some rs
  | [], _ => rfl
  | r :: rs, h => by
    have hr := isR_iff.1 h.head
    rw [units_cons]
    unfold unitsZ
    by_cases h6 : r < 65536
    · rw [if_pos h6, List.singleton_append, joinZ_lone _ (lone_iff.2 ⟨h.head, h6⟩), joinZ_units rs h.tail]; rfl
    · rw [if_neg h6]
      show joinZ (_ :: _ :: units rs) = _
      rw [joinZ_pair _ (pair_iff.2 (by omega)), joinZ_units rs h.tail]
      have : comb (55296 + (r - 65536) / 1024) (56320 + (r - 65536) % 1024) = r := by unfold comb; omega
      simp [this]

theorem str_eq (s : ByteArray) (l : List UInt8) (h : s.data.toList = l) : (⟨l.toArray⟩ : ByteArray) = s := by
  cases s; subst h; simp

set_option maxRecDepth 100000 in
set_option maxHeartbeats 4000000 in
theorem utfRound_walk (v : Value) (zs : List Int) (hl : zs.length ≤ 9223372036854775807) (s : ByteArray) (hs : s.size ≤ 140737488351232) (w : World) (hsg : Seg w w.heap.size v (ints zs)) (hT : Tabs w) :
    Calls Tryd.prog 12 #[v, .string s] w fun e w' => e = .returned (.bool true) ∧ Below w.heap.size w w' := by
  obtain ⟨A, c, rfl, hc, hm, _⟩ := hsg.open_ints
  by_cases hg1 : 5000 < (zs.length : Int)
  · have HSG := Lib.hid hsg; clear hsg
    go_enter Tryd.func12, Tryd.ntmps12
    go_wp2_with (go_at_call 19; refine (alive_any _ hT).mono ?_; rintro e w1 ⟨rfl, hb1⟩)
    go_ret
    exact ⟨rfl, hb1⟩
  · by_cases hg2 : 20000 < (s.size : Int)
    · have HSG := Lib.hid hsg; clear hsg
      go_enter Tryd.func12, Tryd.ntmps12
      go_wp2_with (go_at_call 19; refine (alive_any _ hT).mono ?_; rintro e w1 ⟨rfl, hb1⟩)
      go_ret
      exact ⟨rfl, hb1⟩
    · obtain ⟨S, hS⟩ : ∃ S, S = (textZ zs).1 := ⟨_, rfl⟩
      obtain ⟨E, hE⟩ : ∃ E, E = (textZ zs).2 := ⟨_, rfl⟩
      have HS := Lib.hid hS; clear hS
      have HE := Lib.hid hE; clear hE
      go_enter Tryd.func12, Tryd.ntmps12
      go_wp2_with fail
      refine (alive_any _ hT).mono ?_
      rintro e w1 ⟨rfl, hb1⟩
      have hz1 := hb1.size
      have hT1 := hT.below hb1
      go_wp2_with fail
      refine (copyInts_any _ zs _ w1 (hsg.below hb1) hz1 (by omega)).mono ?_
      rintro e w2 ⟨u2, rfl, hown2, hb2⟩
      have hbw2 := hb1.trans (hb2.mono hz1)
      have hz2 := hbw2.size
      have hT2 := hT1.below hb2
      go_wp2_with fail
      refine (text_any _ zs _ w2 hown2.seg (Nat.le_refl _) (by omega)).mono ?_
      rintro e w3 ⟨rfl, hb3⟩
      have hbw3 := hbw2.trans (hb3.mono hz2)
      have hz3 := hbw3.size
      have hT3 := hT2.below hb3
      rw [← HS.out, ← HE.out]
      clear hown2
      go_upto_if 32 with (fail)
      go_cut [] (fun wx => Below w.heap.size w wx)
      case first =>
        by_cases ha : AllR zs
        · have e1 : textZ zs = (⟨(txt zs).toArray⟩, 0) := by unfold textZ; rw [if_pos ((allR_iff zs).2 ha)]
          have hE0 : E = 0 := by rw [HE.out, e1]
          have hSl : S.data.toList = txt zs := by rw [HS.out, e1]
          have hlen := txt_le4 zs
          have hszt := txt_size S zs hSl
          have hsz : S.size ≤ 100000 := by omega
          have HSZ := Lib.hid hszt; clear hszt
          have HSL := Lib.hid hSl; clear hSl HS
          subst hE0
          clear HE e1
          go_wp2_with fail
          refine (runes_ok S zs HSL.out ha w3 hT3 hsz).mono ?_
          rintro e w4 ⟨v4, rfl, hown4, hb4⟩
          have hbw4 := hbw3.trans (hb4.mono hz3)
          have hz4 := hbw4.size
          have hT4 := hT3.below hb4
          go_wp2_with fail
          refine (units_ok S zs HSL.out ha w4 hT4 hsz).mono ?_
          rintro e w5 ⟨v5, rfl, hown5, hb5⟩
          have hbw5 := hbw4.trans (hb5.mono hz4)
          have hz5 := hbw5.size
          have hT5 := hT4.below hb5
          have hul := (units_le zs ha).2.1
          go_wp2_with fail
          refine (join_any _ (units zs) _ w5 hown5.seg (Nat.le_refl _) (by omega)).mono ?_
          rw [joinZ_units zs ha]
          rintro e w6 ⟨hb6, v6, rfl, hown6⟩
          have hbw6 := hbw5.trans (hb6.mono hz5)
          have hz6 := hbw6.size
          have hT6 := hT5.below hb6
          have hr6 := (hown4.below hb5).below hb6
          go_wp2_with fail
          refine (sameInts_any _ _ zs zs _ w6 hr6.seg ((hsg.below hbw6).more hz6)).mono ?_
          rintro e w7 ⟨rfl, n7, rfl⟩
          rw [decide_eq_true rfl]
          have hbw7 := below_drewN hbw6 n7
          have hs7 := hown6.seg.drewN n7
          have hs8 := ((hsg.below hbw6).more hz6).drewN n7
          have hT7 : Tabs (w6.drewN n7) := hT6
          clear hown4 hown5 hown6 hr6
          generalize w6.drewN n7 = w8 at *
          go_wp2_with fail
          refine (sameInts_any _ _ zs zs _ w8 hs7 hs8).mono ?_
          rintro e w9 ⟨rfl, n9, rfl⟩
          rw [decide_eq_true rfl]
          have hbw9 := below_drewN hbw7 n9
          have hT9 : Tabs (w8.drewN n9) := hT7
          clear hs7 hs8
          generalize w8.drewN n9 = wa at *
          obtain ⟨cap, wb, hconv, hcap1, hcap2, hbb, hzb, hatb⟩ := bytes_of S wa (by omega)
          have hbwb := hbw9.trans (hbb.mono hbw9.size)
          have hsgb : Seg wb (wa.heap.size + 1) (.slice (some ⟨wa.heap.size, 0, none⟩) S.size cap) (Lib.byteCells (txt zs ++ [])) := by
            rw [List.append_nil, ← HSL.out]
            have hsl : (Lib.byteCells S.data.toList).length = S.size := by rw [Lib.byteCells_length]; exact (Lib.size_eq S).symm
            refine ⟨_, cap, by rw [hsl], by rw [hsl]; exact hcap1, by simpa [maxLen] using hcap2, fun hp => ⟨wa.heap.size, 0, rfl, by omega, fun i hi => ?_⟩⟩
            rw [Lib.byteCells_length] at hi
            obtain ⟨_, _, ee, _, hcc⟩ := hatb i hi
            cases ee
            rw [hcc]
            simp only [Lib.byteCells, List.getElem?_map, List.getD_eq_getElem?_getD, List.getElem?_eq_getElem hi]
            rfl
          have HZB := Lib.hid hzb; clear hzb hatb
          go_wp2_with fail
          refine (uvalid_any _ zs [] ha (.inl rfl) _ wb hsgb (by rw [HZB.out]; exact Nat.le_refl _) (hT.below hbwb)).mono ?_
          rintro e wc ⟨rfl, hbc⟩
          rw [← HSZ.out]
          go_wp2_with fail
          go_meet
          exact hbwb.trans (hbc.mono hbwb.size)
        · have e1 : textZ zs = (⟨#[]⟩, 40) := by unfold textZ; rw [if_neg (fun e => ha ((allR_iff zs).1 e))]
          have hE0 : E = 40 := by rw [HE.out, e1]
          have hS0 : S = ⟨#[]⟩ := by rw [HS.out, e1]
          clear HE HS e1
          subst hE0 hS0
          go_wp2_with fail
          go_meet
          exact hbw3
      case rest =>
        have hTc := hT.below hcut
        have hzc := hcut.size
        clear hT1 hT2 hT3 hb1 hb2 hb3 hbw2 hbw3 hz1 hz2 hz3 HS HE
        go_wp2_with fail
        rcases text_or s with ⟨rs, har, hsr⟩ | hsb
        · have HSR := Lib.hid hsr; clear hsr
          refine (runes_ok s rs HSR.out har wc hTc (by omega)).mono ?_
          rintro e w4 ⟨v4, rfl, hown4, hb4⟩
          have hbw4 := hcut.trans (hb4.mono hzc)
          have hrl := txt_length_le rs
          have hzs := txt_size s rs HSR.out
          have hrl2 : rs.length ≤ 100000 := by omega
          clear hzs hrl
          go_wp2_with fail
          have ht := text_ok _ rs har _ w4 hown4.seg (Nat.le_refl _) (by omega)
          rw [str_eq s _ HSR.out] at ht
          refine ht.mono ?_
          rintro e w5 ⟨rfl, hb5⟩
          clear ht
          go_wp2
          go_ret
          exact ⟨rfl, hbw4.trans (hb5.mono hbw4.size)⟩
        · refine (runes_bad s hsb wc hTc (by omega)).mono ?_
          rintro e w4 ⟨rfl, hb4⟩
          have hbw4 := hcut.trans (hb4.mono hzc)
          obtain ⟨rs, rest, har, hsplit, hrest⟩ := Par.split s.data.toList
          have hbad : Bad rest := by
            rcases hrest with h0 | hb
            · rw [hsplit, h0, validD_txt rs _ har] at hsb; cases hsb
            · exact hb
          obtain ⟨cap, wb, hconv, hcap1, hcap2, hbb, hzb, hatb⟩ := bytes_of s w4 (by omega)
          have hbwb := hbw4.trans (hbb.mono hbw4.size)
          have hsgb : Seg wb (w4.heap.size + 1) (.slice (some ⟨w4.heap.size, 0, none⟩) s.size cap) (Lib.byteCells (txt rs ++ rest)) := by
            rw [← hsplit]
            have hsl : (Lib.byteCells s.data.toList).length = s.size := by rw [Lib.byteCells_length]; exact (Lib.size_eq s).symm
            refine ⟨_, cap, by rw [hsl], by rw [hsl]; exact hcap1, by simpa [maxLen] using hcap2, fun hp => ⟨w4.heap.size, 0, rfl, by omega, fun i hi => ?_⟩⟩
            rw [Lib.byteCells_length] at hi
            obtain ⟨_, _, ee, _, hcc⟩ := hatb i hi
            cases ee
            rw [hcc]
            simp only [Lib.byteCells, List.getElem?_map, List.getD_eq_getElem?_getD, List.getElem?_eq_getElem hi]
            rfl
          have hltb : (txt rs).length < s.size := by
            have h1 := List.length_pos_iff.2 hbad.1
            have h2 := congrArg List.length hsplit
            rw [← Lib.size_eq, List.length_append] at h2
            omega
          have HZB := Lib.hid hzb; clear hzb hatb hsplit hrest hsb
          go_wp2_with fail
          refine (uvalid_any _ rs rest har (.inr hbad) _ wb hsgb (by rw [HZB.out]; exact Nat.le_refl _) (hT.below hbwb)).mono ?_
          rintro e wd ⟨rfl, hbd⟩
          go_wp2
          go_ret
          exact ⟨rfl, hbwb.trans (hbd.mono hbwb.size)⟩
end Go.Proofs.YtdldkidccjkhgaaDoor
