import Derived.Test.YtdldkidccjkhgaaDoorT9a
import Derived.Test.YtdldkidccjkhgaaDoorT8c
namespace Go.Proofs.YtdldkidccjkhgaaDoor
open Go.RowKit Go.Par
set_option linter.unusedVariables false

def NumIs : Option Nat → Int → Int → Prop
  | some n, x, y => x = n ∧ y = 0
  | none, x, y => x = 0 ∧ y = 70
noncomputable def stepT7 (qs ts : List Int) : Option Nat → Option Nat → Except Int (List Int)
  | none, _ => .error 70
  | some _, none => .error 70
  | some k, some m =>
    if (plc qs m).1 < (plc qs k).1 then .error 71
    else if 32768 < (plc qs k).1 + (txt ts).length + (txt qs).length - (plc qs m).1 then .error 52
    else .ok (qs.take k ++ ts ++ qs.drop m)
theorem stepE_txt (qs : List Int) (e : Ed) (ts : List Int) (hts : e.t.data.toList = txt ts) (hat : AllR ts) : stepE qs e = stepT7 qs ts (posK qs e.l e.c) (posK qs e.el e.ec) := by
  unfold stepE
  rw [hts, runesOf_txt hat]
  cases posK qs e.l e.c <;> cases posK qs e.el e.ec <;> rfl
theorem NumPost.open3 {w w' : World} {o : Option Nat} {e : Ending} (h : NumPost w o e w') : ∃ x y : Int, e = .returned (.tuple #[.int .i64 x, .int .i64 y]) ∧ Below w.heap.size w w' ∧ NumIs o x y := by
  cases o with
  | none => exact ⟨_, _, h.1, h.2, rfl, rfl⟩
  | some k => exact ⟨_, _, h.1, h.2, rfl, rfl⟩

theorem rapply_bad (s : ByteArray) (rs : List Int) (rest : List UInt8) (hs : s.data.toList = txt rs ++ rest) (ha : AllR rs) (hbad : Bad rest) (hl : s.size ≤ 100000) (v : Value) (w : World) :
    Calls Tryd.prog 43 #[.string s, v] w (ApplyPost w (.error 40)) := by
  obtain ⟨cap, wb, hconv, hbb, hval⟩ := bytes_txt s rs rest hs ha (.inr hbad) w (by omega)
  have hlt : (txt rs).length < s.size := by
    have h1 := List.length_pos_iff.2 hbad.1
    have h2 := congrArg List.length hs
    rw [← Lib.size_eq, List.length_append] at h2
    omega
  have HS := Lib.hid hs; clear hs
  obtain ⟨r, hr⟩ : ∃ r : Except Int (List Int), r = .error 40 := ⟨_, rfl⟩
  rw [← hr]
  have HR := Lib.hid hr; clear hr
  go_enter Tryd.func43, Tryd.ntmps43
  go_wp2_with fail
  refine hval.mono ?_
  rintro e w1 ⟨rfl, hb1⟩
  clear hval hconv
  go_wp2
  go_ret2
  exact ApplyPost.bad HR.out (hbb.trans (hb1.mono hbb.size))

set_option maxRecDepth 100000 in
set_option maxHeartbeats 2000000 in
theorem rapply_ok (s : ByteArray) (rs : List Int) (hs : s.data.toList = txt rs) (ha : AllR rs) (hl : s.size ≤ 100000) (v : Value) (es : List Ed) (he : ∀ e ∈ es, e.t.size ≤ 100000 ∧ e.l ≤ 9223372036854775807 ∧ e.el ≤ 9223372036854775807)
    (B : Nat) (w : World) (hsg : SegE w B v es) (hB : B ≤ w.heap.size) :
    Calls Tryd.prog 43 #[.string s, v] w (ApplyPost w (applyE rs es)) := by
  obtain ⟨r, hr⟩ : ∃ r, r = applyE rs es := ⟨_, rfl⟩
  rw [← hr]
  have HR := Lib.hid hr; clear hr
  obtain ⟨cap, wb, hconv, hbb, hval⟩ := bytes_txt s rs [] (by rw [hs]; simp) ha (.inl rfl) w (by omega)
  rw [← txt_size s rs hs] at hval
  have HS := Lib.hid hs; clear hs
  obtain ⟨A, c, rfl, hc, hcm, hat⟩ := hsg
  have hnn : ¬ (s.size : Int) < (s.size : Int) := by omega
  go_enter Tryd.func43, Tryd.ntmps43
  go_wp2_with fail
  refine hval.mono ?_
  rintro e w1 ⟨rfl, hb1'⟩
  have hb1 := hbb.trans (hb1'.mono hbb.size)
  clear hval hconv hbb hb1'
  have hz1 := hb1.size
  go_wp2
  go_loopw [0, 6, 7, 8, 9, 10, 11] (fun sv i _ _ _ _ _ wr => ∃ (k : Nat) (S : ByteArray) (qs : List Int), k ≤ es.length ∧ i = .int .i64 k ∧ sv = .string S ∧ S.size ≤ 100000 ∧ AllR qs ∧ Hid (S.data.toList = txt qs) ∧ Hid (r = applyE qs (es.drop k)) ∧ Below w.heap.size w wr) (fun _ i _ _ _ _ _ _ => es.length - (intOf i).toNat)
  case atStart => exact ⟨0, s, rs, by omega, rfl, rfl, hl, ha, HS, Lib.hid (by rw [HR.out]; rfl), hb1⟩
  case round =>
    obtain ⟨k, S, qs, hk, rfl, rfl, hSl, haq, HSq, HRk, hbw⟩ := hrel
    by_cases hlt : k < es.length
    · obtain ⟨b, off, rfl, hb, hcell⟩ := hat (by omega)
      obtain ⟨e, hek⟩ : ∃ e, es[k]? = some e := ⟨_, List.getElem?_eq_getElem hlt⟩
      have hmem := he e (List.mem_of_getElem? hek)
      obtain ⟨c0, c1, c2, c3, c4⟩ := cells_at hb (hbw.mono hB) hcell hek
      clear hat hcell
      have hdk : es.drop k = e :: es.drop (k + 1) := by
        rw [List.drop_eq_getElem_cons hlt]
        rw [List.getElem?_eq_getElem hlt] at hek
        cases hek; rfl
      have hrk := HRk.out
      rw [hdk] at hrk
      have HRK := Lib.hid hrk; clear hrk hdk HRk hek
      obtain ⟨hm1, hm2, hm3⟩ := hmem
      have hfive := five_new wr e
      have hbW : Below w.heap.size w (wr.alloc (.cells #[.int .i64 e.l, .int .i64 e.c, .int .i64 e.el, .int .i64 e.ec, .string e.t] 52)) := hbw.alloc hbw.size _
      have hgW : wr.heap.size < (wr.alloc (.cells #[.int .i64 e.l, .int .i64 e.c, .int .i64 e.el, .int .i64 e.ec, .string e.t] 52)).heap.size := by simp
      go_wp2_with fail
      clear c0 c1 c2 c3 c4
      have hgw : w.heap.size ≤ wr.heap.size := hbw.size
      generalize wr.alloc (.cells #[.int .i64 e.l, .int .i64 e.c, .int .i64 e.el, .int .i64 e.ec, .string e.t] 52) = W0 at *
      generalize wr.heap.size = g at *
      clear hbw
      rcases text_or2 e.t with ⟨ts, hat, hts⟩ | ⟨htb, ts, rest, hat, hbad, hts⟩
      · obtain ⟨cap2, wb2, hconv2, hbb2, hval2⟩ := bytes_txt e.t ts [] (by rw [hts]; simp) hat (.inl rfl) W0.drew (by omega)
        have hf1 : Five wb2 g e := Five.below (w := W0.drew) hfive hgW hbb2
        have hg1 := Nat.lt_of_lt_of_le hgW hbb2.size
        have d4 : W0.drew.cell? ⟨g, 4, none⟩ = some (.string e.t) := hfive.2.2.2.2
        have d4b := hf1.2.2.2.2
        have hnn2 : ¬ (e.t.size : Int) < (e.t.size : Int) := by omega
        rw [← txt_size e.t ts hts] at hval2
        go_region_with (first | (go_at_call 24; refine hval2.mono ?_; rintro x w2 ⟨rfl, hb2⟩; have d4c := (hf1.below hg1 hb2).2.2.2.2))
        all_goals (
          have hbw2 := hbW.drew.trans ((hbb2.trans (hb2.mono hbb2.size)).mono hbW.size)
          have hf2 := hf1.below hg1 hb2
          have hg2 := Nat.lt_of_lt_of_le hg1 hb2.size
          clear hval2 hconv2 hbb2 hb2 hf1 hg1 d4 d4b d4c hfive hgW hbW
          have hst := stepE_txt qs e ts hts hat
          have HST := Lib.hid hst; clear hst
          have HTS := Lib.hid hts; clear hts
          obtain ⟨d0, d1, d2, d3, d4⟩ := hf2
          go_wp2_with fail
          refine (roffset_ok S qs HSq.out haq hSl e.l e.c _ (Lib.hid (posK_is qs e.l e.c)) w2).mono ?_
          intro x w3 hp3
          obtain ⟨x3, y3, rfl, hb3, hs3⟩ := hp3.open3
          clear hp3
          have HS3 := Lib.hid hs3; clear hs3
          have hf3 := Five.below ⟨d0, d1, d2, d3, d4⟩ hg2 hb3
          have hg3 := Nat.lt_of_lt_of_le hg2 hb3.size
          have hbw3 := hbw2.trans (hb3.mono hbw2.size)
          clear d0 d1 d2 d3 d4 hg2 hb3 hbw2
          obtain ⟨d0, d1, d2, d3, d4⟩ := hf3
          go_wp2_with fail
          refine (roffset_ok S qs HSq.out haq hSl e.el e.ec _ (Lib.hid (posK_is qs e.el e.ec)) w3).mono ?_
          intro x w4 hp4
          obtain ⟨x4, y4, rfl, hb4, hs4⟩ := hp4.open3
          clear hp4
          have HS4 := Lib.hid hs4; clear hs4
          have hf4 := Five.below ⟨d0, d1, d2, d3, d4⟩ hg3 hb4
          have hbw4 := hbw3.trans (hb4.mono hbw3.size)
          clear d0 d1 d2 d3 d4 hg3 hb4 hbw3
          obtain ⟨d0, d1, d2, d3, d4⟩ := hf4
          have hs3 := HS3.out
          have hs4 := HS4.out
          clear HS3 HS4
          cases hk1 : posK qs e.l e.c with
          | none =>
            rw [hk1] at hs3
            obtain ⟨rfl, rfl⟩ := hs3
            have HK1 := Lib.hid hk1; clear hk1 hs4
            go_wp2
            go_ret2
            refine ApplyPost.bad ?_ hbw4
            rw [HRK.out]; unfold applyE; rw [HST.out, HK1.out]; rfl
          | some k1 =>
            rw [hk1] at hs3
            obtain ⟨rfl, rfl⟩ := hs3
            have hk1l := (posK_is qs e.l e.c)
            rw [hk1] at hk1l
            have hk1l := hk1l.1
            have HK1 := Lib.hid hk1; clear hk1
            cases hk2 : posK qs e.el e.ec with
            | none =>
              rw [hk2] at hs4
              obtain ⟨rfl, rfl⟩ := hs4
              have HK2 := Lib.hid hk2; clear hk2
              go_wp2
              go_ret2
              refine ApplyPost.bad ?_ hbw4
              rw [HRK.out]; unfold applyE; rw [HST.out, HK1.out, HK2.out]; rfl
            | some k2 =>
              rw [hk2] at hs4
              obtain ⟨rfl, rfl⟩ := hs4
              have hk2l := (posK_is qs e.el e.ec)
              rw [hk2] at hk2l
              have hk2l := hk2l.1
              have HK2 := Lib.hid hk2; clear hk2
              have hst := HST.out
              rw [HK1.out, HK2.out] at hst
              unfold stepT7 at hst
              dsimp only at hst
              have hSz := txt_size S qs HSq.out
              have hTz := txt_size e.t ts HTS.out
              have hp1 := plc_le qs k1
              have hp2 := plc_le qs k2
              have htk := take_txt qs k1
              have htd := drop_txt qs k2
              rw [← hSz] at hst hp1 hp2
              rw [← hTz] at hst
              obtain ⟨p1, hp1e⟩ : ∃ p, p = (plc qs k1).1 := ⟨_, rfl⟩
              obtain ⟨p2, hp2e⟩ : ∃ p, p = (plc qs k2).1 := ⟨_, rfl⟩
              dsimp only
              rw [← hp1e] at hst hp1 htk ⊢
              rw [← hp2e] at hst hp2 htd ⊢
              have HST2 := Lib.hid hst; clear hst HST
              have HTK := Lib.hid htk; clear htk
              have HTD := Lib.hid htd; clear htd
              have HP1 := Lib.hid hp1e; clear hp1e
              have HP2 := Lib.hid hp2e; clear hp2e
              have HSZ := Lib.hid hSz; clear hSz
              have HTZ := Lib.hid hTz; clear hTz
              by_cases hlt2 : p2 < p1
              · go_wp2
                go_ret2
                refine ApplyPost.bad ?_ hbw4
                rw [HRK.out]; unfold applyE; rw [HST2.out, if_pos hlt2]
              · have hcat : (S.extract 0 p1 ++ e.t ++ S.extract p2 S.size).size = p1 + e.t.size + S.size - p2 := by simp; omega
                have hcl : (S.extract 0 p1 ++ e.t ++ S.extract p2 S.size).data.toList = txt (qs.take k1 ++ ts ++ qs.drop k2) := by
                  simp only [ByteArray.data_append, Array.toList_append]
                  rw [extract_l S _ _ _ HSq.out, extract_l S _ _ _ HSq.out, List.drop_zero, Nat.sub_zero, HTK.out, HTD.out, HTS.out, txt_append, txt_append]
                  have h1 := congrArg List.length HTD.out
                  have h2 := HSZ.out
                  rw [List.length_drop] at h1
                  rw [List.take_of_length_le (l := txt (qs.drop k2)) (by omega)]
                have HCAT := Lib.hid hcat; clear hcat
                have HCL := Lib.hid hcl; clear hcl
                go_wp2_with fail
                go_region
                generalize S.extract 0 p1 ++ e.t ++ S.extract p2 S.size = Z at *
                by_cases hbig : 32768 < p1 + e.t.size + S.size - p2
                · have hbig' : decide ((32768 : Int) < (Z.size : Int)) = true := decide_eq_true (by rw [HCAT.out]; omega)
                  go_wp2
                  go_ret2
                  refine ApplyPost.bad ?_ hbw4.drew
                  rw [HRK.out]; unfold applyE; rw [HST2.out, if_neg hlt2, if_pos hbig]
                · have hbig' : decide ((32768 : Int) < (Z.size : Int)) = false := decide_eq_false (by rw [HCAT.out]; omega)
                  have hZl : Z.size ≤ 100000 := by rw [HCAT.out]; omega
                  go_wp2
                  go_roundw
                  case rel =>
                    refine ⟨k + 1, _, qs.take k1 ++ ts ++ qs.drop k2, by omega, by go_num, rfl, hZl, ((haq.take k1).append hat).append (haq.drop k2), HCL, Lib.hid ?_, hbw4.drew⟩
                    rw [HRK.out]; conv => lhs; unfold applyE; rw [HST2.out, if_neg hlt2, if_neg hbig]
                  case measure => simp [intOf]; omega)
      · obtain ⟨cap2, wb2, hconv2, hbb2, hval2⟩ := bytes_txt e.t ts rest hts hat (.inr hbad) W0.drew (by omega)
        have hf1 : Five wb2 g e := Five.below (w := W0.drew) hfive hgW hbb2
        have hg1 := Nat.lt_of_lt_of_le hgW hbb2.size
        have d4 : W0.drew.cell? ⟨g, 4, none⟩ = some (.string e.t) := hfive.2.2.2.2
        have d4b := hf1.2.2.2.2
        have hst : stepE qs e = .error 40 := by unfold stepE; rw [runesOf_bad htb]
        have HST := Lib.hid hst; clear hst
        have hltb : (txt ts).length < e.t.size := by
          have h1 := List.length_pos_iff.2 hbad.1
          have h2 := congrArg List.length hts
          rw [← Lib.size_eq, List.length_append] at h2
          omega
        have HTS := Lib.hid hts; clear hts
        go_region_with (first | (go_at_call 24; refine hval2.mono ?_; rintro x w2 ⟨rfl, hb2⟩; have d4c := (hf1.below hg1 hb2).2.2.2.2))
        all_goals (
          have hbw2 := hbW.drew.trans ((hbb2.trans (hb2.mono hbb2.size)).mono hbW.size)
          clear hval2 hconv2 hbb2 hb2 hf1 hg1 d4 d4b d4c hfive hgW hbW
          go_wp2
          go_ret2
          refine ApplyPost.bad ?_ hbw2
          rw [HRK.out]; unfold applyE; rw [HST.out])
    · have hkl : k = es.length := by omega
      have HKL := Lib.hid hkl; clear hkl hat
      go_wp2
      go_ret2
      have h1 := HRk.out
      rw [HKL.out, List.drop_length] at h1
      exact ApplyPost.good h1 HSq.out hbw
end Go.Proofs.YtdldkidccjkhgaaDoor
