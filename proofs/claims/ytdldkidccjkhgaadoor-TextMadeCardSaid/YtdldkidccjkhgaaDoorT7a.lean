import Derived.Test.YtdldkidccjkhgaaDoorT7
import Derived.Test.YtdldkidccjkhgaaDoorUtfPlacesWalk
namespace Go.Proofs.YtdldkidccjkhgaaDoor
open Go.RowKit Go.Par
set_option linter.unusedVariables false

theorem cut1_none (s : ByteArray) (h : Lib.indexByte s.data.toList 10 = -1) (w : World) :
    Calls Tryd.prog 85 #[.string s, .string ⟨#[10]⟩] w fun e w' => e = .returned (.tuple #[.string s, .string ⟨#[]⟩, .bool false]) ∧ w' = w := by
  have hi := Tryd.stringslite_Index_one s 10 w
  rw [h] at hi
  go_enter Tryd.func85, Tryd.ntmps85
  go_wp2_with (go_at_call 84; refine hi.mono ?_; rintro e w1 ⟨rfl, rfl⟩)
  go_ret3
  exact ⟨rfl, rfl⟩

theorem cut1_at (s : ByteArray) (i : Nat) (h : Lib.indexByte s.data.toList 10 = i) (hi : i < s.size) (hs : s.size ≤ 9223372036854775806) (w : World) :
    Calls Tryd.prog 85 #[.string s, .string ⟨#[10]⟩] w fun e w' => e = .returned (.tuple #[.string (s.extract 0 i), .string (s.extract (i + 1) s.size), .bool true]) ∧ ∃ n, w' = w.drewN n := by
  have hx := Tryd.stringslite_Index_one s 10 w
  rw [h] at hx
  go_enter Tryd.func85, Tryd.ntmps85
  go_wp2_with (go_at_call 84; refine hx.mono ?_; rintro e w1 ⟨rfl, rfl⟩)
  go_region
  go_wp2
  go_ret3
  exact ⟨rfl, _, rfl⟩

theorem cut_none (s : ByteArray) (h : Lib.indexByte s.data.toList 10 = -1) (w : World) :
    Calls Tryd.prog 79 #[.string s, .string ⟨#[10]⟩] w fun e w' => e = .returned (.tuple #[.string s, .string ⟨#[]⟩, .bool false]) ∧ w' = w := by
  go_enter Tryd.func79, Tryd.ntmps79
  go_wp2_with (go_at_call 85; refine (cut1_none s h _).mono ?_; rintro e w1 ⟨rfl, rfl⟩)
  go_ret3
  exact ⟨rfl, rfl⟩
theorem cut_at (s : ByteArray) (i : Nat) (h : Lib.indexByte s.data.toList 10 = i) (hi : i < s.size) (hs : s.size ≤ 9223372036854775806) (w : World) :
    Calls Tryd.prog 79 #[.string s, .string ⟨#[10]⟩] w fun e w' => e = .returned (.tuple #[.string (s.extract 0 i), .string (s.extract (i + 1) s.size), .bool true]) ∧ ∃ n, w' = w.drewN n := by
  go_enter Tryd.func79, Tryd.ntmps79
  go_wp2_with (go_at_call 85; refine (cut1_at s i h hi hs _).mono ?_; rintro e w1 ⟨rfl, n1, rfl⟩)
  go_ret3
  exact ⟨rfl, n1, rfl⟩

theorem extract_l (s : ByteArray) (a b : Nat) (l : List UInt8) (h : s.data.toList = l) : (s.extract a b).data.toList = (l.drop a).take (b - a) := by rw [Lib.extract_data, h]

/-- the line at the beginning. -/
theorem front_any (s : ByteArray) (qs : List Int) (hs : s.data.toList = txt qs) (ha : AllR qs) (hl : s.size ≤ 9223372036854775806) (w : World) :
    Calls Tryd.prog 66 #[.string s] w fun e w' => ∃ S a n, e = .returned (.string S) ∧ S.data.toList = txt a ∧ LineAt qs 0 a ∧ S.size ≤ s.size ∧ w' = w.drewN n := by
  obtain ⟨a, b, e, h10, hb⟩ := line_cut qs
  rcases hb with rfl | ⟨c, rfl⟩
  · rw [List.append_nil] at e
    subst e
    have hi : Lib.indexByte s.data.toList 10 = -1 := by rw [hs]; exact nl_none ha h10
    have HS := Lib.hid hs; clear hs
    go_enter Tryd.func66, Tryd.ntmps66
    go_wp2_with (go_at_call 79; refine (cut_none s hi _).mono ?_; rintro e w1 ⟨rfl, rfl⟩)
    go_ret
    exact ⟨s, qs, 0, rfl, HS.out, ⟨h10, [], by simp, .inl rfl⟩, Nat.le_refl _, rfl⟩
  · subst e
    have hi : Lib.indexByte s.data.toList 10 = ((txt a).length : Nat) := by rw [hs]; exact nl_at ha h10
    have hsz := txt_size s _ hs
    rw [txt_append, txt_cons, enc_nl] at hsz
    simp at hsz
    have HS := Lib.hid hs; clear hs
    go_enter Tryd.func66, Tryd.ntmps66
    go_wp2_with (go_at_call 79; refine (cut_at s _ hi (by omega) hl _).mono ?_; rintro e w1 ⟨rfl, n1, rfl⟩)
    go_ret
    refine ⟨_, a, n1, rfl, ?_, ⟨h10, 10 :: c, by simp, .inr ⟨c, rfl⟩⟩, ?_, rfl⟩
    · rw [extract_l s _ _ _ HS.out, txt_append]; simp
    · simp; omega

theorem LineAt.at {rs : List Int} {k : Nat} {a : List Int} (h : LineAt (rs.drop k) 0 a) : LineAt rs k a := by
  obtain ⟨h1, b, e, hb⟩ := h
  exact ⟨h1, b, by simpa using e, hb⟩

set_option maxRecDepth 20000 in
set_option maxHeartbeats 1000000 in
theorem find_any (s : ByteArray) (rs : List Int) (hs : s.data.toList = txt rs) (ha : AllR rs) (hl : s.size ≤ 100000) (line char : Int) (hlm : line ≤ 9223372036854775807) (o : Option Nat) (HO : Hid (IsT rs line char o)) (w : World) (hT : Tabs w) :
    Calls Tryd.prog 63 #[.string s, .int .i64 line, .int .i64 char] w (NumPost w (o.map fun k => (plc rs k).1)) := by
  obtain ⟨o', ho'⟩ : ∃ o', o' = o.map fun k => (plc rs k).1 := ⟨_, rfl⟩
  rw [← ho']
  have HO' := Lib.hid ho'; clear ho'
  have HSZ := Lib.hid (txt_size s rs hs)
  have HS := Lib.hid hs; clear hs
  by_cases hneg : line < 0
  · go_enter Tryd.func63, Tryd.ntmps63
    go_wp2
    go_ret2
    refine NumPost.bad ?_ (Below.refl _ _)
    have : o = none := HO.out.eq (fun k hk hp => by omega)
    rw [HO'.out, this]; rfl
  · go_enter Tryd.func63, Tryd.ntmps63
    go_wp2
    go_loopw [8, 15, 9] (fun st i _ wr => ∃ j k : Nat, i = .int .i64 j ∧ st = .int .i64 (plc rs k).1 ∧ (j : Int) ≤ line ∧ k ≤ rs.length ∧ Hid (posT rs k = (j, 0)) ∧ w = wr) (fun _ i _ _ => (line - intOf i).toNat)
    case atStart => exact ⟨0, 0, rfl, rfl, by omega, by omega, Lib.hid rfl, rfl⟩
    case round =>
      obtain ⟨j, k, rfl, rfl, hj, hk, HP, rfl⟩ := hrel
      have hpl : (plc rs k).1 ≤ s.size := by rw [HSZ.out]; exact plc_le rs k
      have hdl : (s.extract (plc rs k).1 s.size).data.toList = txt (rs.drop k) := by
        rw [extract_l s _ _ _ HS.out, drop_txt, List.take_of_length_le]
        have h1 := congrArg List.length (drop_txt rs k)
        have h2 := HSZ.out
        rw [← h1, List.length_drop]; omega
      have had := ha.drop k
      have hxs : (s.extract (plc rs k).1 s.size).size ≤ s.size := by simp
      obtain ⟨p, hp⟩ : ∃ p, p = (plc rs k).1 := ⟨_, rfl⟩
      rw [← hp] at hpl hdl hxs ⊢
      have HPL := Lib.hid hp; clear hp
      have HDL := Lib.hid hdl; clear hdl
      by_cases hlt : (j : Int) < line
      · obtain ⟨a, b, e, h10, hb⟩ := line_cut (rs.drop k)
        have hix := Tryd.strings_IndexByte (s.extract p s.size) 10 w
        rcases hb with rfl | ⟨c, rfl⟩
        · rw [List.append_nil] at e
          have hi : Lib.indexByte (s.extract p s.size).data.toList (10 : Int).toNat.toUInt8 = -1 := by rw [HDL.out]; exact nl_none had (by rw [e]; exact h10)
          rw [hi] at hix
          have HE := Lib.hid e; clear e
          go_wp2_with (go_at_call 74; refine hix.mono ?_; rintro e w1 ⟨rfl, rfl⟩)
          go_ret2
          refine NumPost.bad ?_ (Below.refl _ _)
          have : o = none := HO.out.eq (isT_beyond hk (by rw [HE.out]; exact h10) line char (by rw [HP.out]; exact hlt))
          rw [HO'.out, this]; rfl
        · have hi : Lib.indexByte (s.extract p s.size).data.toList (10 : Int).toNat.toUInt8 = ((txt a).length : Nat) := by
            rw [HDL.out, e]; rw [e] at had; exact nl_at had h10
          rw [hi] at hix
          have hL : LineAt rs k a := ⟨h10, _, e, .inr ⟨c, rfl⟩⟩
          have hle := congrArg List.length e
          simp at hle
          have hn1 : k + a.length < rs.length := by omega
          have hnl : rs.getD (k + a.length) 0 = 10 := by
            rcases hL.next hk with h | h
            · omega
            · exact h.2
          have hst := posT_step rs (k + a.length) hn1
          have hps := plc_step rs (k + a.length) hn1
          rw [hnl, hL.pos hk a.length (Nat.le_refl _), HP.out] at hst
          rw [hnl, enc_nl, hL.off hk a.length (Nat.le_refl _), ← HPL.out] at hps
          have hps1 : (plc rs (k + a.length + 1)).1 = p + ((txt a).length + 1) := by
            rw [hps]; simp [plc]; omega
          have hple : (plc rs (k + a.length + 1)).1 ≤ s.size := by rw [HSZ.out]; exact plc_le rs _
          rw [hps1] at hple
          have HST := Lib.hid hst; clear hst
          have HPS := Lib.hid hps1; clear hps1 hps
          have HE := Lib.hid e; clear e
          go_wp2_with (go_at_call 74; refine hix.mono ?_; rintro e w1 ⟨rfl, rfl⟩)
          go_roundw
          case rel => exact ⟨j + 1, k + a.length + 1, by go_num, by rw [HPS.out]; go_num, by omega, by omega, Lib.hid HST.out, trivial⟩
          case measure => simp [intOf]; omega
      · have hjl : line = (j : Int) := by omega
        subst hjl
        clear hlt
        go_wp2_with fail
        refine (front_any _ _ HDL.out had (by omega) w).mono ?_
        rintro e w1 ⟨S, a, n1, rfl, hSa, hLa, hSz, rfl⟩
        have hLa := hLa.at
        have haa := hLa.all ha
        have hT1 : Tabs (w.drewN n1) := hT
        have hb1 : Below w.heap.size w (w.drewN n1) := below_drewN (Below.refl _ _) n1
        have h0 : (posT rs k).2 = 0 := by rw [HP.out]
        have hj1 : (posT rs k).1 = j := by rw [HP.out]
        have HSA := Lib.hid hSa; clear hSa
        generalize w.drewN n1 = w2 at *
        go_wp2_with fail
        refine (offset_ok S a HSA.out haa char w2 hT1 (by omega)).mono ?_
        cases hf : findP (fun p => decide ((p.2 : Int) = char)) a with
        | none =>
          rintro e w3 ⟨rfl, hb3⟩
          have hno := isT_line_none hk hLa h0 char hf
          rw [hj1] at hno
          have HNO := Lib.hid hno; clear hno hf hLa h0 hj1
          go_wp2
          go_ret2
          refine NumPost.bad ?_ (hb1.trans (hb3.mono hb1.size))
          rw [HO'.out, HO.out.eq HNO.out]; rfl
        | some q =>
          rintro e w3 ⟨rfl, hb3⟩
          obtain ⟨m, hm, hpm⟩ := isT_line_some hk hLa h0 char hf
          rw [hj1] at hm
          rw [← HPL.out] at hpm
          have hpq : p + q.1 ≤ s.size := by rw [← hpm, HSZ.out]; exact plc_le rs m
          have HM := Lib.hid hm; clear hm hf hLa h0 hj1
          have HPM := Lib.hid hpm; clear hpm
          go_wp2
          go_ret2
          have : NumPost w o' (.returned (.tuple #[.int .i64 ((p + q.1 : Nat) : Int), .int .i64 0])) w3 := by
            refine NumPost.good ?_ (hb1.trans (hb3.mono hb1.size))
            rw [HO'.out, HO.out.eq HM.out, Option.map_some, HPM.out]
          rwa [Int.natCast_add] at this
end Go.Proofs.YtdldkidccjkhgaaDoor
