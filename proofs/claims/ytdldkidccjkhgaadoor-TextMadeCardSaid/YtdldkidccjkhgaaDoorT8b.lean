import Derived.Test.YtdldkidccjkhgaaDoorT8a
namespace Go.Proofs.YtdldkidccjkhgaaDoor
open Go.RowKit Go.Par
set_option linter.unusedVariables false

theorem open_strs {w : World} {B : Nat} {v : Value} {ls : List (List UInt8)} (h : Seg w B v (strs ls)) :
    ∃ A c, v = .slice A ls.length c ∧ ls.length ≤ c ∧ c ≤ 9223372036854775807 ∧ At w B A ls.length (fun i => .string ⟨(ls.getD i []).toArray⟩) := by
  obtain ⟨A, c, rfl, h2, h3, h4⟩ := h
  rw [strs_length] at h2 h4
  refine ⟨A, c, by rw [strs_length], h2, by simpa [maxLen] using h3, fun i hi => ?_⟩
  obtain ⟨b, off, e, hb, hc⟩ := h4 (by omega)
  refine ⟨b, off, e, hb, (hc i hi).trans ?_⟩
  simp [strs, hi, List.getD_eq_getElem?_getD]

theorem bytes_txt (s : ByteArray) (rs : List Int) (rest : List UInt8) (hl : s.data.toList = txt rs ++ rest) (ha : AllR rs) (hr : rest = [] ∨ Bad rest) (w : World) (hs : s.size ≤ 1000000) :
    ∃ cap w1, (convert 9 29 (.string s)).run Tryd.prog w = .ok (.slice (some ⟨w.heap.size, 0, none⟩) s.size cap) w1 ∧ Below w.heap.size w w1 ∧
      Calls Tryd.prog 24 #[.slice (some ⟨w.heap.size, 0, none⟩) s.size cap] w1 fun e w' => e = .returned (.int .i64 (txt rs).length) ∧ Below w1.heap.size w1 w' := by
  obtain ⟨cap, wb, hconv, hcap1, hcap2, hbb, hzb, hatb⟩ := bytes_of s w (by omega)
  refine ⟨cap, wb, hconv, hbb, ?_⟩
  have hsl : s.data.toList.length = s.size := (Lib.size_eq s).symm
  have := refValid_any w.heap.size 0 cap s.data.toList rs rest hl ha hr (w.heap.size + 1) wb hatb (by omega) (by omega) (by omega) hcap2
  rwa [hsl] at this

theorem map_getD (ls : List (List Int)) (j : Nat) : (ls.map txt).getD j [] = txt (ls.getD j []) := by
  simp only [List.getD_eq_getElem?_getD, List.getElem?_map]
  cases ls[j]? <;> rfl

set_option maxRecDepth 20000 in
set_option maxHeartbeats 2000000 in
theorem roffset_ok (s : ByteArray) (rs : List Int) (hs : s.data.toList = txt rs) (ha : AllR rs) (hl : s.size ≤ 100000) (line char : Int) (o : Option Nat) (HO : Hid (IsT rs line char o)) (w : World) :
    Calls Tryd.prog 47 #[.string s, .int .i64 line, .int .i64 char] w (NumPost w (o.map fun k => (plc rs k).1)) := by
  obtain ⟨o', ho'⟩ : ∃ o', o' = o.map fun k => (plc rs k).1 := ⟨_, rfl⟩
  rw [← ho']
  have HO' := Lib.hid ho'; clear ho'
  have HSZ := Lib.hid (txt_size s rs hs)
  obtain ⟨cap, wb, hconv, hbb, hval⟩ := bytes_txt s rs [] (by rw [hs]; simp) ha (.inl rfl) w (by omega)
  rw [← HSZ.out] at hval
  have HS := Lib.hid hs; clear hs
  go_enter Tryd.func47, Tryd.ntmps47
  go_wp2_with fail
  refine hval.mono ?_
  rintro e w1 ⟨rfl, hb1⟩
  have hbw1 := hbb.trans (hb1.mono hbb.size)
  clear hval hconv hbb hb1
  go_wp2_with fail
  refine (split_any s w1 (by omega)).mono ?_
  rintro e w2 ⟨v2, rfl, hown2, hb2⟩
  have hbw2 := hbw1.trans (hb2.mono hbw1.size)
  clear hb2 hbw1
  have hsp : spl [] s.data.toList = (splR [] rs).map txt := by rw [HS.out]; exact spl_txt rs [] ha
  rw [hsp] at hown2
  clear hsp
  obtain ⟨A, c, rfl, hc, hcm, hat⟩ := open_strs hown2.seg
  clear hown2
  rw [List.length_map] at hc hat ⊢
  have hln := splR_length rs []
  have hcl : rs.count 10 ≤ rs.length := List.count_le_length
  have hrl := txt_length_le rs
  have hln2 : (splR [] rs).length ≤ 100001 := by have := HSZ.out; omega
  clear hln hcl hrl
  by_cases hneg : line < 0
  · go_wp2
    go_ret2
    refine NumPost.bad ?_ hbw2
    rw [HO'.out, HO.out.eq (o' := none) (fun k hk hp => by omega)]; rfl
  · by_cases hbig : ((splR [] rs).length : Int) ≤ line
    · go_wp2
      go_ret2
      refine NumPost.bad ?_ hbw2
      rw [HO'.out, HO.out.eq (no_line rs line char hbig)]; rfl
    · obtain ⟨j, rfl⟩ : ∃ j : Nat, line = j := ⟨line.toNat, by omega⟩
      have hj : j < (splR [] rs).length := by omega
      obtain ⟨k, hk, hL, hp, hoff⟩ := line_of rs j hj
      obtain ⟨b, off, rfl, hb, hcell⟩ := hat j hj
      dsimp only at hcell
      rw [map_getD] at hcell
      have haa := hL.all ha
      have hpl := plc_le rs k
      have hah : ∀ i, i ≤ j → ahead (splR [] rs) i ≤ ahead (splR [] rs) j := by
        intro i hi
        have : ∀ d, i + d ≤ j → ahead (splR [] rs) i ≤ ahead (splR [] rs) (i + d) := by
          intro d
          induction d with
          | zero => intro _; exact Nat.le_refl _
          | succ d ih =>
            intro h
            have h1 := ih (by omega)
            have h2 := ahead_succ (splR [] rs) (i + d) (by omega)
            rw [← Nat.add_assoc, h2]; omega
        have h3 := this (j - i) (by omega)
        rwa [show i + (j - i) = j by omega] at h3
      have HAH := Lib.hid hah; clear hah
      obtain ⟨S, hS, hSl, hSz⟩ := str_of (txt ((splR [] rs).getD j []))
      rw [← hS] at hcell
      have hSz2 : S.size ≤ 100000 := by
        have h1 := hL.off hk ((splR [] rs).getD j []).length (Nat.le_refl _)
        have h2 : (plc ((splR [] rs).getD j []) ((splR [] rs).getD j []).length).1 = (txt ((splR [] rs).getD j [])).length := by unfold plc; rw [take_all]
        have h3 := plc_le rs (k + ((splR [] rs).getD j []).length)
        have h4 := HSZ.out
        omega
      have hahj : ahead (splR [] rs) j ≤ 100000 := by have h4 := HSZ.out; omega
      have HS1 := Lib.hid hS; clear hS
      have HSL := Lib.hid hSl; clear hSl
      have HSZ2 := Lib.hid hSz; clear hSz
      have HP := Lib.hid hp; clear hp
      have HOF := Lib.hid hoff; clear hoff
      have HLL := Lib.hid hL; clear hL hpl hneg hbig
      go_wp2_with fail
      refine (refOffset_ok S _ HSL.out haa char w2 hSz2).mono ?_
      have h0 : (posT rs k).2 = 0 := by rw [HP.out]
      have hj1 : (posT rs k).1 = j := by rw [HP.out]
      cases hf : findP (fun p => decide ((p.2 : Int) = char)) ((splR [] rs).getD j []) with
      | none =>
        rintro e w3 ⟨rfl, hb3⟩
        have hno := isT_line_none hk HLL.out h0 char hf
        rw [hj1] at hno
        have HNO := Lib.hid hno; clear hno hf h0 hj1 hat
        go_wp2
        go_ret2
        refine NumPost.bad ?_ (hbw2.trans (hb3.mono hbw2.size))
        rw [HO'.out, HO.out.eq HNO.out]; rfl
      | some q =>
        rintro e w3 ⟨rfl, hb3⟩
        obtain ⟨m, hm, hpm⟩ := isT_line_some hk HLL.out h0 char hf
        rw [hj1] at hm
        rw [HOF.out] at hpm
        have hqs : q.1 ≤ 100000 := by
          have h1 := plc_le rs m
          have h2 := HSZ.out
          omega
        have HM := Lib.hid hm; clear hm hf h0 hj1
        have HPM := Lib.hid hpm; clear hpm
        have hbw3 := hbw2.trans (hb3.mono hbw2.size)
        have hat3 := hat.below hb3
        clear hat hcell
        go_wp2
        go_loopw [9, 11] (fun n i wr => ∃ x : Nat, x ≤ j ∧ i = .int .i64 x ∧ n = .int .i64 ((q.1 + ahead (splR [] rs) x : Nat) : Int) ∧ w3 = wr) (fun _ i _ => j - (intOf i).toNat)
        case atStart => exact ⟨0, by omega, rfl, rfl, rfl⟩
        case round =>
          obtain ⟨x, hx, rfl, rfl, rfl⟩ := hrel
          by_cases hlt : x < j
          · obtain ⟨b', off', e, hb', hcell⟩ := hat3 x (by omega)
            cases e
            dsimp only at hcell
            rw [map_getD] at hcell
            have hsu := ahead_succ (splR [] rs) x (by omega)
            have hle := HAH.out (x + 1) (by omega)
            obtain ⟨T, hTe, hTl, hTz⟩ := str_of (txt ((splR [] rs).getD x []))
            rw [← hTe] at hcell
            rw [← hTz] at hsu
            have HSU := Lib.hid hsu
            have hts : T.size ≤ 100000 := by omega
            have hax : ahead (splR [] rs) x ≤ 100000 := by omega
            clear hTe hTl hTz hat3 hsu hle
            go_wp2
            go_roundw
            case rel => exact ⟨x + 1, by omega, by go_num, by rw [HSU.out]; go_num, trivial⟩
            case measure => simp [intOf]; omega
          · have hxj : x = j := by omega
            subst hxj
            clear hat3
            go_wp2
            go_ret2
            refine NumPost.good ?_ hbw3
            rw [HO'.out, HO.out.eq HM.out, Option.map_some, HPM.out, Nat.add_comm]

theorem roffset_bad (s : ByteArray) (rs : List Int) (rest : List UInt8) (hs : s.data.toList = txt rs ++ rest) (ha : AllR rs) (hbad : Bad rest) (hl : s.size ≤ 100000) (line char : Int) (w : World) :
    Calls Tryd.prog 47 #[.string s, .int .i64 line, .int .i64 char] w fun e w' => e = .returned (.tuple #[.int .i64 0, .int .i64 40]) ∧ Below w.heap.size w w' := by
  obtain ⟨cap, wb, hconv, hbb, hval⟩ := bytes_txt s rs rest hs ha (.inr hbad) w (by omega)
  have hlt : (txt rs).length < s.size := by
    have h1 := List.length_pos_iff.2 hbad.1
    have h2 := congrArg List.length hs
    rw [← Lib.size_eq, List.length_append] at h2
    omega
  have HS := Lib.hid hs; clear hs
  go_enter Tryd.func47, Tryd.ntmps47
  go_wp2_with fail
  refine hval.mono ?_
  rintro e w1 ⟨rfl, hb1⟩
  clear hval hconv
  go_wp2
  go_ret2
  exact ⟨rfl, hbb.trans (hb1.mono hbb.size)⟩
end Go.Proofs.YtdldkidccjkhgaaDoor
