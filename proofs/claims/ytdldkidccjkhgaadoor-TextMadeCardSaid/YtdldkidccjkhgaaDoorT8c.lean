import Derived.Test.YtdldkidccjkhgaaDoorT8b
namespace Go.Proofs.YtdldkidccjkhgaaDoor
open Go.RowKit Go.Par
set_option linter.unusedVariables false

theorem spl_mem_le : ∀ (l c a : List UInt8), a ∈ spl c l → a.length ≤ c.length + l.length
  | [], c, a, h => by simp [spl] at h; subst h; simp
  | b :: l, c, a, h => by
    unfold spl at h
    split at h
    · rcases List.mem_cons.1 h with rfl | hm
      · simp
      · have := spl_mem_le l [] a hm; simp at this ⊢; omega
    · have := spl_mem_le l _ a h; simp at this ⊢; omega

theorem rplace_bad (s : ByteArray) (rs : List Int) (rest : List UInt8) (hs : s.data.toList = txt rs ++ rest) (ha : AllR rs) (hbad : Bad rest) (hl : s.size ≤ 100000) (off : Int) (w : World) :
    Calls Tryd.prog 49 #[.string s, .int .i64 off] w fun e w' => e = .returned (.tuple #[.int .i64 0, .int .i64 0, .int .i64 40]) ∧ Below w.heap.size w w' := by
  obtain ⟨cap, wb, hconv, hbb, hval⟩ := bytes_txt s rs rest hs ha (.inr hbad) w (by omega)
  have hlt : (txt rs).length < s.size := by
    have h1 := List.length_pos_iff.2 hbad.1
    have h2 := congrArg List.length hs
    rw [← Lib.size_eq, List.length_append] at h2
    omega
  have HS := Lib.hid hs; clear hs
  go_enter Tryd.func49, Tryd.ntmps49
  go_wp2_with fail
  refine hval.mono ?_
  rintro e w1 ⟨rfl, hb1⟩
  clear hval hconv
  go_wp2
  go_ret3
  exact ⟨rfl, hbb.trans (hb1.mono hbb.size)⟩

set_option maxRecDepth 20000 in
set_option maxHeartbeats 2000000 in
theorem rplace_ok (s : ByteArray) (rs : List Int) (hs : s.data.toList = txt rs) (ha : AllR rs) (hl : s.size ≤ 100000) (off : Int) (o : Option Nat) (HO : Hid (IsO rs off o)) (w : World) :
    Calls Tryd.prog 49 #[.string s, .int .i64 off] w (PlacePost w rs o) := by
  have HSZ := Lib.hid (txt_size s rs hs)
  obtain ⟨cap, wb, hconv, hbb, hval⟩ := bytes_txt s rs [] (by rw [hs]; simp) ha (.inl rfl) w (by omega)
  rw [← HSZ.out] at hval
  have HS := Lib.hid hs; clear hs
  by_cases hneg : off < 0
  · go_enter Tryd.func49, Tryd.ntmps49
    go_wp2_with fail
    refine hval.mono ?_
    rintro e w1 ⟨rfl, hb1⟩
    clear hval hconv
    go_wp2
    go_ret3
    exact PlacePost.bad (HO.out.eq ha (fun k hk hp => by omega)) (hbb.trans (hb1.mono hbb.size))
  · by_cases hbig : (s.size : Int) < off
    · go_enter Tryd.func49, Tryd.ntmps49
      go_wp2_with fail
      refine hval.mono ?_
      rintro e w1 ⟨rfl, hb1⟩
      clear hval hconv
      go_wp2
      go_ret3
      refine PlacePost.bad (HO.out.eq ha (fun k hk hp => ?_)) (hbb.trans (hb1.mono hbb.size))
      have h1 := plc_le rs k
      have h2 := HSZ.out
      omega
    · obtain ⟨n, rfl⟩ : ∃ n : Nat, off = n := ⟨off.toNat, by omega⟩
      have hn : n ≤ s.size := by omega
      have hex : (s.extract 0 n).data.toList = (txt rs).take n := by rw [extract_l s _ _ _ HS.out]; simp
      have hexz : (s.extract 0 n).size = n := by simp; omega
      obtain ⟨X, hX⟩ : ∃ X, X = s.extract 0 n := ⟨_, rfl⟩
      rw [← hX] at hex hexz
      have hslc : ∀ wx, (Instr.slice 9 (.string s) none (some (.int .i64 (n : Int))) none).run Tryd.prog wx = .ok (.string X) wx := fun wx => by
        rw [run_slice_string_to_if wx 9 s .i64 (n : Int) Tryd.underlying9]
        rw [if_pos (by omega), hX]; simp
      have HX := Lib.hid hX; clear hX
      have HEX := Lib.hid hex; clear hex
      go_enter Tryd.func49, Tryd.ntmps49
      go_wp2_with fail
      refine hval.mono ?_
      rintro e w1 ⟨rfl, hb1⟩
      have hbw1 := hbb.trans (hb1.mono hbb.size)
      clear hval hconv hbb hb1
      rcases text_or2 X with ⟨qs, haq, hqs⟩ | ⟨hxb, qs, rest, haq, hbad, hqs⟩
      · obtain ⟨cap2, wb2, hconv2, hbb2, hval2⟩ := bytes_txt X qs [] (by rw [hqs]; simp) haq (.inl rfl) w1 (by omega)
        have hxz := txt_size X qs hqs
        rw [← hxz, hexz] at hval2
        rw [hexz] at hconv2
        obtain ⟨hio, hqt⟩ := isO_front ha haq (by rw [← HSZ.out]; exact hn) (HEX.out.symm.trans hqs)
        obtain ⟨init, last, hsp, hpos⟩ := posT_last rs qs.length
        rw [← hqt] at hsp
        have hal : AllR last := splR_all qs [] haq AllR.nil last (by rw [hsp]; simp)
        have hspb : spl [] X.data.toList = (init ++ [last]).map txt := by rw [hqs, ← hsp]; exact spl_txt qs [] haq
        have hil : init.length ≤ 100000 := by
          have h1 := spl_length_le X.data.toList []
          rw [hspb, ← Lib.size_eq] at h1
          simp at h1
          omega
        have hlz : (txt last).length ≤ 100000 := by
          have h1 := spl_mem_le X.data.toList [] (txt last) (by rw [hspb]; simp)
          rw [← Lib.size_eq] at h1
          simp at h1
          omega
        have hnn : ¬ (n : Int) < (n : Int) := by omega
        have HPO := Lib.hid hpos; clear hpos
        have HSP := Lib.hid hspb; clear hspb
        have HIO := Lib.hid hio; clear hio hqt hsp hxz hqs
        go_wp2_with fail
        refine hval2.mono ?_
        rintro e w2 ⟨rfl, hb2⟩
        have hbw2 := hbw1.trans ((hbb2.trans (hb2.mono hbb2.size)).mono hbw1.size)
        clear hval2 hconv2 hbb2 hb2
        go_wp2_with fail
        refine (split_any X w2 (by omega)).mono ?_
        rintro e w3 ⟨v3, rfl, hown3, hb3⟩
        have hbw3 := hbw2.trans (hb3.mono hbw2.size)
        rw [HSP.out] at hown3
        obtain ⟨A, c, rfl, hc, hcm, hat⟩ := open_strs hown3.seg
        clear hown3 hb3
        obtain ⟨b, ofs, rfl, hb, hcell⟩ := hat init.length (by simp)
        have hgl : ((init ++ [last]).map txt).getD init.length [] = txt last := by
          rw [map_getD]; simp [List.getD_eq_getElem?_getD]
        dsimp only at hcell
        rw [hgl] at hcell
        rw [show ((init ++ [last]).map txt).length = init.length + 1 by simp] at hc ⊢
        obtain ⟨S, hS, hSl, hSz⟩ := str_of (txt last)
        rw [← hS] at hcell
        have hSz2 : S.size ≤ 100000 := by rw [hSz]; exact hlz
        clear hat hgl hS
        have HSL := Lib.hid hSl; clear hSl hSz
        go_wp2_with fail
        refine (refUnits_ok S last HSL.out hal w3 hSz2).mono ?_
        rintro e w4 ⟨hb4, v4, rfl, hown4⟩
        obtain ⟨A4, c4, rfl, hc4, hcm4, _⟩ := hown4.seg.open_ints
        clear hown4
        have hul := (units_le last hal).2.1
        go_wp2
        go_ret3
        exact PlacePost.good (HO.out.eq ha HIO.out) HPO.out (hbw3.trans (hb4.mono hbw3.size))
      · obtain ⟨cap2, wb2, hconv2, hbb2, hval2⟩ := bytes_txt X qs rest hqs haq (.inr hbad) w1 (by omega)
        have hlt : (txt qs).length < n := by
          have h1 := List.length_pos_iff.2 hbad.1
          have h2 := congrArg List.length hqs
          rw [← Lib.size_eq, List.length_append] at h2
          omega
        rw [hexz] at hconv2 hval2
        rw [HEX.out] at hxb
        have HIO := Lib.hid (isO_not ha hxb); clear hxb hqs
        go_wp2_with fail
        refine hval2.mono ?_
        rintro e w2 ⟨rfl, hb2⟩
        have hbw2 := hbw1.trans ((hbb2.trans (hb2.mono hbb2.size)).mono hbw1.size)
        clear hval2 hconv2 hbb2 hb2
        go_wp2
        go_ret3
        exact PlacePost.bad (HO.out.eq ha HIO.out) hbw2
end Go.Proofs.YtdldkidccjkhgaaDoor
