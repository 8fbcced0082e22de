import Derived.Test.YtdldkidccjkhgaaDoorT8c
namespace Go.Proofs.YtdldkidccjkhgaaDoor
open Go.RowKit Go.Par
set_option linter.unusedVariables false

theorem spl_length : ∀ (l c : List UInt8), (spl c l).length = l.count 10 + 1
  | [], c => rfl
  | r :: rs, c => by
    unfold spl
    split
    · rename_i e; simp [spl_length rs, e]
    · rename_i e; simp [spl_length rs, e]

theorem PlacePost.open {w w' : World} {rs : List Int} {o : Option Nat} {e : Ending} (h : PlacePost w rs o e w') : ∃ x y z : Int, e = .returned (.tuple #[.int .i64 x, .int .i64 y, .int .i64 z]) ∧ Below w.heap.size w w' ∧
    ∀ w1 w2 e', PlacePost w1 rs o e' w2 → e' = .returned (.tuple #[.int .i64 x, .int .i64 y, .int .i64 z]) ∧ Below w1.heap.size w1 w2 := by
  cases o with
  | none => exact ⟨_, _, _, h.1, h.2, fun _ _ _ h => h⟩
  | some k => exact ⟨_, _, _, h.1, h.2, fun _ _ _ h => h⟩
theorem NumPost.open2 {w w' : World} {o : Option Nat} {e : Ending} (h : NumPost w o e w') : ∃ x y : Int, e = .returned (.tuple #[.int .i64 x, .int .i64 y]) ∧ Below w.heap.size w w' ∧
    ∀ w1 w2 e', NumPost w1 o e' w2 → e' = .returned (.tuple #[.int .i64 x, .int .i64 y]) ∧ Below w1.heap.size w1 w2 := by
  cases o with
  | none => exact ⟨_, _, h.1, h.2, fun _ _ _ h => h⟩
  | some k => exact ⟨_, _, h.1, h.2, fun _ _ _ h => h⟩

/-- Lines and Split tell the same number. -/
theorem split_len (s : ByteArray) (w : World) (hl : s.size ≤ 1000000) :
    Calls Tryd.prog 48 #[.string s] w fun e w' => ∃ A c, e = .returned (.slice A (Lib.countByte s.data.toList 10 + 1) c) ∧ Below w.heap.size w w' := by
  refine (split_any s w hl).mono ?_
  rintro e w' ⟨v, rfl, hown, hb⟩
  obtain ⟨A, c, rfl, _⟩ := open_strs hown.seg
  rw [spl_length]
  exact ⟨A, c, rfl, hb⟩

set_option maxRecDepth 100000 in
set_option maxHeartbeats 2000000 in
theorem textPlaces_walk (s : ByteArray) (hs : s.size ≤ 140737488351232) (line : Int) (_h1 : -9223372036854775808 ≤ line ∧ line ≤ 9223372036854775807) (char : Int) (_h2 : -9223372036854775808 ≤ char ∧ char ≤ 9223372036854775807) (off : Int) (_h3 : -9223372036854775808 ≤ off ∧ off ≤ 9223372036854775807) (w : World) (hT : Tabs w) :
    Calls Tryd.prog 15 #[.string s, .int .i64 line, .int .i64 char, .int .i64 off] w fun e w' => e = .returned (.bool true) ∧ Below w.heap.size w w' := by
  obtain ⟨_, hlm⟩ := _h1
  clear _h2 _h3
  by_cases hg : 20000 < (s.size : Int)
  · go_enter Tryd.func15, Tryd.ntmps15
    go_wp2_with (go_at_call 39; refine (alive7_any _ hT).mono ?_; rintro e w1 ⟨rfl, hb1⟩)
    go_ret
    exact ⟨rfl, hb1⟩
  · have hsl : s.size ≤ 100000 := by omega
    obtain ⟨N, hN⟩ : ∃ n, n = Lib.countByte s.data.toList 10 := ⟨_, rfl⟩
    have hNl : N ≤ s.size := by rw [hN, Lib.size_eq]; exact List.count_le_length
    have h1 := fun wx => lines_any s (by omega) wx
    have h2 := fun wx => split_len s wx (by omega)
    rw [← hN] at h1
    rw [← hN] at h2
    clear hN
    rcases text_or2 s with ⟨rs, har, hsr⟩ | ⟨hsb, rs, rest, har, hbad, hsr⟩
    · have HSR := Lib.hid hsr; clear hsr
      obtain ⟨o1, ho1⟩ := isT_ex rs line char
      obtain ⟨o2, ho2⟩ := isO_ex rs off
      have HO1 := Lib.hid ho1; clear ho1
      have HO2 := Lib.hid ho2; clear ho2
      go_enter Tryd.func15, Tryd.ntmps15
      go_wp2_with fail
      refine (alive7_any _ hT).mono ?_
      rintro e w1 ⟨rfl, hb1⟩
      have hT1 := hT.below hb1
      go_wp2_with fail
      refine (toffset_ok s rs HSR.out har hsl line char hlm o1 HO1 w1 hT1).mono ?_
      intro e w2 hp2
      obtain ⟨x, y, rfl, hb2, hsame⟩ := hp2.open2
      clear hp2
      have HSM := Lib.hid hsame; clear hsame
      have hbw2 := hb1.trans (hb2.mono hb1.size)
      go_wp2_with fail
      refine (roffset_ok s rs HSR.out har hsl line char o1 HO1 w2).mono ?_
      intro e w3 hp3
      obtain ⟨rfl, hb3⟩ := HSM.out _ _ _ hp3
      clear hp3 HSM
      have hbw3 := hbw2.trans (hb3.mono hbw2.size)
      go_wp2_with (go_at_call 44; refine (h1 _).mono ?_; rintro e w4 ⟨rfl, rfl⟩)
      refine (h2 _).mono ?_
      rintro e w5 ⟨A5, c5, rfl, hb5⟩
      have hbw5 := hbw3.trans (hb5.mono hbw3.size)
      have hT5 := hT.below hbw5
      clear h1 h2
      go_wp2_with fail
      refine (tplace_ok s rs HSR.out har hsl off o2 HO2 w5 hT5).mono ?_
      intro e w6 hp6
      obtain ⟨x6, y6, z6, rfl, hb6, hsame⟩ := hp6.open
      clear hp6
      have HSM := Lib.hid hsame; clear hsame
      have hbw6 := hbw5.trans (hb6.mono hbw5.size)
      go_wp2_with fail
      refine (rplace_ok s rs HSR.out har hsl off o2 HO2 w6).mono ?_
      intro e w7 hp7
      obtain ⟨rfl, hb7⟩ := HSM.out _ _ _ hp7
      clear hp7 HSM
      go_wp2
      go_ret
      exact ⟨rfl, hbw6.trans (hb7.mono hbw6.size)⟩
    · have HSR := Lib.hid hsr; clear hsr
      go_enter Tryd.func15, Tryd.ntmps15
      go_wp2_with fail
      refine (alive7_any _ hT).mono ?_
      rintro e w1 ⟨rfl, hb1⟩
      have hT1 := hT.below hb1
      go_wp2_with fail
      refine (toffset_bad s hsb (by omega) line char w1 hT1).mono ?_
      rintro e w2 ⟨rfl, hb2⟩
      have hbw2 := hb1.trans (hb2.mono hb1.size)
      go_wp2_with fail
      refine (roffset_bad s rs rest HSR.out har hbad hsl line char w2).mono ?_
      rintro e w3 ⟨rfl, hb3⟩
      have hbw3 := hbw2.trans (hb3.mono hbw2.size)
      go_wp2_with (go_at_call 44; refine (h1 _).mono ?_; rintro e w4 ⟨rfl, rfl⟩)
      refine (h2 _).mono ?_
      rintro e w5 ⟨A5, c5, rfl, hb5⟩
      have hbw5 := hbw3.trans (hb5.mono hbw3.size)
      have hT5 := hT.below hbw5
      clear h1 h2
      go_wp2_with fail
      refine (tplace_bad s hsb (by omega) off w5 hT5).mono ?_
      rintro e w6 ⟨rfl, hb6⟩
      have hbw6 := hbw5.trans (hb6.mono hbw5.size)
      go_wp2_with fail
      refine (rplace_bad s rs rest HSR.out har hbad hsl off w6).mono ?_
      rintro e w7 ⟨rfl, hb7⟩
      go_wp2
      go_ret
      exact ⟨rfl, hbw6.trans (hb7.mono hbw6.size)⟩
end Go.Proofs.YtdldkidccjkhgaaDoor
