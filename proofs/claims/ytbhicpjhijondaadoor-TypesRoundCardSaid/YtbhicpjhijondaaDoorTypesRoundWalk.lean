/- law12.TypesRound: the walk. -/
import Derived.Test.YtbhicpjhijondaaDoorT39
import Derived.Test.YtbhicpjhijondaaDoorT36
namespace Go.Proofs.YtbhicpjhijondaaDoor
open Go.RowKit Go.Lib Go.Vfs Go.Par Go.Typ Go.Shelf
set_option linter.unusedVariables false
set_option linter.unusedSimpArgs false

/-- what a copy is, for whoever reads on. -/
theorem copy_b {T : Ty} {v : Value} {w : World} (hT : TyAt (· < w.heap.size) w v T) (hp : T.parts ≤ 1000) :
    Calls Tryd.prog 17 #[v] w fun e w' => ∃ A c, e = .returned (tyV T.kind T.num T.name A T.args.length c) ∧ TyAt (· < w'.heap.size) w' (tyV T.kind T.num T.name A T.args.length c) T ∧ Below w.heap.size w w' :=
  (copyType_any T v w hT (by omega)).mono fun e w' ⟨A, c, h1, h2, h3⟩ => ⟨A, c, h1, h2.sub fun g hg => hg.2, h3⟩
theorem read_none {s : ByteArray} (h : readT s = none) {w w' : World} {e : Ending} (hp : ReadPost s w e w') :
    ∃ (A : Option Addr) (cc : Nat), e = .returned (.tuple #[tyV 0 0 ⟨#[]⟩ A 0 cc, .int .i64 120]) ∧ TyAt (fun g => w.heap.size ≤ g ∧ g < w'.heap.size) w' (tyV zeroT.kind zeroT.num zeroT.name A zeroT.args.length cc) zeroT ∧ Below w.heap.size w w' := by
  obtain ⟨T, A, cc, he, hT, hb, rfl⟩ := hp
  rw [h] at he hT
  exact ⟨A, cc, he, hT, hb⟩
theorem readT_some {s : ByteArray} {X : Ty} (h : readT s = some X) : rightT X = true ∧ sayT X = s.data.toList := by
  unfold readT at h
  split at h
  · cases h
  · split at h
    · split at h
      · rename_i hh; injection h with h; subst h; exact hh
      · cases h
    · cases h
set_option maxRecDepth 20000 in
set_option maxHeartbeats 4000000 in
theorem typesRound_walk (v : Value) (T : Ty) (s : ByteArray) (hs : s.size ≤ 140737488351232) (w : World) (hT : TyAt (· < w.heap.size) w v T) (htb : Tb w) :
    Calls Tryd.prog 4 #[v, .string s] w fun e w' => e = .returned (.bool true) ∧ Below w.heap.size w w' := by
  obtain ⟨A, c, rfl, hc, hm, hn⟩ := hT.form
  obtain ⟨W1, hW1⟩ : ∃ W1, W1 = w.alloc (.cells #[.int .i64 T.kind, .int .i64 T.num, .string T.name, .slice A T.args.length c] 24) := ⟨_, rfl⟩
  have hx1 : BX w w.heap.size T A c W1 := by rw [hW1]; exact BX.new (Below.refl _ _) hT
  have HX1 := Lib.hid hx1
  have HTB := Lib.hid htb
  have HAL := Lib.hid (alive12_any W1 (htb.below hx1.below))
  clear hT hc hm hn htb hx1
  unfold tyV
  go_enter Tryd.func4, Tryd.ntmps4
  go_wp2_with fail
  rw [← hW1]
  clear hW1
  refine HAL.out.mono ?_
  rintro e w2 ⟨rfl, hb2⟩
  have hx2 := HX1.out.t hb2
  have HX2 := Lib.hid hx2
  have HGR := Lib.hid (great12_any T _ w2 hx2.ty)
  obtain ⟨y0, y1, y2, y3⟩ := box4 hx2.box
  clear hx2 hb2
  unfold tyV at HGR
  go_wp2_with fail
  refine HGR.out.mono ?_
  rintro e w3 ⟨rfl, hb3⟩
  have hx3 := HX2.out.t hb3
  have HX3 := Lib.hid hx3
  have HB3 := Lib.hid hx3.below
  clear y0 y1 y2 y3 hb3
  obtain ⟨y0, y1, y2, y3⟩ := box4 hx3.box
  by_cases hL : lightT T = true
  rotate_left
  · have hL' : lightT T = false := by simpa using hL
    rw [hL']
    go_wp2
    go_ret
    exact ⟨rfl, HB3.out⟩
  rw [hL]
  have HL := Lib.hid hL
  have hpp := (light_parts hL).1
  have HP := Lib.hid hpp
  have HCP := Lib.hid (copy_b hx3.ty hpp)
  clear hx3 hL hpp
  by_cases h5 : 5000 < (s.size : Int)
  · go_wp2
    go_ret
    exact ⟨rfl, HB3.out⟩
  have h5' : s.size ≤ 5000 := by omega
  unfold tyV at HCP
  go_wp2_with fail
  refine HCP.out.mono ?_
  rintro e w4 ⟨A4, c4, rfl, hT4, hb4⟩
  have hx4 := HX3.out.t hb4
  have HX4 := Lib.hid hx4
  have hsh := show_any T _ w4 hT4 (HTB.out.below hx4.below) fun hr => by have := light_say HL.out hr; omega
  have hba4 := hx4.below
  clear y0 y1 y2 y3 hb4 hx4
  by_cases hr : rightT T = true
  focus
    obtain ⟨u, hu⟩ : ∃ u : ByteArray, u = ⟨(sayT T).toArray⟩ := ⟨_, rfl⟩
    have hul : u.size ≤ 1000000000 := by have := light_say HL.out hr; rw [hu]; show (sayT T).toArray.size ≤ _; rw [List.size_toArray]; omega
    have hus : readT u = some T := read_say hr (by rw [hu])
    have e1 : showT T = (sayT T, 0) := by unfold showT; rw [if_pos hr]
    rw [e1] at hsh
    simp only [← hu] at hsh
    have HSH := Lib.hid hsh
    have HU := Lib.hid hus
    have HUL := Lib.hid hul
    clear hsh e1 hu hus hT4 hul
    unfold tyV at HSH
    try unfold tyV
    go_wp2_with fail
    refine HSH.out.mono ?_
    rintro e w5 ⟨rfl, hb5⟩
    have hx5 := HX4.out.t hb5
    have HX5 := Lib.hid hx5
    have HRD := Lib.hid (read_any u HUL.out w5 (HTB.out.below hx5.below))
    clear hb5 hx5
    go_wp2_with fail
    refine HRD.out.mono ?_
    intro e w6 hp6
    obtain ⟨A6, c6, rfl, hT6, hb6⟩ := read_some HU.out hp6
    obtain ⟨W6, hW6⟩ : ∃ W, W = w6.alloc (.cells #[.int .i64 T.kind, .int .i64 T.num, .string T.name, .slice A6 T.args.length c6] 24) := ⟨_, rfl⟩
    have hba : Below w6.heap.size w6 W6 := by rw [hW6]; exact (Below.refl _ _).alloc (Nat.le_refl _) _
    have hy6 : BX w w6.heap.size T A6 c6 W6 := by rw [hW6]; exact BX.new (HX5.out.t hb6).below (hT6.sub fun g hg => hg.2)
    have hx6 : BX w w.heap.size T A c W6 := (HX5.out.t hb6).t hba
    have HX6 := Lib.hid hx6
    have hsm := sameType_any T T _ _ W6 hy6.ty hx6.ty
    rw [same_refl] at hsm
    have HSM := Lib.hid hsm
    obtain ⟨y0, y1, y2, y3⟩ := box4 hy6.box
    obtain ⟨z0, z1, z2, z3⟩ := box4 hx6.box
    rw [hW6] at y0 y1 y2 y3 z0 z1 z2 z3
    clear hp6 hT6 hb6 hba hy6 hx6 hsm
    unfold tyV at HSM
    try unfold tyV
    go_wp2_with fail
    rw [← hW6]
    clear hW6 y0 y1 y2 y3 z0 z1 z2 z3
    refine HSM.out.mono ?_
    rintro e w7 ⟨rfl, hb7⟩
    have hx7 := HX6.out.t hb7
    have HX7 := Lib.hid hx7
    have HCP2 := Lib.hid (copy_b hx7.ty HP.out)
    obtain ⟨z0, z1, z2, z3⟩ := box4 hx7.box
    clear hb7 hx7
    unfold tyV at HCP2
    go_wp2_with fail
    refine HCP2.out.mono ?_
    rintro e w8 ⟨A8, c8, rfl, hT8, hb8⟩
    have hx8 := HX7.out.t hb8
    have HX8 := Lib.hid hx8
    have hri := right_any T _ w8 hT8
    rw [hr] at hri
    have HRI := Lib.hid hri
    clear hb8 hx8 z0 z1 z2 z3 hT8 hri
    unfold tyV at HRI
    try unfold tyV
    go_wp2_with fail
    refine HRI.out.mono ?_
    rintro e w9 ⟨rfl, hb9⟩
    have HBW := Lib.hid (HX8.out.t hb9).below
    clear hb9
  rotate_left
  focus
    have hr' : rightT T = false := by simpa using hr
    have e1 : showT T = ([], 120) := by unfold showT; rw [if_neg hr]
    rw [e1] at hsh
    have hsh' : Calls Tryd.prog 22 _ w4 fun e w' => e = .returned (.tuple #[.string ⟨#[]⟩, .int .i64 120]) ∧ Below w4.heap.size w4 w' := hsh
    have HSH := Lib.hid hsh'
    clear hsh e1 hT4 hsh'
    unfold tyV at HSH
    try unfold tyV
    go_wp2_with fail
    refine HSH.out.mono ?_
    rintro e w7 ⟨rfl, hb5⟩
    have hx7 := HX4.out.t hb5
    have HX7 := Lib.hid hx7
    have HCP2 := Lib.hid (copy_b hx7.ty HP.out)
    obtain ⟨z0, z1, z2, z3⟩ := box4 hx7.box
    clear hb5 hx7
    unfold tyV at HCP2
    go_wp2_with fail
    refine HCP2.out.mono ?_
    rintro e w8 ⟨A8, c8, rfl, hT8, hb8⟩
    have hx8 := HX7.out.t hb8
    have HX8 := Lib.hid hx8
    have hri := right_any T _ w8 hT8
    rw [hr'] at hri
    have HRI := Lib.hid hri
    clear hb8 hx8 z0 z1 z2 z3 hT8 hri
    unfold tyV at HRI
    try unfold tyV
    go_wp2_with fail
    refine HRI.out.mono ?_
    rintro e w9 ⟨rfl, hb9⟩
    have HBW := Lib.hid (HX8.out.t hb9).below
    clear hb9
  all_goals
    have HRDS := Lib.hid (read_any s (by omega) w9 (HTB.out.below HBW.out))
    go_wp2_with fail
    refine HRDS.out.mono ?_
    intro e w10 hp10
    cases hrs : readT s with
    | none =>
      obtain ⟨A10, c10, rfl, hT10, hb10⟩ := read_none hrs hp10
      have HB10 := Lib.hid (HBW.out.trans (hb10.mono HBW.out.size))
      clear hp10 hT10 hb10
      unfold tyV
      go_wp2
      go_ret
      exact ⟨rfl, HB10.out.alloc HB10.out.size _⟩
    | some X =>
      obtain ⟨A10, c10, rfl, hT10, hb10⟩ := read_some hrs hp10
      obtain ⟨hX1, hX2⟩ := readT_some hrs
      have hb10' := HBW.out.trans (hb10.mono HBW.out.size)
      obtain ⟨W10, hW10⟩ : ∃ W, W = w10.alloc (.cells #[.int .i64 X.kind, .int .i64 X.num, .string X.name, .slice A10 X.args.length c10] 24) := ⟨_, rfl⟩
      have hy10 : BX w w10.heap.size X A10 c10 W10 := by rw [hW10]; exact BX.new hb10' (hT10.sub fun g hg => hg.2)
      have HY10 := Lib.hid hy10
      have hsh := show_any X _ W10 hy10.ty (HTB.out.below hy10.below) fun _ => by rw [hX2, name_len]; omega
      have e1 : showT X = (s.data.toList, 0) := by unfold showT; rw [if_pos hX1, hX2]
      rw [e1] at hsh
      have hsh' : Calls Tryd.prog 22 _ W10 fun e w' => e = .returned (.tuple #[.string s, .int .i64 0]) ∧ Below W10.heap.size W10 w' := hsh
      have HSX := Lib.hid hsh'
      obtain ⟨y0, y1, y2, y3⟩ := box4 hy10.box
      rw [hW10] at y0 y1 y2 y3
      clear hp10 hT10 hb10 hb10' hy10 hsh e1 hsh'
      unfold tyV at HSX
      try unfold tyV
      go_wp2_with fail
      rw [← hW10]
      clear hW10 y0 y1 y2 y3
      refine HSX.out.mono ?_
      rintro e w11 ⟨rfl, hb11⟩
      have hy11 := HY10.out.t hb11
      have HY11 := Lib.hid hy11
      have hri := right_any X _ w11 hy11.ty
      rw [hX1] at hri
      have HRX := Lib.hid hri
      obtain ⟨y0, y1, y2, y3⟩ := box4 hy11.box
      clear hb11 hy11 hri
      unfold tyV at HRX
      go_wp2_with fail
      refine HRX.out.mono ?_
      rintro e w12 ⟨rfl, hb12⟩
      have HB12 := Lib.hid (HY11.out.t hb12).below
      clear hb12 y0 y1 y2 y3
      go_wp2
      go_ret
      exact ⟨rfl, HB12.out⟩
end Go.Proofs.YtbhicpjhijondaaDoor
