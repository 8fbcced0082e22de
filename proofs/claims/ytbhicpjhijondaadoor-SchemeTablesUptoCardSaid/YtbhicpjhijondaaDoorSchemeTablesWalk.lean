/- law14.SchemeTables: the walk. -/
import Derived.Test.YtbhicpjhijondaaDoorX15
import Derived.Test.YtbhicpjhijondaaDoorY6
namespace Go.Proofs.YtbhicpjhijondaaDoor
open Go.RowKit Go.Lib Go.Vfs Go.Par Go.Typ Go.Shelf
set_option linter.unusedVariables false
set_option linter.unusedSimpArgs false

theorem rfind_gen {xs : List Ex} {nm : ByteArray} {w w' : World} {e : Ending} (hp : RFindPost xs nm w e w') :
    ∃ R q A cc, e = .returned (.tuple #[tyV R.kind R.num R.name A R.args.length cc, .bool q]) ∧ TyAt (· < w'.heap.size) w' (tyV R.kind R.num R.name A R.args.length cc) R ∧ Below w.heap.size w w' ∧ Hid (R = (findX xs nm).getD zeroT ∧ q = (findX xs nm).isSome) := by
  obtain ⟨R, A, cc, he, hT, hb, hR⟩ := hp
  exact ⟨R, _, A, cc, he, hT, hb, Lib.hid ⟨hR, rfl⟩⟩
theorem ExOk.row' {x : Ex} (h : ExOk x) : RowOk x.ty := RowOk.of_parts (by have := h.1; omega)

set_option maxRecDepth 20000 in
set_option maxHeartbeats 8000000 in
theorem schemeTables_walk (lv : Value) (xs : List Ex) (nm : ByteArray) (hnm : nm.size ≤ 1048576) (v : Value) (T : Ty) (w : World)
    (hX : ExsAt (· < w.heap.size) w lv xs ∧ ∀ x ∈ xs, ExOk x) (hT : TyAt (· < w.heap.size) w v T ∧ T.parts ≤ 1048576 ∧ NmB 1048576 T) (htb : Tb w) :
    Calls Tryd.prog 11 #[lv, .string nm, v] w fun e w' => e = .returned (.bool true) ∧ Below w.heap.size w w' := by
  obtain ⟨hX, hok⟩ := hX
  obtain ⟨hT, hTp, hTn⟩ := hT
  have hone : ExOk ⟨nm, T⟩ := ⟨by show T.parts ≤ _; omega, fun y hy => by have := hTn y hy; omega, by show nm.size ≤ _; omega⟩
  obtain ⟨Al, cl, rfl, hcl, hml⟩ := hX.form
  obtain ⟨A, c, rfl, hc, hm, hn⟩ := hT.form
  obtain ⟨W1, hW1⟩ : ∃ W1, W1 = w.alloc (.cells #[.int .i64 T.kind, .int .i64 T.num, .string T.name, .slice A T.args.length c] 24) := ⟨_, rfl⟩
  have hx1 : PS w w.heap.size T A c (.slice Al xs.length cl) xs W1 := by
    rw [hW1]
    exact ⟨BX.new (Below.refl _ _) hT, hX.blw ((Below.refl _ _).alloc (Nat.le_refl _) _)⟩
  have HX1 := Lib.hid hx1
  have HAL := Lib.hid (alive14_any W1 (htb.below hx1.bx.below))
  have HXR : Hid (∀ x ∈ xs, RowOk x.ty) := Lib.hid fun x hx => (hok x hx).row'
  have HTR : Hid (RowOk T) := Lib.hid hone.row'
  have HOK := Lib.hid hok; have HONE := Lib.hid hone
  clear hX hT hok hone hcl hml hc hm hn htb hx1 hTp hTn
  unfold tyV
  go_enter Tryd.func11, Tryd.ntmps11
  go_wp2_with fail
  rw [← hW1]
  clear hW1
  refine HAL.out.mono ?_
  rintro e w2 ⟨rfl, hb2⟩
  have hx2 := HX1.out.t hb2
  have HX2 := Lib.hid hx2
  have HGR := Lib.hid (great14_any xs _ w2 hx2.row)
  clear hx2 hb2
  go_wp2_with fail
  refine HGR.out.mono ?_
  rintro e w3 ⟨rfl, hb3⟩
  have hx3 := HX2.out.t hb3
  have HX3 := Lib.hid hx3
  have HB3 := Lib.hid hx3.bx.below
  clear hb3
  by_cases hL : weighX xs 0 = true
  · rw [hL]
    clear hx3 hL
    go_wp2
    go_ret
    exact ⟨rfl, HB3.out⟩
  have hL' : weighX xs 0 = false := by simpa using hL
  rw [hL']
  have hlen := weighX_len xs 0 (Int.le_refl _) (by decide) hL'
  have hxl : xs.length ≤ 5000 := by omega
  obtain ⟨y0, y1, y2, y3⟩ := box4 hx3.bx.box
  obtain ⟨W4, hW4⟩ : ∃ W4, W4 = w3.alloc (.cells #[.string nm, .int .i64 T.kind, .int .i64 T.num, .string T.name, .slice A T.args.length c] 46) := ⟨_, rfl⟩
  have hb4 : Below w3.heap.size w3 W4 := by rw [hW4]; exact (Below.refl _ _).alloc (Nat.le_refl _) _
  have hex4 : ExsAt (· < W4.heap.size) W4 (.slice (some ⟨w3.heap.size, 0, none⟩) 1 1) [⟨nm, T⟩] := by
    rw [hW4]
    exact ExsAt.one (x := ⟨nm, T⟩) (by show nm.size ≤ _; omega) hx3.bx.ty _
  have HGR2 := Lib.hid (great14_any _ _ W4 hex4)
  have HX4 := Lib.hid (hx3.t hb4)
  clear hx3 hL hL' hlen hb4 hex4
  go_wp2_with fail
  rw [← hW4]
  clear hW4 y0 y1 y2 y3
  refine HGR2.out.mono ?_
  rintro e w5 ⟨rfl, hb5⟩
  have hx5 := HX4.out.t hb5
  have HX5 := Lib.hid hx5
  have HB5 := Lib.hid hx5.bx.below
  clear hb5
  generalize weighX [⟨nm, T⟩] 0 = gr at *
  cases gr with
  | true =>
    clear hx5
    go_wp2
    go_ret
    exact ⟨rfl, HB5.out⟩
  | false => ?_
  have HCE := Lib.hid (copyExports_any xs HXR.out _ w5 hx5.row (by omega))
  clear hx5
  go_wp2_with fail
  refine HCE.out.mono ?_
  rintro e w6 ⟨v6, rfl, hx6, hb6⟩
  have HX6 := Lib.hid (HX5.out.t hb6)
  have ho6 := hx6.sub (S' := (· < w6.heap.size)) fun g hg => hg.2
  obtain ⟨A6, c6, rfl, -, -⟩ := ho6.form
  have HO6 := Lib.hid ho6
  have HF1 := Lib.hid (find_any xs HXR.out nm _ w6 ho6)
  clear hx6 hb6 HCE ho6
  go_wp2_with fail
  refine HF1.out.mono ?_
  intro e w7 hp7
  obtain ⟨R1, q1, A7, c7, rfl, hT7, hb7, HQ1⟩ := find_gen hp7
  obtain ⟨W8, hW8⟩ : ∃ W8, W8 = w7.alloc (.cells #[.int .i64 R1.kind, .int .i64 R1.num, .string R1.name, .slice A7 R1.args.length c7] 24) := ⟨_, rfl⟩
  have hb8 : Below w7.heap.size w7 W8 := by rw [hW8]; exact (Below.refl _ _).alloc (Nat.le_refl _) _
  have hx8 := (HX6.out.t hb7).t hb8
  have hy8 : BX w w7.heap.size R1 A7 c7 W8 := by rw [hW8]; exact BX.new (HX6.out.t hb7).bx.below hT7
  have HX8 := Lib.hid hx8; have HY8 := Lib.hid hy8
  have HO8 := Lib.hid ((HO6.out.blw hb7).blw hb8)
  have HF2 := Lib.hid (rfind_any xs nm _ W8 hx8.row)
  clear hp7 hT7 hb7 hb8 hx8 hy8
  try unfold tyV
  go_wp2_with fail
  rw [← hW8]
  clear hW8
  refine HF2.out.mono ?_
  intro e w9 hp9
  obtain ⟨R2, q2, A9, c9, rfl, hT9, hb9, HQ2⟩ := rfind_gen hp9
  have hq1 := HQ1.out
  have hq2 := HQ2.out
  rw [← hq2.1, ← hq2.2] at hq1
  obtain ⟨rfl, rfl⟩ := hq1
  obtain ⟨W10, hW10⟩ : ∃ W10, W10 = w9.alloc (.cells #[.int .i64 R1.kind, .int .i64 R1.num, .string R1.name, .slice A9 R1.args.length c9] 24) := ⟨_, rfl⟩
  have hb10 : Below w9.heap.size w9 W10 := by rw [hW10]; exact (Below.refl _ _).alloc (Nat.le_refl _) _
  have hy10 := (HY8.out.t hb9).t hb10
  have hz10 : BX w w9.heap.size R1 A9 c9 W10 := by rw [hW10]; exact BX.new (HX8.out.t hb9).bx.below hT9
  have HX10 := Lib.hid ((HX8.out.t hb9).t hb10)
  have HO10 := Lib.hid ((HO8.out.blw hb9).blw hb10)
  have hsm := sameType_any R1 R1 _ _ W10 hy10.ty hz10.ty
  rw [same_refl] at hsm
  unfold tyV at hsm
  have HSM := Lib.hid hsm
  obtain ⟨y0, y1, y2, y3⟩ := box4 hy10.box
  obtain ⟨z0, z1, z2, z3⟩ := box4 hz10.box
  rw [hW10] at y0 y1 y2 y3 z0 z1 z2 z3
  have hqq : (q1 != q1) = false := by cases q1 <;> rfl
  clear hp9 hT9 hb9 hb10 hy10 hz10 hq2 hsm
  try unfold tyV
  go_wp2_with fail
  rw [← hW10]
  clear hW10 y0 y1 y2 y3 z0 z1 z2 z3
  refine HSM.out.mono ?_
  rintro e w11 ⟨rfl, hb11⟩
  have hx11 := HX10.out.t hb11
  have HX11 := Lib.hid hx11
  have HO11 := Lib.hid (HO10.out.blw hb11)
  have hct := copyTypeR_any T _ w11 hx11.bx.ty HTR.out
  unfold tyV at hct
  have HCT := Lib.hid hct
  obtain ⟨y0, y1, y2, y3⟩ := box4 hx11.bx.box
  clear hb11 hx11 hqq hct
  go_wp2_with fail
  refine HCT.out.mono ?_
  rintro e w12 ⟨A12, c12, rfl, hT12, hb12⟩
  have HX12 := Lib.hid (HX11.out.t hb12)
  have ho12 := HO11.out.blw hb12
  have HO12 := Lib.hid ho12
  have hpt := put_any xs HXR.out nm (by omega) T HTR.out _ _ w12 ho12 (hT12.sub (S' := (· < w12.heap.size)) fun g hg => hg.2) (by omega)
  unfold tyV at hpt
  have HPT := Lib.hid hpt
  clear hb12 hT12 ho12 hpt y0 y1 y2 y3
  go_wp2_with fail
  refine HPT.out.mono ?_
  intro e w13 hp13
  obtain ⟨v13, n13, Q13, rfl, hb13, hQ13, HN1, HQQ1⟩ := put_gen hp13
  have hx13 := HX12.out.t hb13
  have HX13 := Lib.hid hx13
  have HO13 := Lib.hid (HO12.out.blw hb13)
  have HP13 := Lib.hid hQ13
  have hrp := rput_any xs HOK.out nm T HONE.out _ _ w13 hx13.row hx13.bx.ty (by omega)
  unfold tyV at hrp
  have HRP := Lib.hid hrp
  obtain ⟨y0, y1, y2, y3⟩ := box4 hx13.bx.box
  clear hp13 hb13 hx13 hQ13 hrp
  go_wp2_with fail
  refine HRP.out.mono ?_
  intro e w14 hp14
  obtain ⟨v14, n14, Q14, rfl, hb14, hQ14, HN2, HQQ2⟩ := put_gen hp14
  have hn : n13 = n14 := HN1.out.trans HN2.out.symm
  have hQ : Q13 = Q14 := HQQ1.out.trans HQQ2.out.symm
  subst hn hQ
  have HX14 := Lib.hid (HX13.out.t hb14)
  have HO14 := Lib.hid (HO13.out.blw hb14)
  have hse := sameExports_any Q13 Q13 _ _ w14 (HP13.out.blw hb14) hQ14
  rw [sameX_true rfl] at hse
  have HSE := Lib.hid hse
  have hnn : (n13 == n13) = true := by simp
  clear hp14 hb14 hQ14 hse y0 y1 y2 y3
  go_wp2_with fail
  refine HSE.out.mono ?_
  rintro e w15 ⟨rfl, hb15⟩
  have HX15 := Lib.hid (HX14.out.t hb15)
  have ho15 := HO14.out.blw hb15
  have HO15 := Lib.hid ho15
  have HDR := Lib.hid (drop_any xs HXR.out nm _ w15 ho15 (by omega))
  clear hb15 ho15
  go_wp2_with fail
  refine HDR.out.mono ?_
  rintro e w16 ⟨v16, rfl, hd16, hb16⟩
  have hx16 := HX15.out.t hb16
  have HX16 := Lib.hid hx16
  have HO16 := Lib.hid (HO15.out.blw hb16)
  have HD16 : Hid (ExsAt (· < w16.heap.size) w16 v16 (dropX xs nm)) := Lib.hid (hd16.sub fun g hg => hg.2)
  have HDR2 := Lib.hid (rdrop_any xs nm _ w16 hx16.row (by omega))
  clear hb16 hx16 hd16
  go_wp2_with fail
  refine HDR2.out.mono ?_
  rintro e w17 ⟨v17, rfl, hd17, hb17⟩
  have HX17 := Lib.hid (HX16.out.t hb17)
  have HO17 := Lib.hid (HO16.out.blw hb17)
  have hse := sameExports_any (dropX xs nm) (dropX xs nm) _ _ w17 (HD16.out.blw hb17) hd17
  rw [sameX_true rfl] at hse
  have HSE2 := Lib.hid hse
  clear hb17 hd17 hse
  go_wp2_with fail
  refine HSE2.out.mono ?_
  rintro e w18 ⟨rfl, hb18⟩
  have hx18 := HX17.out.t hb18
  have HX18 := Lib.hid hx18
  have hse := sameExports_any xs xs _ _ w18 (HO17.out.blw hb18) hx18.row
  rw [sameX_true rfl] at hse
  have HSE3 := Lib.hid hse
  clear hb18 hse hx18
  go_wp2_with fail
  refine HSE3.out.mono ?_
  rintro e w19 ⟨rfl, hb19⟩
  have HBF := Lib.hid (HX18.out.t hb19).bx.below
  clear hb19
  go_wp2
  go_ret
  exact ⟨rfl, HBF.out⟩
end Go.Proofs.YtbhicpjhijondaaDoor
