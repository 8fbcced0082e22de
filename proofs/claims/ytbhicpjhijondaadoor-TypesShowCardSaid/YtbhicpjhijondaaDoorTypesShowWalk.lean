/- law12.TypesShow: the walk. -/
import Derived.Test.YtbhicpjhijondaaDoorTF
import Derived.Test.YtbhicpjhijondaaDoorL17
import Derived.Deep.RegionHeld
namespace Go.Proofs.YtbhicpjhijondaaDoor
open Go.RowKit Go.Lib Go.Vfs Go.Par Go.Typ Go.Shelf
set_option linter.unusedVariables false
set_option linter.unusedSimpArgs false

theorem nmB_mono {m n : Nat} {T : Ty} (h : NmB m T) (hmn : m ≤ n) : NmB n T := fun x hx => Nat.le_trans (h x hx) hmn
set_option maxRecDepth 20000 in
set_option maxHeartbeats 4000000 in
theorem typesShow_walk (v : Value) (T : Ty) (w : World) (hT : TyAt (· < w.heap.size) w v T) (htb : Tb w) :
    Calls Tryd.prog 6 #[v] w fun e w' => e = .returned (.bool true) ∧ Below w.heap.size w w' := by
  obtain ⟨A, c, rfl, hc, hm, hn⟩ := hT.form
  obtain ⟨W1, hW1⟩ : ∃ W1, W1 = w.alloc (.cells #[.int .i64 T.kind, .int .i64 T.num, .string T.name, .slice A T.args.length c] 24) := ⟨_, rfl⟩
  have hx1 : BX w w.heap.size T A c W1 := by rw [hW1]; exact BX.new (Below.refl _ _) hT
  have HX1 := Lib.hid hx1
  have HTB := Lib.hid htb
  have HAL := Lib.hid (alive12_any W1 (htb.below hx1.below))
  clear hT hc hm hn htb hx1
  unfold tyV
  go_enter Tryd.func6, Tryd.ntmps6
  go_wp2_with fail
  rw [← hW1]
  clear hW1
  refine HAL.out.mono ?_
  rintro e w2 ⟨rfl, hb2⟩
  have hx2 := HX1.out.t hb2
  have HX2 := Lib.hid hx2
  have HGR := Lib.hid (great12_any T _ w2 hx2.ty)
  obtain ⟨y0, y1, y2, y3⟩ := box4 hx2.box
  clear hx2 hb2
  unfold tyV at HGR
  go_wp2_with fail
  refine HGR.out.mono ?_
  rintro e w3 ⟨rfl, hb3⟩
  have hx3 := HX2.out.t hb3
  have HX3 := Lib.hid hx3
  have HB3 := Lib.hid hx3.below
  clear y0 y1 y2 y3 hb3
  obtain ⟨y0, y1, y2, y3⟩ := box4 hx3.box
  by_cases hL : lightT T = true
  rotate_left
  · have hL' : lightT T = false := by simpa using hL
    rw [hL']
    go_wp2
    go_ret
    exact ⟨rfl, HB3.out⟩
  rw [hL]
  have hpp := (light_parts hL).1
  have HPP : Hid (T.parts ≤ 1099511627776 ∧ NmB 1000000000 T) := Lib.hid ⟨by omega, nmB_mono (light_parts hL).2 (by decide)⟩
  have HLS : Hid (rightT T = true → (sayT T).length ≤ 6000000) := Lib.hid fun h => light_say hL h
  have HCP := Lib.hid (copy_c hx3.ty hpp)
  clear hx3 hL hpp
  unfold tyV at HCP
  go_wp2_with fail
  refine HCP.out.mono ?_
  rintro e w4 ⟨A4, c4, rfl, hT4, hb4⟩
  have hx4 := HX3.out.t hb4
  obtain ⟨W4, hW4⟩ : ∃ W4, W4 = w4.alloc (.cells #[.int .i64 T.kind, .int .i64 T.num, .string T.name, .slice A4 T.args.length c4] 24) := ⟨_, rfl⟩
  have hb5 : Below w4.heap.size w4 W4 := by rw [hW4]; exact (Below.refl _ _).alloc (Nat.le_refl _) _
  have hx5 := hx4.t hb5
  have ho5 : BX w w4.heap.size T A4 c4 W4 := by rw [hW4]; exact BX.new hx4.below (TyC.at_ hT4)
  have HX5 := Lib.hid hx5; have HO5 := Lib.hid ho5
  have HCL := Lib.hid (close_any T _ W4 ho5.ty)
  obtain ⟨z0, z1, z2, z3⟩ := box4 ho5.box
  rw [hW4] at z0 z1 z2 z3
  clear hb4 hx4 hT4 hb5 hx5 ho5 y0 y1 y2 y3
  unfold tyV at HCL
  go_wp2_with fail
  rw [← hW4]
  clear hW4 z0 z1 z2 z3
  refine HCL.out.mono ?_
  rintro e w6 ⟨R, A6, c6, rfl, hR6, hb6, hR⟩
  have HRE := Lib.hid hR
  obtain ⟨er, her⟩ : ∃ er : Int, (if rightT T = true then 0 else 120) = er := ⟨_, rfl⟩
  rw [her]
  have HER := Lib.hid her
  clear her
  have hx6 := HX5.out.t hb6
  have ho6 := HO5.out.t hb6
  obtain ⟨W6, hW6⟩ : ∃ W6, W6 = w6.alloc (.cells #[.int .i64 R.kind, .int .i64 R.num, .string R.name, .slice A6 R.args.length c6] 24) := ⟨_, rfl⟩
  have hb7 : Below w6.heap.size w6 W6 := by rw [hW6]; exact (Below.refl _ _).alloc (Nat.le_refl _) _
  have hx7 := hx6.t hb7
  have ho7 := ho6.t hb7
  have ha7 : BX w w6.heap.size R A6 c6 W6 := by rw [hW6]; exact BX.new hx6.below (TyAt.sub (TyC.at_ hR6) fun g hg => hg.2)
  have HX7 := Lib.hid hx7; have HO7 := Lib.hid ho7; have HA7 := Lib.hid ha7
  have HCL2 := Lib.hid (rclose_any T _ W6 hx7.ty HPP.out.1 HPP.out.2)
  obtain ⟨y0, y1, y2, y3⟩ := box4 hx7.box
  rw [hW6] at y0 y1 y2 y3
  clear hR6 hb6 hR hx6 ho6 hb7 hx7 ho7 ha7
  unfold tyV at HCL2 ⊢
  go_wp2_with fail
  rw [← hW6]
  clear hW6 y0 y1 y2 y3
  refine HCL2.out.mono ?_
  rintro e w8 ⟨R2, A8, c8, rfl, hR8, hb8, hR2⟩
  obtain rfl : R = R2 := HRE.out.trans hR2.symm
  have hx8 := HX7.out.t hb8
  have ho8 := HO7.out.t hb8
  have ha8 := HA7.out.t hb8
  obtain ⟨W8, hW8⟩ : ∃ W8, W8 = w8.alloc (.cells #[.int .i64 R.kind, .int .i64 R.num, .string R.name, .slice A8 R.args.length c8] 24) := ⟨_, rfl⟩
  have hb9 : Below w8.heap.size w8 W8 := by rw [hW8]; exact (Below.refl _ _).alloc (Nat.le_refl _) _
  have hx9 := hx8.t hb9
  have ho9 := ho8.t hb9
  have ha9 := ha8.t hb9
  have hc9 : BX w w8.heap.size R A8 c8 W8 := by rw [hW8]; exact BX.new hx8.below (TyAt.sub hR8 fun g hg => hg.2)
  rw [HER.out]
  have hee : (er != er) = false := by simp
  have hri : ∀ W, Below W8.heap.size W8 W → _ := fun W h => right_any T _ W (ho9.t h).ty
  have hrr : ∀ W, Below W8.heap.size W8 W → _ := fun W h => r12Right_any T _ W (hx9.t h).ty HPP.out.1 HPP.out.2
  have hss : ∀ W, Below W8.heap.size W8 W → _ := fun W h => sameType_any R R _ _ W (ha9.t h).ty (hc9.t h).ty
  rw [same_refl] at hss
  obtain ⟨q, hq⟩ : ∃ q, q = rightT T := ⟨_, rfl⟩
  rw [← hq] at hri hrr
  have hqq : (q != q) = false := by cases q <;> rfl
  have HSK : Hid (∀ W, Below W8.heap.size W8 W → (W.cell? ⟨w.heap.size, 0, none⟩ = some (.int .i64 T.kind) ∧ W.cell? ⟨w.heap.size, 1, none⟩ = some (.int .i64 T.num) ∧ W.cell? ⟨w.heap.size, 2, none⟩ = some (.string T.name) ∧ W.cell? ⟨w.heap.size, 3, none⟩ = some (.slice A T.args.length c)) ∧
      (W.cell? ⟨w4.heap.size, 0, none⟩ = some (.int .i64 T.kind) ∧ W.cell? ⟨w4.heap.size, 1, none⟩ = some (.int .i64 T.num) ∧ W.cell? ⟨w4.heap.size, 2, none⟩ = some (.string T.name) ∧ W.cell? ⟨w4.heap.size, 3, none⟩ = some (.slice A4 T.args.length c4)) ∧
      (W.cell? ⟨w6.heap.size, 0, none⟩ = some (.int .i64 R.kind) ∧ W.cell? ⟨w6.heap.size, 1, none⟩ = some (.int .i64 R.num) ∧ W.cell? ⟨w6.heap.size, 2, none⟩ = some (.string R.name) ∧ W.cell? ⟨w6.heap.size, 3, none⟩ = some (.slice A6 R.args.length c6)) ∧
      (W.cell? ⟨w8.heap.size, 0, none⟩ = some (.int .i64 R.kind) ∧ W.cell? ⟨w8.heap.size, 1, none⟩ = some (.int .i64 R.num) ∧ W.cell? ⟨w8.heap.size, 2, none⟩ = some (.string R.name) ∧ W.cell? ⟨w8.heap.size, 3, none⟩ = some (.slice A8 R.args.length c8))) :=
    Lib.hid fun W h => ⟨box4 (hx9.t h).box, box4 (ho9.t h).box, box4 (ha9.t h).box, box4 (hc9.t h).box⟩
  have HX9 := Lib.hid hx9; have HO9 := Lib.hid ho9
  have HBD : Hid (Below W8.heap.size W8 W8.drew) := Lib.hid (Below.refl W8.heap.size _).drew
  have HQ := Lib.hid hq
  unfold tyV at hri hrr hss ⊢
  have HRI := Lib.hid hri; have HRR := Lib.hid hrr; have HSS := Lib.hid hss
  clear hR8 hb8 hx8 ho8 ha8 hb9 hx9 ho9 ha9 hc9 hri hrr hss hq hR2
  go_wp2_with fail
  rw [← hW8]
  clear hW8
  go_region_held (fun W => (W.cell? ⟨w.heap.size, 0, none⟩ = some (.int .i64 T.kind) ∧ W.cell? ⟨w.heap.size, 1, none⟩ = some (.int .i64 T.num) ∧ W.cell? ⟨w.heap.size, 2, none⟩ = some (.string T.name) ∧ W.cell? ⟨w.heap.size, 3, none⟩ = some (.slice A T.args.length c)) ∧
      (W.cell? ⟨w4.heap.size, 0, none⟩ = some (.int .i64 T.kind) ∧ W.cell? ⟨w4.heap.size, 1, none⟩ = some (.int .i64 T.num) ∧ W.cell? ⟨w4.heap.size, 2, none⟩ = some (.string T.name) ∧ W.cell? ⟨w4.heap.size, 3, none⟩ = some (.slice A4 T.args.length c4)) ∧
      (W.cell? ⟨w6.heap.size, 0, none⟩ = some (.int .i64 R.kind) ∧ W.cell? ⟨w6.heap.size, 1, none⟩ = some (.int .i64 R.num) ∧ W.cell? ⟨w6.heap.size, 2, none⟩ = some (.string R.name) ∧ W.cell? ⟨w6.heap.size, 3, none⟩ = some (.slice A6 R.args.length c6)) ∧
      (W.cell? ⟨w8.heap.size, 0, none⟩ = some (.int .i64 R.kind) ∧ W.cell? ⟨w8.heap.size, 1, none⟩ = some (.int .i64 R.num) ∧ W.cell? ⟨w8.heap.size, 2, none⟩ = some (.string R.name) ∧ W.cell? ⟨w8.heap.size, 3, none⟩ = some (.slice A8 R.args.length c8)))
    (first | exact HSK.out _ HBD.out | exact HSK.out _ (by assumption)) (first
      | (go_at_call 21; refine (HSS.out w11 HB11).mono ?_; rintro e w12 ⟨rfl, hb12⟩; have HB12 := HB11.trans (hb12.mono HB11.size))
      | (go_at_call 29; refine (HRR.out w10 HB10).mono ?_; rintro e w11 ⟨rfl, hb11⟩; have HB11 := HB10.trans (hb11.mono HB10.size))
      | (go_at_call 24; refine (HRI.out _ HBD.out).mono ?_; rintro e w10 ⟨rfl, hb10⟩; have HB10 := HBD.out.trans (hb10.mono HBD.out.size)))
  have hx12 := HX9.out.t HB12
  have ho12 := HO9.out.t HB12
  have hsh := show_any T _ w12 ho12.ty (HTB.out.below hx12.below) (fun h => by have := HLS.out h; omega)
  have HX12 := Lib.hid hx12; have HO12 := Lib.hid ho12
  obtain ⟨z0, z1, z2, z3⟩ := box4 ho12.box
  obtain ⟨S, hS⟩ : ∃ S : ByteArray, S = ⟨(showT T).1.toArray⟩ := ⟨_, rfl⟩
  obtain ⟨es, hes⟩ : ∃ es, es = (showT T).2 := ⟨_, rfl⟩
  rw [← hS, ← hes] at hsh
  have HSE : Hid (S = ⟨(showT T).1.toArray⟩ ∧ es = (showT T).2) := Lib.hid ⟨hS, hes⟩
  unfold tyV at hsh
  have HSH := Lib.hid hsh
  clear hx12 ho12 hsh hS hes hb10 HB10 hb11 HB11 hb12 HB12 HRI HRR HSS HSK HBD hqq hee
  go_wp2_with fail
  refine HSH.out.mono ?_
  rintro e w14 ⟨rfl, hb14⟩
  have hx14 := HX12.out.t hb14
  have ho14 := HO12.out.t hb14
  have hsh := rShow_any T _ w14 hx14.ty HPP.out.1 HPP.out.2 (fun h => by have := HLS.out h; omega)
  rw [← HSE.out.1, ← HSE.out.2] at hsh
  have HX14 := Lib.hid hx14; have HO14 := Lib.hid ho14
  clear z0 z1 z2 z3
  obtain ⟨y0, y1, y2, y3⟩ := box4 hx14.box
  unfold tyV at hsh
  have HSH2 := Lib.hid hsh
  clear hx14 ho14 hsh hb14 HSH
  go_wp2_with fail
  refine HSH2.out.mono ?_
  rintro e w16 ⟨rfl, hb16⟩
  have hx16 := HX14.out.t hb16
  have ho16 := HO14.out.t hb16
  have hss := sameType_any T T _ _ w16 ho16.ty hx16.ty
  rw [same_refl] at hss
  clear y0 y1 y2 y3
  obtain ⟨y0, y1, y2, y3⟩ := box4 hx16.box
  obtain ⟨z0, z1, z2, z3⟩ := box4 ho16.box
  have HB16 := Lib.hid hx16.below
  unfold tyV at hss
  have HSS := Lib.hid hss
  clear hx16 ho16 hss hb16 HSH2
  go_wp2_with fail
  refine HSS.out.mono ?_
  rintro e w18 ⟨rfl, hb18⟩
  have HB18 := Lib.hid (HB16.out.trans (hb18.mono HB16.out.size))
  clear hb18
  go_wp2
  go_ret
  exact ⟨rfl, HB18.out⟩
end Go.Proofs.YtbhicpjhijondaaDoor
