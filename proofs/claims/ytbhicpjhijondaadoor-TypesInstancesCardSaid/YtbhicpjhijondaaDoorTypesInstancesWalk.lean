/- law12.TypesInstances: the walk. -/
import Derived.Test.YtbhicpjhijondaaDoorTF
import Derived.Test.YtbhicpjhijondaaDoorTE
import Derived.Test.YtbhicpjhijondaaDoorL20
import Derived.Deep.RegionHeld
namespace Go.Proofs.YtbhicpjhijondaaDoor
open Go.RowKit Go.Lib Go.Vfs Go.Par Go.Typ Go.Shelf
set_option linter.unusedVariables false
set_option linter.unusedSimpArgs false

/-- two types in boxes. -/
theorem two_boxes {w : World} {G T : Ty} {A A' : Option Addr} {c c' : Nat} (hG : TyAt (· < w.heap.size) w (tyV G.kind G.num G.name A G.args.length c) G) (hT : TyAt (· < w.heap.size) w (tyV T.kind T.num T.name A' T.args.length c') T) {W1 : World}
    (hW1 : W1 = (w.alloc (.cells #[.int .i64 G.kind, .int .i64 G.num, .string G.name, .slice A G.args.length c] 24)).alloc (.cells #[.int .i64 T.kind, .int .i64 T.num, .string T.name, .slice A' T.args.length c'] 24)) :
    BX w w.heap.size G A c W1 ∧ BX w (w.heap.size + 1) T A' c' W1 := by
  have h0 : Below w.heap.size w (w.alloc (.cells #[.int .i64 G.kind, .int .i64 G.num, .string G.name, .slice A G.args.length c] 24)) := (Below.refl _ _).alloc (Nat.le_refl _) _
  have := BX.new h0 (hT.blw h0)
  rw [hW1]
  exact ⟨(BX.new (Below.refl _ _) hG).t ((Below.refl _ _).alloc (Nat.le_refl _) _), by simpa using this⟩
theorem nmB_mono2 {m n : Nat} {T : Ty} (h : NmB m T) (hmn : m ≤ n) : NmB n T := fun x hx => Nat.le_trans (h x hx) hmn
set_option maxRecDepth 20000 in
set_option maxHeartbeats 4000000 in
theorem typesInstances_walk (v : Value) (G : Ty) (u : Value) (T : Ty) (w : World) (hG : TyAt (· < w.heap.size) w v G) (hT : TyAt (· < w.heap.size) w u T) (htb : Tb w) :
    Calls Tryd.prog 3 #[v, u] w fun e w' => e = .returned (.bool true) ∧ Below w.heap.size w w' := by
  obtain ⟨A, c, rfl, -⟩ := hG.form
  obtain ⟨A', c', rfl, -⟩ := hT.form
  obtain ⟨W1, hW1⟩ : ∃ W1, W1 = (w.alloc (.cells #[.int .i64 G.kind, .int .i64 G.num, .string G.name, .slice A G.args.length c] 24)).alloc (.cells #[.int .i64 T.kind, .int .i64 T.num, .string T.name, .slice A' T.args.length c'] 24) := ⟨_, rfl⟩
  obtain ⟨hx1, hy1⟩ := two_boxes hG hT hW1
  have HX1 := Lib.hid hx1; have HY1 := Lib.hid hy1
  have HAL := Lib.hid (alive12_any W1 (htb.below hx1.below))
  clear hG hT htb hx1 hy1
  unfold tyV
  go_enter Tryd.func3, Tryd.ntmps3
  go_wp2_with fail
  rw [← hW1]
  clear hW1
  refine HAL.out.mono ?_
  rintro e w2 ⟨rfl, hb2⟩
  have hx2 := HX1.out.t hb2
  have HX2 := Lib.hid hx2
  have HY2 := Lib.hid (HY1.out.t hb2)
  have HGR := Lib.hid (great12_any G _ w2 hx2.ty)
  obtain ⟨y0, y1, y2, y3⟩ := box4 hx2.box
  clear hx2 hb2
  unfold tyV at HGR
  go_wp2_with fail
  refine HGR.out.mono ?_
  rintro e w3 ⟨rfl, hb3⟩
  have hx3 := HX2.out.t hb3
  have hy3 := HY2.out.t hb3
  have HX3 := Lib.hid hx3
  have HY3 := Lib.hid hy3
  have HB3 := Lib.hid hx3.below
  clear y0 y1 y2 y3 hb3
  by_cases hL : lightT G = true
  rotate_left
  · have hL' : lightT G = false := by simpa using hL
    rw [hL']
    clear hx3 hy3
    go_wp2
    go_ret
    exact ⟨rfl, HB3.out⟩
  rw [hL]
  have HPG : Hid (G.parts ≤ 1000 ∧ NmB 1000000000 G) := Lib.hid ⟨(light_parts hL).1, nmB_mono2 (light_parts hL).2 (by decide)⟩
  have HGR2 := Lib.hid (great12_any T _ w3 hy3.ty)
  obtain ⟨z0, z1, z2, z3⟩ := box4 hy3.box
  clear hx3 hy3 hL
  unfold tyV at HGR2
  go_wp2_with fail
  refine HGR2.out.mono ?_
  rintro e w4 ⟨rfl, hb4⟩
  have hx4 := HX3.out.t hb4
  have hy4 := HY3.out.t hb4
  have HX4 := Lib.hid hx4
  have HY4 := Lib.hid hy4
  have HB4 := Lib.hid hx4.below
  clear z0 z1 z2 z3 hb4
  by_cases hL : lightT T = true
  rotate_left
  · have hL' : lightT T = false := by simpa using hL
    rw [hL']
    clear hx4 hy4
    go_wp2
    go_ret
    exact ⟨rfl, HB4.out⟩
  rw [hL]
  have HPT : Hid (T.parts ≤ 1000 ∧ NmB 1000000000 T) := Lib.hid ⟨(light_parts hL).1, nmB_mono2 (light_parts hL).2 (by decide)⟩
  have HCP := Lib.hid (copy_c hx4.ty HPG.out.1)
  obtain ⟨y0, y1, y2, y3⟩ := box4 hx4.box
  clear hx4 hy4 hL
  unfold tyV at HCP
  go_wp2_with fail
  refine HCP.out.mono ?_
  rintro e w5 ⟨A5, c5, rfl, hT5, hb5⟩
  obtain ⟨W5, hW5⟩ : ∃ W5, W5 = w5.alloc (.cells #[.int .i64 G.kind, .int .i64 G.num, .string G.name, .slice A5 G.args.length c5] 24) := ⟨_, rfl⟩
  have hb6 : Below w5.heap.size w5 W5 := by rw [hW5]; exact (Below.refl _ _).alloc (Nat.le_refl _) _
  have hx5 := HX4.out.t hb5
  have hx6 := hx5.t hb6
  have hy6 := (HY4.out.t hb5).t hb6
  have ha6 : BX w w5.heap.size G A5 c5 W5 := by rw [hW5]; exact BX.new hx5.below (TyC.at_ hT5)
  have hac6 := hT5.blw hb6
  have HX6 := Lib.hid hx6; have HY6 := Lib.hid hy6; have HA6 := Lib.hid ha6; have HAC6 := Lib.hid hac6
  have HCP2 := Lib.hid (copy_c hy6.ty HPT.out.1)
  clear y0 y1 y2 y3 hb5
  obtain ⟨z0, z1, z2, z3⟩ := box4 hy6.box
  rw [hW5] at z0 z1 z2 z3
  clear hT5 hb6 hx5 hx6 hy6 ha6 hac6
  unfold tyV at HCP2
  try unfold tyV
  go_wp2_with fail
  rw [← hW5]
  clear hW5 z0 z1 z2 z3
  refine HCP2.out.mono ?_
  rintro e w7 ⟨A7, c7, rfl, hT7, hb7⟩
  obtain ⟨W8, hW8⟩ : ∃ W8, W8 = w7.alloc (.cells #[.int .i64 T.kind, .int .i64 T.num, .string T.name, .slice A7 T.args.length c7] 24) := ⟨_, rfl⟩
  have hb8 : Below w7.heap.size w7 W8 := by rw [hW8]; exact (Below.refl _ _).alloc (Nat.le_refl _) _
  have hx7 := HX6.out.t hb7
  have hx8 := hx7.t hb8
  have hy8 := (HY6.out.t hb7).t hb8
  have ha8 := (HA6.out.t hb7).t hb8
  have hbb8 : BX w w7.heap.size T A7 c7 W8 := by rw [hW8]; exact BX.new hx7.below (TyC.at_ hT7)
  have hac8 := (HAC6.out.blw hb7).blw hb8
  have hbc8 := hT7.blw hb8
  have hi : ∀ W, Below W8.heap.size W8 W → _ := fun W h => inst_c (ha8.t h).ty (hbc8.blw h)
  have hri : ∀ W, Below W8.heap.size W8 W → _ := fun W h => rinst_any G T _ _ W (hx8.t h).ty (hy8.t h).ty ⟨by have := HPG.out.1; omega, HPG.out.2⟩ ⟨by have := HPT.out.1; omega, HPT.out.2⟩
  have hsm : ∀ W, Below W8.heap.size W8 W → _ := fun W h => same_c (hac8.blw h) (hbc8.blw h)
  have hst : ∀ W, Below W8.heap.size W8 W → _ := fun W h => sameType_any G T _ _ W (hx8.t h).ty (hy8.t h).ty
  have hcp : ∀ W, Below W8.heap.size W8 W → _ := fun W h => copy_c (hx8.t h).ty HPG.out.1
  have hsc : ∀ W A9 c9, Below W8.heap.size W8 W → TyC (· < W.heap.size) W (tyV G.kind G.num G.name A9 G.args.length c9) G → _ := fun W A9 c9 h ht => same_c (hac8.blw h) ht
  rw [same_refl] at hsc
  have hag : ∀ W, Below W8.heap.size W8 W → _ := fun W h => sameType_any G G _ _ W (ha8.t h).ty (hx8.t h).ty
  rw [same_refl] at hag
  have hbt : ∀ W, Below W8.heap.size W8 W → _ := fun W h => sameType_any T T _ _ W (hbb8.t h).ty (hy8.t h).ty
  rw [same_refl] at hbt
  obtain ⟨q, hq⟩ : ∃ q, q = instT G T := ⟨_, rfl⟩
  rw [← hq] at hi hri
  obtain ⟨r, hr⟩ : ∃ r, r = same G T := ⟨_, rfl⟩
  rw [← hr] at hsm hst
  have hqq : (q == q) = true := by cases q <;> rfl
  have hrr : (r == r) = true := by cases r <;> rfl
  have HSK : Hid (∀ W, Below W8.heap.size W8 W → (W.cell? ⟨w.heap.size, 0, none⟩ = some (.int .i64 G.kind) ∧ W.cell? ⟨w.heap.size, 1, none⟩ = some (.int .i64 G.num) ∧ W.cell? ⟨w.heap.size, 2, none⟩ = some (.string G.name) ∧ W.cell? ⟨w.heap.size, 3, none⟩ = some (.slice A G.args.length c)) ∧
      (W.cell? ⟨w.heap.size + 1, 0, none⟩ = some (.int .i64 T.kind) ∧ W.cell? ⟨w.heap.size + 1, 1, none⟩ = some (.int .i64 T.num) ∧ W.cell? ⟨w.heap.size + 1, 2, none⟩ = some (.string T.name) ∧ W.cell? ⟨w.heap.size + 1, 3, none⟩ = some (.slice A' T.args.length c')) ∧
      (W.cell? ⟨w5.heap.size, 0, none⟩ = some (.int .i64 G.kind) ∧ W.cell? ⟨w5.heap.size, 1, none⟩ = some (.int .i64 G.num) ∧ W.cell? ⟨w5.heap.size, 2, none⟩ = some (.string G.name) ∧ W.cell? ⟨w5.heap.size, 3, none⟩ = some (.slice A5 G.args.length c5)) ∧
      (W.cell? ⟨w7.heap.size, 0, none⟩ = some (.int .i64 T.kind) ∧ W.cell? ⟨w7.heap.size, 1, none⟩ = some (.int .i64 T.num) ∧ W.cell? ⟨w7.heap.size, 2, none⟩ = some (.string T.name) ∧ W.cell? ⟨w7.heap.size, 3, none⟩ = some (.slice A7 T.args.length c7))) :=
    Lib.hid fun W h => ⟨box4 (hx8.t h).box, box4 (hy8.t h).box, box4 (ha8.t h).box, box4 (hbb8.t h).box⟩
  have HBD : Hid (Below W8.heap.size W8 W8.drew) := Lib.hid (Below.refl W8.heap.size _).drew
  have HBW8 : Hid (Below w.heap.size w W8) := Lib.hid hx8.below
  try unfold tyV at hi
  try unfold tyV at hri
  try unfold tyV at hsm
  try unfold tyV at hst
  try unfold tyV at hcp
  try unfold tyV at hsc
  try unfold tyV at hag
  try unfold tyV at hbt
  try unfold tyV
  have HI := Lib.hid hi; have HRI := Lib.hid hri; have HSM := Lib.hid hsm; have HST := Lib.hid hst; have HCP3 := Lib.hid hcp; have HSC := Lib.hid hsc; have HAG := Lib.hid hag; have HBT := Lib.hid hbt
  clear hT7 hb7 hb8 hx7 hx8 hy8 ha8 hbb8 hac8 hbc8 hi hri hsm hst hcp hsc hag hbt hq hr
  go_wp2_with fail
  rw [← hW8]
  clear hW8
  go_region_held (fun W => (W.cell? ⟨w.heap.size, 0, none⟩ = some (.int .i64 G.kind) ∧ W.cell? ⟨w.heap.size, 1, none⟩ = some (.int .i64 G.num) ∧ W.cell? ⟨w.heap.size, 2, none⟩ = some (.string G.name) ∧ W.cell? ⟨w.heap.size, 3, none⟩ = some (.slice A G.args.length c)) ∧
      (W.cell? ⟨w.heap.size + 1, 0, none⟩ = some (.int .i64 T.kind) ∧ W.cell? ⟨w.heap.size + 1, 1, none⟩ = some (.int .i64 T.num) ∧ W.cell? ⟨w.heap.size + 1, 2, none⟩ = some (.string T.name) ∧ W.cell? ⟨w.heap.size + 1, 3, none⟩ = some (.slice A' T.args.length c')) ∧
      (W.cell? ⟨w5.heap.size, 0, none⟩ = some (.int .i64 G.kind) ∧ W.cell? ⟨w5.heap.size, 1, none⟩ = some (.int .i64 G.num) ∧ W.cell? ⟨w5.heap.size, 2, none⟩ = some (.string G.name) ∧ W.cell? ⟨w5.heap.size, 3, none⟩ = some (.slice A5 G.args.length c5)) ∧
      (W.cell? ⟨w7.heap.size, 0, none⟩ = some (.int .i64 T.kind) ∧ W.cell? ⟨w7.heap.size, 1, none⟩ = some (.int .i64 T.num) ∧ W.cell? ⟨w7.heap.size, 2, none⟩ = some (.string T.name) ∧ W.cell? ⟨w7.heap.size, 3, none⟩ = some (.slice A7 T.args.length c7)))
    (first | exact HSK.out _ HBD.out | exact HSK.out _ (by assumption)) (first
      | (go_at_call 21; refine (HBT.out w16 HB16).mono ?_; rintro e w17 ⟨rfl, hb17⟩; have HB17 := HB16.trans (hb17.mono HB16.size))
      | (go_at_call 21; refine (HAG.out w15 HB15).mono ?_; rintro e w16 ⟨rfl, hb16⟩; have HB16 := HB15.trans (hb16.mono HB15.size))
      | (go_at_call 20; refine (HSC.out w14 A14 c14 HB14 hT14).mono ?_; rintro e w15 ⟨rfl, hb15⟩; have HB15 := HB14.trans (hb15.mono HB14.size))
      | (go_at_call 17; refine (HCP3.out w13 HB13).mono ?_; rintro e w14 ⟨A14, c14, rfl, hT14, hb14⟩; have HB14 := HB13.trans (hb14.mono HB13.size))
      | (go_at_call 21; refine (HST.out w12 HB12).mono ?_; rintro e w13 ⟨rfl, hb13⟩; have HB13 := HB12.trans (hb13.mono HB12.size))
      | (go_at_call 20; refine (HSM.out w11 HB11).mono ?_; rintro e w12 ⟨rfl, hb12⟩; have HB12 := HB11.trans (hb12.mono HB11.size))
      | (go_at_call 19; refine (HRI.out w10 HB10).mono ?_; rintro e w11 ⟨rfl, hb11⟩; have HB11 := HB10.trans (hb11.mono HB10.size))
      | (go_at_call 18; refine (HI.out _ HBD.out).mono ?_; rintro e w10 ⟨rfl, hb10⟩; have HB10 := HBD.out.trans (hb10.mono HBD.out.size)))
  have HBE := Lib.hid (HBW8.out.trans (HB17.mono HBW8.out.size))
  clear HB17 HB16 HB15 HB14 HB13 HB12 HB11 HB10 hb10 hb11 hb12 hb13 hb14 hb15 hb16 hb17 hT14
  go_wp2
  go_ret
  exact ⟨rfl, HBE.out⟩
end Go.Proofs.YtbhicpjhijondaaDoor
