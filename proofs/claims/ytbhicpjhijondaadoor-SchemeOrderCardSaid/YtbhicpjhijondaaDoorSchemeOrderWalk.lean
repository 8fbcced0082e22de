/- law14.SchemeOrder: the walk. -/
import Derived.Test.YtbhicpjhijondaaDoorTE
import Derived.Test.YtbhicpjhijondaaDoorX15
namespace Go.Proofs.YtbhicpjhijondaaDoor
open Go.RowKit Go.Lib Go.Vfs Go.Par Go.Typ Go.Shelf
set_option linter.unusedVariables false
set_option linter.unusedSimpArgs false

set_option maxRecDepth 20000 in
set_option maxHeartbeats 8000000 in
theorem schemeOrder_walk (lv : Value) (xs : List Ex) (vx : Value) (x : Ex) (vy : Value) (y : Ex) (w : World)
    (hX : ExsAt (· < w.heap.size) w lv xs ∧ ∀ x ∈ xs, RowOk x.ty) (hx : ExAt (· < w.heap.size) w vx x ∧ RowOk x.ty) (hy : ExAt (· < w.heap.size) w vy y ∧ RowOk y.ty) (htb : Tb w) :
    Calls Tryd.prog 10 #[lv, vx, vy] w fun e w' => e = .returned (.bool true) ∧ Below w.heap.size w w' := by
  obtain ⟨hX, hXR⟩ := hX
  obtain ⟨⟨Ax, cx, rfl, hxn, hxt⟩, hxR⟩ := hx
  obtain ⟨⟨Ay, cy, rfl, hyn, hyt⟩, hyR⟩ := hy
  obtain ⟨Al, cl, rfl, hcl, hml⟩ := hX.form
  obtain ⟨W1, hW1⟩ : ∃ W1, W1 = (w.alloc (.cells #[.string x.name, .int .i64 x.ty.kind, .int .i64 x.ty.num, .string x.ty.name, .slice Ax x.ty.args.length cx] 46)).alloc (.cells #[.string y.name, .int .i64 y.ty.kind, .int .i64 y.ty.num, .string y.ty.name, .slice Ay y.ty.args.length cy] 46) := ⟨_, rfl⟩
  have hb1 : Below w.heap.size w W1 := by rw [hW1]; exact ((Below.refl _ _).alloc (Nat.le_refl _) _).alloc (by simp) _
  have hbx : W1.heap[w.heap.size]? = some (.cells #[.string x.name, .int .i64 x.ty.kind, .int .i64 x.ty.num, .string x.ty.name, .slice Ax x.ty.args.length cx] 46 (0, 0)) := by
    rw [hW1, Below.heap_alloc _ _ _ (by simp)]
    exact heap_alloc_new _ _
  have hby : W1.heap[w.heap.size + 1]? = some (.cells #[.string y.name, .int .i64 y.ty.kind, .int .i64 y.ty.num, .string y.ty.name, .slice Ay y.ty.args.length cy] 46 (0, 0)) := by
    rw [hW1]
    have := heap_alloc_new (w.alloc (.cells #[.string x.name, .int .i64 x.ty.kind, .int .i64 x.ty.num, .string x.ty.name, .slice Ax x.ty.args.length cx] 46)) (.cells #[.string y.name, .int .i64 y.ty.kind, .int .i64 y.ty.num, .string y.ty.name, .slice Ay y.ty.args.length cy] 46)
    simpa using this
  have hx1 : PO w x y Ax Ay cx cy (.slice Al xs.length cl) xs W1 := ⟨⟨hbx, hxt.blw hb1, hb1⟩, ⟨hby, hyt.blw hb1, hb1⟩, hX.blw hb1⟩
  have HX1 := Lib.hid hx1
  have HAL := Lib.hid (alive14_any W1 (htb.below hb1))
  have HXR := Lib.hid hXR; have HxR := Lib.hid hxR; have HyR := Lib.hid hyR; have HxN := Lib.hid hxn; have HyN := Lib.hid hyn
  clear hX hXR hcl hml htb hx1 hb1 hbx hby hxt hyt hxR hyR hxn hyn
  unfold exV
  go_enter Tryd.func10, Tryd.ntmps10
  go_wp2_with fail
  rw [← hW1]
  clear hW1
  refine HAL.out.mono ?_
  rintro e w2 ⟨rfl, hb2⟩
  have hx2 := HX1.out.t hb2
  have HX2 := Lib.hid hx2
  have HGR := Lib.hid (great14_any xs _ w2 hx2.row)
  clear hx2 hb2
  go_wp2_with fail
  refine HGR.out.mono ?_
  rintro e w3 ⟨rfl, hb3⟩
  have hx3 := HX2.out.t hb3
  have HX3 := Lib.hid hx3
  have HB3 := Lib.hid hx3.ex.below
  clear hb3
  by_cases hL : weighX xs 0 = true
  · rw [hL]
    clear hx3 hL
    go_wp2
    go_ret
    exact ⟨rfl, HB3.out⟩
  have hL' : weighX xs 0 = false := by simpa using hL
  rw [hL']
  have hlen := weighX_len xs 0 (Int.le_refl _) (by decide) hL'
  have HXL : Hid (xs.length ≤ 5000) := Lib.hid (by omega)
  obtain ⟨y0, y1, y2, y3, y4⟩ := box5 hx3.ex.box
  obtain ⟨z0, z1, z2, z3, z4⟩ := box5 hx3.ey.box
  obtain ⟨W4, hW4⟩ : ∃ W4, W4 = w3.alloc (.cells #[.string x.name, .int .i64 x.ty.kind, .int .i64 x.ty.num, .string x.ty.name, .slice Ax x.ty.args.length cx, .string y.name, .int .i64 y.ty.kind, .int .i64 y.ty.num, .string y.ty.name, .slice Ay y.ty.args.length cy] 46) := ⟨_, rfl⟩
  have hb4 : Below w3.heap.size w3 W4 := by rw [hW4]; exact (Below.refl _ _).alloc (Nat.le_refl _) _
  have hex4 : ExsAt (· < W4.heap.size) W4 (.slice (some ⟨w3.heap.size, 0, none⟩) 2 2) [x, y] := ExsAt.two HxN.out hx3.ex.ty HyN.out hx3.ey.ty _ hW4
  have HGR2 := Lib.hid (great14_any _ _ W4 hex4)
  have HX4 := Lib.hid (hx3.t hb4)
  clear hx3 hL hL' hlen hb4 hex4
  go_wp2_with fail
  rw [← hW4]
  clear hW4 y0 y1 y2 y3 y4 z0 z1 z2 z3 z4
  refine HGR2.out.mono ?_
  rintro e w5 ⟨rfl, hb5⟩
  have hx5 := HX4.out.t hb5
  have HX5 := Lib.hid hx5
  have HB5 := Lib.hid hx5.ex.below
  clear hb5
  by_cases hL2 : weighX [x, y] 0 = true
  · rw [hL2]
    clear hx5 hL2
    go_wp2
    go_ret
    exact ⟨rfl, HB5.out⟩
  have hL2' : weighX [x, y] 0 = false := by simpa using hL2
  rw [hL2']
  obtain ⟨y0, y1, y2, y3, y4⟩ := box5 hx5.ex.box
  obtain ⟨z0, z1, z2, z3, z4⟩ := box5 hx5.ey.box
  clear hx5 hL2 hL2'
  by_cases hne : x.name = y.name
  · have hnn : (x.name.toList == y.name.toList) = true := (beqS _ _).2 hne
    clear hne
    go_wp2
    go_ret
    exact ⟨rfl, HB5.out⟩
  have hnn : (x.name.toList == y.name.toList) = false := beqS_ne hne
  have HNE := Lib.hid hne
  clear hne
  have hd1 : Below w5.heap.size w5 w5.drew := (Below.refl w5.heap.size _).drew
  have HBD1 := Lib.hid hd1
  have HSK1 : Hid (∀ W', Below w5.heap.size w5 W' → W'.cell? ⟨w.heap.size, 0, none⟩ = some (.string x.name) ∧ W'.cell? ⟨w.heap.size, 1, none⟩ = some (.int .i64 x.ty.kind) ∧ W'.cell? ⟨w.heap.size, 2, none⟩ = some (.int .i64 x.ty.num) ∧ W'.cell? ⟨w.heap.size, 3, none⟩ = some (.string x.ty.name) ∧ W'.cell? ⟨w.heap.size, 4, none⟩ = some (.slice Ax x.ty.args.length cx)) := Lib.hid fun W' h => box5 ((HX5.out.t h).ex.box)
  obtain ⟨y0, y1, y2, y3, y4⟩ := box5 HX5.out.ex.box
  have hce1 : ∀ W, Below w5.heap.size w5 W → _ := fun W h => copyExports_any xs HXR.out _ W (HX5.out.t h).row (by have := HXL.out; omega)
  have hct1 : ∀ W, Below w5.heap.size w5 W → _ := fun W h => copyTypeR_any x.ty _ W (HX5.out.t h).ex.ty HxR.out
  have hpt1 : ∀ W vE A' c', ExsAt (· < W.heap.size) W vE xs → TyAt (· < W.heap.size) W (tyV x.ty.kind x.ty.num x.ty.name A' x.ty.args.length c') x.ty → _ := fun W vE A' c' h1 h2 => put_any xs HXR.out x.name HxN.out x.ty HxR.out vE _ W h1 h2 (by have := HXL.out; omega)
  unfold tyV at hct1 hpt1
  have HCE1 := Lib.hid hce1; have HCT1 := Lib.hid hct1; have HPT1 := Lib.hid hpt1
  clear hd1 hce1 hct1 hpt1
  go_wp2_with fail
  go_region_held (fun W' => W'.cell? ⟨w.heap.size, 0, none⟩ = some (.string x.name) ∧ W'.cell? ⟨w.heap.size, 1, none⟩ = some (.int .i64 x.ty.kind) ∧ W'.cell? ⟨w.heap.size, 2, none⟩ = some (.int .i64 x.ty.num) ∧ W'.cell? ⟨w.heap.size, 3, none⟩ = some (.string x.ty.name) ∧ W'.cell? ⟨w.heap.size, 4, none⟩ = some (.slice Ax x.ty.args.length cx))
    (first | exact HSK1.out _ HBD1.out | exact HSK1.out _ (by assumption)) (first
      | (go_at_call 43; refine (HPT1.out w11 vE1 A11 c11 HEX1 HTY1).mono ?_; intro e w12 hp12; obtain ⟨v12, n1, Q1, rfl, hb12, hq1, HN1, HQ1⟩ := put_gen hp12; have HB12 := HB11.trans (hb12.mono HB11.size))
      | (go_at_call 34; first | (refine (HCE1.out w10 HB10).mono ?_; rintro e w11 ⟨vE1, rfl, hE11, hb11⟩; have HEX1 := hE11.sub (S' := (· < w11.heap.size)) (fun g hg => hg.2); have HTY1 := hT10.blw hb11; have HB11 := HB10.trans (hb11.mono HB10.size)) | (refine (HCE1.out _ HBD1.out).mono ?_; rintro e w10 ⟨vE1, rfl, hE10, hb10⟩; have HB10 := HBD1.out.trans (hb10.mono HBD1.out.size)))
      | (go_at_call 17; first | (refine (HCT1.out w10 HB10).mono ?_; rintro e w11 ⟨A11, c11, rfl, hT11, hb11⟩; have HTY1 := hT11.sub (S' := (· < w11.heap.size)) (fun g hg => hg.2); have HEX1 := (hE10.sub (S' := (· < w10.heap.size)) (fun g hg => hg.2)).blw hb11; have HB11 := HB10.trans (hb11.mono HB10.size)) | (refine (HCT1.out _ HBD1.out).mono ?_; rintro e w10 ⟨A11, c11, rfl, hT10', hb10⟩; have hT10 := hT10'.sub (S' := (· < w10.heap.size)) (fun g hg => hg.2); have HB10 := HBD1.out.trans (hb10.mono HBD1.out.size))))
  all_goals
    have HX12 := Lib.hid (HX5.out.t HB12)
    have HQ1A := Lib.hid hq1
    clear HEX1 HTY1 HB11 HB12 hb12 hb11 HB10 hb10 hq1 HCE1 HCT1 HPT1 HSK1 HBD1 hp12 y0 y1 y2 y3 y4 z0 z1 z2 z3 z4
    try clear hnn
    have hd2 : Below w12.heap.size w12 w12.drew := (Below.refl w12.heap.size _).drew
    have HBD2 := Lib.hid hd2
    have HSK2 : Hid (∀ W', Below w12.heap.size w12 W' → W'.cell? ⟨w.heap.size + 1, 0, none⟩ = some (.string y.name) ∧ W'.cell? ⟨w.heap.size + 1, 1, none⟩ = some (.int .i64 y.ty.kind) ∧ W'.cell? ⟨w.heap.size + 1, 2, none⟩ = some (.int .i64 y.ty.num) ∧ W'.cell? ⟨w.heap.size + 1, 3, none⟩ = some (.string y.ty.name) ∧ W'.cell? ⟨w.heap.size + 1, 4, none⟩ = some (.slice Ay y.ty.args.length cy)) := Lib.hid fun W' h => box5 ((HX12.out.t h).ey.box)
    obtain ⟨y0, y1, y2, y3, y4⟩ := box5 HX12.out.ey.box
    have hce2 : ∀ W, Below w12.heap.size w12 W → _ := fun W h => copyExports_any xs HXR.out _ W (HX12.out.t h).row (by have := HXL.out; omega)
    have hct2 : ∀ W, Below w12.heap.size w12 W → _ := fun W h => copyTypeR_any y.ty _ W (HX12.out.t h).ey.ty HyR.out
    have hpt2 : ∀ W vE A' c', ExsAt (· < W.heap.size) W vE xs → TyAt (· < W.heap.size) W (tyV y.ty.kind y.ty.num y.ty.name A' y.ty.args.length c') y.ty → _ := fun W vE A' c' h1 h2 => put_any xs HXR.out y.name HyN.out y.ty HyR.out vE _ W h1 h2 (by have := HXL.out; omega)
    unfold tyV at hct2 hpt2
    have HCE2 := Lib.hid hce2; have HCT2 := Lib.hid hct2; have HPT2 := Lib.hid hpt2
    clear hd2 hce2 hct2 hpt2
    go_wp2_with fail
    go_region_held (fun W' => W'.cell? ⟨w.heap.size + 1, 0, none⟩ = some (.string y.name) ∧ W'.cell? ⟨w.heap.size + 1, 1, none⟩ = some (.int .i64 y.ty.kind) ∧ W'.cell? ⟨w.heap.size + 1, 2, none⟩ = some (.int .i64 y.ty.num) ∧ W'.cell? ⟨w.heap.size + 1, 3, none⟩ = some (.string y.ty.name) ∧ W'.cell? ⟨w.heap.size + 1, 4, none⟩ = some (.slice Ay y.ty.args.length cy))
      (first | exact HSK2.out _ HBD2.out | exact HSK2.out _ (by assumption)) (first
        | (go_at_call 43; refine (HPT2.out w21 vE2 A21 c21 HEX2 HTY2).mono ?_; intro e w22 hp22; obtain ⟨v22, n2, Q2, rfl, hb22, hq2, HN2, HQ2⟩ := put_gen hp22; have HB22 := HB21.trans (hb22.mono HB21.size))
        | (go_at_call 34; first | (refine (HCE2.out w20 HB20).mono ?_; rintro e w21 ⟨vE2, rfl, hE21, hb21⟩; have HEX2 := hE21.sub (S' := (· < w21.heap.size)) (fun g hg => hg.2); have HTY2 := hT20.blw hb21; have HB21 := HB20.trans (hb21.mono HB20.size)) | (refine (HCE2.out _ HBD2.out).mono ?_; rintro e w20 ⟨vE2, rfl, hE20, hb20⟩; have HB20 := HBD2.out.trans (hb20.mono HBD2.out.size)))
        | (go_at_call 17; first | (refine (HCT2.out w20 HB20).mono ?_; rintro e w21 ⟨A21, c21, rfl, hT21, hb21⟩; have HTY2 := hT21.sub (S' := (· < w21.heap.size)) (fun g hg => hg.2); have HEX2 := (hE20.sub (S' := (· < w20.heap.size)) (fun g hg => hg.2)).blw hb21; have HB21 := HB20.trans (hb21.mono HB20.size)) | (refine (HCT2.out _ HBD2.out).mono ?_; rintro e w20 ⟨A21, c21, rfl, hT20', hb20⟩; have hT20 := hT20'.sub (S' := (· < w20.heap.size)) (fun g hg => hg.2); have HB20 := HBD2.out.trans (hb20.mono HBD2.out.size))))
    all_goals
      have HX22 := Lib.hid (HX12.out.t HB22)
      have HQ1B := Lib.hid (HQ1A.out.blw HB22)
      have HQ2B := Lib.hid hq2
      have HBE := Lib.hid HX22.out.ex.below
      clear HEX2 HTY2 HB21 HB22 hb22 hb21 HB20 hb20 hq2 HCE2 HCT2 HPT2 HSK2 HBD2 hp22 y0 y1 y2 y3 y4 HQ1A HX12
      by_cases hr1 : rightX (putX xs x) = true
      rotate_left
      · have hn1 : n1 = 140 := by have := HN1.out; rw [if_neg hr1] at this; exact this
        subst hn1
        clear hr1
        go_wp2
        go_ret
        exact ⟨rfl, HBE.out⟩
      have hn1 : n1 = 0 := by have := HN1.out; rw [if_pos hr1] at this; exact this
      subst hn1
      by_cases hr2 : rightX (putX xs y) = true
      rotate_left
      · have hn2 : n2 = 140 := by have := HN2.out; rw [if_neg hr2] at this; exact this
        subst hn2
        clear hr1 hr2
        go_wp2
        go_ret
        exact ⟨rfl, HBE.out⟩
      have hn2 : n2 = 0 := by have := HN2.out; rw [if_pos hr2] at this; exact this
      subst hn2
      have hq1e : Q1 = putX xs x := by have := HQ1.out; rw [if_pos hr1] at this; exact this
      have hq2e : Q2 = putX xs y := by have := HQ2.out; rw [if_pos hr2] at this; exact this
      have HCM : Hid (putX Q1 y = putX Q2 x) := Lib.hid (by rw [hq1e, hq2e]; exact puts_comm HNE.out hr1 hr2)
      have HP1 : Hid (∀ z ∈ Q1, RowOk z.ty) := Lib.hid fun z hz => by
        rw [hq1e] at hz
        rcases putX_mem z hz with h | h
        · exact HXR.out z h
        · rw [h]; exact HxR.out
      have HP2 : Hid (∀ z ∈ Q2, RowOk z.ty) := Lib.hid fun z hz => by
        rw [hq2e] at hz
        rcases putX_mem z hz with h | h
        · exact HXR.out z h
        · rw [h]; exact HyR.out
      have HL1 : Hid (Q1.length ≤ 1000) := Lib.hid (by rw [hq1e]; exact rightX_len hr1)
      have HL2 : Hid (Q2.length ≤ 1000) := Lib.hid (by rw [hq2e]; exact rightX_len hr2)
      clear hr1 hr2 hq1e hq2e
      have hd3 : Below w22.heap.size w22 w22.drew := (Below.refl w22.heap.size _).drew
      have HBD3 := Lib.hid hd3
      have HSK3 : Hid (∀ W', Below w22.heap.size w22 W' → W'.cell? ⟨w.heap.size + 1, 0, none⟩ = some (.string y.name) ∧ W'.cell? ⟨w.heap.size + 1, 1, none⟩ = some (.int .i64 y.ty.kind) ∧ W'.cell? ⟨w.heap.size + 1, 2, none⟩ = some (.int .i64 y.ty.num) ∧ W'.cell? ⟨w.heap.size + 1, 3, none⟩ = some (.string y.ty.name) ∧ W'.cell? ⟨w.heap.size + 1, 4, none⟩ = some (.slice Ay y.ty.args.length cy)) := Lib.hid fun W' h => box5 ((HX22.out.t h).ey.box)
      obtain ⟨y0, y1, y2, y3, y4⟩ := box5 HX22.out.ey.box
      have hct3 : ∀ W, Below w22.heap.size w22 W → _ := fun W h => copyTypeR_any y.ty _ W (HX22.out.t h).ey.ty HyR.out
      have hpt3 : ∀ W A' c', Below w22.heap.size w22 W → TyAt (· < W.heap.size) W (tyV y.ty.kind y.ty.num y.ty.name A' y.ty.args.length c') y.ty → _ := fun W A' c' h1 h2 => put_any _ HP1.out y.name HyN.out y.ty HyR.out _ _ W (HQ1B.out.blw h1) h2 (by have := HL1.out; omega)
      unfold tyV at hct3 hpt3
      have HCT3 := Lib.hid hct3; have HPT3 := Lib.hid hpt3
      clear hd3 hct3 hpt3
      go_wp2_with fail
      go_region_held (fun W' => W'.cell? ⟨w.heap.size + 1, 0, none⟩ = some (.string y.name) ∧ W'.cell? ⟨w.heap.size + 1, 1, none⟩ = some (.int .i64 y.ty.kind) ∧ W'.cell? ⟨w.heap.size + 1, 2, none⟩ = some (.int .i64 y.ty.num) ∧ W'.cell? ⟨w.heap.size + 1, 3, none⟩ = some (.string y.ty.name) ∧ W'.cell? ⟨w.heap.size + 1, 4, none⟩ = some (.slice Ay y.ty.args.length cy))
        (first | exact HSK3.out _ HBD3.out | exact HSK3.out _ (by assumption)) (first
          | (go_at_call 43; refine (HPT3.out w31 A31 c31 HB31 HTY3).mono ?_; intro e w32 hp32; obtain ⟨v32, n3, Q3, rfl, hb32, hq3, HN3, HQ3⟩ := put_gen hp32; have HB32 := HB31.trans (hb32.mono HB31.size))
          | (go_at_call 17; refine (HCT3.out _ HBD3.out).mono ?_; rintro e w31 ⟨A31, c31, rfl, hT31, hb31⟩; have HTY3 := hT31.sub (S' := (· < w31.heap.size)) (fun g hg => hg.2); have HB31 := HBD3.out.trans (hb31.mono HBD3.out.size)))
      have HX32 := Lib.hid (HX22.out.t HB32)
      have HQ2C := Lib.hid (HQ2B.out.blw HB32)
      have HQ3A := Lib.hid hq3
      clear HTY3 HB31 HB32 hb32 hb31 hq3 HCT3 HPT3 HSK3 HBD3 hp32 y0 y1 y2 y3 y4 hT31
      have hd4 : Below w32.heap.size w32 w32.drew := (Below.refl w32.heap.size _).drew
      have HBD4 := Lib.hid hd4
      have HSK4 : Hid (∀ W', Below w32.heap.size w32 W' → W'.cell? ⟨w.heap.size, 0, none⟩ = some (.string x.name) ∧ W'.cell? ⟨w.heap.size, 1, none⟩ = some (.int .i64 x.ty.kind) ∧ W'.cell? ⟨w.heap.size, 2, none⟩ = some (.int .i64 x.ty.num) ∧ W'.cell? ⟨w.heap.size, 3, none⟩ = some (.string x.ty.name) ∧ W'.cell? ⟨w.heap.size, 4, none⟩ = some (.slice Ax x.ty.args.length cx)) := Lib.hid fun W' h => box5 ((HX32.out.t h).ex.box)
      obtain ⟨y0, y1, y2, y3, y4⟩ := box5 HX32.out.ex.box
      have hct4 : ∀ W, Below w32.heap.size w32 W → _ := fun W h => copyTypeR_any x.ty _ W (HX32.out.t h).ex.ty HxR.out
      have hpt4 : ∀ W A' c', Below w32.heap.size w32 W → TyAt (· < W.heap.size) W (tyV x.ty.kind x.ty.num x.ty.name A' x.ty.args.length c') x.ty → _ := fun W A' c' h1 h2 => put_any _ HP2.out x.name HxN.out x.ty HxR.out _ _ W (HQ2C.out.blw h1) h2 (by have := HL2.out; omega)
      unfold tyV at hct4 hpt4
      have HCT4 := Lib.hid hct4; have HPT4 := Lib.hid hpt4
      clear hd4 hct4 hpt4
      go_wp2_with fail
      go_region_held (fun W' => W'.cell? ⟨w.heap.size, 0, none⟩ = some (.string x.name) ∧ W'.cell? ⟨w.heap.size, 1, none⟩ = some (.int .i64 x.ty.kind) ∧ W'.cell? ⟨w.heap.size, 2, none⟩ = some (.int .i64 x.ty.num) ∧ W'.cell? ⟨w.heap.size, 3, none⟩ = some (.string x.ty.name) ∧ W'.cell? ⟨w.heap.size, 4, none⟩ = some (.slice Ax x.ty.args.length cx))
        (first | exact HSK4.out _ HBD4.out | exact HSK4.out _ (by assumption)) (first
          | (go_at_call 43; refine (HPT4.out w41 A41 c41 HB41 HTY4).mono ?_; intro e w42 hp42; obtain ⟨v42, n4, Q4, rfl, hb42, hq4, HN4, HQ4⟩ := put_gen hp42; have HB42 := HB41.trans (hb42.mono HB41.size))
          | (go_at_call 17; refine (HCT4.out _ HBD4.out).mono ?_; rintro e w41 ⟨A41, c41, rfl, hT41, hb41⟩; have HTY4 := hT41.sub (S' := (· < w41.heap.size)) (fun g hg => hg.2); have HB41 := HBD4.out.trans (hb41.mono HBD4.out.size)))
      have hx42 := HX32.out.t HB42
      have HB42W := Lib.hid hx42.ex.below
      have hq3d := HQ3A.out.blw HB42
      have hn34 : n3 = n4 := by have h3 := HN3.out; have h4 := HN4.out; rw [HCM.out] at h3; rw [h3, h4]
      have hq34 : Q3 = Q4 := by have h3 := HQ3.out; have h4 := HQ4.out; rw [HCM.out] at h3; rw [h3, h4]
      subst hn34
      rw [hq34] at hq3d
      have hse := sameExports_any Q4 Q4 _ _ w42 hq3d hq4
      rw [sameX_true rfl] at hse
      have HSE := Lib.hid hse
      clear hq34 hq3d hq4 hse hx42 HB42 hb42 HB41 hp42 HTY4 hT41 HCT4 HPT4 HSK4 HBD4 y0 y1 y2 y3 y4
      go_wp2_with fail
      refine HSE.out.mono ?_
      rintro e w50 ⟨rfl, hb50⟩
      have HB50 : Hid (Below w.heap.size w w50) := Lib.hid (HB42W.out.trans (hb50.mono HB42W.out.size))
      clear hb50
      go_wp2
      go_ret
      exact ⟨rfl, HB50.out⟩
end Go.Proofs.YtbhicpjhijondaaDoor
