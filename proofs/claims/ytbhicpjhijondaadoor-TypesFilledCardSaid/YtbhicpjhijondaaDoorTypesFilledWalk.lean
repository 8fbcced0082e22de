/- law12.TypesFilled: the walk. -/
import Derived.Test.YtbhicpjhijondaaDoorT39
import Derived.Test.YtbhicpjhijondaaDoorT44
namespace Go.Proofs.YtbhicpjhijondaaDoor
open Go.RowKit Go.Lib Go.Vfs Go.Par Go.Typ Go.Shelf
set_option linter.unusedVariables false
set_option linter.unusedSimpArgs false

/-- the law's arguments between calls: the type in its box, the row. -/
structure FX (w : World) (b : Nat) (T : Ty) (A : Option Addr) (c : Nat) (r : Value) (ws : List Ty) (W : World) : Prop where
  bx : BX w b T A c W
  row : RowsT (· < W.heap.size) W r ws
theorem FX.t {w : World} {b : Nat} {T : Ty} {A : Option Addr} {c : Nat} {r : Value} {ws : List Ty} {W W' : World} (h : FX w b T A c r ws W) (hb : Below W.heap.size W W') : FX w b T A c r ws W' :=
  ⟨h.bx.t hb, h.row.blw hb⟩

set_option maxRecDepth 20000 in
set_option maxHeartbeats 4000000 in
theorem typesFilled_walk (v : Value) (T : Ty) (r : Value) (ws : List Ty) (w : World) (hT : TyAt (· < w.heap.size) w v T) (hR : RowsT (· < w.heap.size) w r ws) (htb : Tb w) :
    Calls Tryd.prog 5 #[v, r] w fun e w' => e = .returned (.bool true) ∧ Below w.heap.size w w' := by
  obtain ⟨A, c, rfl, hc, hm, hn⟩ := hT.form
  obtain ⟨Aw, cw, rfl, hcw, hmw⟩ := hR.form
  obtain ⟨W1, hW1⟩ : ∃ W1, W1 = w.alloc (.cells #[.int .i64 T.kind, .int .i64 T.num, .string T.name, .slice A T.args.length c] 24) := ⟨_, rfl⟩
  have hx1 : FX w w.heap.size T A c (.slice Aw ws.length cw) ws W1 := by
    rw [hW1]
    exact ⟨BX.new (Below.refl _ _) hT, hR.blw ((Below.refl _ _).alloc (Nat.le_refl _) _)⟩
  have HX1 := Lib.hid hx1
  have HAL := Lib.hid (alive12_any W1 (htb.below hx1.bx.below))
  have hwl : ws.length ≤ 9223372036854775807 := by simp only [maxLen] at hmw; omega
  clear hT hR hc hm hn htb hx1 hcw hmw
  unfold tyV
  go_enter Tryd.func5, Tryd.ntmps5
  go_wp2_with fail
  rw [← hW1]
  clear hW1
  refine HAL.out.mono ?_
  rintro e w2 ⟨rfl, hb2⟩
  have hx2 := HX1.out.t hb2
  have HX2 := Lib.hid hx2
  have HGR := Lib.hid (great12_any T _ w2 hx2.bx.ty)
  obtain ⟨y0, y1, y2, y3⟩ := box4 hx2.bx.box
  clear hx2 hb2
  unfold tyV at HGR
  go_wp2_with fail
  refine HGR.out.mono ?_
  rintro e w3 ⟨rfl, hb3⟩
  have hx3 := HX2.out.t hb3
  have HX3 := Lib.hid hx3
  have HB3 := Lib.hid hx3.bx.below
  clear y0 y1 y2 y3 hb3
  obtain ⟨y0, y1, y2, y3⟩ := box4 hx3.bx.box
  by_cases hL : lightT T = true
  rotate_left
  · have hL' : lightT T = false := by simpa using hL
    rw [hL']
    go_wp2
    go_ret
    exact ⟨rfl, HB3.out⟩
  rw [hL]
  have HL := Lib.hid hL
  have hpp := (light_parts hL).1
  have HP := Lib.hid hpp
  have HCP := Lib.hid (copy_c hx3.bx.ty hpp)
  clear hx3 hL hpp
  unfold tyV at HCP
  go_wp2_with fail
  refine HCP.out.mono ?_
  rintro e w4 ⟨A4, c4, rfl, hT4, hb4⟩
  have hx4 := HX3.out.t hb4
  have HX4 := Lib.hid hx4
  have hri := right_any T _ w4 (TyC.at_ hT4)
  have HRI := Lib.hid hri
  clear hb4 hx4 y0 y1 y2 y3 hT4 hri
  unfold tyV at HRI
  try unfold tyV
  go_wp2_with fail
  refine HRI.out.mono ?_
  rintro e w5 ⟨rfl, hb5⟩
  have hx5 := HX4.out.t hb5
  have HX5 := Lib.hid hx5
  have HB5 := Lib.hid hx5.bx.below
  clear hx5 hb5
  by_cases hr : rightT T = true
  rotate_left
  · have hr' : rightT T = false := by simpa using hr
    rw [hr']
    go_wp2
    go_ret
    exact ⟨rfl, HB5.out⟩
  have HRT := Lib.hid hr
  rw [hr]
  clear hr
  by_cases h10 : 10 < (ws.length : Int)
  · go_wp2
    go_ret
    exact ⟨rfl, HB5.out⟩
  go_wp2
  go_loopw [5] (fun iv W => ∃ (k : Nat), k ≤ ws.length ∧ iv = .int .i64 k ∧ Hid (∀ i (h : i < ws.length), i < k → rightT ws[i] = true) ∧ Hid (FX w w.heap.size T A c (.slice Aw ws.length cw) ws W)) (fun iv _ => ws.length - (RowKit.intOf iv).toNat)
  case atStart => exact ⟨0, by omega, rfl, Lib.hid fun i h h0 => by omega, HX5⟩
  case round =>
    obtain ⟨k, hk, rfl, HA, HX⟩ := hrel
    by_cases hlt : k < ws.length
    · obtain ⟨b, off, A', c', rfl, hb, ht, x0, x1, x2, x3⟩ := HX.out.row.arg hlt
      have hwt := weight_any ws[k] _ 40 wr ht (by decide) (by decide)
      have HBK := Lib.hid HX.out.bx.below
      have HLP : Hid (weightT ws[k] 40 ≤ 40 → ws[k].parts ≤ 1000) := Lib.hid fun h => by have := (weightT_light ws[k] 40 h).1; omega
      have HAK : Hid (rightT ws[k] = true → ∀ i (h : i < ws.length), i < k + 1 → rightT ws[i] = true) := Lib.hid fun h i hi hik => by
        by_cases e : i = k
        · subst e; exact h
        · exact HA.out i hi (by omega)
      have HTK := Lib.hid ht
      clear ht
      generalize ws[k] = X at *
      unfold tyV at hwt
      have HWT := Lib.hid hwt
      clear hwt
      go_wp2_with fail
      refine HWT.out.mono ?_
      rintro e w6 ⟨rfl, hb6⟩
      have hx6 := HX.out.t hb6
      have HX6 := Lib.hid hx6
      have HB6 := Lib.hid hx6.bx.below
      by_cases hg : 40 < weightT X 40
      · clear hx6 hb6
        go_wp2
        go_ret
        exact ⟨rfl, HB6.out⟩
      have x0' := (hb6.cell (p := ⟨b, off + k * 4, none⟩) hb).trans x0
      have x1' := (hb6.cell (p := ⟨b, off + k * 4 + 1, none⟩) hb).trans x1
      have x2' := (hb6.cell (p := ⟨b, off + k * 4 + 2, none⟩) hb).trans x2
      have x3' := (hb6.cell (p := ⟨b, off + k * 4 + 3, none⟩) hb).trans x3
      have hcp := copy_c (HTK.out.blw hb6) (HLP.out (by omega))
      unfold tyV at hcp
      have HCQ := Lib.hid hcp
      clear hx6 hb6 hcp x0 x1 x2 x3
      go_wp2_with fail
      refine HCQ.out.mono ?_
      rintro e w7 ⟨A7, c7, rfl, hT7, hb7⟩
      have HX7 := Lib.hid (HX6.out.t hb7)
      have HR7 := Lib.hid (right_any X _ w7 (TyC.at_ hT7))
      clear hT7 hb7 x0' x1' x2' x3'
      unfold tyV at HR7
      try unfold tyV
      go_wp2_with fail
      refine HR7.out.mono ?_
      rintro e w8 ⟨rfl, hb8⟩
      have HX8 := Lib.hid (HX7.out.t hb8)
      have HB8 := Lib.hid (HX7.out.t hb8).bx.below
      clear hb8
      cases hrx : rightT X with
      | false =>
        clear hrx
        go_wp2
        go_ret
        exact ⟨rfl, HB8.out⟩
      | true =>
        have HK := Lib.hid (HAK.out hrx)
        clear hrx
        go_wp2
        go_roundw
        case rel => exact ⟨k + 1, by omega, by go_num, HK, HX8⟩
        case measure => simp [RowKit.intOf]; omega
    · have HALL : Hid (∀ t ∈ ws, t.parts ≤ 1000) := Lib.hid fun t ht => by
        obtain ⟨i, hi, rfl⟩ := List.getElem_of_mem ht
        have := (rightT_iff.1 (HA.out i hi (by omega))).1
        omega
      have hxr := HX.out
      have hd : Below wr.heap.size wr wr.drew := (Below.refl wr.heap.size _).drew
      have hcp := copy_c (hxr.t hd).bx.ty HP.out
      obtain ⟨y0, y1, y2, y3⟩ := box4 hxr.bx.box
      have hlb := lt_blk hxr.bx.box
      have HSK : Hid (∀ W', Below wr.heap.size wr W' → W'.cell? ⟨w.heap.size, 0, none⟩ = some (.int .i64 T.kind) ∧ W'.cell? ⟨w.heap.size, 1, none⟩ = some (.int .i64 T.num) ∧ W'.cell? ⟨w.heap.size, 2, none⟩ = some (.string T.name) ∧ W'.cell? ⟨w.heap.size, 3, none⟩ = some (.slice A T.args.length c)) :=
        Lib.hid fun W' h => ⟨(h.cell (p := ⟨_, _, none⟩) hlb).trans y0, (h.cell (p := ⟨_, _, none⟩) hlb).trans y1, (h.cell (p := ⟨_, _, none⟩) hlb).trans y2, (h.cell (p := ⟨_, _, none⟩) hlb).trans y3⟩
      have hi1 : ∀ W A' c', Below wr.heap.size wr W → TyC (· < W.heap.size) W (tyV T.kind T.num T.name A' T.args.length c') T → _ := fun W A' c' h ht => inst_c (hxr.t h).bx.ty ht
      rw [inst_self HRT.out] at hi1
      have hi2 : ∀ W, Below wr.heap.size wr W → _ := fun W h => inst_v (hxr.t h).bx.ty
      rw [inst_var0 HRT.out] at hi2
      unfold tyV at hcp hi1 hi2
      have HCP2 := Lib.hid hcp
      have HI1 := Lib.hid hi1
      have HI2 := Lib.hid hi2
      have HBD := Lib.hid hd
      have HXR := Lib.hid hxr
      clear hcp hi1 hi2 hd hxr y0 y1 y2 y3 hlb
      go_wp2_with fail
      go_region_held (fun W' => W'.cell? ⟨w.heap.size, 0, none⟩ = some (.int .i64 T.kind) ∧ W'.cell? ⟨w.heap.size, 1, none⟩ = some (.int .i64 T.num) ∧ W'.cell? ⟨w.heap.size, 2, none⟩ = some (.string T.name) ∧ W'.cell? ⟨w.heap.size, 3, none⟩ = some (.slice A T.args.length c))
        (first | exact HSK.out _ HBD.out | exact HSK.out _ (by assumption)) (first
          | (go_at_call 17; refine HCP2.out.mono ?_; rintro e w6 ⟨A6, c6, rfl, hT6, hb6⟩; have HB6 := HBD.out.trans (hb6.mono HBD.out.size))
          | (go_at_call 18; refine (HI2.out w7 HB7).mono ?_; rintro e w8 ⟨rfl, hb8⟩; have HB8 := HB7.trans (hb8.mono HB7.size))
          | (go_at_call 18; refine (HI1.out w6 A6 c6 HB6 hT6).mono ?_; rintro e w7 ⟨rfl, hb7⟩; have HB7 := HB6.trans (hb7.mono HB6.size)))
      have hx8 := HXR.out.t HB8
      have HX8 := Lib.hid hx8
      have hfl := filled_any ws HALL.out (by omega) T _ _ w8 hx8.bx.ty hx8.row (rightT_iff.1 HRT.out).2 (by have := HP.out; omega)
      have hif := inst_fill ws HRT.out
      obtain ⟨y0, y1, y2, y3⟩ := box4 hx8.bx.box
      generalize fillT ws T = F at *
      unfold tyV at hfl
      have HFL := Lib.hid hfl
      have HIF := Lib.hid hif
      clear hfl hif hx8 hT6 hb6 HB6 hb7 HB7 hb8 HB8 HI1 HI2 HCP2 HSK HBD HX
      go_wp2_with fail
      refine HFL.out.mono ?_
      rintro e w9 ⟨A9, c9, rfl, hF9, hb9⟩
      have hx9 := HX8.out.t hb9
      obtain ⟨W9, hW9⟩ : ∃ W9, W9 = w9.alloc (.cells #[.int .i64 F.kind, .int .i64 F.num, .string F.name, .slice A9 F.args.length c9] 24) := ⟨_, rfl⟩
      have hb10 : Below w9.heap.size w9 W9 := by rw [hW9]; exact (Below.refl _ _).alloc (Nat.le_refl _) _
      have hx10 := hx9.t hb10
      have hbf : W9.heap[w9.heap.size]? = some (.cells #[.int .i64 F.kind, .int .i64 F.num, .string F.name, .slice A9 F.args.length c9] 24 (0, 0)) := by rw [hW9]; exact heap_alloc_new _ _
      have hF10 : TyC (· < W9.heap.size) W9 (tyV F.kind F.num F.name A9 F.args.length c9) F := TyC.keep hF9 fun g hg => ⟨Nat.lt_of_lt_of_le hg.2 hb10.size, hb10.block g hg.2⟩
      have hi1 : ∀ W, Below W9.heap.size W9 W → _ := fun W h => inst_c (hx10.t h).bx.ty (hF10.blw h)
      rw [HIF.out] at hi1
      have hr1 : ∀ W, Below W9.heap.size W9 W → _ := fun W h => right_any F _ W (TyC.at_ (hF10.blw h))
      have hlb := lt_blk hx10.bx.box
      have hlf := lt_blk hbf
      obtain ⟨y0, y1, y2, y3⟩ := box4 hx10.bx.box
      obtain ⟨z0, z1, z2, z3⟩ := box4 hbf
      have HSK : Hid (∀ W', Below W9.heap.size W9 W' → W'.cell? ⟨w.heap.size, 0, none⟩ = some (.int .i64 T.kind) ∧ W'.cell? ⟨w.heap.size, 1, none⟩ = some (.int .i64 T.num) ∧ W'.cell? ⟨w.heap.size, 2, none⟩ = some (.string T.name) ∧ W'.cell? ⟨w.heap.size, 3, none⟩ = some (.slice A T.args.length c) ∧
          W'.cell? ⟨w9.heap.size, 0, none⟩ = some (.int .i64 F.kind) ∧ W'.cell? ⟨w9.heap.size, 1, none⟩ = some (.int .i64 F.num) ∧ W'.cell? ⟨w9.heap.size, 2, none⟩ = some (.string F.name) ∧ W'.cell? ⟨w9.heap.size, 3, none⟩ = some (.slice A9 F.args.length c9)) :=
        Lib.hid fun W' h => ⟨(h.cell (p := ⟨_, _, none⟩) hlb).trans y0, (h.cell (p := ⟨_, _, none⟩) hlb).trans y1, (h.cell (p := ⟨_, _, none⟩) hlb).trans y2, (h.cell (p := ⟨_, _, none⟩) hlb).trans y3,
          (h.cell (p := ⟨_, _, none⟩) hlf).trans z0, (h.cell (p := ⟨_, _, none⟩) hlf).trans z1, (h.cell (p := ⟨_, _, none⟩) hlf).trans z2, (h.cell (p := ⟨_, _, none⟩) hlf).trans z3⟩
      have HBD : Hid (Below W9.heap.size W9 W9.drew) := Lib.hid (Below.refl W9.heap.size _).drew
      have HBW9 : Hid (Below w.heap.size w W9) := Lib.hid hx10.bx.below
      have HZ9 : Hid (w.heap.size ≤ W9.heap.size) := Lib.hid hx10.bx.below.size
      obtain ⟨q, hq⟩ : ∃ q, q = rightT F := ⟨_, rfl⟩
      rw [← hq] at hi1 hr1
      unfold tyV at hi1 hr1
      have HI1 := Lib.hid hi1
      have HR1 := Lib.hid hr1
      clear hi1 hr1 hx9 hx10 hbf hF9 hF10 hb9 hb10 hlb hlf z0 z1 z2 z3 y0 y1 y2 y3 hq
      go_wp2_with fail
      rw [← hW9]
      clear hW9
      go_region_held (fun W' => W'.cell? ⟨w.heap.size, 0, none⟩ = some (.int .i64 T.kind) ∧ W'.cell? ⟨w.heap.size, 1, none⟩ = some (.int .i64 T.num) ∧ W'.cell? ⟨w.heap.size, 2, none⟩ = some (.string T.name) ∧ W'.cell? ⟨w.heap.size, 3, none⟩ = some (.slice A T.args.length c) ∧
          W'.cell? ⟨w9.heap.size, 0, none⟩ = some (.int .i64 F.kind) ∧ W'.cell? ⟨w9.heap.size, 1, none⟩ = some (.int .i64 F.num) ∧ W'.cell? ⟨w9.heap.size, 2, none⟩ = some (.string F.name) ∧ W'.cell? ⟨w9.heap.size, 3, none⟩ = some (.slice A9 F.args.length c9))
        (first | exact HSK.out _ HBD.out | exact HSK.out _ (by assumption)) (first
          | (go_at_call 18; first | (refine (HI1.out w10 HB10).mono ?_; rintro e w11 ⟨rfl, hb11⟩; have HB11 := HB10.trans (hb11.mono HB10.size)) | (refine (HI1.out _ HBD.out).mono ?_; rintro e w10 ⟨rfl, hb10⟩; have HB10 := HBD.out.trans (hb10.mono HBD.out.size)))
          | (go_at_call 24; first | (refine (HR1.out w10 HB10).mono ?_; rintro e w11 ⟨rfl, hb11⟩; have HB11 := HB10.trans (hb11.mono HB10.size)) | (refine (HR1.out _ HBD.out).mono ?_; rintro e w10 ⟨rfl, hb10⟩; have HB10 := HBD.out.trans (hb10.mono HBD.out.size))))
      all_goals
        go_wp2
        go_ret
        exact ⟨rfl, HBW9.out.trans (HB11.mono HZ9.out)⟩
end Go.Proofs.YtbhicpjhijondaaDoor
