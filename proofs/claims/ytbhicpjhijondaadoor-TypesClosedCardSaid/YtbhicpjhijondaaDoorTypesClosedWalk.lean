/- law12.TypesClosed: the walk. -/
import Derived.Test.YtbhicpjhijondaaDoorTE
import Derived.Test.YtbhicpjhijondaaDoorT50
namespace Go.Proofs.YtbhicpjhijondaaDoor
open Go.RowKit Go.Lib Go.Vfs Go.Par Go.Typ Go.Shelf
set_option linter.unusedVariables false
set_option linter.unusedSimpArgs false

theorem close_right {T : Ty} (h : rightT T = true) {w w' : World} {e : Ending} (hp : ClosePost T w e w') :
    ∃ A cc, e = .returned (.tuple #[tyV (closeR T).kind (closeR T).num (closeR T).name A (closeR T).args.length cc, .int .i64 0]) ∧ TyC (fun g => w.heap.size ≤ g ∧ g < w'.heap.size) w' (tyV (closeR T).kind (closeR T).num (closeR T).name A (closeR T).args.length cc) (closeR T) ∧ Below w.heap.size w w' := by
  obtain ⟨R, A, cc, he, hT, hb, rfl⟩ := hp
  rw [if_pos h] at he
  exact ⟨A, cc, he, hT, hb⟩
theorem close_wrong {T : Ty} (h : rightT T = false) {w w' : World} {e : Ending} (hp : ClosePost T w e w') :
    ∃ A cc, e = .returned (.tuple #[tyV 0 0 ⟨#[]⟩ A 0 cc, .int .i64 120]) ∧ Below w.heap.size w w' := by
  obtain ⟨R, A, cc, he, hT, hb, rfl⟩ := hp
  unfold closeR at he
  rw [h] at he
  exact ⟨A, cc, he, hb⟩

set_option maxRecDepth 20000 in
set_option maxHeartbeats 4000000 in
theorem typesClosed_walk (v : Value) (T : Ty) (w : World) (hT : TyAt (· < w.heap.size) w v T) (htb : Tb w) :
    Calls Tryd.prog 8 #[v] w fun e w' => e = .returned (.bool true) ∧ Below w.heap.size w w' := by
  obtain ⟨A, c, rfl, hc, hm, hn⟩ := hT.form
  obtain ⟨W1, hW1⟩ : ∃ W1, W1 = w.alloc (.cells #[.int .i64 T.kind, .int .i64 T.num, .string T.name, .slice A T.args.length c] 24) := ⟨_, rfl⟩
  have hx1 : BX w w.heap.size T A c W1 := by rw [hW1]; exact BX.new (Below.refl _ _) hT
  have HX1 := Lib.hid hx1
  have HAL := Lib.hid (alive12_any W1 (htb.below hx1.below))
  clear hT hc hm hn htb hx1
  unfold tyV
  go_enter Tryd.func8, Tryd.ntmps8
  go_wp2_with fail
  rw [← hW1]
  clear hW1
  refine HAL.out.mono ?_
  rintro e w2 ⟨rfl, hb2⟩
  have hx2 := HX1.out.t hb2
  have HX2 := Lib.hid hx2
  have HGR := Lib.hid (great12_any T _ w2 hx2.ty)
  obtain ⟨y0, y1, y2, y3⟩ := box4 hx2.box
  clear hx2 hb2
  unfold tyV at HGR
  go_wp2_with fail
  refine HGR.out.mono ?_
  rintro e w3 ⟨rfl, hb3⟩
  have hx3 := HX2.out.t hb3
  have HX3 := Lib.hid hx3
  have HB3 := Lib.hid hx3.below
  clear y0 y1 y2 y3 hb3
  obtain ⟨y0, y1, y2, y3⟩ := box4 hx3.box
  by_cases hL : lightT T = true
  rotate_left
  · have hL' : lightT T = false := by simpa using hL
    rw [hL']
    go_wp2
    go_ret
    exact ⟨rfl, HB3.out⟩
  rw [hL]
  have hpp := (light_parts hL).1
  have HCP := Lib.hid (copy_c hx3.ty hpp)
  clear hx3 hL hpp
  unfold tyV at HCP
  go_wp2_with fail
  refine HCP.out.mono ?_
  rintro e w4 ⟨A4, c4, rfl, hT4, hb4⟩
  have hx4 := HX3.out.t hb4
  have HX4 := Lib.hid hx4
  have hcl := close_any T _ w4 (TyC.at_ hT4)
  have HCL := Lib.hid hcl
  clear hb4 hx4 y0 y1 y2 y3 hT4 hcl
  unfold tyV at HCL
  try unfold tyV
  go_wp2_with fail
  refine HCL.out.mono ?_
  intro e w5 hp5
  by_cases hr : rightT T = true
  rotate_left
  · have hr' : rightT T = false := by simpa using hr
    obtain ⟨A5, c5, rfl, hb5⟩ := close_wrong hr' hp5
    have hx5 := HX4.out.t hb5
    obtain ⟨W5, hW5⟩ : ∃ W5, W5 = w5.alloc (.cells #[.int .i64 0, .int .i64 0, .string ⟨#[]⟩, .slice A5 0 c5] 24) := ⟨_, rfl⟩
    have hb6 : Below w5.heap.size w5 W5 := by rw [hW5]; exact (Below.refl _ _).alloc (Nat.le_refl _) _
    have hx6 := hx5.t hb6
    have HX6 := Lib.hid hx6
    have hri := right_any T _ W5 hx6.ty
    rw [hr'] at hri
    have HRI := Lib.hid hri
    obtain ⟨y0, y1, y2, y3⟩ := box4 hx6.box
    obtain ⟨z0, z1, z2, z3⟩ := box4 (show W5.heap[w5.heap.size]? = some (.cells #[.int .i64 0, .int .i64 0, .string ⟨#[]⟩, .slice A5 0 c5] 24 (0, 0)) by rw [hW5]; exact heap_alloc_new _ _)
    rw [hW5] at y0 y1 y2 y3 z0 z1 z2 z3
    clear hp5 hr hr' hb5 hx5 hb6 hx6 hri
    unfold tyV at HRI
    try unfold tyV
    go_wp2_with fail
    rw [← hW5]
    clear hW5 y0 y1 y2 y3 z0 z1 z2 z3
    refine HRI.out.mono ?_
    rintro e w6 ⟨rfl, hb6⟩
    have HB6 := Lib.hid (HX6.out.t hb6).below
    clear hb6
    go_wp2
    go_ret
    exact ⟨rfl, HB6.out⟩
  obtain ⟨A5, c5, rfl, hT5, hb5⟩ := close_right hr hp5
  have hcd := closed_of hr
  generalize (closeT T []).2 = L at hcd
  generalize closeR T = R at *
  have HCD := Lib.hid hcd
  have hx5 := HX4.out.t hb5
  obtain ⟨W5, hW5⟩ : ∃ W5, W5 = w5.alloc (.cells #[.int .i64 R.kind, .int .i64 R.num, .string R.name, .slice A5 R.args.length c5] 24) := ⟨_, rfl⟩
  have hb6 : Below w5.heap.size w5 W5 := by rw [hW5]; exact (Below.refl _ _).alloc (Nat.le_refl _) _
  have hx6 := hx5.t hb6
  have hr6 : BX w w5.heap.size R A5 c5 W5 := by rw [hW5]; exact BX.new hx5.below (TyAt.sub (TyC.at_ hT5) fun g hg => hg.2)
  have HX6 := Lib.hid hx6; have HR6 := Lib.hid hr6
  have hcl := close_any R _ W5 hr6.ty
  have HCL2 := Lib.hid hcl
  obtain ⟨z0, z1, z2, z3⟩ := box4 hr6.box
  rw [hW5] at z0 z1 z2 z3
  clear hp5 hr hb5 hT5 hx5 hb6 hx6 hr6 hcl hcd
  unfold tyV at HCL2
  try unfold tyV
  go_wp2_with fail
  rw [← hW5]
  clear hW5 z0 z1 z2 z3
  refine HCL2.out.mono ?_
  intro e w7 hp7
  obtain ⟨A7, c7, rfl, hT7, hb7⟩ := close_right HCD.out.right hp7
  rw [HCD.out.again] at hT7 ⊢
  have hx7 := HX6.out.t hb7
  have hr7 := HR6.out.t hb7
  obtain ⟨W7, hW7⟩ : ∃ W7, W7 = w7.alloc (.cells #[.int .i64 R.kind, .int .i64 R.num, .string R.name, .slice A7 R.args.length c7] 24) := ⟨_, rfl⟩
  have hb8 : Below w7.heap.size w7 W7 := by rw [hW7]; exact (Below.refl _ _).alloc (Nat.le_refl _) _
  have hx8 := hx7.t hb8
  have hr8 := hr7.t hb8
  have hy8 : BX w w7.heap.size R A7 c7 W7 := by rw [hW7]; exact BX.new hx7.below (TyAt.sub (TyC.at_ hT7) fun g hg => hg.2)
  obtain ⟨W8, hW8⟩ : ∃ W8, W8 = W7.alloc (.cells #[] 3) := ⟨_, rfl⟩
  have hb9 : Below W7.heap.size W7 W8 := by rw [hW8]; exact (Below.refl _ _).alloc (Nat.le_refl _) _
  have hown : Par.Own W8 W7.heap.size 3 (.slice (some ⟨W7.heap.size, 0, none⟩) 0 0) (ints []) := by
    rw [hW8]; exact Own.new W7 W7.heap.size 3 #[] (ints []) rfl (Nat.le_refl _) (by simp [ints])
  have hva := vars_any W7.heap.size R [] _ _ W8 hb9.size (hr8.ty.keep fun g hg => ⟨hg, hb9.block g hg⟩) hown (by have := (rightT_iff.1 HCD.out.right).1; simp; omega)
  rw [HCD.out.vars] at hva
  have HX8 := Lib.hid hx8; have HR8 := Lib.hid hr8; have HY8 := Lib.hid hy8; have HB89 := Lib.hid hb9
  have HZ8 : Hid (W8.heap.size = W7.heap.size + 1) := Lib.hid (by rw [hW8]; simp)
  have HZ7 : Hid (W7.heap.size = w7.heap.size + 1) := Lib.hid (by rw [hW7]; simp)
  obtain ⟨z0, z1, z2, z3⟩ := box4 (hr8.t hb9).box
  rw [show W7.heap.size = w7.heap.size + 1 by rw [hW7]; simp] at hva
  have hW8' := hW8
  rw [hW7] at hW8'
  rw [hW8'] at z0 z1 z2 z3
  unfold tyV at hva
  have HVA := Lib.hid hva
  clear hp7 hb7 hT7 hx7 hr7 hb8 hx8 hr8 hy8 hb9 hown hva hW8 hW7
  try unfold tyV
  go_wp2_with fail
  rw [← hW8']
  clear hW8' z0 z1 z2 z3
  refine HVA.out.mono ?_
  rintro e w9 ⟨v9, rfl, hO9, hg9⟩
  have hb9 : Below W7.heap.size W7 w9 := HB89.out.trans (hg9.below (by have := HZ8.out; omega) (fun g e => by
    have e : w7.heap.size + 1 = g := by simpa [Value.ownBlock] using e
    have := HZ7.out; omega))
  have hx9 := HX8.out.t hb9
  have hr9 := HR8.out.t hb9
  have hy9 := HY8.out.t hb9
  have HX9 := Lib.hid hx9; have HR9 := Lib.hid hr9; have HY9 := Lib.hid hy9
  obtain ⟨A9, c9, hv9, -, -, hat⟩ := hO9.seg.open_ints
  have hll : ((List.range L.length).map (fun i : Nat => (i : Int))).length = L.length := by simp
  rw [hll] at hv9 hat
  have HAT : Hid (At w9 w9.heap.size A9 L.length (fun i => .int .i64 (i : Nat))) := Lib.hid fun i hi => by
    obtain ⟨b, off, e, hb, hc⟩ := hat i hi
    refine ⟨b, off, e, hb, hc.trans ?_⟩
    have hg : ((List.range L.length).map (fun i : Nat => (i : Int))).getD i 0 = (i : Int) := by
      rw [List.getD_eq_getElem?_getD, List.getElem?_map, List.getElem?_range hi]
      rfl
    show some (Value.int .i64 _) = some (Value.int .i64 _)
    rw [hg]
  have hlen : L.length ≤ 300 := HCD.out.len
  clear hO9 hg9 hb9 hx9 hr9 hy9 hat hll
  subst hv9
  go_wp2
  go_loopw [7] (fun iv W => ∃ (k : Nat), k ≤ L.length ∧ iv = .int .i64 k ∧ Hid (Below w9.heap.size w9 W)) (fun iv _ => L.length - (RowKit.intOf iv).toNat)
  case atStart => exact ⟨0, by omega, rfl, Lib.hid (Below.refl _ _)⟩
  case round =>
    obtain ⟨k, hk, rfl, HBW⟩ := hrel
    by_cases hlt : k < L.length
    · obtain ⟨b, off, rfl, hb, hx⟩ := HAT.out k hlt
      have hx' := (HBW.out.cell (p := ⟨b, off + k, none⟩) hb).trans hx
      clear hx
      go_wp2
      go_roundw
      case rel => exact ⟨k + 1, by omega, by go_num, HBW⟩
      case measure => simp [RowKit.intOf]; omega
    · have hxw := HX9.out.t HBW.out
      have hrw := HR9.out.t HBW.out
      have hyw := HY9.out.t HBW.out
      have HXW := Lib.hid hxw; have HRW := Lib.hid hrw; have HYW := Lib.hid hyw
      have hsm := sameType_any R R _ _ wr hrw.ty hyw.ty
      rw [same_refl] at hsm
      have HSM := Lib.hid hsm
      obtain ⟨x0, x1, x2, x3⟩ := box4 hrw.box
      obtain ⟨y0, y1, y2, y3⟩ := box4 hyw.box
      unfold tyV at HSM
      clear hxw hrw hyw hsm
      go_wp2_with fail
      refine HSM.out.mono ?_
      rintro e w10 ⟨rfl, hb10⟩
      have hx10 := HXW.out.t hb10
      have hr10 := HRW.out.t hb10
      have HX10 := Lib.hid hx10; have HR10 := Lib.hid hr10
      have hi1 := inst_leaf R T _ _ w10 hr10.ty hx10.ty HCD.out.leafFrom
      rw [HCD.out.inFrom] at hi1
      have HI1 := Lib.hid hi1
      clear x0 x1 x2 x3 y0 y1 y2 y3
      obtain ⟨x0, x1, x2, x3⟩ := box4 hr10.box
      obtain ⟨y0, y1, y2, y3⟩ := box4 hx10.box
      unfold tyV at HI1
      clear hx10 hr10 hi1 hb10
      go_wp2_with fail
      refine HI1.out.mono ?_
      rintro e w11 ⟨rfl, hb11⟩
      have hx11 := HX10.out.t hb11
      have hr11 := HR10.out.t hb11
      have HX11 := Lib.hid hx11
      have hi1 := inst_leaf T R _ _ w11 hx11.ty hr11.ty HCD.out.leafTo
      rw [HCD.out.inTo] at hi1
      have HI2 := Lib.hid hi1
      clear x0 x1 x2 x3 y0 y1 y2 y3
      obtain ⟨x0, x1, x2, x3⟩ := box4 hr11.box
      obtain ⟨y0, y1, y2, y3⟩ := box4 hx11.box
      unfold tyV at HI2
      clear hx11 hr11 hi1 hb11
      go_wp2_with fail
      refine HI2.out.mono ?_
      rintro e w12 ⟨rfl, hb12⟩
      have HB12 := Lib.hid (HX11.out.t hb12).below
      clear hb12 x0 x1 x2 x3 y0 y1 y2 y3
      go_wp2
      go_ret
      exact ⟨rfl, HB12.out⟩
end Go.Proofs.YtbhicpjhijondaaDoor
