/- law12.alive: the walk. -/
import Derived.Test.YtbhicpjhijondaaDoorT35
namespace Go.Proofs.YtbhicpjhijondaaDoor
open Go.RowKit Go.Lib Go.Vfs Go.Par Go.Typ Go.Shelf
set_option linter.unusedVariables false
set_option linter.unusedSimpArgs false

theorem inst_leaf (G T : Ty) (v u : Value) (w : World) (hG : TyAt (· < w.heap.size) w v G) (hT : TyAt (· < w.heap.size) w u T) (hQ : meetsT (fun _ U => U.args = []) G T) :
    Calls Tryd.prog 18 #[v, u] w fun e w' => e = .returned (.bool (instT G T)) ∧ Below w.heap.size w w' :=
  instance_any (· < w.heap.size) (fun _ U => U.args = []) G T v u w (fun g hg => hg) (fun n U U' v v' W hb hz q q' hU hU' => same_leaf w.heap.size U U' q (· < w.heap.size) (fun g hg => hg) v v' W hU hU' hz) hG hT fun _ _ => hQ
theorem meet23 : meetsT (fun _ U => U.args = []) ty2 ty3 := by
  rw [meetsT_eq]
  simp [ty2, ty3, Ty.kind, Ty.args, Ty.num, meetsL, meetsT_eq, tyInt]
theorem meet32 : meetsT (fun _ U => U.args = []) ty3 ty2 := by
  rw [meetsT_eq]
  simp [ty2, ty3, Ty.kind, Ty.args, Ty.num, meetsL, meetsT_eq, tyInt]
/-- a type in a box, between calls. -/
structure BX (w : World) (b : Nat) (T : Ty) (A : Option Addr) (cc : Nat) (W : World) : Prop where
  box : W.heap[b]? = some (.cells #[.int .i64 T.kind, .int .i64 T.num, .string T.name, .slice A T.args.length cc] 24 (0, 0))
  ty : TyAt (· < W.heap.size) W (tyV T.kind T.num T.name A T.args.length cc) T
  below : Below w.heap.size w W
theorem BX.t {w : World} {b : Nat} {T : Ty} {A : Option Addr} {cc : Nat} {W W' : World} (h : BX w b T A cc W) (hb : Below W.heap.size W W') : BX w b T A cc W' :=
  ⟨(hb.block _ (lt_blk h.box)).trans h.box, h.ty.blw hb, h.below.trans (hb.mono h.below.size)⟩
theorem BX.new {w W : World} {T : Ty} {A : Option Addr} {cc : Nat} (hb : Below w.heap.size w W) (hT : TyAt (· < W.heap.size) W (tyV T.kind T.num T.name A T.args.length cc) T) :
    BX w W.heap.size T A cc (W.alloc (.cells #[.int .i64 T.kind, .int .i64 T.num, .string T.name, .slice A T.args.length cc] 24)) :=
  ⟨heap_alloc_new _ _, hT.blw ((Below.refl _ _).alloc (Nat.le_refl _) _), hb.trans (((Below.refl _ _).alloc (Nat.le_refl _) _).mono hb.size)⟩

set_option maxRecDepth 20000 in
set_option maxHeartbeats 2000000 in
theorem alive12_any (w : World) (htb : Tb w) : Calls Tryd.prog 15 #[] w fun e w' => e = .returned (.bool true) ∧ Below w.heap.size w w' := by
  obtain ⟨X1, hX1⟩ : ∃ X, X = ty1 := ⟨_, rfl⟩
  obtain ⟨X2, hX2⟩ : ∃ X, X = ty2 := ⟨_, rfl⟩
  obtain ⟨X3, hX3⟩ : ∃ X, X = ty3 := ⟨_, rfl⟩
  have HX1 : Hid (readT txt1 = some X1 ∧ showT X1 = ([39, 97, 32, 42, 32, 105, 110, 116, 32, 45, 62, 32, 39, 97, 32, 108, 105, 115, 116], 0) ∧ (sayT X1).length ≤ 100) := Lib.hid ⟨by rw [hX1]; exact read1, by rw [hX1]; unfold showT; rw [right1, if_pos rfl, say1], by rw [hX1, say1]; decide⟩
  have HX2 : Hid (readT txt2 = some X2) := Lib.hid (by rw [hX2]; exact read2)
  have HX3 : Hid (readT txt3 = some X3) := Lib.hid (by rw [hX3]; exact read3)
  have HI : Hid (instT X2 X3 = true ∧ instT X3 X2 = false ∧ meetsT (fun _ U => U.args = []) X2 X3 ∧ meetsT (fun _ U => U.args = []) X3 X2) := Lib.hid (by rw [hX2, hX3]; exact ⟨inst23, inst32, meet23, meet32⟩)
  have HTB := Lib.hid htb
  have HRD := Lib.hid (read_any txt1 (by decide) w htb)
  unfold txt1 at HRD
  clear hX1 hX2 hX3 htb
  go_enter Tryd.func15, Tryd.ntmps15
  go_wp2_with fail
  refine HRD.out.mono ?_
  intro e w1 hp1
  obtain ⟨A1, c1, rfl, hT1, hb1⟩ := read_some HX1.out.1 hp1
  obtain ⟨W1, hW1⟩ : ∃ W1, W1 = w1.alloc (.cells #[.int .i64 X1.kind, .int .i64 X1.num, .string X1.name, .slice A1 X1.args.length c1] 24) := ⟨_, rfl⟩
  have hx1 : BX w w1.heap.size X1 A1 c1 W1 := by rw [hW1]; exact BX.new hb1 (hT1.sub fun g hg => hg.2)
  have HBX1 := Lib.hid hx1
  have hsh := show_any X1 _ W1 hx1.ty (HTB.out.below hx1.below) fun _ => by have := HX1.out.2.2; omega
  rw [HX1.out.2.1] at hsh
  have hsh' : Calls Tryd.prog 22 _ W1 fun e w' => e = .returned (.tuple #[.string ⟨#[39, 97, 32, 42, 32, 105, 110, 116, 32, 45, 62, 32, 39, 97, 32, 108, 105, 115, 116]⟩, .int .i64 0]) ∧ Below W1.heap.size W1 w' := hsh
  have HSH := Lib.hid hsh'
  clear hsh hsh'
  obtain ⟨y0, y1, y2, y3⟩ := box4 hx1.box
  rw [hW1] at y0 y1 y2 y3
  clear hp1 hT1 hb1 hx1
  unfold tyV at HSH ⊢
  go_wp2_with fail
  rw [← hW1]
  clear hW1 y0 y1 y2 y3
  refine HSH.out.mono ?_
  rintro e w2 ⟨rfl, hb2⟩
  have HBX2 := Lib.hid (HBX1.out.t hb2)
  have HRD2 := Lib.hid (read_any txt2 (by decide) w2 (HTB.out.below HBX2.out.below))
  unfold txt2 at HRD2
  clear hb2
  go_wp2_with fail
  refine HRD2.out.mono ?_
  intro e w3 hp3
  obtain ⟨A2, c2, rfl, hT3, hb3⟩ := read_some HX2.out hp3
  have hbb : Below w.heap.size w w3 := HBX2.out.below.trans (hb3.mono HBX2.out.below.size)
  obtain ⟨W3, hW3⟩ : ∃ W3, W3 = w3.alloc (.cells #[.int .i64 X2.kind, .int .i64 X2.num, .string X2.name, .slice A2 X2.args.length c2] 24) := ⟨_, rfl⟩
  have hx3 : BX w w3.heap.size X2 A2 c2 W3 := by rw [hW3]; exact BX.new hbb (hT3.sub fun g hg => hg.2)
  have HBX3 := Lib.hid hx3
  have HRD3 := Lib.hid (read_any txt3 (by decide) W3 (HTB.out.below hx3.below))
  unfold txt3 at HRD3
  clear hp3 hT3 hb3 hbb hx3
  unfold tyV
  go_wp2_with fail
  rw [← hW3]
  clear hW3
  refine HRD3.out.mono ?_
  intro e w4 hp4
  obtain ⟨A3, c3, rfl, hT4, hb4⟩ := read_some HX3.out hp4
  obtain ⟨W4, hW4⟩ : ∃ W4, W4 = w4.alloc (.cells #[.int .i64 X3.kind, .int .i64 X3.num, .string X3.name, .slice A3 X3.args.length c3] 24) := ⟨_, rfl⟩
  have hba : Below w4.heap.size w4 W4 := by rw [hW4]; exact (Below.refl _ _).alloc (Nat.le_refl _) _
  have hy4 : BX w w3.heap.size X2 A2 c2 W4 := (HBX3.out.t hb4).t hba
  have hx4 : BX w w4.heap.size X3 A3 c3 W4 := by rw [hW4]; exact BX.new (HBX3.out.t hb4).below (hT4.sub fun g hg => hg.2)
  have HY4 := Lib.hid hy4; have HX4 := Lib.hid hx4
  obtain ⟨y0, y1, y2, y3⟩ := box4 hy4.box
  obtain ⟨z0, z1, z2, z3⟩ := box4 hx4.box
  have hi := inst_leaf X2 X3 _ _ W4 hy4.ty hx4.ty HI.out.2.2.1
  rw [HI.out.1] at hi
  have HIA := Lib.hid hi
  rw [hW4] at y0 y1 y2 y3 z0 z1 z2 z3
  clear hp4 hT4 hb4 hba hy4 hx4 hi
  unfold tyV at HIA ⊢
  go_wp2_with fail
  rw [← hW4]
  clear hW4 y0 y1 y2 y3 z0 z1 z2 z3
  refine HIA.out.mono ?_
  rintro e w5 ⟨rfl, hb5⟩
  have hy5 := HY4.out.t hb5
  have hx5 := HX4.out.t hb5
  obtain ⟨y0, y1, y2, y3⟩ := box4 hy5.box
  obtain ⟨z0, z1, z2, z3⟩ := box4 hx5.box
  have hi := inst_leaf X3 X2 _ _ w5 hx5.ty hy5.ty HI.out.2.2.2
  rw [HI.out.2.1] at hi
  have HIB := Lib.hid hi
  have HB5 := Lib.hid hx5.below
  clear hi hy5 hx5 hb5
  unfold tyV at HIB
  go_wp2_with fail
  refine HIB.out.mono ?_
  rintro e w6 ⟨rfl, hb6⟩
  have HB6 := Lib.hid (HB5.out.trans (hb6.mono HB5.out.size))
  clear hb6
  go_wp2
  go_ret
  exact ⟨rfl, HB6.out⟩
end Go.Proofs.YtbhicpjhijondaaDoor
