/- law14.alive. -/
import Derived.Test.YtbhicpjhijondaaDoorX11
namespace Go.Typ
open Go.RowKit Go.Lib Go.Vfs Go.Par
/-- a row of one export, just written. -/
theorem ExsAt.one {W : World} {x : Ex} {A : Option Addr} {c : Nat} (hn : x.name.size ≤ 9223372036854775807) (hT : TyAt (· < W.heap.size) W (tyV x.ty.kind x.ty.num x.ty.name A x.ty.args.length c) x.ty) (t : TypeId) :
    ExsAt (· < (W.alloc (.cells #[.string x.name, .int .i64 x.ty.kind, .int .i64 x.ty.num, .string x.ty.name, .slice A x.ty.args.length c] t)).heap.size) (W.alloc (.cells #[.string x.name, .int .i64 x.ty.kind, .int .i64 x.ty.num, .string x.ty.name, .slice A x.ty.args.length c] t))
      (.slice (some ⟨W.heap.size, 0, none⟩) 1 1) [x] := by
  refine ⟨_, 1, rfl, Nat.le_refl _, by simp [maxLen], fun _ => exV x A c, fun _ => ⟨W.heap.size, 0, rfl, by simp, fun i hi j hj => ?_⟩, fun i hi => ?_⟩
  · have : i = 0 := by simpa using hi
    subst this
    rw [World.cell?_alloc_new]
    have : j = 0 ∨ j = 1 ∨ j = 2 ∨ j = 3 ∨ j = 4 := by omega
    rcases this with rfl | rfl | rfl | rfl | rfl <;> rfl
  · have : i = 0 := by simpa using hi
    subst this
    exact ⟨A, c, rfl, hn, hT.blw ((Below.refl _ _).alloc (Nat.le_refl _) _)⟩
end Go.Typ
namespace Go.Proofs.YtbhicpjhijondaaDoor
open Go.RowKit Go.Lib Go.Vfs Go.Par Go.Typ Go.Shelf
set_option linter.unusedVariables false
set_option linter.unusedSimpArgs false

def txt14 : ByteArray := ⟨#[39, 97, 32, 45, 62, 32, 39, 97]⟩
def ty14 : Ty := .mk 4 0 ⟨#[]⟩ [.mk 1 0 ⟨#[]⟩ [], .mk 1 0 ⟨#[]⟩ []]
theorem read14 : readT txt14 = some ty14 := by kernel_rfl
def ex14 : Ex := ⟨⟨#[105, 100]⟩, ty14⟩
theorem right14 : rightX [ex14] = true := by kernel_rfl
theorem enc14 : encX [ex14] = [0, 1, 2, 105, 100, 4, 2, 1, 0, 0, 0, 0, 1, 0, 0, 0, 0] := by kernel_rfl

set_option maxRecDepth 20000 in
set_option maxHeartbeats 2000000 in
theorem alive14_any (w : World) (htb : Tb w) : Calls Tryd.prog 32 #[] w fun e w' => e = .returned (.bool true) ∧ Below w.heap.size w w' := by
  obtain ⟨X, hX⟩ : ∃ X, X = ty14 := ⟨_, rfl⟩
  have HX : Hid (readT txt14 = some X ∧ rightX [⟨⟨#[105, 100]⟩, X⟩] = true ∧ encX [⟨⟨#[105, 100]⟩, X⟩] = [0, 1, 2, 105, 100, 4, 2, 1, 0, 0, 0, 0, 1, 0, 0, 0, 0]) := Lib.hid (by rw [hX]; exact ⟨read14, right14, enc14⟩)
  have HRD := Lib.hid (read_any txt14 (by decide) w htb)
  unfold txt14 at HRD
  clear hX htb
  go_enter Tryd.func32, Tryd.ntmps32
  go_wp2_with fail
  refine HRD.out.mono ?_
  intro e w1 hp1
  obtain ⟨A1, c1, rfl, hT1, hb1⟩ := read_some HX.out.1 hp1
  obtain ⟨W1, hW1⟩ : ∃ W1, W1 = w1.alloc (.cells #[.int .i64 X.kind, .int .i64 X.num, .string X.name, .slice A1 X.args.length c1] 24) := ⟨_, rfl⟩
  have hx1 : BX w w1.heap.size X A1 c1 W1 := by rw [hW1]; exact BX.new hb1 (hT1.sub fun g hg => hg.2)
  obtain ⟨W2, hW2⟩ : ∃ W2, W2 = W1.alloc (.cells #[.string ⟨#[105, 100]⟩, .int .i64 X.kind, .int .i64 X.num, .string X.name, .slice A1 X.args.length c1] 46) := ⟨_, rfl⟩
  have hb2 : Below W1.heap.size W1 W2 := by rw [hW2]; exact (Below.refl _ _).alloc (Nat.le_refl _) _
  have hex : ExsAt (· < W2.heap.size) W2 (.slice (some ⟨W1.heap.size, 0, none⟩) 1 1) [⟨⟨#[105, 100]⟩, X⟩] := by
    rw [hW2]
    exact ExsAt.one (x := ⟨⟨#[105, 100]⟩, X⟩) (show (⟨#[105, 100]⟩ : ByteArray).size ≤ 9223372036854775807 by decide) hx1.ty _
  have hen := encode_any _ _ W2 hex
  have HZ1 : Hid (W1.heap.size = w1.heap.size + 1) := Lib.hid (by rw [hW1]; simp)
  rw [HZ1.out] at hen
  have HEN := Lib.hid hen
  have HB2 : Hid (Below w.heap.size w W2) := Lib.hid (hx1.t hb2).below
  obtain ⟨y0, y1, y2, y3⟩ := box4 hx1.box
  have hW2' := hW2
  rw [hW1] at y0 y1 y2 y3 hW2'
  clear hp1 hT1 hb1 hx1 hb2 hex hen hW2 hW1
  try unfold tyV
  go_wp2_with fail
  rw [← hW2']
  clear hW2' y0 y1 y2 y3
  refine HEN.out.mono ?_
  rintro e w3 ⟨v3, rfl, hb3, h31, -⟩
  have hown3 := h31 HX.out.2.1
  rw [HX.out.2.2] at hown3
  rw [HX.out.2.1]
  have HB3 : Hid (Below w.heap.size w w3) := Lib.hid (HB2.out.trans (hb3.mono HB2.out.size))
  obtain ⟨W4, hW4⟩ : ∃ W4, W4 = w3.alloc (.cells #[.int .u8 0, .int .u8 1, .int .u8 2, .int .u8 105, .int .u8 100, .int .u8 4, .int .u8 2, .int .u8 1, .int .u8 0, .int .u8 0, .int .u8 0, .int .u8 0, .int .u8 1, .int .u8 0, .int .u8 0, .int .u8 0, .int .u8 0] 5) := ⟨_, rfl⟩
  have hb4 : Below w3.heap.size w3 W4 := by rw [hW4]; exact (Below.refl _ _).alloc (Nat.le_refl _) _
  have hsg : Seg W4 W4.heap.size (.slice (some ⟨w3.heap.size, 0, none⟩) 17 17) (byteCells [0, 1, 2, 105, 100, 4, 2, 1, 0, 0, 0, 0, 1, 0, 0, 0, 0]) := by
    rw [hW4]
    have h := Seg.new w3 5 #[.int .u8 0, .int .u8 1, .int .u8 2, .int .u8 105, .int .u8 100, .int .u8 4, .int .u8 2, .int .u8 1, .int .u8 0, .int .u8 0, .int .u8 0, .int .u8 0, .int .u8 1, .int .u8 0, .int .u8 0, .int .u8 0, .int .u8 0] (byteCells [0, 1, 2, 105, 100, 4, 2, 1, 0, 0, 0, 0, 1, 0, 0, 0, 0]) rfl (by simp [byteCells, maxLen])
    exact h.more (by simp)
  have hsm := sameBytes_any v3 _ _ _ W4.heap.size W4 ((hown3.below hb4).seg) hsg
  have HSM := Lib.hid hsm
  have HB4 : Hid (Below w.heap.size w W4) := Lib.hid (HB3.out.trans (hb4.mono HB3.out.size))
  clear hb3 h31 hown3 hb4 hsg hsm
  go_wp2_with fail
  rw [← hW4]
  clear hW4
  refine HSM.out.mono ?_
  rintro e w5 ⟨rfl, n, rfl⟩
  go_wp2
  go_ret
  exact ⟨rfl, below_drewN HB4.out _⟩
end Go.Proofs.YtbhicpjhijondaaDoor
