/- law12.alive. -/
import Derived.Test.YtbhicpjhijondaaDoorT34
namespace Go.Proofs.YtbhicpjhijondaaDoor
open Go.RowKit Go.Lib Go.Vfs Go.Par Go.Typ Go.Shelf
set_option linter.unusedVariables false
set_option linter.unusedSimpArgs false
def tyA : Ty := .mk 1 0 ⟨#[]⟩ []
def tyInt : Ty := .mk 2 0 ⟨#[105, 110, 116]⟩ []
def ty1 : Ty := .mk 4 0 ⟨#[]⟩ [.mk 3 0 ⟨#[]⟩ [tyA, tyInt], .mk 2 0 ⟨#[108, 105, 115, 116]⟩ [tyA]]
def txt1 : ByteArray := ⟨#[39, 97, 32, 42, 32, 105, 110, 116, 32, 45, 62, 32, 39, 97, 32, 108, 105, 115, 116]⟩
theorem read1 : readT txt1 = some ty1 := by kernel_rfl
def ty2 : Ty := .mk 4 0 ⟨#[]⟩ [.mk 1 27 ⟨#[]⟩ [], .mk 1 27 ⟨#[]⟩ []]
def txt2 : ByteArray := ⟨#[39, 98, 49, 32, 45, 62, 32, 39, 98, 49]⟩
theorem read2 : readT txt2 = some ty2 := by kernel_rfl
def txt3 : ByteArray := ⟨#[105, 110, 116, 32, 45, 62, 32, 105, 110, 116]⟩
def ty3 : Ty := .mk 4 0 ⟨#[]⟩ [tyInt, tyInt]
theorem read3 : readT txt3 = some ty3 := by kernel_rfl
theorem right1 : rightT ty1 = true := by kernel_rfl
theorem right2 : rightT ty2 = true := by kernel_rfl
theorem right3 : rightT ty3 = true := by kernel_rfl
theorem say1 : sayT ty1 = [39, 97, 32, 42, 32, 105, 110, 116, 32, 45, 62, 32, 39, 97, 32, 108, 105, 115, 116] := by kernel_rfl
theorem inst23 : instT ty2 ty3 = true := by
  unfold instT
  rw [right2, right3, standsT_eq]
  simp only [ty2, ty3, Ty.kind, Ty.name, Ty.args, List.length_cons, List.length_nil]
  rw [if_neg (by decide), if_pos (by decide)]
  rw [standsL, standsT_eq]
  simp [Ty.kind, Ty.num, standsL, standsT_eq, same_refl]
theorem inst32 : instT ty3 ty2 = false := by
  unfold instT
  rw [right2, right3, standsT_eq]
  simp only [ty2, ty3, Ty.kind, Ty.name, Ty.args, List.length_cons, List.length_nil]
  rw [if_neg (by decide), if_pos (by decide)]
  rw [standsL, standsT_eq]
  simp [Ty.kind, Ty.num, standsL, standsT_eq, same_refl, tyInt]
/-- a type of a text that is one. -/
theorem read_some {s : ByteArray} {X : Ty} (h : readT s = some X) {w w' : World} {e : Ending} (hp : ReadPost s w e w') :
    ∃ (A : Option Addr) (cc : Nat), e = .returned (.tuple #[tyV X.kind X.num X.name A X.args.length cc, .int .i64 0]) ∧ TyAt (fun g => w.heap.size ≤ g ∧ g < w'.heap.size) w' (tyV X.kind X.num X.name A X.args.length cc) X ∧ Below w.heap.size w w' := by
  obtain ⟨T, A, cc, he, hT, hb, rfl⟩ := hp
  rw [h] at he hT
  exact ⟨A, cc, he, hT, hb⟩
end Go.Proofs.YtbhicpjhijondaaDoor
