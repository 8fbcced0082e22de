/- What the Scheme laws share: the arguments between calls; what is not great. -/
import Derived.Test.YtbhicpjhijondaaDoorX13
namespace Go.Proofs.YtbhicpjhijondaaDoor
open Go.RowKit Go.Lib Go.Vfs Go.Par Go.Typ Go.Shelf
set_option linter.unusedVariables false
set_option linter.unusedSimpArgs false

theorem weight_pos (T : Ty) : ∀ most : Int, 1 ≤ weightT T most := by
  induction T using Ty.ind with
  | h T ih =>
    intro most
    rw [weightT_eq]
    have key : ∀ ts : List Ty, (∀ t ∈ ts, ∀ most : Int, 1 ≤ weightT t most) → ∀ n : Int, n ≤ weightL ts most n := by
      intro ts
      induction ts with
      | nil => intro _ n; simp [weightL]
      | cons t ts ih2 =>
        intro h n
        rw [weightL]
        split
        · have h1 := h t (by simp) (most - n)
          have h2 := ih2 (fun x hx => h x (by simp [hx])) (n + weightT t (most - n))
          omega
        · exact Int.le_refl _
    have := key T.args (fun t ht => by obtain ⟨i, hi, rfl⟩ := List.getElem_of_mem ht; exact ih i hi) (1 + (T.name.size : Int) / 16)
    omega
theorem weighX_len : ∀ (xs : List Ex) (n : Int), 0 ≤ n → n ≤ 5000 → weighX xs n = false → n + xs.length ≤ 5000
  | [], n, h0, h1, _ => by simpa using h1
  | x :: xs, n, h0, h1, h => by
    rw [weighX] at h
    have hw := weight_pos x.ty 1000
    split at h
    · cases h
    · have := weighX_len xs _ (by omega) (by omega) h
      simp only [List.length_cons]
      push_cast
      omega
/-- the law's arguments between calls: exports, and a type in its box. -/
structure PS (w : World) (b : Nat) (T : Ty) (A : Option Addr) (c : Nat) (lv : Value) (xs : List Ex) (W : World) : Prop where
  bx : BX w b T A c W
  row : ExsAt (· < W.heap.size) W lv xs
theorem PS.t {w : World} {b : Nat} {T : Ty} {A : Option Addr} {c : Nat} {lv : Value} {xs : List Ex} {W W' : World} (h : PS w b T A c lv xs W) (hb : Below W.heap.size W W') : PS w b T A c lv xs W' := ⟨h.bx.t hb, h.row.blw hb⟩
/-- what Find answers, where it is known. -/
theorem find_known {xs : List Ex} {nm : ByteArray} {o : Option Ty} (h : findX xs nm = o) {w w' : World} {e : Ending} (hp : FindPost xs nm w e w') :
    ∃ A cc, e = .returned (.tuple #[tyV (o.getD zeroT).kind (o.getD zeroT).num (o.getD zeroT).name A (o.getD zeroT).args.length cc, .bool o.isSome]) ∧ TyAt (· < w'.heap.size) w' (tyV (o.getD zeroT).kind (o.getD zeroT).num (o.getD zeroT).name A (o.getD zeroT).args.length cc) (o.getD zeroT) ∧ Below w.heap.size w w' := by
  obtain ⟨R, A, cc, he, hT, hb, rfl⟩ := hp
  rw [h] at he hT
  exact ⟨A, cc, he, hT.sub fun g hg => hg.2, hb⟩
theorem find_some {xs : List Ex} {nm : ByteArray} {T : Ty} (h : findX xs nm = some T) {w w' : World} {e : Ending} (hp : FindPost xs nm w e w') :
    ∃ A cc, e = .returned (.tuple #[tyV T.kind T.num T.name A T.args.length cc, .bool true]) ∧ TyAt (· < w'.heap.size) w' (tyV T.kind T.num T.name A T.args.length cc) T ∧ Below w.heap.size w w' := find_known h hp
theorem find_none {xs : List Ex} {nm : ByteArray} (h : findX xs nm = none) {w w' : World} {e : Ending} (hp : FindPost xs nm w e w') :
    ∃ A cc, e = .returned (.tuple #[tyV 0 0 ⟨#[]⟩ A 0 cc, .bool false]) ∧ Below w.heap.size w w' := by
  obtain ⟨A, cc, h1, h2, h3⟩ := find_known h hp
  exact ⟨A, cc, h1, h3⟩
theorem find_gen {xs : List Ex} {nm : ByteArray} {w w' : World} {e : Ending} (hp : FindPost xs nm w e w') :
    ∃ R q A cc, e = .returned (.tuple #[tyV R.kind R.num R.name A R.args.length cc, .bool q]) ∧ TyAt (· < w'.heap.size) w' (tyV R.kind R.num R.name A R.args.length cc) R ∧ Below w.heap.size w w' ∧ Hid (R = (findX xs nm).getD zeroT ∧ q = (findX xs nm).isSome) := by
  obtain ⟨R, A, cc, he, hT, hb, hR⟩ := hp
  exact ⟨R, _, A, cc, he, hT.sub fun g hg => hg.2, hb, Lib.hid ⟨hR, rfl⟩⟩
/-- what Put answers, where it is known. -/
theorem put_right {xs : List Ex} {one : Ex} (h : rightX (putX xs one) = true) {w w' : World} {e : Ending} (hp : PutPost xs one w e w') : ∃ v', e = .returned (.tuple #[v', .int .i64 0]) ∧ Below w.heap.size w w' ∧ ExsAt (· < w'.heap.size) w' v' (putX xs one) := by
  obtain ⟨v', he, hb, h1, h2⟩ := hp
  rw [h] at he
  exact ⟨v', he, hb, h1 h⟩
theorem put_wrong {xs : List Ex} {one : Ex} (h : rightX (putX xs one) = false) {w w' : World} {e : Ending} (hp : PutPost xs one w e w') : e = .returned (.tuple #[.slice none 0 0, .int .i64 140]) ∧ Below w.heap.size w w' := by
  obtain ⟨v', he, hb, h1, h2⟩ := hp
  rw [h] at he
  rw [h2 h] at he
  exact ⟨he, hb⟩
end Go.Proofs.YtbhicpjhijondaaDoor
