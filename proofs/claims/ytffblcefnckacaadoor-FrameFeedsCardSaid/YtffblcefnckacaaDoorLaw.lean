/- What the laws use in common. -/
import Derived.Test.YtffblcefnckacaaDoorFZ
namespace Go.Proofs.YtffblcefnckacaaDoor
open Go.RowKit Go.Lib Go.Vfs Go.Par Go.Frm Go.Shelf
set_option linter.unusedVariables false
set_option linter.unusedSimpArgs false

theorem alive_s (w : World) (m : Int) (hG : Gl w m) : Calls Tryd.prog 10 #[] w fun e w' => e = .returned (.bool true) ∧ Hid (Below w.heap.size w w') :=
  (alive_any w m hG).mono fun e w' ⟨h1, h2⟩ => ⟨h1, Lib.hid h2⟩
theorem new_s (w : World) (h7 : 7 ≤ w.heap.size) : Calls Tryd.prog 16 #[] w fun e w' => e = .returned (.pointer (some ⟨w.heap.size, 0, none⟩)) ∧ Hid (DV w' w.heap.size ⟨[], 0⟩ (.slice none 0 0) 0 0 ∧ Below w.heap.size w w') :=
  (new_any w h7).mono fun e w' ⟨h1, h2, h3⟩ => ⟨h1, Lib.hid ⟨h2, h3⟩⟩
theorem copy_s (v : Value) (l : List UInt8) (w : World) (hs : Seg w w.heap.size v (byteCells l)) (hl : l.length ≤ 1000000) : Calls Tryd.prog 15 #[v] w fun e w' => ∃ A c, e = .returned (.slice A l.length c) ∧ Hid (Par.Own w' w.heap.size 5 (.slice A l.length c) (byteCells l) ∧ Below w.heap.size w w') := by
  refine (copyBytes_any v l w.heap.size w hs (Nat.le_refl _) hl).mono ?_
  rintro e w' ⟨u, rfl, h1, h2⟩
  obtain ⟨A, c, rfl⟩ := h1.form
  rw [byteCells_length] at h1 ⊢
  exact ⟨A, c, rfl, Lib.hid ⟨h1, h2⟩⟩
theorem dead_s (w : World) (p : Nat) (d : Dc) (hv : Value) (hh bb : Nat) (h : DV w p d hv hh bb) : Calls Tryd.prog 23 #[.pointer (some ⟨p, 0, none⟩)] w fun e w' => e = .returned (.bool (d.e != 0)) ∧ w' = w := dead_any w p d hv hh bb h
/-- the errors. -/
theorem run_err : ∀ (m : Nat) (b : List UInt8), b.length ≤ m → (run b).2.2 = 0 ∨ (run b).2.2 = 30 ∨ (run b).2.2 = 31
  | 0, b, h => by
    have : b = [] := List.eq_nil_of_length_eq_zero (by omega)
    subst this
    exact .inl rfl
  | m + 1, b, h => by
    cases hm : msg b with
    | more => rw [run_more hm]; exact .inl rfl
    | bad e => rw [run_bad hm]; have := msg_bad hm; exact .inr this
    | body n l =>
      obtain ⟨-, h3, -, h4, -⟩ := msg_body hm
      rw [run_body hm]
      exact run_err m _ (by rw [List.length_drop]; omega)
theorem feed_err {d : Dc} (h : d.e = 0) (b : List UInt8) : (feed d b).2.e = 0 ∨ (feed d b).2.e = 30 ∨ (feed d b).2.e = 31 := by
  unfold feed; rw [if_pos h]; exact run_err _ _ (Nat.le_refl _)
end Go.Proofs.YtffblcefnckacaaDoor
