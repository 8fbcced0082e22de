/- New, Dead, Held, Encode. -/
import Derived.Test.YtffblcefnckacaaDoorFW
import Derived.Test.YtffblcefnckacaaDoorFG
namespace Go.Proofs.YtffblcefnckacaaDoor
open Go.RowKit Go.Lib Go.Vfs Go.Par Go.Frm Go.Shelf
set_option linter.unusedVariables false
set_option linter.unusedSimpArgs false

/-- what lies of the library: the tables, MaxLen. -/
structure Gl (w : World) (m : Int) : Prop where
  tabs : Tabs w
  pow : Lib.TabIs Tryd.prog w "internal/strconv.uint64pow10" .u64 Lib.pow10Tab
  max : w.cell? ⟨0, 0, none⟩ = some (.int .i64 m)
theorem Gl.keep {w w' : World} {m : Int} (h : Gl w m) (hk : ∀ k, k < 7 → w'.heap[k]? = w.heap[k]?) : Gl w' m := by
  refine ⟨⟨fun c hc => ?_, fun i hi => ?_⟩, ?_, ?_⟩
  · exact (World.cell?_of_block (a := ⟨5, c, none⟩) (hk 5 (by omega))).trans (h.tabs.1 c hc)
  · exact ⟨(World.cell?_of_block (a := ⟨6, 2 * i, none⟩) (hk 6 (by omega))).trans (h.tabs.2 i hi).1, (World.cell?_of_block (a := ⟨6, 2 * i + 1, none⟩) (hk 6 (by omega))).trans (h.tabs.2 i hi).2⟩
  · have := h.pow
    unfold Lib.TabIs at this ⊢
    rw [← this]
    have hg : Tryd.prog.globalNamed "internal/strconv.uint64pow10" = some 1 := by kernel_rfl
    unfold World.var?
    rw [hg, Option.bind_some, Option.bind_some, hk 1 (by omega)]
  · exact (World.cell?_of_block (a := ⟨0, 0, none⟩) (hk 0 (by omega))).trans h.max
theorem Gl.size {w : World} {m : Int} (h : Gl w m) : 7 ≤ w.heap.size := h.tabs.size
theorem Gl.below {w w' : World} {m : Int} (h : Gl w m) (hb : Below w.heap.size w w') : Gl w' m := h.keep fun k hk => hb.block k (by have := h.size; omega)
theorem Gl.kept {w w' : World} {m : Int} {F : Nat → Prop} (h : Gl w m) (hk : Kept F w w') (hF : ∀ x, F x → 7 ≤ x) : Gl w' m := h.keep fun k hk7 => hk.block k (by have := h.size; omega) (fun hf => by have := hF k hf; omega)

set_option maxRecDepth 20000 in
theorem new_any (w : World) (h7 : 7 ≤ w.heap.size) : Calls Tryd.prog 16 #[] w fun e w' => e = .returned (.pointer (some ⟨w.heap.size, 0, none⟩)) ∧ DV w' w.heap.size ⟨[], 0⟩ (.slice none 0 0) 0 0 ∧ Below w.heap.size w w' := by
  go_enter Tryd.func16, Tryd.ntmps16
  go_wp2
  go_ret
  refine ⟨rfl, ⟨heap_alloc_new w _, Par.Own.nil _ _ _, h7, (fun e => by cases e), fun _ => known_zero _ _, (fun _ => rfl), fun h => absurd rfl h⟩, (Below.refl _ _).alloc (Nat.le_refl _) _⟩
set_option maxRecDepth 20000 in
theorem dead_any (w : World) (p : Nat) (d : Dc) (hv : Value) (hh bb : Nat) (h : DV w p d hv hh bb) : Calls Tryd.prog 23 #[.pointer (some ⟨p, 0, none⟩)] w fun e w' => e = .returned (.bool (d.e != 0)) ∧ w' = w := by
  obtain ⟨⟨c0, c1, c2, c3⟩, -⟩ := h.dec.cells
  go_enter Tryd.func23, Tryd.ntmps23
  go_wp2
  go_ret
  exact ⟨rfl, rfl⟩
set_option maxRecDepth 20000 in
theorem held_any (w : World) (p : Nat) (d : Dc) (hv : Value) (hh bb : Nat) (h : DV w p d hv hh bb) : Calls Tryd.prog 24 #[.pointer (some ⟨p, 0, none⟩)] w fun e w' => e = .returned (.int .i64 d.rest.length) ∧ w' = w := by
  obtain ⟨⟨c0, c1, c2, c3⟩, -⟩ := h.dec.cells
  obtain ⟨A, c, rfl⟩ := h.own.form
  rw [byteCells_length] at c0
  go_enter Tryd.func24, Tryd.ntmps24
  go_wp2
  go_ret
  exact ⟨rfl, rfl⟩
end Go.Proofs.YtffblcefnckacaaDoor
