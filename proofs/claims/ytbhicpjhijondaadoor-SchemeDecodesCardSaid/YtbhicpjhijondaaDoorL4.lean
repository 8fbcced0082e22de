/- The reference's lexer: its words and signs. -/
import Derived.Test.YtbhicpjhijondaaDoorL3
namespace Go.Proofs.YtbhicpjhijondaaDoor
open Go.RowKit Go.Lib Go.Vfs Go.Par Go.Typ
set_option linter.unusedVariables false
set_option linter.unusedSimpArgs false

set_option maxRecDepth 20000 in
set_option maxHeartbeats 1000000 in
theorem words_any (w : World) : Calls Tryd.prog 121 #[] w fun e w' => e = .returned (.agg #[.string ⟨#[108, 101, 116]⟩, .string ⟨#[114, 101, 99]⟩, .string ⟨#[105, 110]⟩, .string ⟨#[102, 117, 110]⟩, .string ⟨#[105, 102]⟩, .string ⟨#[116, 104, 101, 110]⟩, .string ⟨#[101, 108, 115, 101]⟩, .string ⟨#[109, 97, 116, 99, 104]⟩, .string ⟨#[119, 105, 116, 104]⟩, .string ⟨#[116, 121, 112, 101]⟩, .string ⟨#[111, 102]⟩, .string ⟨#[116, 114, 117, 101]⟩, .string ⟨#[102, 97, 108, 115, 101]⟩]) ∧ Below w.heap.size w w' := by
  obtain ⟨W1, hW1⟩ : ∃ W1, W1 = w.alloc (.cells #[.string ⟨#[108, 101, 116]⟩, .string ⟨#[114, 101, 99]⟩, .string ⟨#[105, 110]⟩, .string ⟨#[102, 117, 110]⟩, .string ⟨#[105, 102]⟩, .string ⟨#[116, 104, 101, 110]⟩, .string ⟨#[101, 108, 115, 101]⟩, .string ⟨#[109, 97, 116, 99, 104]⟩, .string ⟨#[119, 105, 116, 104]⟩, .string ⟨#[116, 121, 112, 101]⟩, .string ⟨#[111, 102]⟩, .string ⟨#[116, 114, 117, 101]⟩, .string ⟨#[102, 97, 108, 115, 101]⟩] 137) := ⟨_, rfl⟩
  have hb1 : Below w.heap.size w W1 := by rw [hW1]; exact (Below.refl _ _).alloc (Nat.le_refl _) _
  have hbx : W1.heap[w.heap.size]? = some (.cells #[.string ⟨#[108, 101, 116]⟩, .string ⟨#[114, 101, 99]⟩, .string ⟨#[105, 110]⟩, .string ⟨#[102, 117, 110]⟩, .string ⟨#[105, 102]⟩, .string ⟨#[116, 104, 101, 110]⟩, .string ⟨#[101, 108, 115, 101]⟩, .string ⟨#[109, 97, 116, 99, 104]⟩, .string ⟨#[119, 105, 116, 104]⟩, .string ⟨#[116, 121, 112, 101]⟩, .string ⟨#[111, 102]⟩, .string ⟨#[116, 114, 117, 101]⟩, .string ⟨#[102, 97, 108, 115, 101]⟩] 137 (0, 0)) := by rw [hW1]; exact heap_alloc_new _ _
  have f : ∀ j v, (#[.string ⟨#[108, 101, 116]⟩, .string ⟨#[114, 101, 99]⟩, .string ⟨#[105, 110]⟩, .string ⟨#[102, 117, 110]⟩, .string ⟨#[105, 102]⟩, .string ⟨#[116, 104, 101, 110]⟩, .string ⟨#[101, 108, 115, 101]⟩, .string ⟨#[109, 97, 116, 99, 104]⟩, .string ⟨#[119, 105, 116, 104]⟩, .string ⟨#[116, 121, 112, 101]⟩, .string ⟨#[111, 102]⟩, .string ⟨#[116, 114, 117, 101]⟩, .string ⟨#[102, 97, 108, 115, 101]⟩] : Array Value)[j]? = some v → W1.cell? ⟨w.heap.size, j, none⟩ = some v := fun j v h => by
    rw [← h]; simp [World.cell?, hbx]
  go_enter Tryd.func121, Tryd.ntmps121
  go_wp2
  rw [← hW1]
  have f0 := f 0 _ rfl
  have f1 := f 1 _ rfl
  have f2 := f 2 _ rfl
  have f3 := f 3 _ rfl
  have f4 := f 4 _ rfl
  have f5 := f 5 _ rfl
  have f6 := f 6 _ rfl
  have f7 := f 7 _ rfl
  have f8 := f 8 _ rfl
  have f9 := f 9 _ rfl
  have f10 := f 10 _ rfl
  have f11 := f 11 _ rfl
  have f12 := f 12 _ rfl
  refine bodyPost_ret (v := .agg #[.string ⟨#[108, 101, 116]⟩, .string ⟨#[114, 101, 99]⟩, .string ⟨#[105, 110]⟩, .string ⟨#[102, 117, 110]⟩, .string ⟨#[105, 102]⟩, .string ⟨#[116, 104, 101, 110]⟩, .string ⟨#[101, 108, 115, 101]⟩, .string ⟨#[109, 97, 116, 99, 104]⟩, .string ⟨#[119, 105, 116, 104]⟩, .string ⟨#[116, 121, 112, 101]⟩, .string ⟨#[111, 102]⟩, .string ⟨#[116, 114, 117, 101]⟩, .string ⟨#[102, 97, 108, 115, 101]⟩]) (by simp [results, Tryd.results121, go_sem, f0, f1, f2, f3, f4, f5, f6, f7, f8, f9, f10, f11, f12]) rfl ?_
  exact ⟨rfl, hb1⟩
set_option maxRecDepth 20000 in
set_option maxHeartbeats 1000000 in
theorem signs_any (w : World) : Calls Tryd.prog 122 #[] w fun e w' => e = .returned (.agg #[.string ⟨#[45, 62]⟩, .string ⟨#[58, 58]⟩, .string ⟨#[59, 59]⟩, .string ⟨#[40]⟩, .string ⟨#[41]⟩, .string ⟨#[44]⟩, .string ⟨#[124]⟩, .string ⟨#[61]⟩, .string ⟨#[60]⟩, .string ⟨#[43]⟩, .string ⟨#[45]⟩, .string ⟨#[42]⟩, .string ⟨#[95]⟩]) ∧ Below w.heap.size w w' := by
  obtain ⟨W1, hW1⟩ : ∃ W1, W1 = w.alloc (.cells #[.string ⟨#[45, 62]⟩, .string ⟨#[58, 58]⟩, .string ⟨#[59, 59]⟩, .string ⟨#[40]⟩, .string ⟨#[41]⟩, .string ⟨#[44]⟩, .string ⟨#[124]⟩, .string ⟨#[61]⟩, .string ⟨#[60]⟩, .string ⟨#[43]⟩, .string ⟨#[45]⟩, .string ⟨#[42]⟩, .string ⟨#[95]⟩] 137) := ⟨_, rfl⟩
  have hb1 : Below w.heap.size w W1 := by rw [hW1]; exact (Below.refl _ _).alloc (Nat.le_refl _) _
  have hbx : W1.heap[w.heap.size]? = some (.cells #[.string ⟨#[45, 62]⟩, .string ⟨#[58, 58]⟩, .string ⟨#[59, 59]⟩, .string ⟨#[40]⟩, .string ⟨#[41]⟩, .string ⟨#[44]⟩, .string ⟨#[124]⟩, .string ⟨#[61]⟩, .string ⟨#[60]⟩, .string ⟨#[43]⟩, .string ⟨#[45]⟩, .string ⟨#[42]⟩, .string ⟨#[95]⟩] 137 (0, 0)) := by rw [hW1]; exact heap_alloc_new _ _
  have f : ∀ j v, (#[.string ⟨#[45, 62]⟩, .string ⟨#[58, 58]⟩, .string ⟨#[59, 59]⟩, .string ⟨#[40]⟩, .string ⟨#[41]⟩, .string ⟨#[44]⟩, .string ⟨#[124]⟩, .string ⟨#[61]⟩, .string ⟨#[60]⟩, .string ⟨#[43]⟩, .string ⟨#[45]⟩, .string ⟨#[42]⟩, .string ⟨#[95]⟩] : Array Value)[j]? = some v → W1.cell? ⟨w.heap.size, j, none⟩ = some v := fun j v h => by
    rw [← h]; simp [World.cell?, hbx]
  go_enter Tryd.func122, Tryd.ntmps122
  go_wp2
  rw [← hW1]
  have f0 := f 0 _ rfl
  have f1 := f 1 _ rfl
  have f2 := f 2 _ rfl
  have f3 := f 3 _ rfl
  have f4 := f 4 _ rfl
  have f5 := f 5 _ rfl
  have f6 := f 6 _ rfl
  have f7 := f 7 _ rfl
  have f8 := f 8 _ rfl
  have f9 := f 9 _ rfl
  have f10 := f 10 _ rfl
  have f11 := f 11 _ rfl
  have f12 := f 12 _ rfl
  refine bodyPost_ret (v := .agg #[.string ⟨#[45, 62]⟩, .string ⟨#[58, 58]⟩, .string ⟨#[59, 59]⟩, .string ⟨#[40]⟩, .string ⟨#[41]⟩, .string ⟨#[44]⟩, .string ⟨#[124]⟩, .string ⟨#[61]⟩, .string ⟨#[60]⟩, .string ⟨#[43]⟩, .string ⟨#[45]⟩, .string ⟨#[42]⟩, .string ⟨#[95]⟩]) (by simp [results, Tryd.results122, go_sem, f0, f1, f2, f3, f4, f5, f6, f7, f8, f9, f10, f11, f12]) rfl ?_
  exact ⟨rfl, hb1⟩
end Go.Proofs.YtbhicpjhijondaaDoor
