/- JournalSums, walked. -/
import Derived.Test.YtpdelgjfamelfaaGreatJ17
namespace Go.Proofs.YtpdelgjfamelfaaGreat
open Go.RowKit Go.Lib Go.Vfs Go.Par Go.Shelf
set_option linter.unusedVariables false
set_option linter.unusedSimpArgs false

/-- rows that a machine can hold. -/
def RowsOk (ls : List (List UInt8)) : Prop := ls.length ≤ 140737488351232 ∧ ∀ l ∈ ls, l.length ≤ 140737488351232
theorem own_empty {w : World} {B : Nat} (hB : B ≤ w.heap.size) : Par.Own (w.alloc (.cells #[] 5)) B 5 (.slice (some ⟨w.heap.size, 0, none⟩) 0 0) [] := by
  refine ⟨rfl, .inr ⟨w.heap.size, 0, #[], rfl, hB, ?_, ?_, ?_, ?_, ?_⟩⟩
  · exact heap_alloc_new w _
  all_goals simp [maxLen]

theorem flat_mem : ∀ {ls : List (List UInt8)} {l : List UInt8}, l ∈ ls → l.length ≤ ls.flatten.length
  | x :: ls, l, h => by
    rw [List.flatten_cons, List.length_append]
    rcases List.mem_cons.1 h with rfl | h
    · omega
    · have := flat_mem h; omega

end Go.Proofs.YtpdelgjfamelfaaGreat
