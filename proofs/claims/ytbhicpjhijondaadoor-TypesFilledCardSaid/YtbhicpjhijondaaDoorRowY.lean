/- Rows of types as arguments. -/
import Derived.Test.YtbhicpjhijondaaDoorRowT
import Derived.Test.YtbhicpjhijondaaDoorT43
namespace Go.Proofs.YtbhicpjhijondaaDoor
open Go.ChangeShapes Go.WideShapes Go.ChangeAt Go.RowKit Go.Par Go.Lib Go.Shelf Go.Deep Go.Typ
set_option linter.unusedVariables false
set_option linter.unusedSimpArgs false

/-- a row of types out of its cell. -/
theorem tys_of {H : Type} {enc : TypeId × Value → H} {W : World} {m : Nat} {v : Value} {x : DataW H × List MemPlace} (h3 : DataW.trod enc Tryd.prog W 0 (fun _ => true) true m 22 [v] = some x) : ∃ ts : List Ty, RowsT (· < W.heap.size) W v ts := by
  have hC : Tryd.prog.cellsOf 24 = 4 := by kernel_rfl
  rcases DataW.trod_slice Tryd.underlying22 h3 with ⟨hcs, _⟩ | ⟨a, len, cap, elems, rest, n, hm1, hcs, hx, hb, hl, hcm, hel, hi, _⟩
  · simp at hcs
    subst hcs
    exact ⟨[], none, 0, rfl, TyAt.leaf _ W 3 0 ⟨#[]⟩ none 0 (by simp [maxLen]) (by decide)⟩
  · simp at hcs
    subst hcs
    rw [hC] at hi
    have hT : ∀ i : Fin len, ∃ q : Ty × Option Addr × Nat, W.cells? 0 (a.add (i.val * 4)) 4 = some [.int .i64 q.1.kind, .int .i64 q.1.num, .string q.1.name, .slice q.2.1 q.1.args.length q.2.2] ∧
        TyAt (· < W.heap.size) W (tyV q.1.kind q.1.num q.1.name q.2.1 q.1.args.length q.2.2) q.1 := by
      intro ⟨i, hil⟩
      have hi := hi i hil
      rw [List.getElem?_eq_getElem (by omega), Option.bind_eq_some_iff] at hi
      obtain ⟨cs', hc, ht⟩ := hi
      obtain ⟨T, A, c, rfl, hT⟩ := ty_of n ht
      exact ⟨(T, A, c), hc, hT⟩
    obtain ⟨f, hf⟩ := Classical.axiomOfChoice hT
    have hcell : ∀ i (h : i < len) j, j < 4 → W.cell? (a.add (i * 4 + j)) = [Value.int .i64 (f ⟨i, h⟩).1.kind, .int .i64 (f ⟨i, h⟩).1.num, .string (f ⟨i, h⟩).1.name, .slice (f ⟨i, h⟩).2.1 (f ⟨i, h⟩).1.args.length (f ⟨i, h⟩).2.2][j]? := by
      intro i h j hj
      obtain ⟨_, _, hat⟩ := World.cells?_some (hf ⟨i, h⟩).1
      rw [← Go.Deep.add_add]
      exact hat j hj
    refine ⟨List.ofFn fun i => (f i).1, some a, cap, by simp, ?_⟩
    refine TyAt.mk 3 0 ⟨#[]⟩ _ (some a) cap (fun i => if h : i < len then tyV (f ⟨i, h⟩).1.kind (f ⟨i, h⟩).1.num (f ⟨i, h⟩).1.name (f ⟨i, h⟩).2.1 (f ⟨i, h⟩).1.args.length (f ⟨i, h⟩).2.2 else .bool false) (by simpa using hl) hcm (by decide) ?_ ?_
    · intro h0
      rw [List.length_ofFn] at h0 ⊢
      have hc0 := hcell 0 h0 0 (by omega)
      obtain ⟨b, off, spot⟩ := a
      have hspot : spot = none := by simpa [Addr.add] using World.cell?_spot hc0
      subst hspot
      refine ⟨b, off, rfl, ?_, fun i hi j hj => ?_⟩
      · have := World.block_lt_of_cell? _ _ hc0
        rw [add_addr] at this
        exact this
      · have h := hcell i hi j hj
        rw [add_addr, ← Nat.add_assoc] at h
        rw [h, dif_pos hi]
        rcases j with _ | _ | _ | _ | j
        · rfl
        · rfl
        · rfl
        · rfl
        · omega
    · intro i hi
      simp only [List.length_ofFn] at hi
      rw [dif_pos hi, List.getElem_ofFn]
      exact (hf ⟨i, hi⟩).2
set_option maxRecDepth 20000 in
theorem tys_of_trod {H : Type} {enc : TypeId × Value → H} {W : World} {base : Nat} {v : Value} {d : DataW H} {p : List MemPlace} (hval : Value.okWide Tryd.prog W .any base 22 v)
    (h : DataW.Trod enc Tryd.prog W 0 (fun _ => true) true 22 v d p) : ∃ ts : List Ty, RowsT (· < W.heap.size) W v ts := by
  obtain ⟨m, hm⟩ := h
  obtain ⟨a, n, c, rfl⟩ := okWide_slice Tryd.underlying22 hval
  exact tys_of hm
end Go.Proofs.YtbhicpjhijondaaDoor
