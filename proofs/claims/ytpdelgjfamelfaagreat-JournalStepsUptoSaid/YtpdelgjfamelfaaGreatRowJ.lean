/- A script of JournalSteps in a row of the second form. -/
import Derived.Test.YtpdelgjfamelfaaGreatRowU
import Derived.Test.YtpdelgjfamelfaaGreatKB
namespace Go.Proofs.YtpdelgjfamelfaaGreat
open Go.ChangeShapes Go.WideShapes Go.ChangeAt Go.RowKit Go.Par Go.Lib Go.Deep
set_option linter.unusedVariables false
set_option linter.unusedSimpArgs false
theorem opJ_fields : ∃ fs : Array Field, Tryz.prog.underlying 59 = some (.struct fs) ∧ fs.toList.map (fun f => (f.type, f.offset)) = [(3, 0), (3, 1), (38, 2), (57, 3)] := by
  have h : (Tryz.prog.underlying 59).map (fun d => match d with | .struct fs => fs.toList.map (fun f => (f.type, f.offset)) | _ => []) = some [(3, 0), (3, 1), (38, 2), (57, 3)] := by kernel_rfl
  cases hu : Tryz.prog.underlying 59 with
  | none => rw [hu] at h; cases h
  | some d =>
    rw [hu] at h
    cases d <;> simp at h
    exact ⟨_, rfl, h⟩
theorem list4 {α : Type} {l : List α} (h : l.length = 4) : ∃ a b c d, l = [a, b, c, d] := by
  rcases l with _ | ⟨a, _ | ⟨b, _ | ⟨c, _ | ⟨d, _ | ⟨e, l⟩⟩⟩⟩⟩
  · simp at h
  · simp at h
  · simp at h
  · simp at h
  · exact ⟨a, b, c, d, rfl⟩
  · simp at h
section
variable {H : Type} {enc : TypeId × Value → H} {W : World}
theorem opJ_at {n : Nat} {cs : List Value} {x : DataW H × List MemPlace} (h : DataW.trod enc Tryz.prog W 0 (fun _ => true) true n 59 cs = some x) (hb : Rows.uptoBulk x.1 ≤ 1048576) :
    ∃ o : OpJ, cs = o.cells ∧ sizeR o.rows + 1 ≤ Rows.uptoBulk x.1 ∧ OpJAt W W.heap.size o := by
  obtain ⟨fs, hu, hfs⟩ := opJ_fields
  obtain ⟨xs, m, _, rfl, hlen, hxl, hf⟩ := DataW.trod_struct hu h
  have hC : Tryz.prog.cellsOf 59 = 4 := by kernel_rfl
  rw [hC] at hlen
  have hfl : fs.size = 4 := by have := congrArg List.length hfs; simpa using this
  rw [hfl] at hxl
  obtain ⟨c0, c1, c2, c3, rfl⟩ := list4 hlen
  obtain ⟨y0, y1, y2, y3, rfl⟩ := list4 hxl
  have get : ∀ (j t : Nat), [(3, 0), (3, 1), (38, 2), (57, 3)][j]? = some (t, j) → Tryz.prog.cellsOf t = 1 → DataW.trod enc Tryz.prog W 0 (fun _ => true) true m t (([c0, c1, c2, c3].drop j).take 1) = [y0, y1, y2, y3][j]? := by
    intro j t hj ht
    obtain ⟨f, hfj, hty, hof⟩ := field_of hfs j t j hj
    have := hf j f hfj
    rw [hty, hof, ht] at this
    exact this
  obtain ⟨n0, e0, _, w0⟩ := DataW.trod_int Tryz.underlying3 (get 0 3 rfl (by kernel_rfl))
  obtain ⟨n1, e1, _, w1⟩ := DataW.trod_int Tryz.underlying3 (get 1 3 rfl (by kernel_rfl))
  obtain ⟨v4, ls, e4, b4, g4⟩ := rows_at (x := y2) (get 2 38 rfl (by kernel_rfl))
  obtain ⟨v5, zs, e5, b5, g5⟩ := ints_at (x := y3) (get 3 57 rfl (by kernel_rfl))
  simp at e0 e1 e4 e5
  subst e0 e1 e4 e5
  simp only [List.map_cons, List.map_nil, Rows.uptoBulk, Rows.uptoBulkAll] at hb ⊢
  have b4' : sizeR ls + 1 ≤ Rows.uptoBulk y2.1 := b4
  exact ⟨⟨n0, n1, c2, c3, ls, zs⟩, rfl, by simp only; omega, ⟨g4, g5, by simp only; omega, by simp [Lit.wf, IntKind.min, IntKind.max, IntKind.signed, IntKind.bits] at w1; simp only; omega⟩⟩

theorem opsJ_at {n : Nat} {cs : List Value} {x : DataW H × List MemPlace} (h : DataW.trod enc Tryz.prog W 0 (fun _ => true) true n 54 cs = some x) (hb : Rows.uptoBulk x.1 ≤ 1048576) :
    ∃ v os, cs = [v] ∧ sizeJ os + 1 ≤ Rows.uptoBulk x.1 ∧ SegJ W W.heap.size v os := by
  have hC : Tryz.prog.cellsOf 59 = 4 := by kernel_rfl
  rcases open_slice Tryz.underlying54 h with ⟨rfl, rfl⟩ | ⟨a, l, c, m, n', D, Pl, rfl, _, hl, hm, hmm, rfl, hi⟩
  · exact ⟨_, [], rfl, by simp [Rows.uptoBulk, sizeJ], none, 0, rfl, by simp, by simp, by simp, fun i hi => by simp at hi⟩
  · simp only [if_true] at hmm
    subst hmm
    rw [hC] at hi
    have hsl := bulk_slice (H := H) ((List.range l).map D) ((List.range (m - l)).map fun j => D (l + j))
    simp only at hb
    obtain ⟨os, hol, hos⟩ := exists_list l (fun i (o : OpJ) => sizeR o.rows ≤ Rows.uptoBulk (D i) ∧ OpJAt W W.heap.size o ∧ ∀ j, j < 4 → W.cell? (a.add (i * 4 + j)) = o.cells[j]?) (fun i hil => by
      obtain ⟨cs', hc, ht⟩ := hi i (by omega)
      have hbi := bulk_part (H := H) (List.mem_map.2 ⟨i, List.mem_range.2 hil, rfl⟩ : D i ∈ (List.range l).map D)
      obtain ⟨o, rfl, h1, h2⟩ := opJ_at ht (by simp only; omega)
      obtain ⟨_, _, hat⟩ := World.cells?_some hc
      refine ⟨o, by simp only at h1; omega, h2, fun j hj => ?_⟩
      rw [← Go.Deep.add_add]
      exact hat j hj)
    have hlen := hm
    refine ⟨_, os, rfl, ?_, some a, m, by rw [hol], by omega, by simpa [maxLen] using hm, fun o ho => ?_, fun i hio => ?_⟩
    · have h2 := bulk_sum D (fun i => sizeR (os.getD i ⟨0, 0, .bool false, .bool false, [], []⟩).rows) l (fun i hil => by
        have := (hos i (by omega)).1
        rw [List.getD_eq_getElem?_getD, List.getElem?_eq_getElem (by omega)]
        exact this)
      have h3 := sum_range os (fun o => sizeR o.rows) (fun i => sizeR (os.getD i ⟨0, 0, .bool false, .bool false, [], []⟩).rows) l hol (fun i hi' => by
        rw [List.getD_eq_getElem?_getD, List.getElem?_eq_getElem hi']
        rfl)
      unfold sizeJ
      simp only
      omega
    · obtain ⟨i, hio, rfl⟩ := List.getElem_of_mem ho
      exact (hos i hio).2.1
    · have hc := (hos i hio).2.2
      have h0 := (hos 0 (by omega)).2.2 0 (by omega)
      obtain ⟨b, off, spot⟩ := a
      have hspot : spot = none := by simpa [Addr.add, OpJ.cells] using World.cell?_spot h0
      subst hspot
      refine ⟨b, off, rfl, ?_, fun j hj => ?_⟩
      · have := World.block_lt_of_cell? _ _ h0
        rw [add_addr] at this
        exact this
      · rw [← hc j hj, add_addr, Nat.add_assoc]
end
end Go.Proofs.YtpdelgjfamelfaaGreat
