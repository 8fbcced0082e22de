/- The same with a bound on N. -/
import Derived.Test.YtpdelgjfamelfaaRowU
namespace Go.Proofs.Ytpdelgjfamelfaa
open Go.ChangeShapes Go.WideShapes Go.ChangeAt Go.RowKit Go.Par Go.Lib Go.Deep
set_option linter.unusedVariables false
set_option linter.unusedSimpArgs false
section
variable {H : Type} {enc : TypeId × Value → H} {W : World}
theorem op_at2 {n : Nat} {cs : List Value} {x : DataW H × List MemPlace} (h : DataW.trod enc Try.prog W 0 (fun _ => true) true n 44 cs = some x) (hb : Rows.uptoBulk x.1 ≤ 1048576) :
    ∃ o : OpR, cs = o.cells ∧ sizeP o.parts + 1 ≤ Rows.uptoBulk x.1 ∧ (OpAt W W.heap.size o ∧ o.n ≤ 9223372036854775807) := by
  obtain ⟨fs, hu, hfs⟩ := op_fields
  obtain ⟨xs, m, _, rfl, hlen, hxl, hf⟩ := DataW.trod_struct hu h
  have hC : Try.prog.cellsOf 44 = 6 := by kernel_rfl
  rw [hC] at hlen
  have hfl : fs.size = 6 := by have := congrArg List.length hfs; simpa using this
  rw [hfl] at hxl
  obtain ⟨c0, c1, c2, c3, c4, c5, rfl⟩ := list6 hlen
  obtain ⟨y0, y1, y2, y3, y4, y5, rfl⟩ := list6 hxl
  have get : ∀ (j t : Nat), [(3, 0), (3, 1), (9, 2), (9, 3), (42, 4), (30, 5)][j]? = some (t, j) → Try.prog.cellsOf t = 1 → DataW.trod enc Try.prog W 0 (fun _ => true) true m t (([c0, c1, c2, c3, c4, c5].drop j).take 1) = [y0, y1, y2, y3, y4, y5][j]? := by
    intro j t hj ht
    obtain ⟨f, hfj, hty, hof⟩ := field_of hfs j t j hj
    have := hf j f hfj
    rw [hty, hof, ht] at this
    exact this
  obtain ⟨n0, e0, _, w0⟩ := DataW.trod_int Try.underlying3 (get 0 3 rfl (by kernel_rfl))
  obtain ⟨n1, e1, _, w1⟩ := DataW.trod_int Try.underlying3 (get 1 3 rfl (by kernel_rfl))
  obtain ⟨s2, e2, _, w2⟩ := DataW.trod_string Try.underlying9 (get 2 9 rfl (by kernel_rfl))
  obtain ⟨s3, e3, _, w3⟩ := DataW.trod_string Try.underlying9 (get 3 9 rfl (by kernel_rfl))
  obtain ⟨v4, ls, e4, b4, g4⟩ := rows_at (x := y4) (get 4 42 rfl (by kernel_rfl))
  obtain ⟨v5, zs, e5, b5, g5⟩ := ints_at (x := y5) (get 5 30 rfl (by kernel_rfl))
  simp at e0 e1 e2 e3 e4 e5
  subst e0 e1 e2 e3 e4 e5
  simp only [List.map_cons, List.map_nil, Rows.uptoBulk, Rows.uptoBulkAll] at hb ⊢
  exact ⟨⟨n0, n1, s2, s3, c4, c5, ls, zs⟩, rfl, by simp only; omega, ⟨g4, g5, by simpa [maxLen] using w2, by simpa [maxLen] using w3, by simp only; omega⟩, by simp [Lit.wf, IntKind.min, IntKind.max, IntKind.signed, IntKind.bits] at w1; simp only; omega⟩

theorem ops_at2 {n : Nat} {cs : List Value} {x : DataW H × List MemPlace} (h : DataW.trod enc Try.prog W 0 (fun _ => true) true n 36 cs = some x) (hb : Rows.uptoBulk x.1 ≤ 1048576) :
    ∃ v os, cs = [v] ∧ sizeO os + 1 ≤ Rows.uptoBulk x.1 ∧ (SegO W W.heap.size v os ∧ ∀ o ∈ os, o.n ≤ 9223372036854775807) := by
  have hC : Try.prog.cellsOf 44 = 6 := by kernel_rfl
  rcases open_slice Try.underlying36 h with ⟨rfl, rfl⟩ | ⟨a, l, c, m, n', D, Pl, rfl, _, hl, hm, hmm, rfl, hi⟩
  · exact ⟨_, [], rfl, by simp [Rows.uptoBulk, sizeO], ⟨none, 0, rfl, by simp, by simp, by simp, fun i hi => by simp at hi⟩, by simp⟩
  · simp only [if_true] at hmm
    subst hmm
    rw [hC] at hi
    have hsl := bulk_slice (H := H) ((List.range l).map D) ((List.range (m - l)).map fun j => D (l + j))
    simp only at hb
    obtain ⟨os, hol, hos⟩ := exists_list l (fun i (o : OpR) => sizeP o.parts ≤ Rows.uptoBulk (D i) ∧ (OpAt W W.heap.size o ∧ o.n ≤ 9223372036854775807) ∧ ∀ j, j < 6 → W.cell? (a.add (i * 6 + j)) = o.cells[j]?) (fun i hil => by
      obtain ⟨cs', hc, ht⟩ := hi i (by omega)
      have hbi := bulk_part (H := H) (List.mem_map.2 ⟨i, List.mem_range.2 hil, rfl⟩ : D i ∈ (List.range l).map D)
      obtain ⟨o, rfl, h1, h2⟩ := op_at2 ht (by simp only; omega)
      obtain ⟨_, _, hat⟩ := World.cells?_some hc
      refine ⟨o, by simp only at h1; omega, h2, fun j hj => ?_⟩
      rw [← Go.Deep.add_add]
      exact hat j hj)
    have hlen := hm
    refine ⟨_, os, rfl, ?_, ⟨some a, m, by rw [hol], by omega, by simpa [maxLen] using hm, fun o ho => ?_, fun i hio => ?_⟩, fun o ho => ?_⟩
    · have h2 := bulk_sum D (fun i => sizeP (os.getD i ⟨0, 0, .empty, .empty, .bool false, .bool false, [], []⟩).parts) l (fun i hil => by
        have := (hos i (by omega)).1
        rw [List.getD_eq_getElem?_getD, List.getElem?_eq_getElem (by omega)]
        exact this)
      have h3 := sum_range os (fun o => sizeP o.parts) (fun i => sizeP (os.getD i ⟨0, 0, .empty, .empty, .bool false, .bool false, [], []⟩).parts) l hol (fun i hi' => by
        rw [List.getD_eq_getElem?_getD, List.getElem?_eq_getElem hi']
        rfl)
      unfold sizeO
      simp only
      omega
    · obtain ⟨i, hio, rfl⟩ := List.getElem_of_mem ho
      exact (hos i hio).2.1.1
    · have hc := (hos i hio).2.2
      have h0 := (hos 0 (by omega)).2.2 0 (by omega)
      obtain ⟨b, off, spot⟩ := a
      have hspot : spot = none := by simpa [Addr.add, OpR.cells] using World.cell?_spot h0
      subst hspot
      refine ⟨b, off, rfl, ?_, fun j hj => ?_⟩
      · have := World.block_lt_of_cell? _ _ h0
        rw [add_addr] at this
        exact this
      · rw [← hc j hj, add_addr, Nat.add_assoc]
    · obtain ⟨i, hio, rfl⟩ := List.getElem_of_mem ho
      exact (hos i hio).2.1.2
end
end Go.Proofs.Ytpdelgjfamelfaa
