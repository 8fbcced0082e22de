/- A row's argument of edits: from the datum to SegE. -/
import Derived.Test.YtdldkidccjkhgaaDoorTextAppliesWalk
import Derived.Test.YtdldkidccjkhgaaDoorRow
import Derived.Deep.Slices
import Derived.Deep.Fields
import Derived.ChangeSame
namespace Go.Proofs.YtdldkidccjkhgaaDoor
open Go.ChangeShapes Go.WideShapes Go.ChangeAt Go.RowKit Go.Par Go.Deep
set_option linter.unusedVariables false

theorem ed_fields : ∃ fs : Array Field, Tryd.prog.underlying 52 = some (.struct fs) ∧ fs.toList.map (fun f => (f.type, f.offset)) = [(3, 0), (3, 1), (3, 2), (3, 3), (9, 4)] := by
  have h : (Tryd.prog.underlying 52).map (fun d => match d with | .struct fs => fs.toList.map (fun f => (f.type, f.offset)) | _ => []) = some [(3, 0), (3, 1), (3, 2), (3, 3), (9, 4)] := by kernel_rfl
  cases hu : Tryd.prog.underlying 52 with
  | none => rw [hu] at h; cases h
  | some d =>
    rw [hu] at h
    cases d <;> simp at h
    exact ⟨_, rfl, h⟩
theorem field_at {fs : Array Field} (h : fs.toList.map (fun f => (f.type, f.offset)) = [(3, 0), (3, 1), (3, 2), (3, 3), (9, 4)]) (j : Nat) (t o : Nat) (hj : [((3 : Nat), (0 : Nat)), (3, 1), (3, 2), (3, 3), (9, 4)][j]? = some (t, o)) :
    ∃ f, fs[j]? = some f ∧ f.type = t ∧ f.offset = o := by
  have := congrArg (·[j]?) h
  simp only [List.getElem?_map, Array.getElem?_toList] at this
  rw [hj] at this
  cases hf : fs[j]? with
  | none => rw [hf] at this; cases this
  | some f =>
    rw [hf] at this
    simp at this
    exact ⟨f, rfl, this.1, this.2⟩
theorem ints_wf {n : Int} (h : (Lit.int .i64 n).wf = true) : n ≤ 9223372036854775807 := by
  have : -9223372036854775808 ≤ n ∧ n ≤ 9223372036854775807 := by simpa [Lit.wf, IntKind.min, IntKind.max, IntKind.signed, IntKind.bits] using h
  exact this.2

theorem list5 {α : Type} {l : List α} (h : l.length = 5) : ∃ a b c d e, l = [a, b, c, d, e] := by
  rcases l with _ | ⟨a, _ | ⟨b, _ | ⟨c, _ | ⟨d, _ | ⟨e, _ | ⟨f, l⟩⟩⟩⟩⟩⟩
  · simp at h
  · simp at h
  · simp at h
  · simp at h
  · simp at h
  · exact ⟨a, b, c, d, e, rfl⟩
  · simp at h
/-- one edit out of its cells. -/
theorem ed_of {H : Type} {enc : TypeId × Value → H} {W : World} {n : Nat} {cs : List Value} {x : DataW H × List MemPlace} (h : DataW.trod enc Tryd.prog W 0 (fun _ => true) true n 52 cs = some x)
    (hw : ∀ k ∈ x.1.weights Tryd.prog 52, k ≤ reachBytes) : ∃ e : Ed, cs = e.cells ∧ e.t.size ≤ 140737488351232 ∧ e.l ≤ 9223372036854775807 ∧ e.el ≤ 9223372036854775807 := by
  obtain ⟨fs, hu, hfs⟩ := ed_fields
  obtain ⟨xs, m, _, rfl, hlen, hxl, hf⟩ := DataW.trod_struct hu h
  have hC : Tryd.prog.cellsOf 52 = 5 := by kernel_rfl
  have h3 : Tryd.prog.cellsOf 3 = 1 := by kernel_rfl
  have h9 : Tryd.prog.cellsOf 9 = 1 := by kernel_rfl
  rw [hC] at hlen
  have hfl : fs.size = 5 := by have := congrArg List.length hfs; simpa using this
  rw [hfl] at hxl
  obtain ⟨c0, c1, c2, c3, c4, rfl⟩ := list5 hlen
  obtain ⟨y0, y1, y2, y3, y4, rfl⟩ := list5 hxl
  have get : ∀ (j t : Nat), [((3 : Nat), (0 : Nat)), (3, 1), (3, 2), (3, 3), (9, 4)][j]? = some (t, j) → Tryd.prog.cellsOf t = 1 → DataW.trod enc Tryd.prog W 0 (fun _ => true) true m t (([c0, c1, c2, c3, c4].drop j).take 1) = [y0, y1, y2, y3, y4][j]? := by
    intro j t hj ht
    obtain ⟨f, hfj, hty, hof⟩ := field_at hfs j t j hj
    have := hf j f hfj
    rw [hty, hof, ht] at this
    exact this
  obtain ⟨n0, e0, _, w0⟩ := DataW.trod_int Tryd.underlying3 (get 0 3 rfl h3)
  obtain ⟨n1, e1, _, w1⟩ := DataW.trod_int Tryd.underlying3 (get 1 3 rfl h3)
  obtain ⟨n2, e2, _, w2⟩ := DataW.trod_int Tryd.underlying3 (get 2 3 rfl h3)
  obtain ⟨n3, e3, _, w3⟩ := DataW.trod_int Tryd.underlying3 (get 3 3 rfl h3)
  obtain ⟨s4, e4, hx4, w4⟩ := DataW.trod_string Tryd.underlying9 (get 4 9 rfl h9)
  simp at e0 e1 e2 e3 e4
  subst e0 e1 e2 e3 e4
  have hy4 : y4.1 = .lit (.string s4.data.toList) := by rw [hx4]
  have hb : s4.data.toList.length ≤ reachBytes := by
    obtain ⟨f, hfj, hty, hof⟩ := field_at hfs 4 9 4 rfl
    refine hw _ ?_
    simp only [DataW.weights, hu]
    refine DataW.weights_mem_each (j := 4) (t := f.type) (d := y4.1) ?_ (by simp) _ (by rw [hy4]; simp [DataW.weights])
    simp [hfj]
  refine ⟨⟨n0, n1, n2, n3, s4⟩, rfl, ?_, ints_wf w0, ints_wf w2⟩
  rw [← Lib.size_eq] at hb
  simpa [reachBytes] using hb

theorem weights_all {H : Type} {P : Program} {e : TypeId} {d : DataW H} : ∀ {ds : List (DataW H)}, d ∈ ds → ∀ n ∈ d.weights P e, n ∈ DataW.weightsAll P e ds
  | x :: ds, h, n, hn => by
    simp only [DataW.weightsAll, List.mem_append]
    rcases List.mem_cons.1 h with rfl | h
    · exact .inl hn
    · exact .inr (weights_all h n hn)

theorem eds_of_trod {H : Type} {enc : TypeId × Value → H} {W : World} {base : Nat} {v : Value} {d : DataW H} {p : List MemPlace} (hval : Value.okWide Tryd.prog W .any base 46 v)
    (h : DataW.Trod enc Tryd.prog W 0 (fun _ => true) true 46 v d p) (hw : ∀ k ∈ d.weights Tryd.prog 46, k ≤ reachBytes) : ∃ es : List Ed, EdsOk es ∧ SegE W W.heap.size v es := by
  obtain ⟨a, len, cap, rfl⟩ := okWide_slice Tryd.underlying46 hval
  obtain ⟨fuel, hf⟩ := h
  have hC : Tryd.prog.cellsOf 52 = 5 := by kernel_rfl
  rcases open_slice Tryd.underlying46 hf with ⟨hcs, _⟩ | ⟨x, l, c, m, n, D, Pl, hcs, _, hl, hm, hmm, hx, hi⟩
  · simp [Value.cells] at hcs
    obtain ⟨rfl, rfl, rfl⟩ := hcs
    exact ⟨[], (fun e he => by cases he), ⟨none, 0, rfl, by simp, by simp, fun h => by simp at h⟩⟩
  · simp [Value.cells] at hcs
    obtain ⟨rfl, rfl, rfl⟩ := hcs
    simp only [if_true] at hmm
    subst hmm
    rw [hC] at hi hx
    have hd : d = .slice ((List.range len).map D) ((List.range (m - len)).map fun j => D (len + j)) := congrArg Prod.fst hx
    have hel : ∀ i, i < len → ∃ e : Ed, (∀ j, j < 5 → W.cell? (x.add (i * 5 + j)) = e.cells[j]?) ∧ e.t.size ≤ 140737488351232 ∧ e.l ≤ 9223372036854775807 ∧ e.el ≤ 9223372036854775807 := by
      intro i hil
      obtain ⟨cs', hc, ht⟩ := hi i (by omega)
      obtain ⟨_, hcl, hat⟩ := World.cells?_some hc
      obtain ⟨e, rfl, h1, h2, h3⟩ := ed_of ht (fun k hk => hw k (by
        rw [hd]
        simp only [DataW.weights, Tryd.underlying46, List.mem_cons, List.mem_append]
        exact .inr (.inl (weights_all (List.mem_map.2 ⟨i, List.mem_range.2 hil, rfl⟩) k hk))))
      refine ⟨e, fun j hj => ?_, h1, h2, h3⟩
      rw [← Go.Deep.add_add]
      exact hat j hj
    obtain ⟨es, hesl, hes⟩ : ∃ es : List Ed, es.length = len ∧ ∀ i e, es[i]? = some e → (∀ j, j < 5 → W.cell? (x.add (i * 5 + j)) = e.cells[j]?) ∧ e.t.size ≤ 140737488351232 ∧ e.l ≤ 9223372036854775807 ∧ e.el ≤ 9223372036854775807 := by
      have : ∀ k, k ≤ len → ∃ es : List Ed, es.length = k ∧ ∀ i e, es[i]? = some e → (∀ j, j < 5 → W.cell? (x.add (i * 5 + j)) = e.cells[j]?) ∧ e.t.size ≤ 140737488351232 ∧ e.l ≤ 9223372036854775807 ∧ e.el ≤ 9223372036854775807 := by
        intro k
        induction k with
        | zero => intro _; exact ⟨[], rfl, fun i e h => by simp at h⟩
        | succ k ih =>
          intro hk
          obtain ⟨es, hl', hes⟩ := ih (by omega)
          obtain ⟨e, he⟩ := hel k (by omega)
          refine ⟨es ++ [e], by simp [hl'], fun i y hy => ?_⟩
          rw [List.getElem?_append] at hy
          split at hy
          · exact hes i y hy
          · rename_i hge
            have hie : i = k := by
              have := (List.getElem?_eq_some_iff.1 hy).1
              simp at this; omega
            subst hie
            rw [show i - es.length = 0 by omega] at hy
            simp at hy
            subst hy
            exact he
      exact this len (Nat.le_refl _)
    refine ⟨es, fun e he => ?_, some x, m, by rw [hesl], by rw [hesl]; exact hl, by simpa [maxLen] using hm, fun hp => ?_⟩
    · obtain ⟨i, hi'⟩ := List.mem_iff_getElem?.1 he
      exact (hes i e hi').2
    · have hcellx : ∀ i, i < 5 * es.length → W.cell? (x.add i) = (eds es)[i]? := by
        intro i hi'
        have hq : i / 5 < es.length := by omega
        obtain ⟨e, he⟩ : ∃ e, es[i / 5]? = some e := ⟨_, List.getElem?_eq_getElem hq⟩
        have h1 := (hes _ e he).1 (i % 5) (by omega)
        have h2 := eds_getElem es (i / 5) (i % 5) e he (by omega)
        rw [show i / 5 * 5 + i % 5 = i by omega] at h1 h2
        rw [h1, h2]
      have h0 := hcellx 0 (by omega)
      have hs0 : ∃ v0, W.cell? (x.add 0) = some v0 := by
        rw [h0]
        exact ⟨_, List.getElem?_eq_getElem (by rw [eds_length]; omega)⟩
      obtain ⟨v0, hv0⟩ := hs0
      obtain ⟨b, off, spot⟩ := x
      have hspot : spot = none := by simpa [Addr.add] using World.cell?_spot hv0
      subst hspot
      refine ⟨b, off, rfl, ?_, fun i hi' => ?_⟩
      · have := World.block_lt_of_cell? _ _ hv0
        rw [add_addr] at this
        exact this
      · rw [← add_addr]; exact hcellx i hi'
end Go.Proofs.YtdldkidccjkhgaaDoor
