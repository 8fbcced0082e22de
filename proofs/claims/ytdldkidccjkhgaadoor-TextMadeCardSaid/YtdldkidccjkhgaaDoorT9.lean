import Derived.Test.YtdldkidccjkhgaaDoorT7d
namespace Go.Proofs.YtdldkidccjkhgaaDoor
open Go.RowKit Go.Par
set_option linter.unusedVariables false

theorem wpList_run {P : Program} {w : World} {ops : Array Oper} {rest : List Oper} {o : Oper} {a : Act} {Q : Exit → Act → World → Prop} (hgd : o.guard = none) (s x : Operand) (t : TypeId)
    (ho : o.op = .call { callee := .builtin .append, args := #[s, x], argTypes := #[t, t] }) (v u v' : Value) (w' : World) (hs : a.eval s = v) (hx : a.eval x = u)
    (hrun : (Builtin.append_ #[t, t] o.type #[v, u]).run P w = .ok v' w') (h : wpList P ops Q rest (a.put o.dst v') w') : wpList P ops Q (o :: rest) a w :=
  wpList_plain hgd fun _ hK => by
    unfold Oper.wp execOp
    simp only [ho, resolve, invoke, builtin, Sem.run_bind, Sem.run_pure, Result.andThen_ok, List.map_toArray, List.map_cons, List.map_nil, hs, hx, hrun]
    exact hK _ _ h

theorem ed_info : ∃ i z, Tryd.prog.info? 52 = some i ∧ i.zero = some z ∧ i.size = 5 ∧ i.bytes = 48 ∧ z.cells.size = 5 := by
  have h : (Tryd.prog.info? 52).map (fun i => (i.zero, i.size, i.bytes)) = some (some (.agg #[.int .i64 0, .int .i64 0, .int .i64 0, .int .i64 0, .string ⟨#[]⟩]), 5, 48) := by kernel_rfl
  obtain ⟨i, hi, h0, h2, h3⟩ := info_parts h
  exact ⟨i, _, hi, h0, h2, h3, rfl⟩

theorem one_eds (es : List Ed) : ∀ x ∈ eds es, x.oneCell' = true := by
  intro x hx
  obtain ⟨e, _, h⟩ := List.mem_flatMap.1 hx
  simp [Ed.cells] at h
  rcases h with rfl | rfl | rfl | rfl | rfl <;> rfl

theorem segE_own {w : World} {base : Nat} {v : Value} {es : List Ed} (h : w.ownsRow base 52 5 v es.length (eds es)) : SegE w w.heap.size v es := by
  have hlt := fun k hk => World.ownsRow.lt h k hk
  rcases h.2 with ⟨rfl, h0⟩ | ⟨g, cap, cur, rfl, hg, hh, hnc, hcm, hsz, htake⟩
  · have : es = [] := List.eq_nil_of_length_eq_zero h0
    subst this
    exact ⟨none, 0, rfl, by simp, by simp, fun h => by simp at h⟩
  · refine ⟨_, cap, rfl, hnc, by simpa [maxLen] using hcm, fun _ => ⟨g, 0, rfl, (hlt g rfl).2, fun i hi => ?_⟩⟩
    have hi' : i < (eds es).length := by rw [eds_length]; exact hi
    have hc := World.ownsRow.cells (g := g) h rfl i ((eds es)[i]'hi') (List.getElem?_eq_getElem hi')
    have e : ((⟨g, 0, none⟩ : Addr).add i) = ⟨g, 0 + i, none⟩ := by unfold Addr.add; split <;> simp_all
    rw [← e, hc, List.getElem?_eq_getElem hi']

set_option maxHeartbeats 400000 in
theorem copyEdits_any (v : Value) (es : List Ed) (B : Nat) (w : World) (hsg : SegE w B v es) (hB : B ≤ w.heap.size) (hl : es.length ≤ 1000000) :
    Calls Tryd.prog 41 #[v] w fun e w' => ∃ u, e = .returned u ∧ SegE w' w'.heap.size u es ∧ Below w.heap.size w w' := by
  obtain ⟨W, hW⟩ : ∃ W, W = w.alloc (.cells #[] 52) := ⟨_, rfl⟩
  have hb0 : Below w.heap.size w W := by rw [hW]; exact (Below.refl _ w).alloc (Nat.le_refl _) _
  have hsg1 := hsg.below (hb0.mono hB)
  have hown : W.ownsRow w.heap.size 52 5 (.slice (some ⟨w.heap.size, 0, none⟩) 0 0) 0 [] := by
    rw [hW]
    exact ⟨rfl, .inr ⟨w.heap.size, 0, #[], rfl, Nat.le_refl _, heap_alloc_new w _, Nat.le_refl _, by simp [maxLen], by simp, by simp⟩⟩
  obtain ⟨i, z, hi, hz, hs5, hby, hz5⟩ := ed_info
  have key : ∃ v' w', (Builtin.append_ #[46, 46] 46 #[.slice (some ⟨w.heap.size, 0, none⟩) 0 0, v]).run Tryd.prog W = .ok v' w' ∧ SegE w' w'.heap.size v' es ∧ Below w.heap.size w w' := by
    obtain ⟨A, c, rfl, hc, hcm, ha⟩ := hsg1
    have main : ∀ ad : Addr, A = some ad → (∀ j x, (eds es)[j]? = some x → W.cell? (ad.add j) = some x) → ∃ v' w', (Builtin.append_ #[46, 46] 46 #[.slice (some ⟨w.heap.size, 0, none⟩) 0 0, .slice A es.length c]).run Tryd.prog W = .ok v' w' ∧ SegE w' w'.heap.size v' es ∧ Below w.heap.size w w' := by
      rintro ad rfl hcells
      obtain ⟨v', w', hr, h2, h3, _, h5⟩ := run_append_own_at (P := Tryd.prog) W w.heap.size 46 46 52 i z 5 48 Tryd.underlying46 hi hz hs5 hby hz5 (by decide) _ 0 [] hown ad es.length c (eds es) (by rw [eds_length]; omega) hcells (one_eds es) (by simp only [maxLen]; omega) (by omega) hb0.size
      refine ⟨v', w', hr, ?_, ?_⟩
      · rw [Nat.zero_add, List.nil_append] at h2
        exact segE_own h2
      · exact hb0.grown h3 hb0.size (fun k hk => (World.ownsRow.lt hown k hk).1)
    rcases Nat.eq_zero_or_pos es.length with h0 | hp
    · have hn : es = [] := List.eq_nil_of_length_eq_zero h0
      subst hn
      rcases A with _ | ad
      · refine ⟨.slice (some ⟨w.heap.size, 0, none⟩) 0 0, W, ?_, ?_, hb0⟩
        · simp [Builtin.append_, run_underlying Tryd.underlying46, sizeOf, typeInfo, hi, Builtin.lenOf, Builtin.firstCells, storeCells]
        · exact ⟨_, 0, rfl, by simp, by simp, fun h => by simp at h⟩
      · exact main ad rfl (fun j x hj => by simp [eds] at hj)
    · obtain ⟨b, off, rfl, _, hcell⟩ := ha hp
      refine main _ rfl (fun j x hj => ?_)
      have hjl := (List.getElem?_eq_some_iff.1 hj).1
      rw [eds_length] at hjl
      rw [add_addr, hcell j hjl]
      exact hj
  obtain ⟨v', w', hrun, hse, hbb⟩ := key
  rw [hW] at hrun
  clear hsg hsg1 hown hb0 hW hi hz hs5 hby hz5
  go_enter Tryd.func41, Tryd.ntmps41
  go_wp2_with (at_builtin; refine wpList_run rfl _ _ _ rfl _ _ _ _ rfl rfl hrun ?_)
  go_ret
  exact ⟨_, rfl, hse, hbb⟩
end Go.Proofs.YtdldkidccjkhgaaDoor
