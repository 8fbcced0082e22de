/- scheme.Put: plain; a row of exports whose types are set. -/
import Derived.Test.YtbhicpjhijondaaDoorX6
namespace Go.Typ
open Go.RowKit Go.Lib Go.Vfs Go.Par
/-- does a stand behind b? -/
def gtB (a b : ByteArray) : Bool := !(Op.bytesLess a.toList b.toList || a.toList == b.toList)
open Classical in
/-- one export more of those that a put looks at. -/
noncomputable def putStep (one : Ex) (s : List Ex × Bool) (x : Ex) : List Ex × Bool :=
  if x.name = one.name then s else if s.2 = false ∧ gtB x.name one.name = true then (s.1 ++ [one] ++ [x], true) else (s.1 ++ [x], s.2)
noncomputable def putS (xs : List Ex) (one : Ex) : List Ex × Bool := xs.foldl (putStep one) ([], false)
/-- exports with one put to them. -/
noncomputable def putX (xs : List Ex) (one : Ex) : List Ex := if (putS xs one).2 then (putS xs one).1 else (putS xs one).1 ++ [one]
theorem putS_nil (one : Ex) : putS [] one = ([], false) := rfl
theorem putS_step {xs : List Ex} {one : Ex} {k : Nat} (hk : k < xs.length) : putS (xs.take (k + 1)) one = putStep one (putS (xs.take k) one) xs[k] := by
  unfold putS
  rw [List.take_succ_eq_append_getElem hk, List.foldl_append]
  rfl
theorem putS_len (one : Ex) : ∀ xs : List Ex, ((putS xs one).1).length ≤ 2 * xs.length := by
  intro xs
  have key : ∀ (xs : List Ex) (s : List Ex × Bool), ((xs.foldl (putStep one) s).1).length ≤ s.1.length + 2 * xs.length := by
    intro xs
    induction xs with
    | nil => intro s; simp
    | cons x xs ih =>
      intro s
      rw [List.foldl_cons]
      have h1 := ih (putStep one s x)
      have h2 : ((putStep one s x).1).length ≤ s.1.length + 2 := by
        unfold putStep; split
        · omega
        · split <;> simp
      simp only [List.length_cons]; omega
  have := key xs ([], false)
  simpa [putS] using this
theorem putS_mem (one : Ex) (xs : List Ex) : ∀ x ∈ (putS xs one).1, x ∈ xs ∨ x = one := by
  have key : ∀ (ys : List Ex) (s : List Ex × Bool), (∀ x ∈ s.1, x ∈ xs ∨ x = one) → (∀ y ∈ ys, y ∈ xs) → ∀ x ∈ (ys.foldl (putStep one) s).1, x ∈ xs ∨ x = one := by
    intro ys
    induction ys with
    | nil => intro s h _ x hx; exact h x hx
    | cons y ys ih =>
      intro s h hy
      rw [List.foldl_cons]
      refine ih _ (fun x hx => ?_) (fun z hz => hy z (by simp [hz]))
      unfold putStep at hx
      split at hx
      · exact h x hx
      · split at hx
        · simp only [List.mem_append, List.mem_singleton] at hx
          rcases hx with (hx | hx) | hx
          · exact h x hx
          · exact .inr hx
          · exact .inl (by rw [hx]; exact hy y (by simp))
        · simp only [List.mem_append, List.mem_singleton] at hx
          rcases hx with hx | hx
          · exact h x hx
          · exact .inl (by rw [hx]; exact hy y (by simp))
  exact key xs ([], false) (fun x hx => by simp at hx) (fun y hy => hy)
theorem putX_mem {one : Ex} {xs : List Ex} : ∀ x ∈ putX xs one, x ∈ xs ∨ x = one := by
  intro x hx
  unfold putX at hx
  split at hx
  · exact putS_mem one xs x hx
  · rcases List.mem_append.1 hx with hx | hx
    · exact putS_mem one xs x hx
    · exact .inr (List.mem_singleton.1 hx)
/-- the row in block g holds these exports; their types lie elsewhere. -/
def RowM (W : World) (g : Nat) (xs : List Ex) : Prop :=
  ∃ us : Nat → Value, (∀ i, i < xs.length → ∀ j, j < 5 → W.cell? ⟨g, i * 5 + j, none⟩ = some (fld (us i) j)) ∧ (∀ i (h : i < xs.length), ExAt (fun b => b < W.heap.size ∧ b ≠ g) W (us i) xs[i]) ∧ (∀ o, W.frozen? ⟨g, o, none⟩ = false) ∧ g < W.heap.size
theorem RowM.arg {W : World} {g : Nat} {xs : List Ex} (h : RowM W g xs) {i : Nat} (hi : i < xs.length) :
    ∃ A' c', TyAt (fun b => b < W.heap.size ∧ b ≠ g) W (tyV xs[i].ty.kind xs[i].ty.num xs[i].ty.name A' xs[i].ty.args.length c') xs[i].ty ∧
      W.cell? ⟨g, i * 5, none⟩ = some (.string xs[i].name) ∧ W.cell? ⟨g, i * 5 + 1, none⟩ = some (.int .i64 xs[i].ty.kind) ∧ W.cell? ⟨g, i * 5 + 2, none⟩ = some (.int .i64 xs[i].ty.num) ∧
      W.cell? ⟨g, i * 5 + 3, none⟩ = some (.string xs[i].ty.name) ∧ W.cell? ⟨g, i * 5 + 4, none⟩ = some (.slice A' xs[i].ty.args.length c') := by
  obtain ⟨us, h1, h2, h3, h4⟩ := h
  obtain ⟨A', c', ev, hn, ht⟩ := h2 i hi
  have g0 := h1 i hi 0 (by omega)
  have g1 := h1 i hi 1 (by omega)
  have g2 := h1 i hi 2 (by omega)
  have g3 := h1 i hi 3 (by omega)
  have g4 := h1 i hi 4 (by omega)
  rw [ev] at g0 g1 g2 g3 g4
  exact ⟨A', c', ht, g0, g1, g2, g3, g4⟩
theorem RowM.below {W W' : World} {g : Nat} {xs : List Ex} (h : RowM W g xs) (hb : Below W.heap.size W W') : RowM W' g xs := by
  obtain ⟨us, h1, h2, h3, h4⟩ := h
  exact ⟨us, fun i hi j hj => (hb.cell (p := ⟨g, _, none⟩) h4).trans (h1 i hi j hj), fun i hi => (h2 i hi).keep fun b hk => ⟨⟨Nat.lt_of_lt_of_le hk.1 hb.size, hk.2⟩, hb.block b hk.1⟩, fun o => (World.frozen?_of_block (w := W) (a := ⟨g, o, none⟩) (hb.block g h4)).trans (h3 o), Nat.lt_of_lt_of_le h4 hb.size⟩
theorem RowM.of_row {e B : Nat} {w : World} {xs : List Ex} {g c n : Nat} {us : List Value} (h : RowK e 5 ExAt 0 B w xs (.slice (some ⟨g, 0, none⟩) n c) us) : RowM w g xs := by
  rcases h.own.2 with ⟨e, _⟩ | ⟨g', cap, cur, e, _, hh, _⟩
  · cases e
  · injection e with e1 e2 e3
    injection e1 with e1
    injection e1 with e1 _ _
    subst e1
    refine ⟨fun i => us.getD i (.bool false), fun i hi j hj => ?_, fun i hi => ExAt.keep (h.each i hi) fun b hb => ⟨⟨hb.2.1, fun e => hb.2.2 (by rw [e]; rfl)⟩, rfl⟩, fun o => by simp [World.frozen?, hh], lt_blk hh⟩
    obtain ⟨g2, c2, e2, _, _, hat⟩ := h.cells (by omega)
    injection e2 with e2
    injection e2 with e2
    injection e2 with e2 _ _
    subst e2
    have hx := hat i hi j hj
    rw [Nat.zero_add] at hx
    rw [hx]
    show _ = some (fld (us.getD i (.bool false)) j)
    obtain ⟨A', c', e, _⟩ := h.each i hi
    rw [e]
    have : j = 0 ∨ j = 1 ∨ j = 2 ∨ j = 3 ∨ j = 4 := by omega
    rcases this with rfl | rfl | rfl | rfl | rfl <;> rfl
theorem RowM.exs {W : World} {g c : Nat} {xs : List Ex} (h : RowM W g xs) (hc : xs.length ≤ c) (hm : c ≤ maxLen) : ExsAt (· < W.heap.size) W (.slice (some ⟨g, 0, none⟩) xs.length c) xs := by
  obtain ⟨us, h1, h2, h3, h4⟩ := h
  exact ⟨_, c, rfl, hc, hm, us, fun _ => ⟨g, 0, rfl, h4, fun i hi j hj => by rw [Nat.zero_add]; exact h1 i hi j hj⟩, fun i hi => (h2 i hi).keep fun b hb => ⟨hb.1, rfl⟩⟩
/-- an export's type set to another that is the same. -/
theorem RowM.put {W : World} {g : Nat} {xs : List Ex} (h : RowM W g xs) {k : Nat} (hk : k < xs.length) (A' : Option Addr) (c' : Nat)
    (hT : TyAt (fun b => b < W.heap.size ∧ b ≠ g) W (tyV xs[k].ty.kind xs[k].ty.num xs[k].ty.name A' xs[k].ty.args.length c') xs[k].ty) :
    ∃ W', W' = ((((W.setCell ⟨g, k * 5 + 1, none⟩ (.int .i64 xs[k].ty.kind)).setCell ⟨g, k * 5 + 2, none⟩ (.int .i64 xs[k].ty.num)).setCell ⟨g, k * 5 + 3, none⟩ (.string xs[k].ty.name)).setCell ⟨g, k * 5 + 4, none⟩ (.slice A' xs[k].ty.args.length c')) ∧ RowM W' g xs ∧ Kept (· = g) W W' := by
  have hkp : Kept (· = g) W ((((W.setCell ⟨g, k * 5 + 1, none⟩ (.int .i64 xs[k].ty.kind)).setCell ⟨g, k * 5 + 2, none⟩ (.int .i64 xs[k].ty.num)).setCell ⟨g, k * 5 + 3, none⟩ (.string xs[k].ty.name)).setCell ⟨g, k * 5 + 4, none⟩ (.slice A' xs[k].ty.args.length c')) :=
    ((((Kept.refl (· = g) W).setCell (p := ⟨g, k * 5 + 1, none⟩) (.inl rfl) _).setCell (p := ⟨g, k * 5 + 2, none⟩) (.inl rfl) _).setCell (p := ⟨g, k * 5 + 3, none⟩) (.inl rfl) _).setCell (p := ⟨g, k * 5 + 4, none⟩) (.inl rfl) _
  refine ⟨_, rfl, ?_, hkp⟩
  obtain ⟨us, h1, h2, h3, h4⟩ := h
  obtain ⟨A0, c0, ev, hn, ht0⟩ := h2 k hk
  obtain ⟨f, hf⟩ : ∃ f : Nat → Value, ∀ i, f i = if i = k then exV xs[k] A' c' else us i := ⟨_, fun _ => rfl⟩
  refine ⟨f, fun i hi j hj => ?_, fun i hi => ?_, fun o => by simp only [World.frozen?_setCell]; exact h3 o, by have := hkp.size; omega⟩
  · have ne : ∀ a b : Nat, a ≠ b → (⟨g, a, none⟩ : Addr) ≠ ⟨g, b, none⟩ := fun a b h e => h (by injection e)
    have hold : ∀ o, o ≠ k * 5 + 1 → o ≠ k * 5 + 2 → o ≠ k * 5 + 3 → o ≠ k * 5 + 4 → ((((W.setCell ⟨g, k * 5 + 1, none⟩ (.int .i64 xs[k].ty.kind)).setCell ⟨g, k * 5 + 2, none⟩ (.int .i64 xs[k].ty.num)).setCell ⟨g, k * 5 + 3, none⟩ (.string xs[k].ty.name)).setCell ⟨g, k * 5 + 4, none⟩ (.slice A' xs[k].ty.args.length c')).cell? ⟨g, o, none⟩ = W.cell? ⟨g, o, none⟩ := fun o a1 a2 a3 a4 => by
      rw [World.cell?_setCell_other _ _ _ _ (ne _ _ a4.symm), World.cell?_setCell_other _ _ _ _ (ne _ _ a3.symm), World.cell?_setCell_other _ _ _ _ (ne _ _ a2.symm), World.cell?_setCell_other _ _ _ _ (ne _ _ a1.symm)]
    by_cases e : i = k
    · subst e
      have c1 := h1 i hi 1 (by omega)
      have c2 := h1 i hi 2 (by omega)
      have c3 := h1 i hi 3 (by omega)
      have c4 := h1 i hi 4 (by omega)
      rw [hf]
      rw [if_pos rfl]
      have : j = 0 ∨ j = 1 ∨ j = 2 ∨ j = 3 ∨ j = 4 := by omega
      rcases this with rfl | rfl | rfl | rfl | rfl
      · rw [hold _ (by omega) (by omega) (by omega) (by omega), h1 i hi 0 (by omega), ev]; rfl
      · rw [World.cell?_setCell_other _ _ _ _ (ne _ _ (by omega)), World.cell?_setCell_other _ _ _ _ (ne _ _ (by omega)), World.cell?_setCell_other _ _ _ _ (ne _ _ (by omega)), World.cell?_setCell_same _ _ _ c1]; rfl
      · rw [World.cell?_setCell_other _ _ _ _ (ne _ _ (by omega)), World.cell?_setCell_other _ _ _ _ (ne _ _ (by omega)), World.cell?_setCell_same _ _ _ (u := fld (us i) 2) (by rw [World.cell?_setCell_other _ _ _ _ (ne _ _ (by omega))]; exact c2)]; rfl
      · rw [World.cell?_setCell_other _ _ _ _ (ne _ _ (by omega)), World.cell?_setCell_same _ _ _ (u := fld (us i) 3) (by rw [World.cell?_setCell_other _ _ _ _ (ne _ _ (by omega)), World.cell?_setCell_other _ _ _ _ (ne _ _ (by omega))]; exact c3)]; rfl
      · rw [World.cell?_setCell_same _ _ _ (u := fld (us i) 4) (by rw [World.cell?_setCell_other _ _ _ _ (ne _ _ (by omega)), World.cell?_setCell_other _ _ _ _ (ne _ _ (by omega)), World.cell?_setCell_other _ _ _ _ (ne _ _ (by omega))]; exact c4)]; rfl
    · rw [hf]
      rw [if_neg e, hold _ (by omega) (by omega) (by omega) (by omega)]
      exact h1 i hi j hj
  · have hz := hkp.size
    by_cases e : i = k
    · subst e
      rw [hf]
      rw [if_pos rfl]
      exact ⟨A', c', rfl, hn, hT.keep fun b hb => ⟨⟨by omega, hb.2⟩, hkp.block b hb.1 hb.2⟩⟩
    · rw [hf]
      rw [if_neg e]
      exact (h2 i hi).keep fun b hb => ⟨⟨by omega, hb.2⟩, hkp.block b hb.1 hb.2⟩
end Go.Typ
