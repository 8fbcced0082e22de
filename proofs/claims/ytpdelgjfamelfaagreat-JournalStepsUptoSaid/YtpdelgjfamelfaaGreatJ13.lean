/- The iterator over the calls by which a base is laid. -/
import Derived.Test.YtpdelgjfamelfaaGreatJL
namespace Go.Proofs.YtpdelgjfamelfaaGreat
open Go.RowKit Go.Lib Go.Vfs Go.Par Go.Shelf
set_option linter.unusedVariables false
set_option linter.unusedSimpArgs false
attribute [local go_sem] Oper.semAt_some

/-- blocks of these types lie as they lay. -/
def TyK (W W' : World) : Prop := W.heap.size ≤ W'.heap.size ∧ ∀ (k : Nat) (cs : Array Value) (t : TypeId) (fz : Nat × Nat), W.heap[k]? = some (Obj.cells cs t fz) → (t = 24 ∨ t = 41 ∨ t = 22 ∨ t = 94) → W'.heap[k]? = W.heap[k]?
theorem TyK.t {A B C : World} (h : TyK A B) (k : TyK B C) : TyK A C := ⟨Nat.le_trans h.1 k.1, fun i cs t fz hi ht => by
  have h1 := h.2 i cs t fz hi ht
  exact (k.2 i cs t fz (h1.trans hi) ht).trans h1⟩
theorem TyK.at {W W' : World} (h : TyK W W') {k : Nat} {cs : Array Value} {t : TypeId} (hk : W.heap[k]? = some (.cells cs t (0, 0))) (ht : t = 24 ∨ t = 41 ∨ t = 22 ∨ t = 94) : W'.heap[k]? = some (.cells cs t (0, 0)) := (h.2 k cs t _ hk ht).trans hk
theorem TyK.below {W W' : World} (h : Below W.heap.size W W') : TyK W W' := ⟨h.size, fun k cs t fz hk _ => h.block k (lt_of_block hk)⟩
def encS (bB : Nat) (x : Nat × Nat) : Array Value := match x.1 with
  | 0 => #[.func (.func 82) #[] #[.pointer (some ⟨x.2, 0, none⟩), .pointer (some ⟨bB, 0, none⟩)]]
  | 1 => #[.func (.func 83) #[] #[.pointer (some ⟨x.2, 0, none⟩)]]
  | 2 => #[.func (.func 84) #[] #[.pointer (some ⟨x.2, 0, none⟩)]]
  | _ => #[.func (.func 86) #[] #[.pointer (some ⟨x.2, 0, none⟩)]]
def CS (p : Nat) (x : Nat × Nat) (W : World) : Prop := W.heap[x.2]? = some (.cells #[.pointer (some ⟨p, 0, none⟩)] 24 (0, 0))
def RS (p : Nat) (hl : Bool) (W : World) : Prop := ∃ st F, Fsy W p st F ∧ hasF st.files nLog = hl ∧ st.files.length ≤ 100000 ∧ ∀ f ∈ st.files, f.name.length ≤ 100000
def stepsOf (hl : Bool) : List Nat := if hl then [0, 1, 2, 3] else [0, 1, 2]

set_option maxRecDepth 100000 in
set_option maxHeartbeats 4000000 in
theorem steps_told (w : World) (bj bB pj p : Nat) (V u1 u2 u3 : Value) (hl : Bool) (hj : w.heap[bj]? = some (.cells #[.pointer (some ⟨pj, 0, none⟩)] 41 (0, 0))) (hB : w.heap[bB]? = some (.cells #[V] 22 (0, 0)))
    (hp : w.heap[pj]? = some (.cells #[.pointer (some ⟨p, 0, none⟩), u1, u2, u3] 94 (0, 0))) :
    SeqTold Fence.wide 6 Tryz.prog 81 #[.pointer (some ⟨bj, 0, none⟩), .pointer (some ⟨bB, 0, none⟩)] (encS bB) (CS p) (RS p hl) TyK (fun ys => ys.map (·.1) = stepsOf hl) (fun pre => pre.map (·.1) <+: stepsOf hl) 4 w := by
  intro l J Jx W hW hJ hJx hJR hY h0
  have hjW := (hW.block bj (lt_of_block hj)).trans hj
  have hpW := (hW.block pj (lt_of_block hp)).trans hp
  obtain ⟨q0, -⟩ := one_cellJ hjW
  obtain ⟨⟨r0, -, -, -⟩, -⟩ := four_cells hpW
  clear hW hj hB hp hjW hpW
  have hfH : Fence.wide.fn 45 := trivial
  refine callsIn_of_wp Tryz.func81 rfl trivial ?_ rfl
  simp only [Tryz.ntmps81, List.size_toArray, List.length_cons, List.length_nil, Nat.reduceAdd, Nat.reduceSub, Array.replicate_succ, Array.replicate_zero, List.push_toArray, List.append_toArray, List.nil_append, List.cons_append]
  gi_wp2
  have HC1 : Hid ((W.alloc (.cells #[.pointer (some ⟨p, 0, none⟩)] 24)).heap[W.heap.size]? = some (.cells #[.pointer (some ⟨p, 0, none⟩)] 24 (0, 0))) := Lib.hid (heap_alloc_new W _)
  have HB1 := Lib.hid (box_below W (.cells #[.pointer (some ⟨p, 0, none⟩)] 24))
  have hJ1 := hJ _ _ _ h0 HB1.out
  generalize W.alloc (.cells #[.pointer (some ⟨p, 0, none⟩)] 24) = W1 at *
  obtain ⟨b4, hb4⟩ : ∃ b4, b4 = W.heap.size := ⟨_, rfl⟩
  rw [← hb4] at HC1 ⊢
  clear hb4 q0 r0 h0
  obtain ⟨fn0, tmps0, assign0, body0, hy, hR⟩ := hY [] (0, b4) W1 hJ1 HC1.out (by simp)
  simp only [encS] at hy
  rw [hy, Oper.uponIn_round]
  refine ⟨(fun h => by cases h), ?_⟩
  refine hR.mono ?_
  clear hy hR
  rintro e W2 (⟨rfl, hJ2, hk2⟩ | ⟨rfl, hJx2⟩)
  rotate_left
  · gi_wp2
    refine bodyPost_ret (results_none rfl _ _ _) rfl ?_
    exact ⟨⟨_, rfl⟩, .inr ⟨_, by cases hl <;> simp [stepsOf], hJx2⟩⟩
  have HC2 : Hid (W2.heap[b4]? = some (.cells #[.pointer (some ⟨p, 0, none⟩)] 24 (0, 0))) := Lib.hid (hk2.at HC1.out (.inl rfl))
  obtain ⟨c2, -⟩ := one_cellJ HC2.out
  clear hJ1 hk2 HC1
  gi_wp2
  obtain ⟨W3, hWW⟩ : ∃ X, X = W2 := ⟨_, rfl⟩
  rw [← hWW] at hJ2 HC2 ⊢
  clear hWW c2
  replace hJ3 := hJ2; replace HC3 := HC2
  obtain ⟨fn1, tmps1, assign1, body1, hy, hR⟩ := hY ([] ++ [(0, b4)]) (1, b4) W3 hJ3 HC3.out (by simp)
  simp only [encS] at hy
  rw [hy, Oper.uponIn_round]
  refine ⟨(fun h => by cases h), ?_⟩
  refine hR.mono ?_
  clear hy hR
  rintro e W4 (⟨rfl, hJ4, hk4⟩ | ⟨rfl, hJx2⟩)
  rotate_left
  · gi_wp2
    refine bodyPost_ret (results_none rfl _ _ _) rfl ?_
    exact ⟨⟨_, rfl⟩, .inr ⟨_, by cases hl <;> simp [stepsOf], hJx2⟩⟩
  have HC4 : Hid (W4.heap[b4]? = some (.cells #[.pointer (some ⟨p, 0, none⟩)] 24 (0, 0))) := Lib.hid (hk4.at HC3.out (.inl rfl))
  obtain ⟨c4, -⟩ := one_cellJ HC4.out
  clear hJ3 hk4 HC3
  gi_wp2
  obtain ⟨W5, hWW⟩ : ∃ X, X = W4 := ⟨_, rfl⟩
  rw [← hWW] at hJ4 HC4 ⊢
  clear hWW c4
  replace hJ5 := hJ4; replace HC5 := HC4
  obtain ⟨fn2, tmps2, assign2, body2, hy, hR⟩ := hY (([] ++ [(0, b4)]) ++ [(1, b4)]) (2, b4) W5 hJ5 HC5.out (by simp)
  simp only [encS] at hy
  rw [hy, Oper.uponIn_round]
  refine ⟨(fun h => by cases h), ?_⟩
  refine hR.mono ?_
  clear hy hR
  rintro e W6 (⟨rfl, hJ6, hk6⟩ | ⟨rfl, hJx2⟩)
  rotate_left
  · gi_wp2
    refine bodyPost_ret (results_none rfl _ _ _) rfl ?_
    exact ⟨⟨_, rfl⟩, .inr ⟨_, by cases hl <;> simp [stepsOf], hJx2⟩⟩
  have HC6 : Hid (W6.heap[b4]? = some (.cells #[.pointer (some ⟨p, 0, none⟩)] 24 (0, 0))) := Lib.hid (hk6.at HC5.out (.inl rfl))
  obtain ⟨c6, -⟩ := one_cellJ HC6.out
  clear hJ5 hk6 HC5
  obtain ⟨st, F, hf, hh, hfl, hnl⟩ := hJR _ _ hJ6
  have hhas := has_any W6 p st F hf hfl hnl nLog
  rw [hh] at hhas
  have HHAS := Lib.hid hhas
  clear hhas hf hfl hnl hh
  cases hl
  · gi_wp2_with (gi_at_call 45; refine (callsIn_wide.2 HHAS.out).mono ?_; rintro e W7 ⟨rfl, hb7⟩)
    have hJ7 := hJ _ _ _ hJ6 hb7
    go_end0
    exact ⟨⟨_, rfl⟩, .inl ⟨_, by simp [stepsOf], hJ7⟩⟩
  gi_wp2_with (gi_at_call 45; refine (callsIn_wide.2 HHAS.out).mono ?_; rintro e W7 ⟨rfl, hb7⟩)
  have hJ7 := hJ _ _ _ hJ6 hb7
  have HC7 : Hid (W7.heap[b4]? = some (.cells #[.pointer (some ⟨p, 0, none⟩)] 24 (0, 0))) := Lib.hid ((hb7.block b4 (lt_of_block HC6.out)).trans HC6.out)
  clear hJ6 HC6 hb7 HHAS c6
  obtain ⟨fn3, tmps3, assign3, body3, hy, hR⟩ := hY ((([] ++ [(0, b4)]) ++ [(1, b4)]) ++ [(2, b4)]) (3, b4) W7 hJ7 HC7.out (by simp)
  simp only [encS] at hy
  rw [hy, Oper.uponIn_round]
  refine ⟨(fun h => by cases h), ?_⟩
  refine hR.mono ?_
  clear hy hR
  rintro e W8 (⟨rfl, hJ8, hk8⟩ | ⟨rfl, hJx2⟩)
  rotate_left
  · gi_wp2
    go_end0
    exact ⟨⟨_, rfl⟩, .inr ⟨_, by simp [stepsOf], hJx2⟩⟩
  gi_wp2
  go_end0
  exact ⟨⟨_, rfl⟩, .inl ⟨_, by simp [stepsOf], hJ8⟩⟩
end Go.Proofs.YtpdelgjfamelfaaGreat
