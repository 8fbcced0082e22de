/- Exports and types as arguments: no row of parts is longer than a machine's. -/
import Derived.Test.YtbhicpjhijondaaDoorRowT
import Derived.Test.YtbhicpjhijondaaDoorX13
namespace Go.Proofs.YtbhicpjhijondaaDoor
open Go.ChangeShapes Go.WideShapes Go.ChangeAt Go.RowKit Go.Par Go.Lib Go.Shelf Go.Deep Go.Typ
set_option linter.unusedVariables false
set_option linter.unusedSimpArgs false

theorem RowOk.mk {k n : Int} {s : ByteArray} {ts : List Ty} (hl : ts.length ≤ 2513169434843) (h : ∀ t ∈ ts, RowOk t) : RowOk (.mk k n s ts) := by
  intro x hx
  rw [Ty.list_eq] at hx
  rcases List.mem_cons.1 hx with rfl | hx
  · exact hl
  · have key : ∀ ts : List Ty, (∀ t ∈ ts, RowOk t) → ∀ x ∈ listL ts, x.args.length ≤ 2513169434843 := by
      intro ts
      induction ts with
      | nil => intro _ x hx; simp [listL] at hx
      | cons t ts ih =>
        intro h x hx
        rw [listL] at hx
        rcases List.mem_append.1 hx with hx | hx
        · exact h t (by simp) x hx
        · exact ih (fun y hy => h y (by simp [hy])) x hx
    exact key ts h x hx
theorem weightsAll_mem {H : Type} {P : Program} {e : TypeId} : ∀ {ds : List (DataW H)} {d : DataW H}, d ∈ ds → ∀ k ∈ d.weights P e, k ∈ DataW.weightsAll P e ds
  | [], d, h, k, hk => by simp at h
  | x :: ds, d, h, k, hk => by
    rw [DataW.weightsAll]
    rcases List.mem_cons.1 h with rfl | h
    · exact List.mem_append_left _ hk
    · exact List.mem_append_right _ (weightsAll_mem h k hk)
set_option maxRecDepth 20000 in
theorem slice_weights {H : Type} {y : DataW H × List MemPlace} {elems rest : List (DataW H × List MemPlace)} {ps : List MemPlace} {len : Nat} (hw : ∀ k ∈ y.1.weights Tryd.prog 22, k ≤ reachBytes) (hx : y = (.slice (elems.map (·.1)) (rest.map (·.1)), ps)) (hel : elems.length = len) :
    len * 56 ≤ reachBytes ∧ ∀ e ∈ elems, ∀ k ∈ e.1.weights Tryd.prog 24, k ≤ reachBytes := by
  subst hx
  have hu := Tryd.underlying22
  have hb : Tryd.prog.bytesOf 24 = 56 := by kernel_rfl
  have hw : ∀ k ∈ (DataW.slice (elems.map (·.1)) (rest.map (·.1))).weights Tryd.prog 22, k ≤ reachBytes := hw
  unfold DataW.weights at hw
  rw [hu] at hw
  simp only at hw
  rw [hb] at hw
  refine ⟨?_, fun e he k hk => hw k (List.mem_cons_of_mem _ (List.mem_append_left _ (weightsAll_mem (List.mem_map_of_mem he) k hk)))⟩
  have := hw _ List.mem_cons_self
  simp only [List.length_map] at this
  have h2 : len * 56 ≤ (elems.length + rest.length) * 56 := Nat.mul_le_mul_right _ (by omega)
  omega
set_option maxRecDepth 20000 in
/-- a type out of its cells. -/
theorem ty_ofR {H : Type} {enc : TypeId × Value → H} {W : World} : ∀ (m : Nat) {cs : List Value} {x : DataW H × List MemPlace}, DataW.trod enc Tryd.prog W 0 (fun _ => true) true m 24 cs = some x → (∀ k ∈ x.1.weights Tryd.prog 24, k ≤ reachBytes) →
    ∃ (T : Ty) (A : Option Addr) (c : Nat), cs = [.int .i64 T.kind, .int .i64 T.num, .string T.name, .slice A T.args.length c] ∧ TyAt (· < W.heap.size) W (tyV T.kind T.num T.name A T.args.length c) T ∧ RowOk T := by
  intro m
  induction m using Nat.strongRecOn with
  | _ m ih =>
    intro cs x h hwt
    obtain ⟨fs, hu, hfs⟩ := ty_fields
    obtain ⟨xs, m1, rfl, rfl, hlen, hxl, hf⟩ := DataW.trod_struct hu h
    have hwf : ∀ k ∈ (DataW.agg (xs.map (·.1))).weights Tryd.prog 24, k ≤ reachBytes := hwt
    have hty : (fs.toList.map (·.type)) = [3, 3, 9, 22] := by
      have := congrArg (List.map Prod.fst) hfs
      rw [List.map_map] at this
      exact this
    have hwe : ∀ k ∈ DataW.weightsEach Tryd.prog [3, 3, 9, 22] (xs.map (·.1)), k ≤ reachBytes := fun k hk => hwf k (by unfold DataW.weights; rw [hu]; simp only; rw [hty]; exact hk)
    clear hwf hwt
    have hC : Tryd.prog.cellsOf 24 = 4 := by kernel_rfl
    have hi1 : Tryd.prog.cellsOf 3 = 1 := by kernel_rfl
    have hs1 : Tryd.prog.cellsOf 9 = 1 := by kernel_rfl
    have ht1 : Tryd.prog.cellsOf 22 = 1 := by kernel_rfl
    rw [hC] at hlen
    have hfl : fs.size = 4 := by have := congrArg List.length hfs; simpa using this
    rw [hfl] at hxl
    obtain ⟨c0, c1, c2, c3, rfl⟩ := list4 hlen
    obtain ⟨y0, y1, y2, y3, rfl⟩ := list4 hxl
    have get : ∀ (j t : Nat), [((3 : Nat), (0 : Nat)), (3, 1), (9, 2), (22, 3)][j]? = some (t, j) → Tryd.prog.cellsOf t = 1 → DataW.trod enc Tryd.prog W 0 (fun _ => true) true m1 t (([c0, c1, c2, c3].drop j).take 1) = [y0, y1, y2, y3][j]? := by
      intro j t hj ht
      obtain ⟨f, hfj, hty, hof⟩ := field_of hfs j t j hj
      have := hf j f hfj
      rw [hty, hof, ht] at this
      exact this
    obtain ⟨n0, e0, _, w0⟩ := DataW.trod_int Tryd.underlying3 (get 0 3 rfl hi1)
    obtain ⟨n1, e1, _, w1⟩ := DataW.trod_int Tryd.underlying3 (get 1 3 rfl hi1)
    obtain ⟨s2, e2, _, w2⟩ := DataW.trod_string Tryd.underlying9 (get 2 9 rfl hs1)
    have h3 := get 3 22 rfl ht1
    have hw3 : ∀ k ∈ y3.1.weights Tryd.prog 22, k ≤ reachBytes := fun k hk => hwe k (DataW.weights_mem_each (j := 3) (t := 22) (d := y3.1) rfl rfl k hk)
    simp at e0 e1 e2
    subst e0 e1 e2
    have hn : s2.size ≤ 9223372036854775807 := by simpa [maxLen] using w2
    rcases DataW.trod_slice Tryd.underlying22 h3 with ⟨hcs, _⟩ | ⟨a, len, cap, elems, rest, n, hm1, hcs, hx, hb, hl, hcm, hel, hi, _⟩
    · simp at hcs
      subst hcs
      exact ⟨.mk n0 n1 s2 [], none, 0, rfl, TyAt.leaf _ W n0 n1 s2 none 0 (by simp [maxLen]) hn, RowOk.of_parts (by show 1 + 0 ≤ _; omega)⟩
    · simp at hcs
      subst hcs
      rw [hC] at hi
      have hww : len * 56 ≤ reachBytes ∧ ∀ e ∈ elems, ∀ k ∈ e.1.weights Tryd.prog 24, k ≤ reachBytes := slice_weights hw3 hx hel
      have hT : ∀ i : Fin len, ∃ q : Ty × Option Addr × Nat, W.cells? 0 (a.add (i.val * 4)) 4 = some [.int .i64 q.1.kind, .int .i64 q.1.num, .string q.1.name, .slice q.2.1 q.1.args.length q.2.2] ∧
          TyAt (· < W.heap.size) W (tyV q.1.kind q.1.num q.1.name q.2.1 q.1.args.length q.2.2) q.1 ∧ RowOk q.1 := by
        intro ⟨i, hil⟩
        have hi := hi i hil
        rw [List.getElem?_eq_getElem (by omega), Option.bind_eq_some_iff] at hi
        obtain ⟨cs', hc, ht⟩ := hi
        obtain ⟨T, A, c, rfl, hT, hR⟩ := ih n (by omega) ht (hww.2 _ (List.getElem_mem _))
        exact ⟨(T, A, c), hc, hT, hR⟩
      obtain ⟨f, hf⟩ := Classical.axiomOfChoice hT
      refine ⟨.mk n0 n1 s2 (List.ofFn fun i => (f i).1), some a, cap, by simp [Ty.kind, Ty.num, Ty.name, Ty.args], ?_, ?_⟩
      rotate_left
      · exact RowOk.mk (by rw [List.length_ofFn]; have := hww.1; simp only [reachBytes] at this; omega) fun t ht => by
          obtain ⟨i, hi, rfl⟩ := List.getElem_of_mem ht
          rw [List.getElem_ofFn]
          exact (hf _).2.2
      simp only [Ty.kind, Ty.num, Ty.name, Ty.args]
      have hcell : ∀ i (h : i < len) j, j < 4 → W.cell? (a.add (i * 4 + j)) = [Value.int .i64 (f ⟨i, h⟩).1.kind, .int .i64 (f ⟨i, h⟩).1.num, .string (f ⟨i, h⟩).1.name, .slice (f ⟨i, h⟩).2.1 (f ⟨i, h⟩).1.args.length (f ⟨i, h⟩).2.2][j]? := by
        intro i h j hj
        obtain ⟨_, _, hat⟩ := World.cells?_some (hf ⟨i, h⟩).1
        rw [← Go.Deep.add_add]
        exact hat j hj
      refine TyAt.mk n0 n1 s2 _ (some a) cap (fun i => if h : i < len then tyV (f ⟨i, h⟩).1.kind (f ⟨i, h⟩).1.num (f ⟨i, h⟩).1.name (f ⟨i, h⟩).2.1 (f ⟨i, h⟩).1.args.length (f ⟨i, h⟩).2.2 else .bool false) (by simpa using hl) hcm hn ?_ ?_
      · intro h0
        rw [List.length_ofFn] at h0 ⊢
        have hc0 := hcell 0 h0 0 (by omega)
        obtain ⟨b, off, spot⟩ := a
        have hspot : spot = none := by simpa [Addr.add] using World.cell?_spot hc0
        subst hspot
        refine ⟨b, off, rfl, ?_, fun i hi j hj => ?_⟩
        · have := World.block_lt_of_cell? _ _ hc0
          rw [add_addr] at this
          exact this
        · have h := hcell i hi j hj
          rw [add_addr, ← Nat.add_assoc] at h
          rw [h, dif_pos hi]
          rcases j with _ | _ | _ | _ | j
          · rfl
          · rfl
          · rfl
          · rfl
          · omega
      · intro i hi
        simp only [List.length_ofFn] at hi
        rw [dif_pos hi, List.getElem_ofFn]
        exact (hf ⟨i, hi⟩).2.1
set_option maxRecDepth 20000 in
theorem tyR_of_trod {H : Type} {enc : TypeId × Value → H} {W : World} {base : Nat} {v : Value} {d : DataW H} {p : List MemPlace} (hval : Value.okWide Tryd.prog W .any base 24 v)
    (h : DataW.Trod enc Tryd.prog W 0 (fun _ => true) true 24 v d p) (hw : ∀ k ∈ d.weights Tryd.prog 24, k ≤ reachBytes) : ∃ T : Ty, TyAt (· < W.heap.size) W v T ∧ RowOk T := by
  obtain ⟨fs, hu, hfs⟩ := ty_fields
  obtain ⟨cs, rfl, hcs⟩ := okWide_struct hu hval
  obtain ⟨m, hm⟩ := h
  obtain ⟨T, A, c, e, hT, hR⟩ := ty_ofR m hm hw
  refine ⟨T, ?_, hR⟩
  have hcs : cs = #[.int .i64 T.kind, .int .i64 T.num, .string T.name, .slice A T.args.length c] := by
    apply Array.toList_inj.mp
    simpa [Value.cells] using e
  rw [hcs]
  exact hT
theorem ex_fields : ∃ fs : Array Field, Tryd.prog.underlying 46 = some (.struct fs) ∧ fs.toList.map (fun f => (f.type, f.offset)) = [(9, 0), (24, 1)] := by
  have h : (Tryd.prog.underlying 46).map (fun d => match d with | .struct fs => fs.toList.map (fun f => (f.type, f.offset)) | _ => []) = some [(9, 0), (24, 1)] := by kernel_rfl
  cases hu : Tryd.prog.underlying 46 with
  | none => rw [hu] at h; cases h
  | some d =>
    rw [hu] at h
    cases d <;> simp at h
    exact ⟨_, rfl, h⟩
set_option maxRecDepth 20000 in
/-- an export out of its cells. -/
theorem ex_of {H : Type} {enc : TypeId × Value → H} {W : World} {m : Nat} {cs : List Value} {x : DataW H × List MemPlace} (h : DataW.trod enc Tryd.prog W 0 (fun _ => true) true m 46 cs = some x) (hwt : ∀ k ∈ x.1.weights Tryd.prog 46, k ≤ reachBytes) :
    ∃ (X : Ex) (A : Option Addr) (c : Nat), cs = [.string X.name, .int .i64 X.ty.kind, .int .i64 X.ty.num, .string X.ty.name, .slice A X.ty.args.length c] ∧ ExAt (· < W.heap.size) W (exV X A c) X ∧ RowOk X.ty := by
  obtain ⟨fs, hu, hfs⟩ := ex_fields
  obtain ⟨xs, m1, rfl, rfl, hlen, hxl, hf⟩ := DataW.trod_struct hu h
  have hty : (fs.toList.map (·.type)) = [9, 24] := by
    have := congrArg (List.map Prod.fst) hfs
    rw [List.map_map] at this
    exact this
  have hwe : ∀ k ∈ DataW.weightsEach Tryd.prog [9, 24] (xs.map (·.1)), k ≤ reachBytes := fun k hk => hwt k (by
    show k ∈ (DataW.agg (xs.map (·.1))).weights Tryd.prog 46
    unfold DataW.weights; rw [hu]; simp only; rw [hty]; exact hk)
  have hC : Tryd.prog.cellsOf 46 = 5 := by kernel_rfl
  have hC4 : Tryd.prog.cellsOf 24 = 4 := by kernel_rfl
  have hs1 : Tryd.prog.cellsOf 9 = 1 := by kernel_rfl
  rw [hC] at hlen
  have hfl : fs.size = 2 := by have := congrArg List.length hfs; simpa using this
  rw [hfl] at hxl
  obtain ⟨y0, y1, rfl⟩ : ∃ a b, xs = [a, b] := by
    rcases xs with _ | ⟨a, _ | ⟨b, _ | ⟨c, l⟩⟩⟩
    · simp at hxl
    · simp at hxl
    · exact ⟨a, b, rfl⟩
    · simp at hxl
  obtain ⟨c0, ds, rfl⟩ : ∃ a l, cs = a :: l := by
    cases cs with
    | nil => simp at hlen
    | cons a l => exact ⟨a, l, rfl⟩
  have hdl : ds.length = 4 := by simpa using hlen
  obtain ⟨f0, hf0, ht0, ho0⟩ := field_of hfs 0 9 0 rfl
  obtain ⟨f1, hf1, ht1, ho1⟩ := field_of hfs 1 24 1 rfl
  have g0 := hf 0 f0 hf0
  have g1 := hf 1 f1 hf1
  rw [ht0, ho0, hs1] at g0
  rw [ht1, ho1, hC4] at g1
  obtain ⟨s0, e0, _, w0⟩ := DataW.trod_string Tryd.underlying9 g0
  have hd : ((c0 :: ds).drop 1).take 4 = ds := by simp [← hdl]
  rw [hd] at g1
  obtain ⟨T, A, c, rfl, hT, hR⟩ := ty_ofR m1 g1 (fun k hk => hwe k (DataW.weights_mem_each (j := 1) (t := 24) (d := y1.1) rfl rfl k hk))
  simp at e0
  subst e0
  have hn : s0.size ≤ 9223372036854775807 := by simpa [maxLen] using w0
  exact ⟨⟨s0, T⟩, A, c, rfl, ⟨A, c, rfl, hn, hT⟩, hR⟩
set_option maxRecDepth 20000 in
theorem exp_of_trod {H : Type} {enc : TypeId × Value → H} {W : World} {base : Nat} {v : Value} {d : DataW H} {p : List MemPlace} (hval : Value.okWide Tryd.prog W .any base 46 v)
    (h : DataW.Trod enc Tryd.prog W 0 (fun _ => true) true 46 v d p) (hw : ∀ k ∈ d.weights Tryd.prog 46, k ≤ reachBytes) : ∃ X : Ex, ExAt (· < W.heap.size) W v X ∧ RowOk X.ty := by
  obtain ⟨fs, hu, hfs⟩ := ex_fields
  obtain ⟨cs, rfl, hcs⟩ := okWide_struct hu hval
  obtain ⟨m, hm⟩ := h
  obtain ⟨X, A, c, e, hX, hR⟩ := ex_of hm hw
  refine ⟨X, ?_, hR⟩
  have hcs : cs = #[.string X.name, .int .i64 X.ty.kind, .int .i64 X.ty.num, .string X.ty.name, .slice A X.ty.args.length c] := by
    apply Array.toList_inj.mp
    simpa [Value.cells] using e
  rw [hcs]
  exact hX
set_option maxRecDepth 20000 in
theorem exps_of_trod {H : Type} {enc : TypeId × Value → H} {W : World} {base : Nat} {v : Value} {d : DataW H} {p : List MemPlace} (hval : Value.okWide Tryd.prog W .any base 42 v)
    (h : DataW.Trod enc Tryd.prog W 0 (fun _ => true) true 42 v d p) (hw : ∀ k ∈ d.weights Tryd.prog 42, k ≤ reachBytes) : ∃ xs : List Ex, ExsAt (· < W.heap.size) W v xs ∧ ∀ x ∈ xs, RowOk x.ty := by
  have hC : Tryd.prog.cellsOf 46 = 5 := by kernel_rfl
  obtain ⟨m, h3⟩ := h
  obtain ⟨a0, n0, cc, rfl⟩ := okWide_slice Tryd.underlying42 hval
  have h3 : DataW.trod enc Tryd.prog W 0 (fun _ => true) true m 42 [.slice a0 n0 cc] = some (d, p) := h3
  rcases DataW.trod_slice Tryd.underlying42 h3 with ⟨hcs, _⟩ | ⟨a, len, cap, elems, rest, n, hm1, hcs, hx, hb, hl, hcm, hel, hi, _⟩
  · simp at hcs
    obtain ⟨rfl, rfl, rfl⟩ := hcs
    exact ⟨[], ExsAt.nil _ _ _ _ (by simp [maxLen]), fun x hx => by simp at hx⟩
  · simp at hcs
    obtain ⟨rfl, rfl, rfl⟩ := hcs
    rw [hC] at hi
    have hwe : ∀ e ∈ elems, ∀ k ∈ e.1.weights Tryd.prog 46, k ≤ reachBytes := fun e he k hk => hw k (by
      have hd := congrArg Prod.fst hx
      simp only at hd
      rw [hd]
      unfold DataW.weights
      rw [Tryd.underlying42]
      exact List.mem_cons_of_mem _ (List.mem_append_left _ (weightsAll_mem (List.mem_map_of_mem he) k hk)))
    have hT : ∀ i : Fin n0, ∃ q : Ex × Option Addr × Nat, W.cells? 0 (a.add (i.val * 5)) 5 = some [.string q.1.name, .int .i64 q.1.ty.kind, .int .i64 q.1.ty.num, .string q.1.ty.name, .slice q.2.1 q.1.ty.args.length q.2.2] ∧
        ExAt (· < W.heap.size) W (exV q.1 q.2.1 q.2.2) q.1 ∧ RowOk q.1.ty := by
      intro ⟨i, hil⟩
      have hi := hi i hil
      rw [List.getElem?_eq_getElem (by omega), Option.bind_eq_some_iff] at hi
      obtain ⟨cs', hc, ht⟩ := hi
      obtain ⟨X, A, c, rfl, hX, hR⟩ := ex_of ht (hwe _ (List.getElem_mem _))
      exact ⟨(X, A, c), hc, hX, hR⟩
    obtain ⟨f, hf⟩ := Classical.axiomOfChoice hT
    have hcell : ∀ i (h : i < n0) j, j < 5 → W.cell? (a.add (i * 5 + j)) = [Value.string (f ⟨i, h⟩).1.name, .int .i64 (f ⟨i, h⟩).1.ty.kind, .int .i64 (f ⟨i, h⟩).1.ty.num, .string (f ⟨i, h⟩).1.ty.name, .slice (f ⟨i, h⟩).2.1 (f ⟨i, h⟩).1.ty.args.length (f ⟨i, h⟩).2.2][j]? := by
      intro i h j hj
      obtain ⟨_, _, hat⟩ := World.cells?_some (hf ⟨i, h⟩).1
      rw [← Go.Deep.add_add]
      exact hat j hj
    obtain ⟨vs, hvs⟩ : ∃ vs : Nat → Value, ∀ i (h : i < n0), vs i = exV (f ⟨i, h⟩).1 (f ⟨i, h⟩).2.1 (f ⟨i, h⟩).2.2 := ⟨fun i => if h : i < n0 then exV (f ⟨i, h⟩).1 (f ⟨i, h⟩).2.1 (f ⟨i, h⟩).2.2 else .bool false, fun i h => dif_pos h⟩
    refine ⟨List.ofFn fun i => (f i).1, ⟨some a, cc, by simp, by simpa using hl, hcm, vs, ?_, ?_⟩, ?_⟩
    · intro h0
      rw [List.length_ofFn] at h0 ⊢
      have hc0 := hcell 0 h0 0 (by omega)
      obtain ⟨b, off, spot⟩ := a
      have hspot : spot = none := by simpa [Addr.add] using World.cell?_spot hc0
      subst hspot
      refine ⟨b, off, rfl, ?_, fun i hi j hj => ?_⟩
      · have := World.block_lt_of_cell? _ _ hc0
        rw [add_addr] at this
        exact this
      · have h := hcell i hi j hj
        rw [add_addr, ← Nat.add_assoc] at h
        rw [h, hvs i hi]
        rcases j with _ | _ | _ | _ | _ | j
        · rfl
        · rfl
        · rfl
        · rfl
        · rfl
        · omega
    · intro i hi
      simp only [List.length_ofFn] at hi
      rw [hvs i hi, List.getElem_ofFn]
      exact (hf ⟨i, hi⟩).2.1
    · intro x hx
      obtain ⟨i, hi, rfl⟩ := List.getElem_of_mem hx
      rw [List.getElem_ofFn]
      exact (hf _).2.2
end Go.Proofs.YtbhicpjhijondaaDoor
