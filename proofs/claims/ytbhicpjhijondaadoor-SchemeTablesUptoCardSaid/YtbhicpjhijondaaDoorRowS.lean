/- Exports and types as arguments of a row of the second form: the bulk bounds their parts and names. -/
import Derived.Test.YtbhicpjhijondaaDoorRowX
import Derived.Test.YtbhicpjhijondaaDoorY2
import Derived.Deep.DeepHandedRow
namespace Go
/-- an input that fits, over a world whose shape is known. -/
theorem witnessZ {H : Type} {enc : TypeId × Value → H} {C : Checked} {os : Os} {f : FuncId} {fn : Func} {s : OpenSpec} {conds : List PathCond} {apart : Bool} {laid : List (String × DataW Unit)} (w0 : World) (args : Array Value) (hos : w0.os = os)
    (hsh : (w0.forCall (fun _ _ => 0) ⟨#[], args, []⟩).Shaped C.prog)
    (hok : Input.okWideB C.prog (w0.forCall (fun _ _ => 0) ⟨#[], args, []⟩) f ⟨#[], args, []⟩ = true)
    (hrow : s.preRow enc C.prog fn conds apart laid (w0.forCall (fun _ _ => 0) ⟨#[], args, []⟩).memory args) :
    ∃ (w : World) (tape : Tape) (i : Input), w.os = os ∧ (w.forCall tape i).Shaped C.prog ∧ i.vars = [] ∧ Input.okWide C.prog (w.forCall tape i) .any w.heap.size f i ∧
      s.preRow enc C.prog fn conds apart laid (w.forCall tape i).memory i.args ∧ ({} : Assume).holds C.prog (lone (Frame.enter C.prog f i.args .normal) [] (w.forCall tape i)) :=
  ⟨w0, fun _ _ => 0, ⟨#[], args, []⟩, hos, hsh, (Input.okWide_of_okWideB (base := 0) hok).1, (Input.okWide_of_okWideB hok).2, hrow, by
    simp only [Assume.holds]
    exact ⟨by simp, by simp, fun _ => Modest.zero, by simp, by simp⟩⟩
end Go
namespace Go.Proofs.YtbhicpjhijondaaDoor
open Go.ChangeShapes Go.WideShapes Go.ChangeAt Go.RowKit Go.Par Go.Lib Go.Shelf Go.Deep Go.Typ
set_option linter.unusedVariables false
set_option linter.unusedSimpArgs false

theorem bulk_part {H : Type} {d : DataW H} {l : List (DataW H)} (h : d ∈ l) : Rows.uptoBulk d ≤ Rows.uptoBulkAll l := by
  induction l with
  | nil => simp at h
  | cons x l ih =>
    rw [Rows.uptoBulkAll]
    rcases List.mem_cons.1 h with rfl | h
    · omega
    · have := ih h; omega
theorem partsL_bulk {H : Type} : ∀ {ts : List Ty} {ds : List (DataW H)}, ts.length = ds.length → (∀ i (h1 : i < ts.length) (h2 : i < ds.length), ts[i].parts ≤ Rows.uptoBulk ds[i]) → partsL ts ≤ Rows.uptoBulkAll ds
  | [], ds, _, _ => by rw [partsL]; exact Nat.zero_le _
  | t :: ts, [], h, _ => by simp at h
  | t :: ts, d :: ds, h, hp => by
    rw [partsL, Rows.uptoBulkAll]
    have h0 := hp 0 (by simp) (by simp)
    have h1 := partsL_bulk (ts := ts) (ds := ds) (by simpa using h) fun i h1 h2 => by
      have := hp (i + 1) (by simpa using h1) (by simpa using h2)
      simpa using this
    simp only [List.getElem_cons_zero] at h0
    omega
set_option maxRecDepth 20000 in
/-- a type out of its cells. -/
theorem ty_ofU {H : Type} {enc : TypeId × Value → H} {W : World} {N : Nat} : ∀ (m : Nat) {cs : List Value} {x : DataW H × List MemPlace}, DataW.trod enc Tryd.prog W 0 (fun _ => true) true m 24 cs = some x → Rows.uptoBulk x.1 ≤ N →
    ∃ (T : Ty) (A : Option Addr) (c : Nat), cs = [.int .i64 T.kind, .int .i64 T.num, .string T.name, .slice A T.args.length c] ∧ TyAt (· < W.heap.size) W (tyV T.kind T.num T.name A T.args.length c) T ∧ T.parts ≤ Rows.uptoBulk x.1 ∧ NmB N T := by
  intro m
  induction m using Nat.strongRecOn with
  | _ m ih =>
    intro cs x h hwt
    obtain ⟨fs, hu, hfs⟩ := ty_fields
    obtain ⟨xs, m1, rfl, rfl, hlen, hxl, hf⟩ := DataW.trod_struct hu h
    have hC : Tryd.prog.cellsOf 24 = 4 := by kernel_rfl
    have hi1 : Tryd.prog.cellsOf 3 = 1 := by kernel_rfl
    have hs1 : Tryd.prog.cellsOf 9 = 1 := by kernel_rfl
    have ht1 : Tryd.prog.cellsOf 22 = 1 := by kernel_rfl
    rw [hC] at hlen
    have hfl : fs.size = 4 := by have := congrArg List.length hfs; simpa using this
    rw [hfl] at hxl
    obtain ⟨c0, c1, c2, c3, rfl⟩ := list4 hlen
    obtain ⟨y0, y1, y2, y3, rfl⟩ := list4 hxl
    have get : ∀ (j t : Nat), [((3 : Nat), (0 : Nat)), (3, 1), (9, 2), (22, 3)][j]? = some (t, j) → Tryd.prog.cellsOf t = 1 → DataW.trod enc Tryd.prog W 0 (fun _ => true) true m1 t (([c0, c1, c2, c3].drop j).take 1) = [y0, y1, y2, y3][j]? := by
      intro j t hj ht
      obtain ⟨f, hfj, hty, hof⟩ := field_of hfs j t j hj
      have := hf j f hfj
      rw [hty, hof, ht] at this
      exact this
    obtain ⟨n0, e0, q0, w0⟩ := DataW.trod_int Tryd.underlying3 (get 0 3 rfl hi1)
    obtain ⟨n1, e1, q1, w1⟩ := DataW.trod_int Tryd.underlying3 (get 1 3 rfl hi1)
    obtain ⟨s2, e2, q2, w2⟩ := DataW.trod_string Tryd.underlying9 (get 2 9 rfl hs1)
    have h3 := get 3 22 rfl ht1
    have hbk : s2.size + Rows.uptoBulk y3.1 + 4 ≤ Rows.uptoBulk (DataW.agg ([y0, y1, y2, y3].map (·.1))) := by
      subst q0 q1 q2
      have : s2.size = s2.data.toList.length := by rw [Array.length_toList]; rfl
      simp only [List.map_cons, List.map_nil, Rows.uptoBulk, Rows.uptoBulkAll]
      omega
    have hwt : Rows.uptoBulk (DataW.agg ([y0, y1, y2, y3].map (·.1))) ≤ N := hwt
    simp at e0 e1 e2
    subst e0 e1 e2
    have hn : s2.size ≤ 9223372036854775807 := by simpa [maxLen] using w2
    rcases DataW.trod_slice Tryd.underlying22 h3 with ⟨hcs, _⟩ | ⟨a, len, cap, elems, rest, n, hm1, hcs, hx, hb, hl, hcm, hel, hi, _⟩
    · simp at hcs
      subst hcs
      exact ⟨.mk n0 n1 s2 [], none, 0, rfl, TyAt.leaf _ W n0 n1 s2 none 0 (by simp [maxLen]) hn, by show 1 + 0 ≤ Rows.uptoBulk (DataW.agg ([y0, y1, y2, y3].map (·.1))); omega, NmB.mk (by omega) fun t ht => by simp at ht⟩
    · simp at hcs
      subst hcs
      rw [hC] at hi
      have hall : Rows.uptoBulkAll (elems.map (·.1)) + 1 ≤ Rows.uptoBulk y3.1 := by
        have hx' := congrArg Prod.fst hx
        simp only at hx'
        rw [hx', Rows.uptoBulk]; omega
      have hT : ∀ i : Fin len, ∃ q : Ty × Option Addr × Nat, W.cells? 0 (a.add (i.val * 4)) 4 = some [.int .i64 q.1.kind, .int .i64 q.1.num, .string q.1.name, .slice q.2.1 q.1.args.length q.2.2] ∧
          TyAt (· < W.heap.size) W (tyV q.1.kind q.1.num q.1.name q.2.1 q.1.args.length q.2.2) q.1 ∧ q.1.parts ≤ Rows.uptoBulk (elems[i.val]'(by rw [hel]; exact i.isLt)).1 ∧ NmB N q.1 := by
        intro ⟨i, hil⟩
        have hi := hi i hil
        rw [List.getElem?_eq_getElem (by omega), Option.bind_eq_some_iff] at hi
        obtain ⟨cs', hc, ht⟩ := hi
        obtain ⟨T, A, c, rfl, hT, hR⟩ := ih n (by omega) ht (by have := bulk_part (d := (elems[i]'(by omega)).1) (List.mem_map_of_mem (f := fun e : DataW H × List MemPlace => e.1) (List.getElem_mem (l := elems) (n := i) (by omega))); omega)
        exact ⟨(T, A, c), hc, hT, hR⟩
      obtain ⟨f, hf⟩ := Classical.axiomOfChoice hT
      refine ⟨.mk n0 n1 s2 (List.ofFn fun i => (f i).1), some a, cap, by simp [Ty.kind, Ty.num, Ty.name, Ty.args], ?_, ?_⟩
      rotate_left
      · refine ⟨?_, NmB.mk (by omega) fun t ht => by
          obtain ⟨i, hi, rfl⟩ := List.getElem_of_mem ht
          rw [List.getElem_ofFn]
          exact (hf _).2.2.2⟩
        have h1 := partsL_bulk (ts := List.ofFn fun i => (f i).1) (ds := elems.map (·.1)) (by simp [hel]) (fun i h1 h2 => by
          rw [List.getElem_ofFn, List.getElem_map]
          exact (hf _).2.2.1)
        show 1 + partsL _ ≤ Rows.uptoBulk (DataW.agg ([y0, y1, y2, y3].map (·.1)))
        omega
      simp only [Ty.kind, Ty.num, Ty.name, Ty.args]
      have hcell : ∀ i (h : i < len) j, j < 4 → W.cell? (a.add (i * 4 + j)) = [Value.int .i64 (f ⟨i, h⟩).1.kind, .int .i64 (f ⟨i, h⟩).1.num, .string (f ⟨i, h⟩).1.name, .slice (f ⟨i, h⟩).2.1 (f ⟨i, h⟩).1.args.length (f ⟨i, h⟩).2.2][j]? := by
        intro i h j hj
        obtain ⟨_, _, hat⟩ := World.cells?_some (hf ⟨i, h⟩).1
        rw [← Go.Deep.add_add]
        exact hat j hj
      refine TyAt.mk n0 n1 s2 _ (some a) cap (fun i => if h : i < len then tyV (f ⟨i, h⟩).1.kind (f ⟨i, h⟩).1.num (f ⟨i, h⟩).1.name (f ⟨i, h⟩).2.1 (f ⟨i, h⟩).1.args.length (f ⟨i, h⟩).2.2 else .bool false) (by simpa using hl) hcm hn ?_ ?_
      · intro h0
        rw [List.length_ofFn] at h0 ⊢
        have hc0 := hcell 0 h0 0 (by omega)
        obtain ⟨b, off, spot⟩ := a
        have hspot : spot = none := by simpa [Addr.add] using World.cell?_spot hc0
        subst hspot
        refine ⟨b, off, rfl, ?_, fun i hi j hj => ?_⟩
        · have := World.block_lt_of_cell? _ _ hc0
          rw [add_addr] at this
          exact this
        · have h := hcell i hi j hj
          rw [add_addr, ← Nat.add_assoc] at h
          rw [h, dif_pos hi]
          rcases j with _ | _ | _ | _ | j
          · rfl
          · rfl
          · rfl
          · rfl
          · omega
      · intro i hi
        simp only [List.length_ofFn] at hi
        rw [dif_pos hi, List.getElem_ofFn]
        exact (hf ⟨i, hi⟩).2.1
set_option maxRecDepth 20000 in
theorem tyU_of_trod {H : Type} {enc : TypeId × Value → H} {W : World} {base N : Nat} {v : Value} {d : DataW H} {p : List MemPlace} (hval : Value.okWide Tryd.prog W .any base 24 v)
    (h : DataW.Trod enc Tryd.prog W 0 (fun _ => true) true 24 v d p) (hw : Rows.uptoBulk d ≤ N) : ∃ T : Ty, TyAt (· < W.heap.size) W v T ∧ T.parts ≤ N ∧ NmB N T := by
  obtain ⟨fs, hu, hfs⟩ := ty_fields
  obtain ⟨cs, rfl, hcs⟩ := okWide_struct hu hval
  obtain ⟨m, hm⟩ := h
  obtain ⟨T, A, c, e, hT, hp, hR⟩ := ty_ofU m (N := N) hm hw
  refine ⟨T, ?_, Nat.le_trans hp hw, hR⟩
  have hcs : cs = #[.int .i64 T.kind, .int .i64 T.num, .string T.name, .slice A T.args.length c] := by
    apply Array.toList_inj.mp
    simpa [Value.cells] using e
  rw [hcs]
  exact hT
set_option maxRecDepth 20000 in
/-- an export out of its cells. -/
theorem ex_ofU {H : Type} {enc : TypeId × Value → H} {W : World} {N m : Nat} {cs : List Value} {x : DataW H × List MemPlace} (h : DataW.trod enc Tryd.prog W 0 (fun _ => true) true m 46 cs = some x) (hwt : Rows.uptoBulk x.1 ≤ N) :
    ∃ (X : Ex) (A : Option Addr) (c : Nat), cs = [.string X.name, .int .i64 X.ty.kind, .int .i64 X.ty.num, .string X.ty.name, .slice A X.ty.args.length c] ∧ ExAt (· < W.heap.size) W (exV X A c) X ∧ X.ty.parts ≤ N ∧ NmB N X.ty ∧ X.name.size ≤ N := by
  obtain ⟨fs, hu, hfs⟩ := ex_fields
  obtain ⟨xs, m1, rfl, rfl, hlen, hxl, hf⟩ := DataW.trod_struct hu h
  have hC : Tryd.prog.cellsOf 46 = 5 := by kernel_rfl
  have hC4 : Tryd.prog.cellsOf 24 = 4 := by kernel_rfl
  have hs1 : Tryd.prog.cellsOf 9 = 1 := by kernel_rfl
  rw [hC] at hlen
  have hfl : fs.size = 2 := by have := congrArg List.length hfs; simpa using this
  rw [hfl] at hxl
  obtain ⟨y0, y1, rfl⟩ : ∃ a b, xs = [a, b] := by
    rcases xs with _ | ⟨a, _ | ⟨b, _ | ⟨c, l⟩⟩⟩
    · simp at hxl
    · simp at hxl
    · exact ⟨a, b, rfl⟩
    · simp at hxl
  obtain ⟨c0, ds, rfl⟩ : ∃ a l, cs = a :: l := by
    cases cs with
    | nil => simp at hlen
    | cons a l => exact ⟨a, l, rfl⟩
  have hdl : ds.length = 4 := by simpa using hlen
  obtain ⟨f0, hf0, ht0, ho0⟩ := field_of hfs 0 9 0 rfl
  obtain ⟨f1, hf1, ht1, ho1⟩ := field_of hfs 1 24 1 rfl
  have g0 := hf 0 f0 hf0
  have g1 := hf 1 f1 hf1
  rw [ht0, ho0, hs1] at g0
  rw [ht1, ho1, hC4] at g1
  obtain ⟨s0, e0, q0, w0⟩ := DataW.trod_string Tryd.underlying9 g0
  have hd : ((c0 :: ds).drop 1).take 4 = ds := by simp [← hdl]
  rw [hd] at g1
  have hbk : s0.size + Rows.uptoBulk y1.1 ≤ N := by
    have hwt : Rows.uptoBulk (DataW.agg ([y0, y1].map (·.1))) ≤ N := hwt
    subst q0
    have : s0.size = s0.data.toList.length := by rw [Array.length_toList]; rfl
    simp only [List.map_cons, List.map_nil, Rows.uptoBulk, Rows.uptoBulkAll] at hwt
    omega
  obtain ⟨T, A, c, rfl, hT, hp, hR⟩ := ty_ofU m1 (N := N) g1 (by omega)
  simp at e0
  subst e0
  have hn : s0.size ≤ 9223372036854775807 := by simpa [maxLen] using w0
  exact ⟨⟨s0, T⟩, A, c, rfl, ⟨A, c, rfl, hn, hT⟩, by show T.parts ≤ N; omega, hR, by show s0.size ≤ N; omega⟩
set_option maxRecDepth 20000 in
theorem expsU_of_trod {H : Type} {enc : TypeId × Value → H} {W : World} {base N : Nat} {v : Value} {d : DataW H} {p : List MemPlace} (hval : Value.okWide Tryd.prog W .any base 42 v)
    (h : DataW.Trod enc Tryd.prog W 0 (fun _ => true) true 42 v d p) (hw : Rows.uptoBulk d ≤ N) : ∃ xs : List Ex, ExsAt (· < W.heap.size) W v xs ∧ ∀ x ∈ xs, x.ty.parts ≤ N ∧ NmB N x.ty ∧ x.name.size ≤ N := by
  have hC : Tryd.prog.cellsOf 46 = 5 := by kernel_rfl
  obtain ⟨m, h3⟩ := h
  obtain ⟨a0, n0, cc, rfl⟩ := okWide_slice Tryd.underlying42 hval
  have h3 : DataW.trod enc Tryd.prog W 0 (fun _ => true) true m 42 [.slice a0 n0 cc] = some (d, p) := h3
  rcases DataW.trod_slice Tryd.underlying42 h3 with ⟨hcs, _⟩ | ⟨a, len, cap, elems, rest, n, hm1, hcs, hx, hb, hl, hcm, hel, hi, _⟩
  · simp at hcs
    obtain ⟨rfl, rfl, rfl⟩ := hcs
    exact ⟨[], ExsAt.nil _ _ _ _ (by simp [maxLen]), fun x hx => by simp at hx⟩
  · simp at hcs
    obtain ⟨rfl, rfl, rfl⟩ := hcs
    rw [hC] at hi
    have hwe : ∀ e ∈ elems, Rows.uptoBulk e.1 ≤ N := fun e he => by
      have hd := congrArg Prod.fst hx
      simp only at hd
      rw [hd, Rows.uptoBulk] at hw
      have := bulk_part (List.mem_map_of_mem (f := fun e : DataW H × List MemPlace => e.1) he)
      omega
    have hT : ∀ i : Fin n0, ∃ q : Ex × Option Addr × Nat, W.cells? 0 (a.add (i.val * 5)) 5 = some [.string q.1.name, .int .i64 q.1.ty.kind, .int .i64 q.1.ty.num, .string q.1.ty.name, .slice q.2.1 q.1.ty.args.length q.2.2] ∧
        ExAt (· < W.heap.size) W (exV q.1 q.2.1 q.2.2) q.1 ∧ q.1.ty.parts ≤ N ∧ NmB N q.1.ty ∧ q.1.name.size ≤ N := by
      intro ⟨i, hil⟩
      have hi := hi i hil
      rw [List.getElem?_eq_getElem (by omega), Option.bind_eq_some_iff] at hi
      obtain ⟨cs', hc, ht⟩ := hi
      obtain ⟨X, A, c, rfl, hX, hR⟩ := ex_ofU ht (hwe _ (List.getElem_mem _))
      exact ⟨(X, A, c), hc, hX, hR⟩
    obtain ⟨f, hf⟩ := Classical.axiomOfChoice hT
    have hcell : ∀ i (h : i < n0) j, j < 5 → W.cell? (a.add (i * 5 + j)) = [Value.string (f ⟨i, h⟩).1.name, .int .i64 (f ⟨i, h⟩).1.ty.kind, .int .i64 (f ⟨i, h⟩).1.ty.num, .string (f ⟨i, h⟩).1.ty.name, .slice (f ⟨i, h⟩).2.1 (f ⟨i, h⟩).1.ty.args.length (f ⟨i, h⟩).2.2][j]? := by
      intro i h j hj
      obtain ⟨_, _, hat⟩ := World.cells?_some (hf ⟨i, h⟩).1
      rw [← Go.Deep.add_add]
      exact hat j hj
    obtain ⟨vs, hvs⟩ : ∃ vs : Nat → Value, ∀ i (h : i < n0), vs i = exV (f ⟨i, h⟩).1 (f ⟨i, h⟩).2.1 (f ⟨i, h⟩).2.2 := ⟨fun i => if h : i < n0 then exV (f ⟨i, h⟩).1 (f ⟨i, h⟩).2.1 (f ⟨i, h⟩).2.2 else .bool false, fun i h => dif_pos h⟩
    refine ⟨List.ofFn fun i => (f i).1, ⟨some a, cc, by simp, by simpa using hl, hcm, vs, ?_, ?_⟩, ?_⟩
    · intro h0
      rw [List.length_ofFn] at h0 ⊢
      have hc0 := hcell 0 h0 0 (by omega)
      obtain ⟨b, off, spot⟩ := a
      have hspot : spot = none := by simpa [Addr.add] using World.cell?_spot hc0
      subst hspot
      refine ⟨b, off, rfl, ?_, fun i hi j hj => ?_⟩
      · have := World.block_lt_of_cell? _ _ hc0
        rw [add_addr] at this
        exact this
      · have h := hcell i hi j hj
        rw [add_addr, ← Nat.add_assoc] at h
        rw [h, hvs i hi]
        rcases j with _ | _ | _ | _ | _ | j
        · rfl
        · rfl
        · rfl
        · rfl
        · rfl
        · omega
    · intro i hi
      simp only [List.length_ofFn] at hi
      rw [hvs i hi, List.getElem_ofFn]
      exact (hf ⟨i, hi⟩).2.1
    · intro x hx
      obtain ⟨i, hi, rfl⟩ := List.getElem_of_mem hx
      rw [List.getElem_ofFn]
      exact (hf _).2.2
theorem uptoOk {xs : List Ex} (h : ∀ x ∈ xs, x.ty.parts ≤ 1048576 ∧ NmB 1048576 x.ty ∧ x.name.size ≤ 1048576) : ∀ x ∈ xs, ExOk x := fun x hx =>
  ⟨by have := (h x hx).1; omega, fun y hy => by have := (h x hx).2.1 y hy; omega, by have := (h x hx).2.2; omega⟩
end Go.Proofs.YtbhicpjhijondaaDoor
