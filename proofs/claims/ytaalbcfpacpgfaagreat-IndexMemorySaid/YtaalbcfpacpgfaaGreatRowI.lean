/- Entries, exports and types as arguments of a plain row: no row of parts is longer than a machine's. -/
import Derived.Test.YtaalbcfpacpgfaaGreatRow
import Derived.Test.YtaalbcfpacpgfaaGreatIA
import Derived.Deep.Slices
import Derived.Deep.Fields
namespace Go.Proofs.YtaalbcfpacpgfaaGreat
open Go.ChangeShapes Go.WideShapes Go.ChangeAt Go.RowKit Go.Par Go.Lib Go.Shelf Go.Deep Go.Typ Go.Ix
set_option linter.unusedVariables false
set_option linter.unusedSimpArgs false

theorem ty_fields : ∃ fs : Array Field, Tryz.prog.underlying 61 = some (.struct fs) ∧ fs.toList.map (fun f => (f.type, f.offset)) = [(3, 0), (3, 1), (9, 2), (59, 3)] := by
  have h : (Tryz.prog.underlying 61).map (fun d => match d with | .struct fs => fs.toList.map (fun f => (f.type, f.offset)) | _ => []) = some [(3, 0), (3, 1), (9, 2), (59, 3)] := by kernel_rfl
  cases hu : Tryz.prog.underlying 61 with
  | none => rw [hu] at h; cases h
  | some d =>
    rw [hu] at h
    cases d <;> simp at h
    exact ⟨_, rfl, h⟩
theorem field_of {fs : Array Field} {l : List (Nat × Nat)} (h : fs.toList.map (fun f => (f.type, f.offset)) = l) (j : Nat) (t o : Nat) (hj : l[j]? = some (t, o)) :
    ∃ f, fs[j]? = some f ∧ f.type = t ∧ f.offset = o := by
  have := congrArg (·[j]?) h
  simp only [List.getElem?_map, Array.getElem?_toList] at this
  rw [hj] at this
  cases hf : fs[j]? with
  | none => rw [hf] at this; cases this
  | some f =>
    rw [hf] at this
    simp at this
    exact ⟨f, rfl, this.1, this.2⟩
theorem list4 {α : Type} {l : List α} (h : l.length = 4) : ∃ a b c d, l = [a, b, c, d] := by
  rcases l with _ | ⟨a, _ | ⟨b, _ | ⟨c, _ | ⟨d, _ | ⟨e, l⟩⟩⟩⟩⟩
  · simp at h
  · simp at h
  · simp at h
  · simp at h
  · exact ⟨a, b, c, d, rfl⟩
  · simp at h
theorem RowOk.mk {k n : Int} {s : ByteArray} {ts : List Ty} (hl : ts.length ≤ 2513169434843) (h : ∀ t ∈ ts, RowOk t) : RowOk (.mk k n s ts) := by
  intro x hx
  rw [Ty.list_eq] at hx
  rcases List.mem_cons.1 hx with rfl | hx
  · exact hl
  · have key : ∀ ts : List Ty, (∀ t ∈ ts, RowOk t) → ∀ x ∈ listL ts, x.args.length ≤ 2513169434843 := by
      intro ts
      induction ts with
      | nil => intro _ x hx; simp [listL] at hx
      | cons t ts ih =>
        intro h x hx
        rw [listL] at hx
        rcases List.mem_append.1 hx with hx | hx
        · exact h t (by simp) x hx
        · exact ih (fun y hy => h y (by simp [hy])) x hx
    exact key ts h x hx
theorem weightsAll_mem {H : Type} {P : Program} {e : TypeId} : ∀ {ds : List (DataW H)} {d : DataW H}, d ∈ ds → ∀ k ∈ d.weights P e, k ∈ DataW.weightsAll P e ds
  | [], d, h, k, hk => by simp at h
  | x :: ds, d, h, k, hk => by
    rw [DataW.weightsAll]
    rcases List.mem_cons.1 h with rfl | h
    · exact List.mem_append_left _ hk
    · exact List.mem_append_right _ (weightsAll_mem h k hk)
set_option maxRecDepth 20000 in
theorem slice_weights {H : Type} {y : DataW H × List MemPlace} {elems rest : List (DataW H × List MemPlace)} {ps : List MemPlace} {len : Nat} (hw : ∀ k ∈ y.1.weights Tryz.prog 59, k ≤ reachBytes) (hx : y = (.slice (elems.map (·.1)) (rest.map (·.1)), ps)) (hel : elems.length = len) :
    len * 56 ≤ reachBytes ∧ ∀ e ∈ elems, ∀ k ∈ e.1.weights Tryz.prog 61, k ≤ reachBytes := by
  subst hx
  have hu := Tryz.underlying59
  have hb : Tryz.prog.bytesOf 61 = 56 := by kernel_rfl
  have hw : ∀ k ∈ (DataW.slice (elems.map (·.1)) (rest.map (·.1))).weights Tryz.prog 59, k ≤ reachBytes := hw
  unfold DataW.weights at hw
  rw [hu] at hw
  simp only at hw
  rw [hb] at hw
  refine ⟨?_, fun e he k hk => hw k (List.mem_cons_of_mem _ (List.mem_append_left _ (weightsAll_mem (List.mem_map_of_mem he) k hk)))⟩
  have := hw _ List.mem_cons_self
  simp only [List.length_map] at this
  have h2 : len * 56 ≤ (elems.length + rest.length) * 56 := Nat.mul_le_mul_right _ (by omega)
  omega
set_option maxRecDepth 20000 in
/-- a type out of its cells. -/
theorem ty_ofR {H : Type} {enc : TypeId × Value → H} {W : World} : ∀ (m : Nat) {cs : List Value} {x : DataW H × List MemPlace}, DataW.trod enc Tryz.prog W 0 (fun _ => true) true m 61 cs = some x → (∀ k ∈ x.1.weights Tryz.prog 61, k ≤ reachBytes) →
    ∃ (T : Ty) (A : Option Addr) (c : Nat), cs = [.int .i64 T.kind, .int .i64 T.num, .string T.name, .slice A T.args.length c] ∧ TyAt (· < W.heap.size) W (tyV T.kind T.num T.name A T.args.length c) T ∧ RowOk T := by
  intro m
  induction m using Nat.strongRecOn with
  | _ m ih =>
    intro cs x h hwt
    obtain ⟨fs, hu, hfs⟩ := ty_fields
    obtain ⟨xs, m1, rfl, rfl, hlen, hxl, hf⟩ := DataW.trod_struct hu h
    have hwf : ∀ k ∈ (DataW.agg (xs.map (·.1))).weights Tryz.prog 61, k ≤ reachBytes := hwt
    have hty : (fs.toList.map (·.type)) = [3, 3, 9, 59] := by
      have := congrArg (List.map Prod.fst) hfs
      rw [List.map_map] at this
      exact this
    have hwe : ∀ k ∈ DataW.weightsEach Tryz.prog [3, 3, 9, 59] (xs.map (·.1)), k ≤ reachBytes := fun k hk => hwf k (by unfold DataW.weights; rw [hu]; simp only; rw [hty]; exact hk)
    clear hwf hwt
    have hC : Tryz.prog.cellsOf 61 = 4 := by kernel_rfl
    have hi1 : Tryz.prog.cellsOf 3 = 1 := by kernel_rfl
    have hs1 : Tryz.prog.cellsOf 9 = 1 := by kernel_rfl
    have ht1 : Tryz.prog.cellsOf 59 = 1 := by kernel_rfl
    rw [hC] at hlen
    have hfl : fs.size = 4 := by have := congrArg List.length hfs; simpa using this
    rw [hfl] at hxl
    obtain ⟨c0, c1, c2, c3, rfl⟩ := list4 hlen
    obtain ⟨y0, y1, y2, y3, rfl⟩ := list4 hxl
    have get : ∀ (j t : Nat), [((3 : Nat), (0 : Nat)), (3, 1), (9, 2), (59, 3)][j]? = some (t, j) → Tryz.prog.cellsOf t = 1 → DataW.trod enc Tryz.prog W 0 (fun _ => true) true m1 t (([c0, c1, c2, c3].drop j).take 1) = [y0, y1, y2, y3][j]? := by
      intro j t hj ht
      obtain ⟨f, hfj, hty, hof⟩ := field_of hfs j t j hj
      have := hf j f hfj
      rw [hty, hof, ht] at this
      exact this
    obtain ⟨n0, e0, _, w0⟩ := DataW.trod_int Tryz.underlying3 (get 0 3 rfl hi1)
    obtain ⟨n1, e1, _, w1⟩ := DataW.trod_int Tryz.underlying3 (get 1 3 rfl hi1)
    obtain ⟨s2, e2, _, w2⟩ := DataW.trod_string Tryz.underlying9 (get 2 9 rfl hs1)
    have h3 := get 3 59 rfl ht1
    have hw3 : ∀ k ∈ y3.1.weights Tryz.prog 59, k ≤ reachBytes := fun k hk => hwe k (DataW.weights_mem_each (j := 3) (t := 59) (d := y3.1) rfl rfl k hk)
    simp at e0 e1 e2
    subst e0 e1 e2
    have hn : s2.size ≤ 9223372036854775807 := by simpa [maxLen] using w2
    rcases DataW.trod_slice Tryz.underlying59 h3 with ⟨hcs, _⟩ | ⟨a, len, cap, elems, rest, n, hm1, hcs, hx, hb, hl, hcm, hel, hi, _⟩
    · simp at hcs
      subst hcs
      exact ⟨.mk n0 n1 s2 [], none, 0, rfl, TyAt.leaf _ W n0 n1 s2 none 0 (by simp [maxLen]) hn, RowOk.of_parts (by show 1 + 0 ≤ _; omega)⟩
    · simp at hcs
      subst hcs
      rw [hC] at hi
      have hww : len * 56 ≤ reachBytes ∧ ∀ e ∈ elems, ∀ k ∈ e.1.weights Tryz.prog 61, k ≤ reachBytes := slice_weights hw3 hx hel
      have hT : ∀ i : Fin len, ∃ q : Ty × Option Addr × Nat, W.cells? 0 (a.add (i.val * 4)) 4 = some [.int .i64 q.1.kind, .int .i64 q.1.num, .string q.1.name, .slice q.2.1 q.1.args.length q.2.2] ∧
          TyAt (· < W.heap.size) W (tyV q.1.kind q.1.num q.1.name q.2.1 q.1.args.length q.2.2) q.1 ∧ RowOk q.1 := by
        intro ⟨i, hil⟩
        have hi := hi i hil
        rw [List.getElem?_eq_getElem (by omega), Option.bind_eq_some_iff] at hi
        obtain ⟨cs', hc, ht⟩ := hi
        obtain ⟨T, A, c, rfl, hT, hR⟩ := ih n (by omega) ht (hww.2 _ (List.getElem_mem _))
        exact ⟨(T, A, c), hc, hT, hR⟩
      obtain ⟨f, hf⟩ := Classical.axiomOfChoice hT
      refine ⟨.mk n0 n1 s2 (List.ofFn fun i => (f i).1), some a, cap, by simp [Ty.kind, Ty.num, Ty.name, Ty.args], ?_, ?_⟩
      rotate_left
      · exact RowOk.mk (by rw [List.length_ofFn]; have := hww.1; simp only [reachBytes] at this; omega) fun t ht => by
          obtain ⟨i, hi, rfl⟩ := List.getElem_of_mem ht
          rw [List.getElem_ofFn]
          exact (hf _).2.2
      simp only [Ty.kind, Ty.num, Ty.name, Ty.args]
      have hcell : ∀ i (h : i < len) j, j < 4 → W.cell? (a.add (i * 4 + j)) = [Value.int .i64 (f ⟨i, h⟩).1.kind, .int .i64 (f ⟨i, h⟩).1.num, .string (f ⟨i, h⟩).1.name, .slice (f ⟨i, h⟩).2.1 (f ⟨i, h⟩).1.args.length (f ⟨i, h⟩).2.2][j]? := by
        intro i h j hj
        obtain ⟨_, _, hat⟩ := World.cells?_some (hf ⟨i, h⟩).1
        rw [← Go.Deep.add_add]
        exact hat j hj
      refine TyAt.mk n0 n1 s2 _ (some a) cap (fun i => if h : i < len then tyV (f ⟨i, h⟩).1.kind (f ⟨i, h⟩).1.num (f ⟨i, h⟩).1.name (f ⟨i, h⟩).2.1 (f ⟨i, h⟩).1.args.length (f ⟨i, h⟩).2.2 else .bool false) (by simpa using hl) hcm hn ?_ ?_
      · intro h0
        rw [List.length_ofFn] at h0 ⊢
        have hc0 := hcell 0 h0 0 (by omega)
        obtain ⟨b, off, spot⟩ := a
        have hspot : spot = none := by simpa [Addr.add] using World.cell?_spot hc0
        subst hspot
        refine ⟨b, off, rfl, ?_, fun i hi j hj => ?_⟩
        · have := World.block_lt_of_cell? _ _ hc0
          rw [add_addr] at this
          exact this
        · have h := hcell i hi j hj
          rw [add_addr, ← Nat.add_assoc] at h
          rw [h, dif_pos hi]
          rcases j with _ | _ | _ | _ | j
          · rfl
          · rfl
          · rfl
          · rfl
          · omega
      · intro i hi
        simp only [List.length_ofFn] at hi
        rw [dif_pos hi, List.getElem_ofFn]
        exact (hf ⟨i, hi⟩).2.1
set_option maxRecDepth 20000 in
theorem tyR_of_trod {H : Type} {enc : TypeId × Value → H} {W : World} {base : Nat} {v : Value} {d : DataW H} {p : List MemPlace} (hval : Value.okWide Tryz.prog W .any base 61 v)
    (h : DataW.Trod enc Tryz.prog W 0 (fun _ => true) true 61 v d p) (hw : ∀ k ∈ d.weights Tryz.prog 61, k ≤ reachBytes) : ∃ T : Ty, TyAt (· < W.heap.size) W v T ∧ RowOk T := by
  obtain ⟨fs, hu, hfs⟩ := ty_fields
  obtain ⟨cs, rfl, hcs⟩ := okWide_struct hu hval
  obtain ⟨m, hm⟩ := h
  obtain ⟨T, A, c, e, hT, hR⟩ := ty_ofR m hm hw
  refine ⟨T, ?_, hR⟩
  have hcs : cs = #[.int .i64 T.kind, .int .i64 T.num, .string T.name, .slice A T.args.length c] := by
    apply Array.toList_inj.mp
    simpa [Value.cells] using e
  rw [hcs]
  exact hT
theorem ex_fields : ∃ fs : Array Field, Tryz.prog.underlying 63 = some (.struct fs) ∧ fs.toList.map (fun f => (f.type, f.offset)) = [(9, 0), (61, 1)] := by
  have h : (Tryz.prog.underlying 63).map (fun d => match d with | .struct fs => fs.toList.map (fun f => (f.type, f.offset)) | _ => []) = some [(9, 0), (61, 1)] := by kernel_rfl
  cases hu : Tryz.prog.underlying 63 with
  | none => rw [hu] at h; cases h
  | some d =>
    rw [hu] at h
    cases d <;> simp at h
    exact ⟨_, rfl, h⟩
set_option maxRecDepth 20000 in
/-- an export out of its cells. -/
theorem ex_of {H : Type} {enc : TypeId × Value → H} {W : World} {m : Nat} {cs : List Value} {x : DataW H × List MemPlace} (h : DataW.trod enc Tryz.prog W 0 (fun _ => true) true m 63 cs = some x) (hwt : ∀ k ∈ x.1.weights Tryz.prog 63, k ≤ reachBytes) :
    ∃ (X : Ex) (A : Option Addr) (c : Nat), cs = [.string X.name, .int .i64 X.ty.kind, .int .i64 X.ty.num, .string X.ty.name, .slice A X.ty.args.length c] ∧ ExAt (· < W.heap.size) W (exV X A c) X ∧ RowOk X.ty := by
  obtain ⟨fs, hu, hfs⟩ := ex_fields
  obtain ⟨xs, m1, rfl, rfl, hlen, hxl, hf⟩ := DataW.trod_struct hu h
  have hty : (fs.toList.map (·.type)) = [9, 61] := by
    have := congrArg (List.map Prod.fst) hfs
    rw [List.map_map] at this
    exact this
  have hwe : ∀ k ∈ DataW.weightsEach Tryz.prog [9, 61] (xs.map (·.1)), k ≤ reachBytes := fun k hk => hwt k (by
    show k ∈ (DataW.agg (xs.map (·.1))).weights Tryz.prog 63
    unfold DataW.weights; rw [hu]; simp only; rw [hty]; exact hk)
  have hC : Tryz.prog.cellsOf 63 = 5 := by kernel_rfl
  have hC4 : Tryz.prog.cellsOf 61 = 4 := by kernel_rfl
  have hs1 : Tryz.prog.cellsOf 9 = 1 := by kernel_rfl
  rw [hC] at hlen
  have hfl : fs.size = 2 := by have := congrArg List.length hfs; simpa using this
  rw [hfl] at hxl
  obtain ⟨y0, y1, rfl⟩ : ∃ a b, xs = [a, b] := by
    rcases xs with _ | ⟨a, _ | ⟨b, _ | ⟨c, l⟩⟩⟩
    · simp at hxl
    · simp at hxl
    · exact ⟨a, b, rfl⟩
    · simp at hxl
  obtain ⟨c0, ds, rfl⟩ : ∃ a l, cs = a :: l := by
    cases cs with
    | nil => simp at hlen
    | cons a l => exact ⟨a, l, rfl⟩
  have hdl : ds.length = 4 := by simpa using hlen
  obtain ⟨f0, hf0, ht0, ho0⟩ := field_of hfs 0 9 0 rfl
  obtain ⟨f1, hf1, ht1, ho1⟩ := field_of hfs 1 61 1 rfl
  have g0 := hf 0 f0 hf0
  have g1 := hf 1 f1 hf1
  rw [ht0, ho0, hs1] at g0
  rw [ht1, ho1, hC4] at g1
  obtain ⟨s0, e0, _, w0⟩ := DataW.trod_string Tryz.underlying9 g0
  have hd : ((c0 :: ds).drop 1).take 4 = ds := by simp [← hdl]
  rw [hd] at g1
  obtain ⟨T, A, c, rfl, hT, hR⟩ := ty_ofR m1 g1 (fun k hk => hwe k (DataW.weights_mem_each (j := 1) (t := 61) (d := y1.1) rfl rfl k hk))
  simp at e0
  subst e0
  have hn : s0.size ≤ 9223372036854775807 := by simpa [maxLen] using w0
  exact ⟨⟨s0, T⟩, A, c, rfl, ⟨A, c, rfl, hn, hT⟩, hR⟩
set_option maxRecDepth 20000 in
theorem exp_of_trod {H : Type} {enc : TypeId × Value → H} {W : World} {base : Nat} {v : Value} {d : DataW H} {p : List MemPlace} (hval : Value.okWide Tryz.prog W .any base 63 v)
    (h : DataW.Trod enc Tryz.prog W 0 (fun _ => true) true 63 v d p) (hw : ∀ k ∈ d.weights Tryz.prog 63, k ≤ reachBytes) : ∃ X : Ex, ExAt (· < W.heap.size) W v X ∧ RowOk X.ty := by
  obtain ⟨fs, hu, hfs⟩ := ex_fields
  obtain ⟨cs, rfl, hcs⟩ := okWide_struct hu hval
  obtain ⟨m, hm⟩ := h
  obtain ⟨X, A, c, e, hX, hR⟩ := ex_of hm hw
  refine ⟨X, ?_, hR⟩
  have hcs : cs = #[.string X.name, .int .i64 X.ty.kind, .int .i64 X.ty.num, .string X.ty.name, .slice A X.ty.args.length c] := by
    apply Array.toList_inj.mp
    simpa [Value.cells] using e
  rw [hcs]
  exact hX
set_option maxRecDepth 20000 in
theorem exps_of_trodV {H : Type} {enc : TypeId × Value → H} {W : World} {v : Value} {d : DataW H} {p : List MemPlace} (hval : ∃ a0 n0 cc, v = .slice a0 n0 cc)
    (h : DataW.Trod enc Tryz.prog W 0 (fun _ => true) true 53 v d p) (hw : ∀ k ∈ d.weights Tryz.prog 53, k ≤ reachBytes) : ∃ xs : List Ex, ExsAt (· < W.heap.size) W v xs ∧ ∀ x ∈ xs, RowOk x.ty := by
  have hC : Tryz.prog.cellsOf 63 = 5 := by kernel_rfl
  obtain ⟨m, h3⟩ := h
  obtain ⟨a0, n0, cc, rfl⟩ := hval
  have h3 : DataW.trod enc Tryz.prog W 0 (fun _ => true) true m 53 [.slice a0 n0 cc] = some (d, p) := h3
  rcases DataW.trod_slice Tryz.underlying53 h3 with ⟨hcs, _⟩ | ⟨a, len, cap, elems, rest, n, hm1, hcs, hx, hb, hl, hcm, hel, hi, _⟩
  · simp at hcs
    obtain ⟨rfl, rfl, rfl⟩ := hcs
    exact ⟨[], ExsAt.nil _ _ _ _ (by simp [maxLen]), fun x hx => by simp at hx⟩
  · simp at hcs
    obtain ⟨rfl, rfl, rfl⟩ := hcs
    rw [hC] at hi
    have hwe : ∀ e ∈ elems, ∀ k ∈ e.1.weights Tryz.prog 63, k ≤ reachBytes := fun e he k hk => hw k (by
      have hd := congrArg Prod.fst hx
      simp only at hd
      rw [hd]
      unfold DataW.weights
      rw [Tryz.underlying53]
      exact List.mem_cons_of_mem _ (List.mem_append_left _ (weightsAll_mem (List.mem_map_of_mem he) k hk)))
    have hT : ∀ i : Fin n0, ∃ q : Ex × Option Addr × Nat, W.cells? 0 (a.add (i.val * 5)) 5 = some [.string q.1.name, .int .i64 q.1.ty.kind, .int .i64 q.1.ty.num, .string q.1.ty.name, .slice q.2.1 q.1.ty.args.length q.2.2] ∧
        ExAt (· < W.heap.size) W (exV q.1 q.2.1 q.2.2) q.1 ∧ RowOk q.1.ty := by
      intro ⟨i, hil⟩
      have hi := hi i hil
      rw [List.getElem?_eq_getElem (by omega), Option.bind_eq_some_iff] at hi
      obtain ⟨cs', hc, ht⟩ := hi
      obtain ⟨X, A, c, rfl, hX, hR⟩ := ex_of ht (hwe _ (List.getElem_mem _))
      exact ⟨(X, A, c), hc, hX, hR⟩
    obtain ⟨f, hf⟩ := Classical.axiomOfChoice hT
    have hcell : ∀ i (h : i < n0) j, j < 5 → W.cell? (a.add (i * 5 + j)) = [Value.string (f ⟨i, h⟩).1.name, .int .i64 (f ⟨i, h⟩).1.ty.kind, .int .i64 (f ⟨i, h⟩).1.ty.num, .string (f ⟨i, h⟩).1.ty.name, .slice (f ⟨i, h⟩).2.1 (f ⟨i, h⟩).1.ty.args.length (f ⟨i, h⟩).2.2][j]? := by
      intro i h j hj
      obtain ⟨_, _, hat⟩ := World.cells?_some (hf ⟨i, h⟩).1
      rw [← Go.Deep.add_add]
      exact hat j hj
    obtain ⟨vs, hvs⟩ : ∃ vs : Nat → Value, ∀ i (h : i < n0), vs i = exV (f ⟨i, h⟩).1 (f ⟨i, h⟩).2.1 (f ⟨i, h⟩).2.2 := ⟨fun i => if h : i < n0 then exV (f ⟨i, h⟩).1 (f ⟨i, h⟩).2.1 (f ⟨i, h⟩).2.2 else .bool false, fun i h => dif_pos h⟩
    refine ⟨List.ofFn fun i => (f i).1, ⟨some a, cc, by simp, by simpa using hl, hcm, vs, ?_, ?_⟩, ?_⟩
    · intro h0
      rw [List.length_ofFn] at h0 ⊢
      have hc0 := hcell 0 h0 0 (by omega)
      obtain ⟨b, off, spot⟩ := a
      have hspot : spot = none := by simpa [Addr.add] using World.cell?_spot hc0
      subst hspot
      refine ⟨b, off, rfl, ?_, fun i hi j hj => ?_⟩
      · have := World.block_lt_of_cell? _ _ hc0
        rw [add_addr] at this
        exact this
      · have h := hcell i hi j hj
        rw [add_addr, ← Nat.add_assoc] at h
        rw [h, hvs i hi]
        rcases j with _ | _ | _ | _ | _ | j
        · rfl
        · rfl
        · rfl
        · rfl
        · rfl
        · omega
    · intro i hi
      simp only [List.length_ofFn] at hi
      rw [hvs i hi, List.getElem_ofFn]
      exact (hf ⟨i, hi⟩).2.1
    · intro x hx
      obtain ⟨i, hi, rfl⟩ := List.getElem_of_mem hx
      rw [List.getElem_ofFn]
      exact (hf _).2.2
theorem exs_of {H : Type} {enc : TypeId × Value → H} {W : World} {m : Nat} {cs : List Value} {d : DataW H} {p : List MemPlace} (h : DataW.trod enc Tryz.prog W 0 (fun _ => true) true m 53 cs = some (d, p)) (hw : ∀ k ∈ d.weights Tryz.prog 53, k ≤ reachBytes) :
    ∃ (xs : List Ex) (A : Option Addr) (c : Nat), cs = [.slice A xs.length c] ∧ ExsAt (· < W.heap.size) W (.slice A xs.length c) xs ∧ ∀ x ∈ xs, RowOk x.ty := by
  have hs : ∃ A l c, cs = [.slice A l c] := by
    rcases DataW.trod_slice Tryz.underlying53 h with ⟨hcs, _⟩ | ⟨a, len, cap, elems, rest, n, hm1, hcs, _⟩
    · exact ⟨_, _, _, hcs⟩
    · exact ⟨_, _, _, hcs⟩
  obtain ⟨A, l, c, rfl⟩ := hs
  obtain ⟨xs, h1, h2⟩ := exps_of_trodV (v := .slice A l c) ⟨A, l, c, rfl⟩ ⟨m, h⟩ hw
  obtain ⟨A', c', e, _⟩ := id h1
  cases e
  exact ⟨xs, A, c, rfl, h1, h2⟩
theorem en_fields : ∃ fs : Array Field, Tryz.prog.underlying 55 = some (.struct fs) ∧ fs.toList.map (fun f => (f.type, f.offset)) = [(9, 0), (3, 1), (53, 2)] := by
  have h : (Tryz.prog.underlying 55).map (fun d => match d with | .struct fs => fs.toList.map (fun f => (f.type, f.offset)) | _ => []) = some [(9, 0), (3, 1), (53, 2)] := by kernel_rfl
  cases hu : Tryz.prog.underlying 55 with
  | none => rw [hu] at h; cases h
  | some d =>
    rw [hu] at h
    cases d <;> simp at h
    exact ⟨_, rfl, h⟩
/-- an entry whose rows are a machine's. -/
def EnOk (e : En) : Prop := (∀ x ∈ e.exs, RowOk x.ty) ∧ e.uri.size ≤ 140737488355328
set_option maxRecDepth 20000 in
/-- an entry out of its cells. -/
theorem en_of {H : Type} {enc : TypeId × Value → H} {W : World} {m : Nat} {cs : List Value} {x : DataW H × List MemPlace} (h : DataW.trod enc Tryz.prog W 0 (fun _ => true) true m 55 cs = some x) (hwt : ∀ k ∈ x.1.weights Tryz.prog 55, k ≤ reachBytes) :
    ∃ (X : En) (A : Option Addr) (c : Nat), cs = [.string X.uri, .int .i64 X.ver, .slice A X.exs.length c] ∧ EntAt (· < W.heap.size) W (enV X A c) X ∧ EnOk X := by
  obtain ⟨fs, hu, hfs⟩ := en_fields
  obtain ⟨xs, m1, rfl, rfl, hlen, hxl, hf⟩ := DataW.trod_struct hu h
  have hty : (fs.toList.map (·.type)) = [9, 3, 53] := by
    have := congrArg (List.map Prod.fst) hfs
    rw [List.map_map] at this
    exact this
  have hwe : ∀ k ∈ DataW.weightsEach Tryz.prog [9, 3, 53] (xs.map (·.1)), k ≤ reachBytes := fun k hk => hwt k (by
    show k ∈ (DataW.agg (xs.map (·.1))).weights Tryz.prog 55
    unfold DataW.weights; rw [hu]; simp only; rw [hty]; exact hk)
  have hC : Tryz.prog.cellsOf 55 = 3 := by kernel_rfl
  have hs1 : Tryz.prog.cellsOf 9 = 1 := by kernel_rfl
  have hi1 : Tryz.prog.cellsOf 3 = 1 := by kernel_rfl
  have he1 : Tryz.prog.cellsOf 53 = 1 := by kernel_rfl
  rw [hC] at hlen
  have hfl : fs.size = 3 := by have := congrArg List.length hfs; simpa using this
  rw [hfl] at hxl
  obtain ⟨y0, y1, y2, rfl⟩ : ∃ a b c, xs = [a, b, c] := by
    rcases xs with _ | ⟨a, _ | ⟨b, _ | ⟨c, _ | ⟨d, l⟩⟩⟩⟩
    · simp at hxl
    · simp at hxl
    · simp at hxl
    · exact ⟨a, b, c, rfl⟩
    · simp at hxl
  obtain ⟨c0, c1, c2, rfl⟩ : ∃ a b c, cs = [a, b, c] := by
    rcases cs with _ | ⟨a, _ | ⟨b, _ | ⟨c, _ | ⟨d, l⟩⟩⟩⟩
    · simp at hlen
    · simp at hlen
    · simp at hlen
    · exact ⟨a, b, c, rfl⟩
    · simp at hlen
  have get : ∀ (j t : Nat), [((9 : Nat), (0 : Nat)), (3, 1), (53, 2)][j]? = some (t, j) → Tryz.prog.cellsOf t = 1 → DataW.trod enc Tryz.prog W 0 (fun _ => true) true m1 t (([c0, c1, c2].drop j).take 1) = [y0, y1, y2][j]? := by
    intro j t hj ht
    obtain ⟨f, hfj, hty, hof⟩ := field_of hfs j t j hj
    have := hf j f hfj
    rw [hty, hof, ht] at this
    exact this
  obtain ⟨s0, e0, d0, w0⟩ := DataW.trod_string Tryz.underlying9 (get 0 9 rfl hs1)
  obtain ⟨n1, e1, _, w1⟩ := DataW.trod_int Tryz.underlying3 (get 1 3 rfl hi1)
  have g2 := get 2 53 rfl he1
  obtain ⟨d2, p2⟩ := y2
  obtain ⟨xs2, A, c, e2, hX, hR⟩ := exs_of (d := d2) (p := p2) g2 (fun k hk => hwe k (DataW.weights_mem_each (j := 2) (t := 53) (d := d2) rfl rfl k hk))
  simp at e0 e1 e2
  subst e0 e1 e2
  have hn : s0.size ≤ 9223372036854775807 := by simpa [maxLen] using w0
  have hw0 : ∀ k ∈ y0.1.weights Tryz.prog 9, k ≤ reachBytes := fun k hk => hwe k (DataW.weights_mem_each (j := 0) (t := 9) (d := y0.1) rfl rfl k hk)
  have h140 : s0.size ≤ 140737488355328 := by
    subst d0
    have := hw0 s0.data.toList.length (by simp [DataW.weights])
    simp only [reachBytes, Array.length_toList] at this
    have e : s0.data.size = s0.size := rfl
    omega
  exact ⟨⟨s0, n1, xs2⟩, A, c, rfl, ⟨A, c, rfl, hn, hX⟩, hR, h140⟩
set_option maxRecDepth 20000 in
theorem en_of_trod {H : Type} {enc : TypeId × Value → H} {W : World} {base : Nat} {v : Value} {d : DataW H} {p : List MemPlace} (hval : Value.okWide Tryz.prog W .any base 55 v)
    (h : DataW.Trod enc Tryz.prog W 0 (fun _ => true) true 55 v d p) (hw : ∀ k ∈ d.weights Tryz.prog 55, k ≤ reachBytes) : ∃ X : En, EntAt (· < W.heap.size) W v X ∧ EnOk X := by
  obtain ⟨fs, hu, hfs⟩ := en_fields
  obtain ⟨cs, rfl, hcs⟩ := okWide_struct hu hval
  obtain ⟨m, hm⟩ := h
  obtain ⟨X, A, c, e, hX, hR⟩ := en_of hm hw
  refine ⟨X, ?_, hR⟩
  have hcs : cs = #[.string X.uri, .int .i64 X.ver, .slice A X.exs.length c] := by
    apply Array.toList_inj.mp
    simpa [Value.cells] using e
  rw [hcs]
  exact hX
set_option maxRecDepth 20000 in
theorem ents_of_trod {H : Type} {enc : TypeId × Value → H} {W : World} {base : Nat} {v : Value} {d : DataW H} {p : List MemPlace} (hval : Value.okWide Tryz.prog W .any base 45 v)
    (h : DataW.Trod enc Tryz.prog W 0 (fun _ => true) true 45 v d p) (hw : ∀ k ∈ d.weights Tryz.prog 45, k ≤ reachBytes) : ∃ xs : List En, EntsAt (· < W.heap.size) W v xs ∧ ∀ x ∈ xs, EnOk x := by
  have hC : Tryz.prog.cellsOf 55 = 3 := by kernel_rfl
  obtain ⟨m, h3⟩ := h
  obtain ⟨a0, n0, cc, rfl⟩ := okWide_slice Tryz.underlying45 hval
  have h3 : DataW.trod enc Tryz.prog W 0 (fun _ => true) true m 45 [.slice a0 n0 cc] = some (d, p) := h3
  rcases DataW.trod_slice Tryz.underlying45 h3 with ⟨hcs, _⟩ | ⟨a, len, cap, elems, rest, n, hm1, hcs, hx, hb, hl, hcm, hel, hi, _⟩
  · simp at hcs
    obtain ⟨rfl, rfl, rfl⟩ := hcs
    exact ⟨[], EntsAt.nil _ _ _ _ (by simp [maxLen]), fun x hx => by simp at hx⟩
  · simp at hcs
    obtain ⟨rfl, rfl, rfl⟩ := hcs
    rw [hC] at hi
    have hwe : ∀ e ∈ elems, ∀ k ∈ e.1.weights Tryz.prog 55, k ≤ reachBytes := fun e he k hk => hw k (by
      have hd := congrArg Prod.fst hx
      simp only at hd
      rw [hd]
      unfold DataW.weights
      rw [Tryz.underlying45]
      exact List.mem_cons_of_mem _ (List.mem_append_left _ (weightsAll_mem (List.mem_map_of_mem he) k hk)))
    have hT : ∀ i : Fin n0, ∃ q : En × Option Addr × Nat, W.cells? 0 (a.add (i.val * 3)) 3 = some [.string q.1.uri, .int .i64 q.1.ver, .slice q.2.1 q.1.exs.length q.2.2] ∧
        EntAt (· < W.heap.size) W (enV q.1 q.2.1 q.2.2) q.1 ∧ EnOk q.1 := by
      intro ⟨i, hil⟩
      have hi := hi i hil
      rw [List.getElem?_eq_getElem (by omega), Option.bind_eq_some_iff] at hi
      obtain ⟨cs', hc, ht⟩ := hi
      obtain ⟨X, A, c, rfl, hX, hR⟩ := en_of ht (hwe _ (List.getElem_mem _))
      exact ⟨(X, A, c), hc, hX, hR⟩
    obtain ⟨f, hf⟩ := Classical.axiomOfChoice hT
    have hcell : ∀ i (h : i < n0) j, j < 3 → W.cell? (a.add (i * 3 + j)) = [Value.string (f ⟨i, h⟩).1.uri, .int .i64 (f ⟨i, h⟩).1.ver, .slice (f ⟨i, h⟩).2.1 (f ⟨i, h⟩).1.exs.length (f ⟨i, h⟩).2.2][j]? := by
      intro i h j hj
      obtain ⟨_, _, hat⟩ := World.cells?_some (hf ⟨i, h⟩).1
      rw [← Go.Deep.add_add]
      exact hat j hj
    obtain ⟨vs, hvs⟩ : ∃ vs : Nat → Value, ∀ i (h : i < n0), vs i = enV (f ⟨i, h⟩).1 (f ⟨i, h⟩).2.1 (f ⟨i, h⟩).2.2 := ⟨fun i => if h : i < n0 then enV (f ⟨i, h⟩).1 (f ⟨i, h⟩).2.1 (f ⟨i, h⟩).2.2 else .bool false, fun i h => dif_pos h⟩
    refine ⟨List.ofFn fun i => (f i).1, ⟨some a, cc, by simp, by simpa using hl, hcm, vs, ?_, ?_⟩, ?_⟩
    · intro h0
      rw [List.length_ofFn] at h0 ⊢
      have hc0 := hcell 0 h0 0 (by omega)
      obtain ⟨b, off, spot⟩ := a
      have hspot : spot = none := by simpa [Addr.add] using World.cell?_spot hc0
      subst hspot
      refine ⟨b, off, rfl, ?_, fun i hi j hj => ?_⟩
      · have := World.block_lt_of_cell? _ _ hc0
        rw [add_addr] at this
        exact this
      · have h := hcell i hi j hj
        rw [add_addr, ← Nat.add_assoc] at h
        rw [h, hvs i hi]
        rcases j with _ | _ | _ | j
        · rfl
        · rfl
        · rfl
        · omega
    · intro i hi
      simp only [List.length_ofFn] at hi
      rw [hvs i hi, List.getElem_ofFn]
      exact (hf ⟨i, hi⟩).2.1
    · intro x hx
      obtain ⟨i, hi, rfl⟩ := List.getElem_of_mem hx
      rw [List.getElem_ofFn]
      exact (hf _).2.2
set_option maxRecDepth 20000 in
theorem ents_of_trodL {H : Type} {enc : TypeId × Value → H} {W : World} {base : Nat} {v : Value} {d : DataW H} {p : List MemPlace} (hval : Value.okWide Tryz.prog W .any base 45 v)
    (h : DataW.Trod enc Tryz.prog W 0 (fun _ => true) true 45 v d p) (hw : ∀ k ∈ d.weights Tryz.prog 45, k ≤ reachBytes) : ∃ xs : List En, xs.length ≤ 140737488355328 ∧ EntsAt (· < W.heap.size) W v xs ∧ ∀ x ∈ xs, EnOk x := by
  obtain ⟨xs, h1, h2⟩ := ents_of_trod hval h hw
  refine ⟨xs, ?_, h1, h2⟩
  obtain ⟨A, c, e, -, -, -⟩ := h1
  obtain ⟨m, h3⟩ := h
  subst e
  have hb : Tryz.prog.bytesOf 55 = 48 := by kernel_rfl
  have h3 : DataW.trod enc Tryz.prog W 0 (fun _ => true) true m 45 [.slice A xs.length c] = some (d, p) := h3
  rcases DataW.trod_slice Tryz.underlying45 h3 with ⟨hcs, _⟩ | ⟨a, len, cap, elems, rest, n, hm1, hcs, hx, hb2, hl, hcm, hel, hi, _⟩
  · simp at hcs
    obtain ⟨-, hl2, -⟩ := hcs
    rw [hl2]
    simp
  · simp at hcs
    obtain ⟨-, hl2, -⟩ := hcs
    have hd := congrArg Prod.fst hx
    simp only at hd
    have := hw ((elems.length + rest.length) * 48) (by
      rw [hd]
      unfold DataW.weights
      rw [Tryz.underlying45]
      simp only [List.length_map, hb]
      exact List.mem_cons_self)
    simp only [reachBytes] at this
    omega
set_option maxRecDepth 20000 in
theorem strs_of_trod {H : Type} {enc : TypeId × Value → H} {W : World} {base : Nat} {v : Value} {d : DataW H} {p : List MemPlace} (hval : Value.okWide Tryz.prog W .any base 73 v)
    (h : DataW.Trod enc Tryz.prog W 0 (fun _ => true) true 73 v d p) (hw : ∀ k ∈ d.weights Tryz.prog 73, k ≤ reachBytes) : ∃ gs : List ByteArray, Seg W W.heap.size v (gs.map Value.string) ∧ ∀ u ∈ gs, u.size ≤ 9223372036854775807 := by
  have hC : Tryz.prog.cellsOf 9 = 1 := by kernel_rfl
  obtain ⟨m, h3⟩ := h
  obtain ⟨a0, n0, cc, rfl⟩ := okWide_slice Tryz.underlying73 hval
  have h3 : DataW.trod enc Tryz.prog W 0 (fun _ => true) true m 73 [.slice a0 n0 cc] = some (d, p) := h3
  rcases DataW.trod_slice Tryz.underlying73 h3 with ⟨hcs, _⟩ | ⟨a, len, cap, elems, rest, n, hm1, hcs, hx, hb, hl, hcm, hel, hi, _⟩
  · simp at hcs
    obtain ⟨rfl, rfl, rfl⟩ := hcs
    exact ⟨[], Seg.nil _ _, fun x hx => by simp at hx⟩
  · simp at hcs
    obtain ⟨rfl, rfl, rfl⟩ := hcs
    rw [hC] at hi
    have hT : ∀ i : Fin n0, ∃ q : ByteArray, W.cells? 0 (a.add (i.val * 1)) 1 = some [.string q] ∧ q.size ≤ 9223372036854775807 := by
      intro ⟨i, hil⟩
      have hi := hi i hil
      rw [List.getElem?_eq_getElem (by omega), Option.bind_eq_some_iff] at hi
      obtain ⟨cs', hc, ht⟩ := hi
      obtain ⟨s0, rfl, _, w0⟩ := DataW.trod_string Tryz.underlying9 ht
      exact ⟨s0, hc, by simpa [maxLen] using w0⟩
    obtain ⟨f, hf⟩ := Classical.axiomOfChoice hT
    have hcell : ∀ i (h : i < n0), W.cell? (a.add i) = some (Value.string (f ⟨i, h⟩)) := by
      intro i h
      obtain ⟨_, _, hat⟩ := World.cells?_some (hf ⟨i, h⟩).1
      have := hat 0 (by omega)
      rw [Go.Deep.add_add] at this
      simpa using this
    refine ⟨List.ofFn f, ⟨some a, cc, by simp, by simpa using hl, hcm, fun h0 => ?_⟩, fun u hu => ?_⟩
    · simp only [List.length_map, List.length_ofFn] at h0 ⊢
      have hc0 := hcell 0 h0
      obtain ⟨b, off, spot⟩ := a
      have hspot : spot = none := by simpa [Addr.add] using World.cell?_spot hc0
      subst hspot
      refine ⟨b, off, rfl, ?_, fun i hi => ?_⟩
      · have := World.block_lt_of_cell? _ _ hc0
        rw [add_addr] at this
        exact this
      · have h := hcell i hi
        rw [add_addr] at h
        rw [h, List.getElem?_map, List.getElem?_eq_getElem (by simpa using hi), List.getElem_ofFn]
        rfl
    · obtain ⟨i, hi, rfl⟩ := List.getElem_of_mem hu
      rw [List.getElem_ofFn]
      exact (hf _).2
end Go.Proofs.YtaalbcfpacpgfaaGreat
