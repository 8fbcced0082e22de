/- What a row of the second form asks of its arguments: from the datum to memory, with the bulk. -/
import Derived.Test.YtpdelgjfamelfaaRow
import Derived.Test.YtpdelgjfamelfaaM3
import Derived.Deep.Slices
import Derived.Deep.Fields
import Derived.ChangeSame
import Derived.JoinedCond
namespace Go.Proofs.Ytpdelgjfamelfaa
open Go.ChangeShapes Go.WideShapes Go.ChangeAt Go.RowKit Go.Par Go.Lib Go.Deep
set_option linter.unusedVariables false
set_option linter.unusedSimpArgs false

theorem bulk_one {H : Type} (d : DataW H) : 1 ≤ Rows.uptoBulk d := by
  cases d with
  | lit l => cases l <;> simp [Rows.uptoBulk]
  | nil => simp [Rows.uptoBulk]
  | ptr d => simp [Rows.uptoBulk]
  | slice elems spare => simp [Rows.uptoBulk]
  | agg parts => simp [Rows.uptoBulk]
  | iface t d => simp [Rows.uptoBulk]
  | map entries => simp [Rows.uptoBulk]
  | held h => simp [Rows.uptoBulk]
theorem bulk_part {H : Type} {d : DataW H} {l : List (DataW H)} (h : d ∈ l) : Rows.uptoBulk d ≤ Rows.uptoBulkAll l := by
  induction l with
  | nil => cases h
  | cons x r ih =>
    simp only [Rows.uptoBulkAll]
    cases List.mem_cons.1 h with
    | inl e => subst e; omega
    | inr e => have := ih e; omega
theorem bulk_length {H : Type} (l : List (DataW H)) : l.length ≤ Rows.uptoBulkAll l := by
  induction l with
  | nil => simp [Rows.uptoBulkAll]
  | cons x r ih => have := bulk_one x; simp only [Rows.uptoBulkAll, List.length_cons]; omega
theorem bulk_snoc {H : Type} (l : List (DataW H)) (x : DataW H) : Rows.uptoBulkAll (l ++ [x]) = Rows.uptoBulkAll l + Rows.uptoBulk x := by
  induction l with
  | nil => simp [Rows.uptoBulkAll]
  | cons y l ih => simp only [List.cons_append, Rows.uptoBulkAll, ih]; omega
theorem bulk_slice {H : Type} (e s : List (DataW H)) : Rows.uptoBulkAll e + 1 ≤ Rows.uptoBulk (.slice e s) := by
  simp only [Rows.uptoBulk]; omega
/-- a sum over a range is at most the bulk. -/
theorem bulk_sum {H : Type} (D : Nat → DataW H) (f : Nat → Nat) (n : Nat) (h : ∀ i, i < n → f i ≤ Rows.uptoBulk (D i)) : ((List.range n).map f).sum ≤ Rows.uptoBulkAll ((List.range n).map D) := by
  induction n with
  | zero => simp [Rows.uptoBulkAll]
  | succ n ih =>
    rw [List.range_succ, List.map_append, List.map_append, List.sum_append]
    have h1 := ih fun i hi => h i (by omega)
    have h2 := h n (by omega)
    simp only [List.map_cons, List.map_nil, bulk_snoc, List.sum_cons, List.sum_nil]
    omega
/-- a list of what each place has. -/
theorem exists_list {α : Type} (n : Nat) (P : Nat → α → Prop) (h : ∀ i, i < n → ∃ a, P i a) : ∃ l : List α, l.length = n ∧ ∀ i (hi : i < l.length), P i l[i] := by
  induction n with
  | zero => exact ⟨[], rfl, fun i hi => by simp at hi⟩
  | succ n ih =>
    obtain ⟨l, hl, hp⟩ := ih fun i hi => h i (by omega)
    obtain ⟨a, ha⟩ := h n (by omega)
    refine ⟨l ++ [a], by simp [hl], fun i hi => ?_⟩
    rw [List.getElem_append]
    split
    · exact hp i _
    · have : i = n := by simp at hi; omega
      subst this
      simpa using ha
theorem sum_range {α : Type} (l : List α) (g : α → Nat) (f : Nat → Nat) (n : Nat) (hn : l.length = n) (h : ∀ i (hi : i < l.length), g l[i] = f i) : (l.map g).sum = ((List.range n).map f).sum := by
  subst hn
  congr 1
  apply List.ext_getElem
  · simp
  · intro i h1 h2
    simp at h1
    simp [h i h1]

section
variable {H : Type} {enc : TypeId × Value → H} {W : World}

set_option maxRecDepth 100000 in
theorem ints_at {n : Nat} {cs : List Value} {x : DataW H × List MemPlace} (h : DataW.trod enc Try.prog W 0 (fun _ => true) true n 30 cs = some x) :
    ∃ v zs, cs = [v] ∧ zs.length + 1 ≤ Rows.uptoBulk x.1 ∧ Seg W W.heap.size v (ints zs) := by
  rcases open_ints Try.underlying30 Try.underlying3 (by kernel_rfl) h with ⟨rfl, rfl⟩ | ⟨a, l, c, zs, rfl, _, hl, hm, hz, rfl, hcell, hwz⟩
  · exact ⟨_, [], rfl, by simp [Rows.uptoBulk], Seg.nil _ _⟩
  · refine ⟨_, zs.take l, rfl, ?_, seg_of_ints hl hm (by simpa using hz) hcell⟩
    have h1 := bulk_slice (H := H) (lits .i64 (zs.take l)) (lits .i64 (zs.drop l))
    have h2 := bulk_length (H := H) (lits .i64 (zs.take l))
    rw [show (lits (H := H) .i64 (zs.take l)).length = (zs.take l).length by simp [lits]] at h2
    simp only
    omega

set_option maxRecDepth 100000 in
theorem bytes_at {n : Nat} {cs : List Value} {x : DataW H × List MemPlace} (h : DataW.trod enc Try.prog W 0 (fun _ => true) true n 22 cs = some x) :
    ∃ v l, cs = [v] ∧ l.length + 1 ≤ Rows.uptoBulk x.1 ∧ Seg W W.heap.size v (byteCells l) := by
  rcases open_ints Try.underlying22 Try.underlying5 (by kernel_rfl) h with ⟨rfl, rfl⟩ | ⟨a, l, c, zs, rfl, _, hl, hm, hz, rfl, hcell, hwz⟩
  · exact ⟨_, [], rfl, by simp [Rows.uptoBulk], Seg.nil _ _⟩
  · have hbd : ∀ n ∈ zs, 0 ≤ n ∧ n < 256 := fun n hn => by
      have := hwz n hn
      simp [Lit.wf, IntKind.min, IntKind.max, IntKind.signed, IntKind.bits] at this
      omega
    refine ⟨_, (zs.take l).map (fun n => n.toNat.toUInt8), rfl, ?_, ?_⟩
    · have h1 := bulk_slice (H := H) (lits .u8 (zs.take l)) (lits .u8 (zs.drop l))
      have h2 := bulk_length (H := H) (lits .u8 (zs.take l))
      rw [show (lits (H := H) .u8 (zs.take l)).length = (zs.take l).length by simp [lits]] at h2
      rw [List.length_map]
      simp only
      omega
    · have hs := seg_of_ints hl hm (by simpa using hz) hcell
      have e : byteCells ((zs.take l).map (fun n => n.toNat.toUInt8)) = (zs.take l).map (Value.int .u8) := by
        unfold byteCells
        rw [List.map_map]
        refine List.map_congr_left (fun n hn => ?_)
        have := hbd n (List.mem_of_mem_take hn)
        show Value.int .u8 ((n.toNat.toUInt8).toNat : Int) = _
        rw [u8_of n this.1 this.2]
        have e2 : ((n.toNat : Nat) : Int) = n := by omega
        rw [e2]
      exact e.symm ▸ hs

theorem rows_at {n : Nat} {cs : List Value} {x : DataW H × List MemPlace} (h : DataW.trod enc Try.prog W 0 (fun _ => true) true n 42 cs = some x) :
    ∃ v ls, cs = [v] ∧ sizeP ls + 1 ≤ Rows.uptoBulk x.1 ∧ RowsAt (· < W.heap.size) W v ls := by
  rcases open_slice1 Try.underlying42 (by kernel_rfl) h with ⟨rfl, rfl⟩ | ⟨a, l, c, m, n', V, D, Pl, rfl, _, hl, hm, hmm, rfl, hi⟩
  · exact ⟨_, [], rfl, by simp [Rows.uptoBulk, sizeP], [], rfl, Seg.nil W W.heap.size, fun i hi => by simp at hi⟩
  · simp only [if_true] at hmm
    subst hmm
    obtain ⟨ls, hll, hls⟩ := exists_list l (fun i (z : List UInt8) => z.length + 1 ≤ Rows.uptoBulk (D i) ∧ Seg W W.heap.size (V i) (byteCells z)) (fun i hil => by
      obtain ⟨v, z, e, h1, h2⟩ := bytes_at (hi i (by omega)).2
      cases e
      exact ⟨z, h1, h2⟩)
    refine ⟨_, ls, rfl, ?_, (List.range l).map V, by simp [hll], ?_, fun i hil => ?_⟩
    · have h1 := bulk_slice (H := H) ((List.range l).map D) ((List.range (m - l)).map fun j => D (l + j))
      have h2 := bulk_sum D (fun i => 1 + (ls.getD i []).length) l (fun i hil => by
        have := (hls i (by omega)).1
        rw [List.getD_eq_getElem?_getD, List.getElem?_eq_getElem (by omega)]
        simp only [Option.getD_some]
        omega)
      have h3 := sum_range ls (fun z => 1 + z.length) (fun i => 1 + (ls.getD i []).length) l hll (fun i hi' => by
        rw [List.getD_eq_getElem?_getD, List.getElem?_eq_getElem hi']
        rfl)
      unfold sizeP
      simp only
      omega
    · have e : ((List.range l).map V).length = l := by simp
      refine ⟨some a, m, by rw [e], by rw [e]; exact hl, hm, fun hp => ?_⟩
      rw [e] at hp
      have h0 := (hi 0 (by omega)).1
      obtain ⟨b, off, spot⟩ := a
      have hspot : spot = none := by simpa [Addr.add] using World.cell?_spot h0
      subst hspot
      refine ⟨b, off, rfl, ?_, fun i hi' => ?_⟩
      · have := World.block_lt_of_cell? _ _ h0
        rw [add_addr] at this
        exact this
      · rw [e] at hi'
        rw [← add_addr, (hi i (by omega)).1]
        simp [hi']
    · have hi2 : i < l := by omega
      rw [show ((List.range l).map V).getD i (.bool false) = V i by simp [List.getD_eq_getElem?_getD, hi2], show ls.getD i [] = ls[i] by simp [List.getD_eq_getElem?_getD, hil]]
      exact (hls i hil).2

theorem op_fields : ∃ fs : Array Field, Try.prog.underlying 44 = some (.struct fs) ∧ fs.toList.map (fun f => (f.type, f.offset)) = [(3, 0), (3, 1), (9, 2), (9, 3), (42, 4), (30, 5)] := by
  have h : (Try.prog.underlying 44).map (fun d => match d with | .struct fs => fs.toList.map (fun f => (f.type, f.offset)) | _ => []) = some [(3, 0), (3, 1), (9, 2), (9, 3), (42, 4), (30, 5)] := by kernel_rfl
  cases hu : Try.prog.underlying 44 with
  | none => rw [hu] at h; cases h
  | some d =>
    rw [hu] at h
    cases d <;> simp at h
    exact ⟨_, rfl, h⟩
theorem field_of {fs : Array Field} {L : List (Nat × Nat)} (h : fs.toList.map (fun f => (f.type, f.offset)) = L) (j t o : Nat) (hj : L[j]? = some (t, o)) : ∃ f, fs[j]? = some f ∧ f.type = t ∧ f.offset = o := by
  have := congrArg (·[j]?) h
  simp only [List.getElem?_map, Array.getElem?_toList] at this
  rw [hj] at this
  cases hf : fs[j]? with
  | none => rw [hf] at this; cases this
  | some f =>
    rw [hf] at this
    simp at this
    exact ⟨f, rfl, this.1, this.2⟩
theorem list6 {α : Type} {l : List α} (h : l.length = 6) : ∃ a b c d e f, l = [a, b, c, d, e, f] := by
  rcases l with _ | ⟨a, _ | ⟨b, _ | ⟨c, _ | ⟨d, _ | ⟨e, _ | ⟨f, _ | ⟨g, l⟩⟩⟩⟩⟩⟩⟩
  · simp at h
  · simp at h
  · simp at h
  · simp at h
  · simp at h
  · simp at h
  · exact ⟨a, b, c, d, e, f, rfl⟩
  · simp at h

theorem op_at {n : Nat} {cs : List Value} {x : DataW H × List MemPlace} (h : DataW.trod enc Try.prog W 0 (fun _ => true) true n 44 cs = some x) (hb : Rows.uptoBulk x.1 ≤ 1048576) :
    ∃ o : OpR, cs = o.cells ∧ sizeP o.parts + 1 ≤ Rows.uptoBulk x.1 ∧ OpAt W W.heap.size o := by
  obtain ⟨fs, hu, hfs⟩ := op_fields
  obtain ⟨xs, m, _, rfl, hlen, hxl, hf⟩ := DataW.trod_struct hu h
  have hC : Try.prog.cellsOf 44 = 6 := by kernel_rfl
  rw [hC] at hlen
  have hfl : fs.size = 6 := by have := congrArg List.length hfs; simpa using this
  rw [hfl] at hxl
  obtain ⟨c0, c1, c2, c3, c4, c5, rfl⟩ := list6 hlen
  obtain ⟨y0, y1, y2, y3, y4, y5, rfl⟩ := list6 hxl
  have get : ∀ (j t : Nat), [(3, 0), (3, 1), (9, 2), (9, 3), (42, 4), (30, 5)][j]? = some (t, j) → Try.prog.cellsOf t = 1 → DataW.trod enc Try.prog W 0 (fun _ => true) true m t (([c0, c1, c2, c3, c4, c5].drop j).take 1) = [y0, y1, y2, y3, y4, y5][j]? := by
    intro j t hj ht
    obtain ⟨f, hfj, hty, hof⟩ := field_of hfs j t j hj
    have := hf j f hfj
    rw [hty, hof, ht] at this
    exact this
  obtain ⟨n0, e0, _, w0⟩ := DataW.trod_int Try.underlying3 (get 0 3 rfl (by kernel_rfl))
  obtain ⟨n1, e1, _, w1⟩ := DataW.trod_int Try.underlying3 (get 1 3 rfl (by kernel_rfl))
  obtain ⟨s2, e2, _, w2⟩ := DataW.trod_string Try.underlying9 (get 2 9 rfl (by kernel_rfl))
  obtain ⟨s3, e3, _, w3⟩ := DataW.trod_string Try.underlying9 (get 3 9 rfl (by kernel_rfl))
  obtain ⟨v4, ls, e4, b4, g4⟩ := rows_at (x := y4) (get 4 42 rfl (by kernel_rfl))
  obtain ⟨v5, zs, e5, b5, g5⟩ := ints_at (x := y5) (get 5 30 rfl (by kernel_rfl))
  simp at e0 e1 e2 e3 e4 e5
  subst e0 e1 e2 e3 e4 e5
  simp only [List.map_cons, List.map_nil, Rows.uptoBulk, Rows.uptoBulkAll] at hb ⊢
  exact ⟨⟨n0, n1, s2, s3, c4, c5, ls, zs⟩, rfl, by simp only; omega, g4, g5, by simpa [maxLen] using w2, by simpa [maxLen] using w3, by simp only; omega⟩

theorem ops_at {n : Nat} {cs : List Value} {x : DataW H × List MemPlace} (h : DataW.trod enc Try.prog W 0 (fun _ => true) true n 36 cs = some x) (hb : Rows.uptoBulk x.1 ≤ 1048576) :
    ∃ v os, cs = [v] ∧ sizeO os + 1 ≤ Rows.uptoBulk x.1 ∧ SegO W W.heap.size v os := by
  have hC : Try.prog.cellsOf 44 = 6 := by kernel_rfl
  rcases open_slice Try.underlying36 h with ⟨rfl, rfl⟩ | ⟨a, l, c, m, n', D, Pl, rfl, _, hl, hm, hmm, rfl, hi⟩
  · exact ⟨_, [], rfl, by simp [Rows.uptoBulk, sizeO], none, 0, rfl, by simp, by simp, by simp, fun i hi => by simp at hi⟩
  · simp only [if_true] at hmm
    subst hmm
    rw [hC] at hi
    have hsl := bulk_slice (H := H) ((List.range l).map D) ((List.range (m - l)).map fun j => D (l + j))
    simp only at hb
    obtain ⟨os, hol, hos⟩ := exists_list l (fun i (o : OpR) => sizeP o.parts ≤ Rows.uptoBulk (D i) ∧ OpAt W W.heap.size o ∧ ∀ j, j < 6 → W.cell? (a.add (i * 6 + j)) = o.cells[j]?) (fun i hil => by
      obtain ⟨cs', hc, ht⟩ := hi i (by omega)
      have hbi := bulk_part (H := H) (List.mem_map.2 ⟨i, List.mem_range.2 hil, rfl⟩ : D i ∈ (List.range l).map D)
      obtain ⟨o, rfl, h1, h2⟩ := op_at ht (by simp only; omega)
      obtain ⟨_, _, hat⟩ := World.cells?_some hc
      refine ⟨o, by simp only at h1; omega, h2, fun j hj => ?_⟩
      rw [← Go.Deep.add_add]
      exact hat j hj)
    have hlen := hm
    refine ⟨_, os, rfl, ?_, some a, m, by rw [hol], by omega, by simpa [maxLen] using hm, fun o ho => ?_, fun i hio => ?_⟩
    · have h2 := bulk_sum D (fun i => sizeP (os.getD i ⟨0, 0, .empty, .empty, .bool false, .bool false, [], []⟩).parts) l (fun i hil => by
        have := (hos i (by omega)).1
        rw [List.getD_eq_getElem?_getD, List.getElem?_eq_getElem (by omega)]
        exact this)
      have h3 := sum_range os (fun o => sizeP o.parts) (fun i => sizeP (os.getD i ⟨0, 0, .empty, .empty, .bool false, .bool false, [], []⟩).parts) l hol (fun i hi' => by
        rw [List.getD_eq_getElem?_getD, List.getElem?_eq_getElem hi']
        rfl)
      unfold sizeO
      simp only
      omega
    · obtain ⟨i, hio, rfl⟩ := List.getElem_of_mem ho
      exact (hos i hio).2.1
    · have hc := (hos i hio).2.2
      have h0 := (hos 0 (by omega)).2.2 0 (by omega)
      obtain ⟨b, off, spot⟩ := a
      have hspot : spot = none := by simpa [Addr.add, OpR.cells] using World.cell?_spot h0
      subst hspot
      refine ⟨b, off, rfl, ?_, fun j hj => ?_⟩
      · have := World.block_lt_of_cell? _ _ h0
        rw [add_addr] at this
        exact this
      · rw [← hc j hj, add_addr, Nat.add_assoc]
end
end Go.Proofs.Ytpdelgjfamelfaa
