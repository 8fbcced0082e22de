/- What a row of the second form asks of its arguments: from the datum to memory, with the bulk. -/
import Derived.Test.YtpdelgjfamelfaaGreatRow
import Derived.Test.YtpdelgjfamelfaaGreatM3
import Derived.Deep.Slices
import Derived.Deep.Fields
import Derived.ChangeSame
import Derived.JoinedCond
namespace Go.Proofs.YtpdelgjfamelfaaGreat
open Go.ChangeShapes Go.WideShapes Go.ChangeAt Go.RowKit Go.Par Go.Lib Go.Deep
set_option linter.unusedVariables false
set_option linter.unusedSimpArgs false

theorem bulk_one {H : Type} (d : DataW H) : 1 ≤ Rows.uptoBulk d := by
  cases d with
  | lit l => cases l <;> simp [Rows.uptoBulk]
  | nil => simp [Rows.uptoBulk]
  | ptr d => simp [Rows.uptoBulk]
  | slice elems spare => simp [Rows.uptoBulk]
  | agg parts => simp [Rows.uptoBulk]
  | iface t d => simp [Rows.uptoBulk]
  | map entries => simp [Rows.uptoBulk]
  | held h => simp [Rows.uptoBulk]
theorem bulk_part {H : Type} {d : DataW H} {l : List (DataW H)} (h : d ∈ l) : Rows.uptoBulk d ≤ Rows.uptoBulkAll l := by
  induction l with
  | nil => cases h
  | cons x r ih =>
    simp only [Rows.uptoBulkAll]
    cases List.mem_cons.1 h with
    | inl e => subst e; omega
    | inr e => have := ih e; omega
theorem bulk_length {H : Type} (l : List (DataW H)) : l.length ≤ Rows.uptoBulkAll l := by
  induction l with
  | nil => simp [Rows.uptoBulkAll]
  | cons x r ih => have := bulk_one x; simp only [Rows.uptoBulkAll, List.length_cons]; omega
theorem bulk_snoc {H : Type} (l : List (DataW H)) (x : DataW H) : Rows.uptoBulkAll (l ++ [x]) = Rows.uptoBulkAll l + Rows.uptoBulk x := by
  induction l with
  | nil => simp [Rows.uptoBulkAll]
  | cons y l ih => simp only [List.cons_append, Rows.uptoBulkAll, ih]; omega
theorem bulk_slice {H : Type} (e s : List (DataW H)) : Rows.uptoBulkAll e + 1 ≤ Rows.uptoBulk (.slice e s) := by
  simp only [Rows.uptoBulk]; omega
/-- a sum over a range is at most the bulk. -/
theorem bulk_sum {H : Type} (D : Nat → DataW H) (f : Nat → Nat) (n : Nat) (h : ∀ i, i < n → f i ≤ Rows.uptoBulk (D i)) : ((List.range n).map f).sum ≤ Rows.uptoBulkAll ((List.range n).map D) := by
  induction n with
  | zero => simp [Rows.uptoBulkAll]
  | succ n ih =>
    rw [List.range_succ, List.map_append, List.map_append, List.sum_append]
    have h1 := ih fun i hi => h i (by omega)
    have h2 := h n (by omega)
    simp only [List.map_cons, List.map_nil, bulk_snoc, List.sum_cons, List.sum_nil]
    omega
/-- a list of what each place has. -/
theorem exists_list {α : Type} (n : Nat) (P : Nat → α → Prop) (h : ∀ i, i < n → ∃ a, P i a) : ∃ l : List α, l.length = n ∧ ∀ i (hi : i < l.length), P i l[i] := by
  induction n with
  | zero => exact ⟨[], rfl, fun i hi => by simp at hi⟩
  | succ n ih =>
    obtain ⟨l, hl, hp⟩ := ih fun i hi => h i (by omega)
    obtain ⟨a, ha⟩ := h n (by omega)
    refine ⟨l ++ [a], by simp [hl], fun i hi => ?_⟩
    rw [List.getElem_append]
    split
    · exact hp i _
    · have : i = n := by simp at hi; omega
      subst this
      simpa using ha
theorem sum_range {α : Type} (l : List α) (g : α → Nat) (f : Nat → Nat) (n : Nat) (hn : l.length = n) (h : ∀ i (hi : i < l.length), g l[i] = f i) : (l.map g).sum = ((List.range n).map f).sum := by
  subst hn
  congr 1
  apply List.ext_getElem
  · simp
  · intro i h1 h2
    simp at h1
    simp [h i h1]

section
variable {H : Type} {enc : TypeId × Value → H} {W : World}

set_option maxRecDepth 100000 in
theorem ints_at {n : Nat} {cs : List Value} {x : DataW H × List MemPlace} (h : DataW.trod enc Tryz.prog W 0 (fun _ => true) true n 57 cs = some x) :
    ∃ v zs, cs = [v] ∧ zs.length + 1 ≤ Rows.uptoBulk x.1 ∧ Seg W W.heap.size v (ints zs) := by
  rcases open_ints Tryz.underlying57 Tryz.underlying3 (by kernel_rfl) h with ⟨rfl, rfl⟩ | ⟨a, l, c, zs, rfl, _, hl, hm, hz, rfl, hcell, hwz⟩
  · exact ⟨_, [], rfl, by simp [Rows.uptoBulk], Seg.nil _ _⟩
  · refine ⟨_, zs.take l, rfl, ?_, seg_of_ints hl hm (by simpa using hz) hcell⟩
    have h1 := bulk_slice (H := H) (lits .i64 (zs.take l)) (lits .i64 (zs.drop l))
    have h2 := bulk_length (H := H) (lits .i64 (zs.take l))
    rw [show (lits (H := H) .i64 (zs.take l)).length = (zs.take l).length by simp [lits]] at h2
    simp only
    omega

set_option maxRecDepth 100000 in
theorem bytes_at {n : Nat} {cs : List Value} {x : DataW H × List MemPlace} (h : DataW.trod enc Tryz.prog W 0 (fun _ => true) true n 22 cs = some x) :
    ∃ v l, cs = [v] ∧ l.length + 1 ≤ Rows.uptoBulk x.1 ∧ Seg W W.heap.size v (byteCells l) := by
  rcases open_ints Tryz.underlying22 Tryz.underlying5 (by kernel_rfl) h with ⟨rfl, rfl⟩ | ⟨a, l, c, zs, rfl, _, hl, hm, hz, rfl, hcell, hwz⟩
  · exact ⟨_, [], rfl, by simp [Rows.uptoBulk], Seg.nil _ _⟩
  · have hbd : ∀ n ∈ zs, 0 ≤ n ∧ n < 256 := fun n hn => by
      have := hwz n hn
      simp [Lit.wf, IntKind.min, IntKind.max, IntKind.signed, IntKind.bits] at this
      omega
    refine ⟨_, (zs.take l).map (fun n => n.toNat.toUInt8), rfl, ?_, ?_⟩
    · have h1 := bulk_slice (H := H) (lits .u8 (zs.take l)) (lits .u8 (zs.drop l))
      have h2 := bulk_length (H := H) (lits .u8 (zs.take l))
      rw [show (lits (H := H) .u8 (zs.take l)).length = (zs.take l).length by simp [lits]] at h2
      rw [List.length_map]
      simp only
      omega
    · have hs := seg_of_ints hl hm (by simpa using hz) hcell
      have e : byteCells ((zs.take l).map (fun n => n.toNat.toUInt8)) = (zs.take l).map (Value.int .u8) := by
        unfold byteCells
        rw [List.map_map]
        refine List.map_congr_left (fun n hn => ?_)
        have := hbd n (List.mem_of_mem_take hn)
        show Value.int .u8 ((n.toNat.toUInt8).toNat : Int) = _
        rw [u8_of n this.1 this.2]
        have e2 : ((n.toNat : Nat) : Int) = n := by omega
        rw [e2]
      exact e.symm ▸ hs

theorem rows_at {n : Nat} {cs : List Value} {x : DataW H × List MemPlace} (h : DataW.trod enc Tryz.prog W 0 (fun _ => true) true n 38 cs = some x) :
    ∃ v ls, cs = [v] ∧ sizeP ls + 1 ≤ Rows.uptoBulk x.1 ∧ RowsAt (· < W.heap.size) W v ls := by
  rcases open_slice1 Tryz.underlying38 (by kernel_rfl) h with ⟨rfl, rfl⟩ | ⟨a, l, c, m, n', V, D, Pl, rfl, _, hl, hm, hmm, rfl, hi⟩
  · exact ⟨_, [], rfl, by simp [Rows.uptoBulk, sizeP], [], rfl, Seg.nil W W.heap.size, fun i hi => by simp at hi⟩
  · simp only [if_true] at hmm
    subst hmm
    obtain ⟨ls, hll, hls⟩ := exists_list l (fun i (z : List UInt8) => z.length + 1 ≤ Rows.uptoBulk (D i) ∧ Seg W W.heap.size (V i) (byteCells z)) (fun i hil => by
      obtain ⟨v, z, e, h1, h2⟩ := bytes_at (hi i (by omega)).2
      cases e
      exact ⟨z, h1, h2⟩)
    refine ⟨_, ls, rfl, ?_, (List.range l).map V, by simp [hll], ?_, fun i hil => ?_⟩
    · have h1 := bulk_slice (H := H) ((List.range l).map D) ((List.range (m - l)).map fun j => D (l + j))
      have h2 := bulk_sum D (fun i => 1 + (ls.getD i []).length) l (fun i hil => by
        have := (hls i (by omega)).1
        rw [List.getD_eq_getElem?_getD, List.getElem?_eq_getElem (by omega)]
        simp only [Option.getD_some]
        omega)
      have h3 := sum_range ls (fun z => 1 + z.length) (fun i => 1 + (ls.getD i []).length) l hll (fun i hi' => by
        rw [List.getD_eq_getElem?_getD, List.getElem?_eq_getElem hi']
        rfl)
      unfold sizeP
      simp only
      omega
    · have e : ((List.range l).map V).length = l := by simp
      refine ⟨some a, m, by rw [e], by rw [e]; exact hl, hm, fun hp => ?_⟩
      rw [e] at hp
      have h0 := (hi 0 (by omega)).1
      obtain ⟨b, off, spot⟩ := a
      have hspot : spot = none := by simpa [Addr.add] using World.cell?_spot h0
      subst hspot
      refine ⟨b, off, rfl, ?_, fun i hi' => ?_⟩
      · have := World.block_lt_of_cell? _ _ h0
        rw [add_addr] at this
        exact this
      · rw [e] at hi'
        rw [← add_addr, (hi i (by omega)).1]
        simp [hi']
    · have hi2 : i < l := by omega
      rw [show ((List.range l).map V).getD i (.bool false) = V i by simp [List.getD_eq_getElem?_getD, hi2], show ls.getD i [] = ls[i] by simp [List.getD_eq_getElem?_getD, hil]]
      exact (hls i hil).2

theorem field_of {fs : Array Field} {L : List (Nat × Nat)} (h : fs.toList.map (fun f => (f.type, f.offset)) = L) (j t o : Nat) (hj : L[j]? = some (t, o)) : ∃ f, fs[j]? = some f ∧ f.type = t ∧ f.offset = o := by
  have := congrArg (·[j]?) h
  simp only [List.getElem?_map, Array.getElem?_toList] at this
  rw [hj] at this
  cases hf : fs[j]? with
  | none => rw [hf] at this; cases this
  | some f =>
    rw [hf] at this
    simp at this
    exact ⟨f, rfl, this.1, this.2⟩
theorem list6 {α : Type} {l : List α} (h : l.length = 6) : ∃ a b c d e f, l = [a, b, c, d, e, f] := by
  rcases l with _ | ⟨a, _ | ⟨b, _ | ⟨c, _ | ⟨d, _ | ⟨e, _ | ⟨f, _ | ⟨g, l⟩⟩⟩⟩⟩⟩⟩
  · simp at h
  · simp at h
  · simp at h
  · simp at h
  · simp at h
  · simp at h
  · exact ⟨a, b, c, d, e, f, rfl⟩
  · simp at h

end
end Go.Proofs.YtpdelgjfamelfaaGreat
