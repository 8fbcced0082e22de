/- What a row of the first form asks of a [][]byte: from the datum to memory, with bounds. -/
import Derived.Test.YtpdelgjfamelfaaRow
import Derived.Test.YtpdelgjfamelfaaRowU
namespace Go.Proofs.Ytpdelgjfamelfaa
open Go.ChangeShapes Go.WideShapes Go.ChangeAt Go.RowKit Go.Par Go.Lib Go.Deep
set_option linter.unusedVariables false
set_option linter.unusedSimpArgs false

theorem weights_all {H : Type} {P : Program} {e : TypeId} {d : DataW H} : ∀ {ds : List (DataW H)}, d ∈ ds → ∀ n ∈ d.weights P e, n ∈ DataW.weightsAll P e ds
  | x :: ds, h, n, hn => by
    simp only [DataW.weightsAll, List.mem_append]
    rcases List.mem_cons.1 h with rfl | h
    · exact .inl hn
    · exact .inr (weights_all h n hn)
set_option maxRecDepth 100000 in
theorem bytes_w {H : Type} {enc : TypeId × Value → H} {W : World} {n : Nat} {cs : List Value} {x : DataW H × List MemPlace} (h : DataW.trod enc Try.prog W 0 (fun _ => true) true n 22 cs = some x) (hw : ∀ k ∈ x.1.weights Try.prog 22, k ≤ reachBytes) :
    ∃ v l, cs = [v] ∧ l.length ≤ 140737488351232 ∧ Seg W W.heap.size v (byteCells l) := by
  rcases open_ints Try.underlying22 Try.underlying5 (by kernel_rfl) h with ⟨rfl, rfl⟩ | ⟨a, l, c, zs, rfl, _, hl, hm, hz, rfl, hcell, hwz⟩
  · exact ⟨_, [], rfl, by simp, Seg.nil _ _⟩
  · have hbd : ∀ n ∈ zs, 0 ≤ n ∧ n < 256 := fun n hn => by
      have := hwz n hn
      simp [Lit.wf, IntKind.min, IntKind.max, IntKind.signed, IntKind.bits] at this
      omega
    refine ⟨_, (zs.take l).map (fun n => n.toNat.toUInt8), rfl, ?_, ?_⟩
    · have h1 : Try.prog.bytesOf 5 = 1 := by kernel_rfl
      have := hw ((zs.take l).length + (zs.drop l).length) (by simp only [DataW.weights, Try.underlying22, lits, List.length_map, h1]; simp)
      have hr : reachBytes = 140737488351232 := by decide
      rw [hr] at this
      rw [List.length_map]
      omega
    · have hs := seg_of_ints hl hm (by simpa using hz) hcell
      have e : byteCells ((zs.take l).map (fun n => n.toNat.toUInt8)) = (zs.take l).map (Value.int .u8) := by
        unfold byteCells
        rw [List.map_map]
        refine List.map_congr_left (fun n hn => ?_)
        have := hbd n (List.mem_of_mem_take hn)
        show Value.int .u8 ((n.toNat.toUInt8).toNat : Int) = _
        rw [u8_of n this.1 this.2]
        have e2 : ((n.toNat : Nat) : Int) = n := by omega
        rw [e2]
      exact e.symm ▸ hs
set_option maxRecDepth 100000 in
theorem rows_of_trod {H : Type} {enc : TypeId × Value → H} {W : World} {base : Nat} {v : Value} {d : DataW H} {p : List MemPlace} (hval : Value.okWide Try.prog W .any base 42 v)
    (h : DataW.Trod enc Try.prog W 0 (fun _ => true) true 42 v d p) (hw : ∀ k ∈ d.weights Try.prog 42, k ≤ reachBytes) : ∃ ls : List (List UInt8), (ls.length ≤ 140737488351232 ∧ ∀ l ∈ ls, l.length ≤ 140737488351232) ∧ RowsAt (· < W.heap.size) W v ls := by
  obtain ⟨a0, len0, cap0, rfl⟩ := okWide_slice Try.underlying42 hval
  obtain ⟨fuel, hf⟩ := h
  rcases open_slice1 Try.underlying42 (by kernel_rfl) hf with ⟨hcs, hx⟩ | ⟨a, l, c, m, n', V, D, Pl, hcs, _, hl, hm, hmm, hx, hi⟩
  · simp [Value.cells] at hcs
    obtain ⟨rfl, rfl, rfl⟩ := hcs
    exact ⟨[], ⟨by simp, by simp⟩, [], rfl, Seg.nil W W.heap.size, fun i hi => by simp at hi⟩
  · simp [Value.cells] at hcs
    obtain ⟨rfl, rfl, rfl⟩ := hcs
    simp only [if_true] at hmm
    subst hmm
    have hd : d = .slice ((List.range len0).map D) ((List.range (m - len0)).map fun j => D (len0 + j)) := congrArg Prod.fst hx
    have hwi : ∀ i, i < len0 → ∀ k ∈ (D i).weights Try.prog 22, k ≤ reachBytes := fun i hil k hk => hw k (by
      rw [hd]
      simp only [DataW.weights, Try.underlying42, List.mem_cons, List.mem_append]
      exact .inr (.inl (weights_all (List.mem_map.2 ⟨i, List.mem_range.2 hil, rfl⟩) k hk)))
    obtain ⟨ls, hll, hls⟩ := exists_list len0 (fun i (z : List UInt8) => z.length ≤ 140737488351232 ∧ Seg W W.heap.size (V i) (byteCells z)) (fun i hil => by
      obtain ⟨v, z, e, h1, h2⟩ := bytes_w (hi i (by omega)).2 (hwi i hil)
      cases e
      exact ⟨z, h1, h2⟩)
    refine ⟨ls, ⟨?_, fun l hl2 => ?_⟩, (List.range len0).map V, by simp [hll], ?_, fun i hil => ?_⟩
    · have h24 : 1 ≤ Try.prog.bytesOf 22 := by
        have : Try.prog.bytesOf 22 = 24 := by kernel_rfl
        omega
      have := hw (len0 * Try.prog.bytesOf 22 + (m - len0) * Try.prog.bytesOf 22) (by rw [hd]; simp only [DataW.weights, Try.underlying42, List.length_map, List.length_range]; simp [Nat.add_mul])
      have hr : reachBytes = 140737488351232 := by decide
      rw [hr] at this
      have : len0 ≤ len0 * Try.prog.bytesOf 22 := Nat.le_mul_of_pos_right _ h24
      omega
    · obtain ⟨i, hi', rfl⟩ := List.getElem_of_mem hl2
      exact (hls i hi').1
    · have e : ((List.range len0).map V).length = len0 := by simp
      refine ⟨some a, m, by rw [e], by rw [e]; exact hl, hm, fun hp => ?_⟩
      rw [e] at hp
      have h0 := (hi 0 (by omega)).1
      obtain ⟨b, off, spot⟩ := a
      have hspot : spot = none := by simpa [Addr.add] using World.cell?_spot h0
      subst hspot
      refine ⟨b, off, rfl, ?_, fun i hi' => ?_⟩
      · have := World.block_lt_of_cell? _ _ h0
        rw [add_addr] at this
        exact this
      · rw [e] at hi'
        rw [← add_addr, (hi i (by omega)).1]
        simp [hi']
    · have hi2 : i < len0 := by omega
      rw [show ((List.range len0).map V).getD i (.bool false) = V i by simp [List.getD_eq_getElem?_getD, hi2], show ls.getD i [] = ls[i] by simp [List.getD_eq_getElem?_getD, hil]]
      exact (hls i hil).2
end Go.Proofs.Ytpdelgjfamelfaa
