/- What every row of this seat asks beside its walk. -/
import Derived.Test.YtaalbcfpacpgfaaGreatRows
import Derived.Test.YtaalbcfpacpgfaaGreatM3
import Derived.ProofKit
import Derived.OpenShut
import Derived.ShutString
import Derived.ChangeOld
import Derived.Below
import Derived.SizedLaws
namespace Go.Proofs.YtaalbcfpacpgfaaGreat
open Go.ChangeShapes Go.WideShapes Go.ChangeAt Go.RowKit Go.Par Go.Lib Go.Shelf

set_option linter.unusedVariables false
theorem own : ownKnob Tryz.prog.godebug = none := by kernel_rfl
theorem laidOut : laidOutB Tryz.prog = true := by kernel_rfl

theorem u8_of (z : Int) (h0 : 0 ≤ z) (h1 : z < 256) : (z.toNat.toUInt8).toNat = z.toNat := by
  simp [Nat.toUInt8, UInt8.toNat_ofNat']; omega

theorem seg_of_ints {W : World} {k : IntKind} {a : Addr} {len cap : Nat} {zs : List Int} (hl : len ≤ cap) (hm : cap ≤ maxLen) (hz : zs.length = cap) (hcell : ∀ i, i < zs.length → W.cell? (a.add i) = some (.int k (zs.getD i 0))) :
    Seg W W.heap.size (.slice (some a) len cap) ((zs.take len).map (Value.int k)) := by
  have e : ((zs.take len).map (Value.int k)).length = len := by simp; omega
  refine ⟨some a, cap, by rw [e], by rw [e]; exact hl, hm, fun hp => ?_⟩
  rw [e] at hp
  have h0 := hcell 0 (by omega)
  obtain ⟨b, off, spot⟩ := a
  have hspot : spot = none := by simpa [Addr.add] using World.cell?_spot h0
  subst hspot
  refine ⟨b, off, rfl, ?_, fun i hi => ?_⟩
  · have := World.block_lt_of_cell? _ _ h0
    rw [add_addr] at this
    exact this
  · rw [e] at hi
    rw [← add_addr, hcell i (by omega)]
    have h1 : i < zs.length := by omega
    simp [hi, h1, List.getD_eq_getElem?_getD]

set_option maxRecDepth 100000 in
theorem ints_of_trod {H : Type} {enc : TypeId × Value → H} {W : World} {base : Nat} {v : Value} {d : DataW H} {p : List MemPlace} (hval : Value.okWide Tryz.prog W .any base 67 v)
    (h : DataW.Trod enc Tryz.prog W 0 (fun _ => true) true 67 v d p) (hw : ∀ k ∈ d.weights Tryz.prog 67, k ≤ reachBytes) : ∃ zs : List Int, zs.length ≤ 17592186043904 ∧ Seg W W.heap.size v (ints zs) := by
  obtain ⟨a, len, cap, rfl⟩ := okWide_slice Tryz.underlying67 hval
  obtain ⟨fuel, hf⟩ := h
  rcases open_ints Tryz.underlying67 Tryz.underlying3 (by kernel_rfl) hf with ⟨hcs, _⟩ | ⟨x, l, c, zs, hcs, _, hl, hm, hz, hx, hcell, hwz⟩
  · simp [Value.cells] at hcs
    obtain ⟨rfl, rfl, rfl⟩ := hcs
    exact ⟨[], by simp, Seg.nil _ _⟩
  · simp [Value.cells] at hcs
    obtain ⟨rfl, rfl, rfl⟩ := hcs
    refine ⟨zs.take len, ?_, seg_of_ints hl hm (by simpa using hz) hcell⟩
    have hd := congrArg Prod.fst hx
    simp only at hd
    have h8 : Tryz.prog.bytesOf 3 = 8 := by kernel_rfl
    have := hw ((zs.take len).length * 8 + (zs.drop len).length * 8) (by rw [hd]; simp only [DataW.weights, Tryz.underlying67, lits, List.length_map, h8]; simp [Nat.add_mul])
    have hr : reachBytes = 140737488351232 := by decide
    rw [hr] at this
    omega

set_option maxRecDepth 100000 in
theorem bytes_of_trod {H : Type} {enc : TypeId × Value → H} {W : World} {base : Nat} {v : Value} {d : DataW H} {p : List MemPlace} (hval : Value.okWide Tryz.prog W .any base 24 v)
    (h : DataW.Trod enc Tryz.prog W 0 (fun _ => true) true 24 v d p) (hw : ∀ k ∈ d.weights Tryz.prog 24, k ≤ reachBytes) : ∃ l : List UInt8, l.length ≤ 140737488351232 ∧ Seg W W.heap.size v (byteCells l) := by
  obtain ⟨a, len, cap, rfl⟩ := okWide_slice Tryz.underlying24 hval
  obtain ⟨fuel, hf⟩ := h
  rcases open_ints Tryz.underlying24 Tryz.underlying5 (by kernel_rfl) hf with ⟨hcs, _⟩ | ⟨x, l, c, zs, hcs, _, hl, hm, hz, hx, hcell, hwz⟩
  · simp [Value.cells] at hcs
    obtain ⟨rfl, rfl, rfl⟩ := hcs
    exact ⟨[], by simp, Seg.nil _ _⟩
  · simp [Value.cells] at hcs
    obtain ⟨rfl, rfl, rfl⟩ := hcs
    have hbd : ∀ n ∈ zs, 0 ≤ n ∧ n < 256 := fun n hn => by
      have := hwz n hn
      simp [Lit.wf, IntKind.min, IntKind.max, IntKind.signed, IntKind.bits] at this
      omega
    refine ⟨(zs.take len).map (fun n => n.toNat.toUInt8), ?_, ?_⟩
    · have hd := congrArg Prod.fst hx
      simp only at hd
      have h1 : Tryz.prog.bytesOf 5 = 1 := by kernel_rfl
      have := hw ((zs.take len).length + (zs.drop len).length) (by rw [hd]; simp only [DataW.weights, Tryz.underlying24, lits, List.length_map, h1]; simp)
      have hr : reachBytes = 140737488351232 := by decide
      rw [hr] at this
      rw [List.length_map]
      omega
    · have hs := seg_of_ints hl hm (by simpa using hz) hcell
      have e : byteCells ((zs.take len).map (fun n => n.toNat.toUInt8)) = (zs.take len).map (Value.int .u8) := by
        unfold byteCells
        rw [List.map_map]
        refine List.map_congr_left (fun n hn => ?_)
        have := hbd n (List.mem_of_mem_take hn)
        show Value.int .u8 ((n.toNat.toUInt8).toNat : Int) = _
        rw [u8_of n this.1 this.2]
        have e2 : ((n.toNat : Nat) : Int) = n := by omega
        rw [e2]
      exact e.symm ▸ hs
end Go.Proofs.YtaalbcfpacpgfaaGreat
