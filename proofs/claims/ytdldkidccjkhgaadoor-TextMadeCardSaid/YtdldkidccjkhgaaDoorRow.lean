/- What every row of this seat asks beside its walk: the two tables of unicode/utf8 out of the row's list; a start that fits. -/
import Derived.Test.YtdldkidccjkhgaaDoorTie
import Derived.Test.YtdldkidccjkhgaaDoorCards
import Derived.Test.YtdldkidccjkhgaaDoorUtf
import Derived.ProofKit
import Derived.OpenShut
import Derived.ShutString
import Derived.ChangeOld
import Derived.Below
import Derived.Lib.LaidU8T
import Derived.PinnedBridge
import Derived.Lay
import Derived.SevenTiedAt
import Derived.SizedLaws
namespace Go.Proofs.YtdldkidccjkhgaaDoor
open Go.ChangeShapes Go.WideShapes Go.ChangeAt Go.RowKit Go.Par Go.Lib Go.Shelf

theorem own : ownKnob Tryd.prog.godebug = none := by kernel_rfl
theorem laidOut : laidOutB Tryd.prog = true := by kernel_rfl

def laidL : List (String × DataW Unit) := [("unicode/utf8.acceptRanges", Rows.laid_unicode_utf8_acceptRanges), ("unicode/utf8.first", Rows.laid_unicode_utf8_first)]

theorem u8x : U8Extra Tryd.prog Tryd.lays196_ren := ⟨by kernel_rfl, by kernel_rfl, by kernel_rfl, by kernel_rfl, by kernel_rfl, by kernel_rfl, by kernel_rfl⟩

theorem tabs_of {W : World} (h : laidMetH Tryd.prog laidL W) : Tabs W := by
  rw [MakeChecks.laidMetH_plain _ _ _ (by kernel_rfl)] at h
  have h3 : VarReads Tryd.prog W "unicode/utf8.first" firstData := Pinned.utf8First_eq ▸ Lib.laidMet.reads h (.tail _ (.head _))
  have h4 : VarReads Tryd.prog W "unicode/utf8.acceptRanges" acceptData := Lib.laidMet.reads h (.head _)
  exact utf8Tabs_of_readsT (U8Types.of196 Tryd.lays196) u8x h3 h4

theorem seg_of_ints {W : World} {k : IntKind} {a : Addr} {len cap : Nat} {zs : List Int} (hl : len ≤ cap) (hm : cap ≤ maxLen) (hz : zs.length = cap) (hcell : ∀ i, i < zs.length → W.cell? (a.add i) = some (.int k (zs.getD i 0))) :
    Seg W W.heap.size (.slice (some a) len cap) ((zs.take len).map (Value.int k)) := by
  have e : ((zs.take len).map (Value.int k)).length = len := by simp; omega
  refine ⟨some a, cap, by rw [e], by rw [e]; exact hl, hm, fun hp => ?_⟩
  rw [e] at hp
  have h0 := hcell 0 (by omega)
  obtain ⟨b, off, spot⟩ := a
  have hspot : spot = none := by simpa [Addr.add] using World.cell?_spot h0
  subst hspot
  refine ⟨b, off, rfl, ?_, fun i hi => ?_⟩
  · have := World.block_lt_of_cell? _ _ h0
    rw [add_addr] at this
    exact this
  · rw [e] at hi
    rw [← add_addr, hcell i (by omega)]
    have h1 : i < zs.length := by omega
    simp [hi, h1, List.getD_eq_getElem?_getD]

theorem ints_of_trod {H : Type} {enc : TypeId × Value → H} {W : World} {base : Nat} {v : Value} {d : DataW H} {p : List MemPlace} (hval : Value.okWide Tryd.prog W .any base 23 v)
    (h : DataW.Trod enc Tryd.prog W 0 (fun _ => true) true 23 v d p) : ∃ zs : List Int, zs.length ≤ 9223372036854775807 ∧ Seg W W.heap.size v (ints zs) := by
  obtain ⟨a, len, cap, rfl⟩ := okWide_slice Tryd.underlying23 hval
  obtain ⟨fuel, hf⟩ := h
  rcases open_ints Tryd.underlying23 Tryd.underlying3 (by kernel_rfl) hf with ⟨hcs, _⟩ | ⟨x, l, c, zs, hcs, _, hl, hm, hz, _, hcell, hwz⟩
  · simp [Value.cells] at hcs
    obtain ⟨rfl, rfl, rfl⟩ := hcs
    exact ⟨[], by simp, Seg.nil _ _⟩
  · simp [Value.cells] at hcs
    obtain ⟨rfl, rfl, rfl⟩ := hcs
    refine ⟨zs.take len, ?_, seg_of_ints hl hm (by simpa using hz) hcell⟩
    simp only [maxLen] at hm
    simp; omega

theorem bytes_of_trod {H : Type} {enc : TypeId × Value → H} {W : World} {base : Nat} {v : Value} {d : DataW H} {p : List MemPlace} (hval : Value.okWide Tryd.prog W .any base 29 v)
    (h : DataW.Trod enc Tryd.prog W 0 (fun _ => true) true 29 v d p) : ∃ l : List UInt8, l.length ≤ 9223372036854775807 ∧ Seg W W.heap.size v (byteCells l) := by
  obtain ⟨a, len, cap, rfl⟩ := okWide_slice Tryd.underlying29 hval
  obtain ⟨fuel, hf⟩ := h
  rcases open_ints Tryd.underlying29 Tryd.underlying5 (by kernel_rfl) hf with ⟨hcs, _⟩ | ⟨x, l, c, zs, hcs, _, hl, hm, hz, _, hcell, hwz⟩
  · simp [Value.cells] at hcs
    obtain ⟨rfl, rfl, rfl⟩ := hcs
    exact ⟨[], by simp, Seg.nil _ _⟩
  · simp [Value.cells] at hcs
    obtain ⟨rfl, rfl, rfl⟩ := hcs
    have hbd : ∀ n ∈ zs, 0 ≤ n ∧ n < 256 := fun n hn => by
      have := hwz n hn
      simp [Lit.wf, IntKind.min, IntKind.max, IntKind.signed, IntKind.bits] at this
      omega
    refine ⟨(zs.take len).map (fun n => n.toNat.toUInt8), ?_, ?_⟩
    · simp only [maxLen] at hm
      simp; omega
    · have hs := seg_of_ints hl hm (by simpa using hz) hcell
      have e : byteCells ((zs.take len).map (fun n => n.toNat.toUInt8)) = (zs.take len).map (Value.int .u8) := by
        unfold byteCells
        rw [List.map_map]
        refine List.map_congr_left (fun n hn => ?_)
        have := hbd n (List.mem_of_mem_take hn)
        show Value.int .u8 ((n.toNat.toUInt8).toNat : Int) = _
        rw [u8_of n this.1 this.2]
        have e2 : ((n.toNat : Nat) : Int) = n := by omega
        rw [e2]
      exact e.symm ▸ hs
end Go.Proofs.YtdldkidccjkhgaaDoor
