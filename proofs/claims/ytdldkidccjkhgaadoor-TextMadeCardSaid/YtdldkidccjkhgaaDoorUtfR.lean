import Derived.Test.YtdldkidccjkhgaaDoorUtf
namespace Go.Proofs.YtdldkidccjkhgaaDoor
open Go.RowKit Go.Par

set_option maxHeartbeats 400000 in
theorem units_bad (s : ByteArray) (hv : Lib.validD s.data.toList = false) (w : World) (hT : Tabs w) (hl : s.size ≤ 9223372036854775807) :
    Calls Tryd.prog 20 #[.string s] w fun e w' => e = .returned (.tuple #[.slice none 0 0, .int .i64 40]) ∧ Below w.heap.size w w' := by
  have HV := Lib.hid hv; clear hv
  go_enter Tryd.func20, Tryd.ntmps20
  go_wp2_with fail
  refine (valid_any s w (by omega) hT).mono ?_
  rintro e w1 ⟨rfl, hb1⟩
  rw [HV.out]
  go_wp2
  go_ret2
  exact ⟨rfl, hb1⟩

set_option maxHeartbeats 400000 in
theorem runes_bad (s : ByteArray) (hv : Lib.validD s.data.toList = false) (w : World) (hT : Tabs w) (hl : s.size ≤ 9223372036854775807) :
    Calls Tryd.prog 26 #[.string s] w fun e w' => e = .returned (.tuple #[.slice none 0 0, .int .i64 40]) ∧ Below w.heap.size w w' := by
  have HV := Lib.hid hv; clear hv
  go_enter Tryd.func26, Tryd.ntmps26
  go_wp2_with fail
  refine (valid_any s w (by omega) hT).mono ?_
  rintro e w1 ⟨rfl, hb1⟩
  rw [HV.out]
  go_wp2
  go_ret2
  exact ⟨rfl, hb1⟩

set_option maxHeartbeats 400000 in
theorem runes_ok (s : ByteArray) (rs : List Int) (hs : s.data.toList = txt rs) (ha : AllR rs) (w : World) (hT : Tabs w) (hl : s.size ≤ 100000) :
    Calls Tryd.prog 26 #[.string s] w fun e w' => ∃ v, e = .returned (.tuple #[v, .int .i64 0]) ∧ Own w' w.heap.size 3 v (ints rs) ∧ Below w.heap.size w w' := by
  have hv : Lib.validD s.data.toList = true := by rw [hs]; exact validD_of ha
  have HS := Lib.hid hs; clear hs
  have HV := Lib.hid hv; clear hv
  go_enter Tryd.func26, Tryd.ntmps26
  go_wp2_with fail
  refine (valid_any s w (by omega) hT).mono ?_
  rintro e w1 ⟨rfl, hb1⟩
  rw [HV.out]
  go_wp2
  go_loopw [4] (fun v wr => ∃ k, k ≤ rs.length ∧ Own wr (w1.heap.size + 1) 3 v (ints (rs.take k)) ∧ wr.heap[w1.heap.size]? = some (.stringIter s (txt (rs.take k)).length) ∧ Below w1.heap.size w1 wr) (fun _ wr => s.size - wr.iterPos w1.heap.size)
  case atStart => exact ⟨0, by omega, Own.nil _ _ _, World.iter_heap w1 s 0, (Below.refl _ _).alloc (Nat.le_refl _) _⟩
  case round =>
    obtain ⟨k, hk, hown, hit, hbw⟩ := hrel
    have hsz : w1.heap.size < wr.heap.size := (Array.getElem?_eq_some_iff.1 hit).1
    by_cases hlt : k < rs.length
    · obtain ⟨m, hrk, hm, hR, hp, hd, hnext⟩ := rune_at s rs HS.out ha k hlt
      have hnx : ∀ ty, (Instr.next (.pointer (some ⟨w1.heap.size, 0, none⟩)) true ty).run Tryd.prog wr = _ := fun ty => Lib.run_next_any_at wr (w1.heap.size) s _ ty hit hp
      rw [hd] at hnx
      dsimp only at hnx
      rw [hnext] at hnx
      have hit2 := Lib.iterAt_heap wr (w1.heap.size) s _ (txt (rs.take (k + 1))).length hit
      have hb2 := Lib.below_iterAt hbw (k := w1.heap.size) (by omega) s (txt (rs.take (k + 1))).length
      have hown2 := own_iterAt hown hit (txt (rs.take (k + 1))).length
      have hul := txt_length_le (rs.take k)
      have hz2 : w1.heap.size + 1 ≤ (wr.iterAt w1.heap.size s (txt (rs.take (k + 1))).length).heap.size := by rw [Lib.iterAt_size]; omega
      have HIT := Lib.hid hit; clear hit
      have HD := Lib.hid hd; clear hd
      have HN := Lib.hid hnext; clear hnext
      have HK := Lib.hid hrk; clear hrk
      have HI2 := Lib.hid hit2; clear hit2
      have hown3 := hown2.alloc (.cells #[.int .i64 m] 3)
      have hsg := Seg.new (wr.iterAt w1.heap.size s (txt (rs.take (k + 1))).length) 3 #[.int .i64 m] (ints [(m : Int)]) rfl (by simp [ints, maxLen])
      go_wp2_with (at_builtin; refine wpList_app _ rfl _ _ _ rfl (w1.heap.size + 1) 3 _ intE _ _ rfl hown3 _ _ (ints [(m : Int)]) rfl hsg (one_ints _) ?c1 ?c2 ?_)
      case c1 => rw [ints_length, ints_length]; simp at hul ⊢; omega
      case c2 => first | omega | (simp; omega)
      intro v2 w2 hown4 hg2 hat2
      have hb3 : Below (w1.heap.size + 1) (wr.iterAt w1.heap.size s (txt (rs.take (k + 1))).length) w2 := below_app ((Below.refl _ _).alloc hz2 _) hown3 hg2 (by simp; omega)
      go_wp2
      have hit3 : w2.heap[w1.heap.size]? = some (.stringIter s (txt (rs.take (k + 1))).length) := (hb3.block _ (by omega)).trans HI2.out
      go_roundw
      case rel => exact ⟨k + 1, by omega, by rw [take_snoc rs k m HK.out, ints_append]; exact hown4, hit3, hb2.trans (hb3.mono (by omega))⟩
      case measure =>
        have h1 := HN.out
        have h2 := enc_pos m
        simp only [World.iterPos, hit3, HIT.out]
        omega
    · have hkl : k = rs.length := by omega
      have hend : ¬ (txt (rs.take k)).length < s.size := by rw [hkl, take_all, txt_size s rs HS.out]; omega
      have hnx : ∀ ty, (Instr.next (.pointer (some ⟨w1.heap.size, 0, none⟩)) true ty).run Tryd.prog wr = _ := fun ty => Lib.run_next_end_at wr (w1.heap.size) s _ ty hit hend
      have HKL := Lib.hid hkl; clear hkl
      have HIT := Lib.hid hit; clear hit
      go_wp2
      go_ret2
      refine ⟨_, rfl, ?_, hb1.trans (hbw.mono hb1.size)⟩
      rw [HKL.out, take_all] at hown
      exact hown.base (by have := hb1.size; omega)
end Go.Proofs.YtdldkidccjkhgaaDoor
