import Derived.Test.YtdldkidccjkhgaaDoorUtfQ
import Derived.Test.YtdldkidccjkhgaaDoorUtfJ
import Derived.Test.YtdldkidccjkhgaaDoorUtfV
import Derived.Test.YtdldkidccjkhgaaDoorUtfR
import Derived.Test.YtdldkidccjkhgaaDoorSame
namespace Go.Proofs.YtdldkidccjkhgaaDoor
open Go.RowKit Go.Par

theorem str_of (l : List UInt8) : ∃ S : ByteArray, S = ⟨l.toArray⟩ ∧ S.data.toList = l ∧ S.size = l.length := ⟨_, rfl, by simp, by simp [ByteArray.size]⟩
theorem all2 : AllR [97, 128512] := by intro r hr; simp at hr; rcases hr with rfl | rfl <;> decide
theorem bad255 : Bad [255] := ⟨by simp, by decide⟩
theorem e97 : txt [97] ++ [255] = [97, 255] := by decide
theorem all97 : AllR [97] := by intro r hr; simp at hr; subst hr; decide

set_option maxHeartbeats 1000000 in
theorem alive_any (w : World) (hT : Tabs w) : Calls Tryd.prog 19 #[] w fun e w' => e = .returned (.bool true) ∧ Below w.heap.size w w' := by
  have hsg := Seg.new w 3 #[.int .i64 97, .int .i64 128512] (ints [97, 128512]) rfl (by simp [ints, maxLen])
  have hb0 : Below w.heap.size w (w.alloc (.cells #[.int .i64 97, .int .i64 128512] 3)) := (Below.refl _ w).alloc (Nat.le_refl _) _
  obtain ⟨S, hS, hSl, hSz⟩ := str_of (txt [97, 128512])
  have hc := text_ok _ [97, 128512] all2 _ (w.alloc (.cells #[.int .i64 97, .int .i64 128512] 3)) hsg (by simp) (by simp)
  rw [← hS] at hc
  have HC := Lib.hid hc; clear hc
  have hsz5 : S.size = 5 := by rw [hSz]; decide
  have HS := Lib.hid hS; clear hS
  have HL := Lib.hid hSl; clear hSl
  have hsz : S.size ≤ 100000 := by omega
  clear hSz hsz5
  go_enter Tryd.func19, Tryd.ntmps19
  go_wp2_with fail
  refine HC.out.mono ?_
  rintro e w1 ⟨rfl, hb1⟩
  have hbw1 := hb0.trans (hb1.mono hb0.size)
  have hT1 := hT.below hbw1
  go_wp2_with fail
  refine (units_ok S [97, 128512] HL.out all2 w1 hT1 hsz).mono ?_
  rintro e w2 ⟨v2, rfl, hown2, hb2⟩
  have hbw2 := hbw1.trans (hb2.mono hbw1.size)
  have hT2 := hT1.below hb2
  go_wp2_with fail
  refine (offset_ok S [97, 128512] HL.out all2 3 w2 hT2 hsz).mono ?_
  have hf : (findP (fun p => decide ((p.2 : Int) = 3)) [97, 128512]).map (·.1) = some 5 := by decide
  rw [hf]
  rintro e w3 ⟨rfl, hb3⟩
  have hbw3 := hbw2.trans (hb3.mono hbw2.size)
  have hT3 := hT2.below hb3
  go_wp2_with fail
  have hu : units [97, 128512] = [97, 55357, 56832] := by decide
  rw [hu] at hown2
  have hsg3 := Seg.new w3 3 #[.int .i64 97, .int .i64 55357, .int .i64 56832] (ints [97, 55357, 56832]) rfl (by simp [ints, maxLen])
  have hsg2 : Seg (w3.alloc (.cells #[.int .i64 97, .int .i64 55357, .int .i64 56832] 3)) (w3.heap.size + 1) v2 (ints [97, 55357, 56832]) :=
    ((hown2.below hb3).seg.below ((Below.refl _ w3).alloc (Nat.le_refl _) _)).more (by omega)
  refine (sameInts_any _ _ [97, 55357, 56832] [97, 55357, 56832] _ _ hsg2 hsg3).mono ?_
  rintro e w4 ⟨rfl, n4, rfl⟩
  rw [decide_eq_true rfl]
  have hbw4 := below_drewN (hbw3.alloc hbw3.size (.cells #[.int .i64 97, .int .i64 55357, .int .i64 56832] 3)) n4
  have hT4 := hT.below hbw4
  clear hsg2 hsg3
  generalize (w3.alloc (.cells #[.int .i64 97, .int .i64 55357, .int .i64 56832] 3)).drewN n4 = w5 at *
  go_wp2_with fail
  have hsg5 := Seg.new w5 5 #[.int .u8 97, .int .u8 255] (Lib.byteCells (txt [97] ++ [255])) (by rw [e97]; rfl) (by rw [e97]; simp [Lib.byteCells, maxLen])
  have hbw5 := hbw4.alloc hbw4.size (.cells #[.int .u8 97, .int .u8 255] 5)
  refine (uvalid_any _ [97] [255] all97 (.inr bad255) _ _ hsg5 (by simp) (hT.below hbw5)).mono ?_
  rintro e w6 ⟨rfl, hb6⟩
  rw [show (txt [97]).length = 1 from by decide]
  go_wp2
  go_ret
  exact ⟨rfl, hbw5.trans (hb6.mono hbw5.size)⟩
end Go.Proofs.YtdldkidccjkhgaaDoor
