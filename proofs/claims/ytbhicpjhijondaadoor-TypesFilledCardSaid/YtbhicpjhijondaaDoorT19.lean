/- types.Show. -/
import Derived.Test.YtbhicpjhijondaaDoorT18
namespace Go.Typ
/-- what Show answers. -/
def showT (T : Ty) : List UInt8 × Int := if rightT T then (sayT T, 0) else ([], 120)
end Go.Typ
namespace Go.Proofs.YtbhicpjhijondaaDoor
open Go.RowKit Go.Lib Go.Vfs Go.Par Go.Typ Go.Shelf
set_option linter.unusedVariables false
set_option linter.unusedSimpArgs false

set_option maxRecDepth 20000 in
set_option maxHeartbeats 1000000 in
theorem show_any (T : Ty) (v : Value) (w : World) (hT : TyAt (· < w.heap.size) w v T) (htb : Tb w) (hl : rightT T = true → (sayT T).length ≤ 140737488355000) :
    Calls Tryd.prog 22 #[v] w fun e w' => e = .returned (.tuple #[.string ⟨(showT T).1.toArray⟩, .int .i64 (showT T).2]) ∧ Below w.heap.size w w' := by
  obtain ⟨A, c, rfl, hc, hm, hn⟩ := hT.form
  obtain ⟨W1, hW1⟩ : ∃ W1, W1 = w.alloc (.cells #[.int .i64 T.kind, .int .i64 T.num, .string T.name, .slice A T.args.length c] 24) := ⟨_, rfl⟩
  have hb1 : Below w.heap.size w W1 := by rw [hW1]; exact (Below.refl _ _).alloc (Nat.le_refl _) _
  have HBX : Hid (W1.heap[w.heap.size]? = some (.cells #[.int .i64 T.kind, .int .i64 T.num, .string T.name, .slice A T.args.length c] 24 (0, 0))) := Lib.hid (by rw [hW1]; exact heap_alloc_new _ _)
  have HR := Lib.hid (right_any T _ W1 (hT.blw hb1))
  obtain ⟨y0, y1, y2, y3⟩ := box4 HBX.out
  have HB1 := Lib.hid hb1; have HT := Lib.hid hT; have HTB := Lib.hid htb; have HL := Lib.hid hl
  obtain ⟨q, hq⟩ : ∃ q, q = rightT T := ⟨_, rfl⟩
  rw [← hq] at HR
  have HQ := Lib.hid hq
  clear hT htb hl hc hm hn hb1 hq
  unfold tyV at HR ⊢
  go_enter Tryd.func22, Tryd.ntmps22
  go_wp2_with fail
  rw [← hW1]
  clear hW1
  refine HR.out.mono ?_
  rintro e w2 ⟨rfl, H2⟩
  have hbx2 := (H2.block _ (lt_blk HBX.out)).trans HBX.out
  have HB2 := Lib.hid (HB1.out.trans (H2.mono HB1.out.size))
  have HBX2 := Lib.hid hbx2
  clear y0 y1 y2 y3 H2 hbx2
  obtain ⟨y0, y1, y2, y3⟩ := box4 HBX2.out
  cases q
  · have HE : Hid (showT T = ([], 120)) := Lib.hid (by unfold showT; rw [← HQ.out]; rfl)
    go_wp2
    go_ret2
    rw [HE.out]
    exact ⟨rfl, HB2.out⟩
  · have HE : Hid (showT T = (sayT T, 0)) := Lib.hid (by unfold showT; rw [← HQ.out]; rfl)
    have HF := Lib.hid ((rightT_iff.1 HQ.out.symm).2)
    obtain ⟨W3, hW3⟩ : ∃ W3, W3 = w2.alloc (.cells #[.pointer none, .slice none 0 0] 72) := ⟨_, rfl⟩
    have hb3 : Below w2.heap.size w2 W3 := by rw [hW3]; exact (Below.refl _ _).alloc (Nat.le_refl _) _
    have hbd : Lib.IsBuilderF 72 5 w2.heap.size w2.heap.size (byteCells []) W3 := .inl ⟨Nat.le_refl _, .slice none 0 0, by rw [hW3]; exact heap_alloc_new _ _, ⟨rfl, .inl ⟨rfl, rfl⟩⟩, by simp [Value.ownBlock]⟩
    have HB3 := Lib.hid (HB2.out.trans (hb3.mono HB2.out.size))
    have HT3 := Lib.hid ((HT.out.blw HB2.out).keep (S' := (· < w2.heap.size)) fun g hg => ⟨hg, hb3.block g hg⟩)
    have HSY := Lib.hid (say_any T HF.out w2.heap.size w2.heap.size _ [] W3 HT3.out hbd hb3.size (HTB.out.keep (HB3.out.block _ HTB.out.size)) (Nat.lt_of_lt_of_le HTB.out.size HB2.out.size) (by have := HL.out HQ.out.symm; simpa using this))
    clear y0 y1 y2 y3
    obtain ⟨y0, y1, y2, y3⟩ := box4 ((hb3.block _ (lt_blk HBX2.out)).trans HBX2.out)
    have HZ3 := Lib.hid hb3
    unfold tyV at HSY
    rw [hW3] at y0 y1 y2 y3
    clear hb3 hbd
    go_wp2_with fail
    rw [← hW3]
    clear hW3 y0 y1 y2 y3
    refine HSY.out.mono ?_
    rintro e w4 ⟨rfl, H4⟩
    rw [List.nil_append] at H4
    have HS4 := Lib.hid H4
    have HST := Lib.hid (Tryd.Builder_String_any_k w2.heap.size w2.heap.size (sayT T) w4 H4.bld H4.le)
    clear H4
    go_wp2_with fail
    refine HST.out.mono ?_
    rintro e w5 ⟨rfl, -, hb5, -⟩
    have HB5 := Lib.hid hb5
    clear hb5
    go_wp2
    go_ret2
    rw [HE.out]
    exact ⟨rfl, (HB2.out.trans (HZ3.out.mono HB2.out.size)).trans ((HS4.out.below.mono HB2.out.size).trans (HB5.out.mono HB2.out.size))⟩
end Go.Proofs.YtbhicpjhijondaaDoor
