import Derived.Test.YtdldkidccjkhgaaDoorUtf
namespace Go.Proofs.YtdldkidccjkhgaaDoor
open Go.RowKit Go.Par

set_option maxHeartbeats 400000 in
theorem refIsRune_any (r : Int) (w : World) :
    Calls Tryd.prog 62 #[.int .i64 r] w fun e w' => e = .returned (.bool (isR r)) ∧ w = w' := by
  by_cases h1 : 0 ≤ r
  · by_cases h2 : r ≤ 1114111
    · by_cases h3 : 55296 ≤ r
      · by_cases h4 : r ≤ 57343
        · have e : isR r = false := by simp [isR]; omega
          have E := Lib.hid e; clear e
          go_enter Tryd.func62, Tryd.ntmps62
          go_wp2
          go_ret
          exact ⟨by rw [E.out]; rfl, rfl⟩
        · have e : isR r = true := isR_iff.2 (by omega)
          have E := Lib.hid e; clear e
          go_enter Tryd.func62, Tryd.ntmps62
          go_wp2
          go_ret
          exact ⟨by rw [E.out]; rfl, rfl⟩
      · have e : isR r = true := isR_iff.2 (by omega)
        have E := Lib.hid e; clear e
        go_enter Tryd.func62, Tryd.ntmps62
        go_wp2
        go_ret
        exact ⟨by rw [E.out]; rfl, rfl⟩
    · have e : isR r = false := by simp [isR]; omega
      have E := Lib.hid e; clear e
      go_enter Tryd.func62, Tryd.ntmps62
      go_wp2
      go_ret
      exact ⟨by rw [E.out]; rfl, rfl⟩
  · have e : isR r = false := by simp [isR]; omega
    have E := Lib.hid e; clear e
    go_enter Tryd.func62, Tryd.ntmps62
    go_wp2
    go_ret
    exact ⟨by rw [E.out]; rfl, rfl⟩

/-- what the reference's 'bytes' leaves: one new row. -/
def bytesWorld (w : World) (r : Int) : World := w.alloc (.cells (Lib.byteCells (Lib.encodeRune r)).toArray 5)
def bytesVal (w : World) (r : Int) : Value := .slice (some ⟨w.heap.size, 0, none⟩) (Lib.encodeRune r).length (Lib.encodeRune r).length

set_option maxHeartbeats 400000 in
theorem refBytes_any (r : Int) (hr : isR r = true) (w : World) :
    Calls Tryd.prog 58 #[.int .i64 r] w fun e w' => e = .returned (bytesVal w r) ∧ bytesWorld w r = w' := by
  have hb := isR_iff.1 hr
  obtain ⟨h0, hm, h⟩ := hb
  unfold bytesWorld bytesVal
  rw [enc_length, Lib.byteCells_encodeRune]
  unfold Lib.runeCells
  clear h
  by_cases h1 : r < 128
  · rw [Lib.encodeRuneZ_one h0 (by omega)]
    clear hr
    go_enter Tryd.func58, Tryd.ntmps58
    go_wp2
    go_ret
    exact ⟨rfl, rfl⟩
  · by_cases h2 : r < 2048
    · rw [Lib.encodeRuneZ_two (by omega) (by omega)]
      clear hr
      go_enter Tryd.func58, Tryd.ntmps58
      go_wp2
      go_ret
      exact ⟨rfl, rfl⟩
    · by_cases h3 : r < 65536
      · rw [Lib.encodeRuneZ_three (by have := isR_iff.1 hr; omega)]
        clear hr
        go_enter Tryd.func58, Tryd.ntmps58
        go_wp2
        go_ret
        exact ⟨rfl, rfl⟩
      · rw [Lib.encodeRuneZ_four (by omega) (by omega)]
        clear hr
        go_enter Tryd.func58, Tryd.ntmps58
        go_wp2
        go_ret
        exact ⟨rfl, rfl⟩
end Go.Proofs.YtdldkidccjkhgaaDoor
