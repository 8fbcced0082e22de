import Derived.Test.YtdldkidccjkhgaaDoorSame
import Derived.Test.YtdldkidccjkhgaaDoorUtf
namespace Go.Proofs.YtdldkidccjkhgaaDoor
open Go.RowKit Go.Par
set_option linter.unusedVariables false

set_option maxHeartbeats 400000 in
theorem copyInts_any (v : Value) (zs : List Int) (B : Nat) (w : World) (hsg : Seg w B v (ints zs)) (hB : B ≤ w.heap.size) (hl : zs.length ≤ 1000000) :
    Calls Tryd.prog 34 #[v] w fun e w' => ∃ u, e = .returned u ∧ Own w' w.heap.size 3 u (ints zs) ∧ Below w.heap.size w w' := by
  have hown := Par.Own.new w w.heap.size 3 #[] [] rfl (Nat.le_refl _) (by simp)
  have hb0 : Below w.heap.size w (w.alloc (.cells #[] 3)) := (Below.refl _ w).alloc (Nat.le_refl _) _
  have hsg1 := hsg.below (hb0.mono hB)
  clear hsg
  go_enter Tryd.func34, Tryd.ntmps34
  go_wp2_with (at_builtin; refine wpList_app _ rfl _ _ _ rfl w.heap.size 3 _ intE _ _ rfl hown _ v _ rfl hsg1 (one_ints _) ?c1 ?c2 ?_)
  case c1 => rw [ints_length]; simp only [List.length_nil]; omega
  case c2 => first | omega | (simp; done) | (simp; omega)
  intro v3 w3 hown4 hg3 hat3
  go_wp2
  go_ret
  exact ⟨_, rfl, by simpa using hown4, below_app hb0 hown hg3 (by simp)⟩

set_option maxHeartbeats 400000 in
theorem copyBytes_any (v : Value) (l : List UInt8) (B : Nat) (w : World) (hsg : Seg w B v (Lib.byteCells l)) (hB : B ≤ w.heap.size) (hl : l.length ≤ 1000000) :
    Calls Tryd.prog 29 #[v] w fun e w' => ∃ u, e = .returned u ∧ Own w' w.heap.size 5 u (Lib.byteCells l) ∧ Below w.heap.size w w' := by
  have hown := Par.Own.new w w.heap.size 5 #[] [] rfl (Nat.le_refl _) (by simp)
  have hb0 : Below w.heap.size w (w.alloc (.cells #[] 5)) := (Below.refl _ w).alloc (Nat.le_refl _) _
  have hsg1 := hsg.below (hb0.mono hB)
  clear hsg
  go_enter Tryd.func29, Tryd.ntmps29
  go_wp2_with (at_builtin; refine wpList_app _ rfl _ _ _ rfl w.heap.size 5 _ byteE _ _ rfl hown _ v _ rfl hsg1 (one_bytes _) ?c1 ?c2 ?_)
  case c1 => rw [Lib.byteCells_length]; simp only [List.length_nil]; omega
  case c2 => first | omega | (simp; done) | (simp; omega)
  intro v3 w3 hown4 hg3 hat3
  go_wp2
  go_ret
  exact ⟨_, rfl, by simpa using hown4, below_app hb0 hown hg3 (by simp)⟩

/-- the eight marks. -/
def mark (i : Nat) : UInt8 := UInt8.ofNat (201 + i)
def marks (k : Nat) : List UInt8 := (List.range k).map mark
theorem marks_succ (k : Nat) : marks (k + 1) = marks k ++ [mark k] := by simp [marks, List.range_succ]

set_option maxHeartbeats 400000 in
theorem spare_any (v : Value) (l : List UInt8) (B : Nat) (w : World) (hsg : Seg w B v (Lib.byteCells l)) (hB : B ≤ w.heap.size) (hl : l.length ≤ 1000000) :
    Calls Tryd.prog 22 #[v] w fun e w' => ∃ u, e = .returned u ∧ Own w' w.heap.size 5 u (Lib.byteCells (l ++ marks 8)) ∧ Below w.heap.size w w' := by
  go_enter Tryd.func22, Tryd.ntmps22
  go_wp2_with (go_at_call 29; refine (copyBytes_any v l B w hsg hB hl).mono ?_; rintro e w1 ⟨u, rfl, hown1, hb1⟩)
  clear hsg
  go_loopw [3, 4] (fun u i wr => ∃ k : Nat, k ≤ 8 ∧ i = .int .i64 k ∧ Own wr w.heap.size 5 u (Lib.byteCells (l ++ marks k)) ∧ Below w.heap.size w wr) (fun _ i _ => 8 - (intOf i).toNat)
  case atStart => exact ⟨0, by omega, rfl, by simpa [marks] using hown1, hb1⟩
  case round =>
    obtain ⟨k, hk, rfl, hown, hbw⟩ := hrel
    have hsz := hbw.size
    by_cases hlt : k < 8
    · have hki : (k : Int) < 8 := by omega
      have hown3 := hown.alloc (.cells #[.int .u8 (201 + k)] 5)
      have hsg := Seg.new wr 5 #[.int .u8 (201 + k)] (Lib.byteCells [mark k]) (by simp [Lib.byteCells, mark]; omega) (by simp [Lib.byteCells, maxLen])
      go_wp2_with (at_builtin; refine wpList_app _ rfl _ _ _ rfl w.heap.size 5 _ byteE _ _ rfl hown3 _ _ (Lib.byteCells [mark k]) rfl hsg (one_bytes _) ?c1 ?c2 ?_)
      case c1 => rw [Lib.byteCells_length, Lib.byteCells_length]; simp [marks]; omega
      case c2 => first | omega | (simp; done) | (simp; omega)
      intro v3 w3 hown4 hg3 hat3
      have hb3 : Below w.heap.size w w3 := below_app (hbw.alloc hsz _) hown3 hg3 (by simp; omega)
      go_wp2
      go_roundw
      case rel => exact ⟨k + 1, by omega, by go_num, by rw [marks_succ, ← List.append_assoc, Lib.byteCells_append]; exact hown4, hb3⟩
      case measure => simp [intOf]; omega
    · have hk8 : k = 8 := by omega
      subst hk8
      go_wp2
      go_ret
      exact ⟨_, rfl, hown, hbw⟩

set_option maxHeartbeats 400000 in
theorem sameBytes_any (u v : Value) (xs ys : List UInt8) (B : Nat) (w : World) (hu : Seg w B u (Lib.byteCells xs)) (hv : Seg w B v (Lib.byteCells ys)) :
    Calls Tryd.prog 25 #[u, v] w fun e w' => e = .returned (.bool (decide (xs = ys))) ∧ ∃ n, w' = w.drewN n := by
  obtain ⟨A, c, rfl, hc, hm, ha⟩ := hu.open_bytes
  obtain ⟨A', c', rfl, hc', hm', ha'⟩ := hv.open_bytes
  clear hu hv
  by_cases hl : xs.length = ys.length
  · have hne : ((xs.length : Int) != (ys.length : Int)) = false := by simp [hl]
    have Hl := Lib.hid hl
    clear hl
    go_enter Tryd.func25, Tryd.ntmps25
    go_wp2
    go_loopw [5] (fun i wr => ∃ k n : Nat, k ≤ xs.length ∧ i = .int .i64 k ∧ Agree k xs ys ∧ wr = w.drewN n) (fun i _ => xs.length - (intOf i).toNat)
    case atStart => exact ⟨0, 0, by omega, rfl, Agree.zero _ _, rfl⟩
    case round =>
      obtain ⟨k, n, hk, rfl, hal, rfl⟩ := hrel
      by_cases hlt : k < xs.length
      · have hlt' : k < ys.length := by have := Hl.out; omega
        obtain ⟨b, off, x, rfl, hb, hc1, hx, Hx⟩ := ha.byte hlt
        obtain ⟨b', off', y, rfl, hb', hc2, hy, Hy⟩ := ha'.byte hlt'
        have HA := Lib.hid ha; clear ha
        have HA' := Lib.hid ha'; clear ha'
        by_cases he : x = y
        · have hbe : ((x : Int) != (y : Int)) = false := by simp [he]
          have He := Lib.hid he
          clear he
          go_wp2
          go_quiet (fail)
          go_wp2
          go_roundw
          case rel => exact ⟨k + 1, _, by omega, by go_num, hal.step hlt hlt' 0 (UInt8.toNat_inj.1 (by rw [Hx.out, Hy.out, He.out])), rfl⟩
          case measure => simp [intOf]; omega
        · have hbe : ((x : Int) != (y : Int)) = true := by simp; omega
          have He := Lib.hid he
          clear he
          go_wp2
          go_quiet (fail)
          go_wp2
          go_ret
          refine ⟨ret_bool ?_, _, World.drewN_drewN _ _ _⟩
          have h1 := Hx.out
          have h2 := Hy.out
          have h3 := He.out
          simp
          rintro rfl
          exact h3 (h1.symm.trans h2)
      · have hkl : k = xs.length := by omega
        have Hk := Lib.hid hkl
        clear hkl
        go_wp2
        go_ret
        refine ⟨ret_bool ?_, _, rfl⟩
        rw [Hk.out] at hal
        simp [hal.whole Hl.out]
  · have hne : ((xs.length : Int) != (ys.length : Int)) = true := by simp; omega
    have Hl := Lib.hid hl
    clear hl
    go_enter Tryd.func25, Tryd.ntmps25
    go_wp2
    go_ret
    refine ⟨ret_bool ?_, 0, rfl⟩
    have := Hl.out
    simp
    rintro rfl
    exact this rfl
end Go.Proofs.YtdldkidccjkhgaaDoor
