/- Rows of bytes; copies, equality, Clone at this seat. -/
import Derived.Test.YtffblcefnckacaaDoorMemS
import Derived.WalkKit
import Derived.WalkSmall
import Derived.Lib.Hide
import Derived.Lib.UnsafeStr
import Derived.Deep.Draws
import Derived.Maps.Own
import Derived.Test.YtffblcefnckacaaDoorProg
import Derived.Maps.OwnOps
import Derived.Maps.OwnSet
import Derived.KernelRfl
import Derived.Maps.AppendAt
import Derived.RegionTactic
import Derived.OwnWalk
import Derived.WalkLawsBesides
import Derived.WalkSpells
import Derived.Outline
import Derived.BigQuiet
import Derived.IntWalk
import Derived.Lib.Strings
import Derived.Deep.QuietTactic
import Derived.Deep.DeepCutAuto
import Derived.StillTailTactics
import Derived.Lib.SliceRun
namespace Go.Proofs.YtffblcefnckacaaDoor
open Go.RowKit Go.Lib Go.Vfs Go.Par
set_option linter.unusedVariables false
set_option linter.unusedSimpArgs false

theorem ret_bool {a b : Bool} (h : a = b) : Ending.returned (.bool a) = .returned (.bool b) := by rw [h]
theorem rowE : Elem Tryd.prog 32 22 (.slice none 0 0) := elem_of (b := 24) Tryd.underlying32 (by kernel_rfl) (by decide) rfl
/-- v is a slice of slices of bytes. -/
def RowsAt (S : Nat → Prop) (w : World) (v : Value) (ls : List (List UInt8)) : Prop :=
  ∃ vs : List Value, vs.length = ls.length ∧ SegS S w v vs ∧ ∀ i, i < ls.length → SegS S w (vs.getD i (.bool false)) (byteCells (ls.getD i []))
theorem RowsAt.keep {S S' : Nat → Prop} {w w' : World} {v : Value} {ls : List (List UInt8)} (h : RowsAt S w v ls) (hk : ∀ b, S b → S' b ∧ w'.heap[b]? = w.heap[b]?) : RowsAt S' w' v ls := by
  obtain ⟨vs, h1, h2, h3⟩ := h
  exact ⟨vs, h1, h2.keep hk, fun i hi => (h3 i hi).keep hk⟩
theorem RowsAt.kept {w w' : World} {F F' : Nat → Prop} {v : Value} {ls : List (List UInt8)} (h : RowsAt (Out w F) w v ls) (hk : Kept F w w') (hg : Grows w F F') : RowsAt (Out w' F') w' v ls := by
  obtain ⟨vs, h1, h2, h3⟩ := h
  exact ⟨vs, h1, h2.kept hk hg, fun i hi => (h3 i hi).kept hk hg⟩
theorem RowsAt.below {w w' : World} {F : Nat → Prop} {v : Value} {ls : List (List UInt8)} (h : RowsAt (Out w F) w v ls) (hb : Below w.heap.size w w') : RowsAt (Out w' F) w' v ls := by
  obtain ⟨vs, h1, h2, h3⟩ := h
  exact ⟨vs, h1, h2.below hb, fun i hi => (h3 i hi).below hb⟩

theorem byteE : Elem Tryd.prog 22 5 (.int .u8 0) := elem_of (b := 1) Tryd.underlying22 (by kernel_rfl) (by decide) rfl

theorem byteCells_append (a b : List UInt8) : byteCells (a ++ b) = byteCells a ++ byteCells b := by simp [byteCells]

theorem RowsAt.sub {S S' : Nat → Prop} {w : World} {v : Value} {ls : List (List UInt8)} (h : RowsAt S w v ls) (hS : ∀ b, S b → S' b) : RowsAt S' w v ls := h.keep fun b hb => ⟨hS b hb, rfl⟩
set_option maxHeartbeats 400000 in
theorem copyBytes_any (v : Value) (l : List UInt8) (B : Nat) (w : World) (hsg : Seg w B v (Lib.byteCells l)) (hB : B ≤ w.heap.size) (hl : l.length ≤ 1000000) :
    Calls Tryd.prog 15 #[v] w fun e w' => ∃ u, e = .returned u ∧ Par.Own w' w.heap.size 5 u (Lib.byteCells l) ∧ Below w.heap.size w w' := by
  have hown := Par.Own.new w w.heap.size 5 #[] [] rfl (Nat.le_refl _) (by simp)
  have hb0 : Below w.heap.size w (w.alloc (.cells #[] 5)) := (Below.refl _ w).alloc (Nat.le_refl _) _
  have hsg1 := hsg.below (hb0.mono hB)
  clear hsg
  go_enter Tryd.func15, Tryd.ntmps15
  go_wp2_with (at_builtin; refine wpList_app _ rfl _ _ _ rfl w.heap.size 5 _ byteE _ _ rfl hown _ v _ rfl hsg1 (one_bytes _) ?c1 ?c2 ?_)
  case c1 => rw [Lib.byteCells_length]; simp only [List.length_nil]; omega
  case c2 => first | omega | (simp; done) | (simp; omega)
  intro v3 w3 hown4 hg3 hat3
  go_wp2
  go_ret
  exact ⟨_, rfl, by simpa using hown4, below_app hb0 hown hg3 (by simp)⟩

set_option maxHeartbeats 400000 in
theorem sameBytes_any (u v : Value) (xs ys : List UInt8) (B : Nat) (w : World) (hu : Seg w B u (Lib.byteCells xs)) (hv : Seg w B v (Lib.byteCells ys)) :
    Calls Tryd.prog 14 #[u, v] w fun e w' => e = .returned (.bool (decide (xs = ys))) ∧ ∃ n, w' = w.drewN n := by
  obtain ⟨A, c, rfl, hc, hm, ha⟩ := hu.open_bytes
  obtain ⟨A', c', rfl, hc', hm', ha'⟩ := hv.open_bytes
  clear hu hv
  by_cases hl : xs.length = ys.length
  · have hne : ((xs.length : Int) != (ys.length : Int)) = false := by simp [hl]
    have Hl := Lib.hid hl
    clear hl
    go_enter Tryd.func14, Tryd.ntmps14
    go_wp2
    go_loopw [5] (fun i wr => ∃ k n : Nat, k ≤ xs.length ∧ i = .int .i64 k ∧ Agree k xs ys ∧ wr = w.drewN n) (fun i _ => xs.length - (intOf i).toNat)
    case atStart => exact ⟨0, 0, by omega, rfl, Agree.zero _ _, rfl⟩
    case round =>
      obtain ⟨k, n, hk, rfl, hal, rfl⟩ := hrel
      by_cases hlt : k < xs.length
      · have hlt' : k < ys.length := by have := Hl.out; omega
        obtain ⟨b, off, x, rfl, hb, hc1, hx, Hx⟩ := ha.byte hlt
        obtain ⟨b', off', y, rfl, hb', hc2, hy, Hy⟩ := ha'.byte hlt'
        have HA := Lib.hid ha; clear ha
        have HA' := Lib.hid ha'; clear ha'
        by_cases he : x = y
        · have hbe : ((x : Int) != (y : Int)) = false := by simp [he]
          have He := Lib.hid he
          clear he
          go_wp2
          go_quiet (fail)
          go_wp2
          go_roundw
          case rel => exact ⟨k + 1, _, by omega, by go_num, hal.step hlt hlt' 0 (UInt8.toNat_inj.1 (by rw [Hx.out, Hy.out, He.out])), rfl⟩
          case measure => simp [intOf]; omega
        · have hbe : ((x : Int) != (y : Int)) = true := by simp; omega
          have He := Lib.hid he
          clear he
          go_wp2
          go_quiet (fail)
          go_wp2
          go_ret
          refine ⟨ret_bool ?_, _, World.drewN_drewN _ _ _⟩
          have h1 := Hx.out
          have h2 := Hy.out
          have h3 := He.out
          simp
          rintro rfl
          exact h3 (h1.symm.trans h2)
      · have hkl : k = xs.length := by omega
        have Hk := Lib.hid hkl
        clear hkl
        go_wp2
        go_ret
        refine ⟨ret_bool ?_, _, rfl⟩
        rw [Hk.out] at hal
        simp [hal.whole Hl.out]
  · have hne : ((xs.length : Int) != (ys.length : Int)) = true := by simp; omega
    have Hl := Lib.hid hl
    clear hl
    go_enter Tryd.func14, Tryd.ntmps14
    go_wp2
    go_ret
    refine ⟨ret_bool ?_, 0, rfl⟩
    have := Hl.out
    simp
    rintro rfl
    exact this rfl

/-- a row in memory, opened. -/
theorem RowsAt.open_ {w : World} {v : Value} {ls : List (List UInt8)} (h : RowsAt (· < w.heap.size) w v ls) : ∃ A c, v = .slice A ls.length c ∧ ls.length ≤ c ∧ c ≤ 9223372036854775807 ∧
    Hid (∀ (W : World), Below w.heap.size w W → ∀ k, k < ls.length → ∃ b off Ak ck, A = some ⟨b, off, none⟩ ∧ b < w.heap.size ∧ W.cell? ⟨b, off + k, none⟩ = some (.slice Ak (ls.getD k []).length ck) ∧ Seg W w.heap.size (.slice Ak (ls.getD k []).length ck) (byteCells (ls.getD k []))) := by
  obtain ⟨vs, hvl, ⟨A, c, rfl, hvc, hvm, hva⟩, hve⟩ := h
  refine ⟨A, c, by rw [hvl], by omega, by simpa [maxLen] using hvm, Lib.hid fun W hb k hk => ?_⟩
  obtain ⟨b, off, rfl, hbb, hcell⟩ := hva (by omega)
  have hvk : Seg W w.heap.size (vs.getD k (.bool false)) (byteCells (ls.getD k [])) := Seg.below (B := w.heap.size) (hve k hk) hb
  obtain ⟨Ak, ck, hf, -⟩ := hvk.open_bytes
  refine ⟨b, off, Ak, ck, rfl, hbb, ?_, by rw [← hf]; exact hvk⟩
  rw [hb.cell (p := ⟨b, off + k, none⟩) hbb, hcell k (by omega), ← hf, List.getD_eq_getElem?_getD, List.getElem?_eq_getElem (by omega)]
  rfl

set_option maxRecDepth 20000 in
set_option maxHeartbeats 2000000 in
theorem sameRows_any (u v : Value) (xs ys : List (List UInt8)) (w : World) (hu : RowsAt (· < w.heap.size) w u xs) (hv : RowsAt (· < w.heap.size) w v ys) :
    Calls Tryd.prog 18 #[u, v] w fun e w' => e = .returned (.bool (decide (xs = ys))) ∧ ∃ n, w' = w.drewN n := by
  obtain ⟨A, c, rfl, hc, hm, HA⟩ := hu.open_
  obtain ⟨A', c', rfl, hc', hm', HA'⟩ := hv.open_
  clear hu hv
  by_cases hl : xs.length = ys.length
  · have hne : ((xs.length : Int) != (ys.length : Int)) = false := by simp [hl]
    have Hl := Lib.hid hl
    clear hl
    go_enter Tryd.func18, Tryd.ntmps18
    go_wp2
    go_loopw [5] (fun i wr => ∃ k n : Nat, k ≤ xs.length ∧ i = .int .i64 k ∧ Agree k xs ys ∧ wr = w.drewN n) (fun i _ => xs.length - (intOf i).toNat)
    case atStart => exact ⟨0, 0, by omega, rfl, Agree.zero _ _, rfl⟩
    case round =>
      obtain ⟨k, n, hk, rfl, hal, hw⟩ := hrel
      have HAL := Lib.hid hal; clear hal
      have hbw : Below w.heap.size w wr := by rw [hw]; exact below_drewN (Below.refl _ w) n
      have HW := Lib.hid hw; clear hw
      by_cases hlt : k < xs.length
      · have hlt' : k < ys.length := by have := Hl.out; omega
        obtain ⟨b, off, A1, c1, rfl, hb, hc1, hs1⟩ := HA.out wr hbw k hlt
        obtain ⟨b', off', A2, c2, rfl, hb', hc2, hs2⟩ := HA'.out wr hbw k hlt'
        have hsb : ∀ m, Calls Tryd.prog 14 #[.slice A1 (xs.getD k []).length c1, .slice A2 (ys.getD k []).length c2] (wr.drewN m) fun e w' => e = .returned (.bool (decide (xs.getD k [] = ys.getD k []))) ∧ ∃ m', w' = (wr.drewN m).drewN m' := fun m => sameBytes_any _ _ _ _ _ (wr.drewN m) hs1 hs2
        have HE : Hid (∀ h : xs.getD k [] = ys.getD k [], Agree (k + 1) xs ys) := Lib.hid fun h => HAL.out.step hlt hlt' [] h
        have HNE : Hid (xs.getD k [] ≠ ys.getD k [] → xs ≠ ys) := Lib.hid fun h e => h (by rw [e])
        clear hs1 hs2 hbw
        generalize xs.getD k [] = X at *
        generalize ys.getD k [] = Y at *
        by_cases he : X = Y
        · rw [decide_eq_true he] at hsb
          have HSB := Lib.hid hsb
          have He := Lib.hid he
          clear hsb he
          go_wp2
          go_quiet ((go_at_call 14; exact Calls.quiet_of (HSB.out _)))
          go_wp2
          go_roundw
          case rel => exact ⟨k + 1, _, by omega, by go_num, HE.out He.out, by rw [HW.out]; exact World.drewN_drewN _ _ _⟩
          case measure => simp [intOf]; omega
        · rw [decide_eq_false he] at hsb
          have HSB := Lib.hid hsb
          have HR : Hid (decide (xs = ys) = false) := Lib.hid (decide_eq_false (HNE.out he))
          clear hsb he
          go_wp2
          go_quiet ((go_at_call 14; exact Calls.quiet_of (HSB.out _)))
          go_wp2
          go_ret
          exact ⟨by rw [HR.out]; rfl, _, by rw [HW.out]; exact World.drewN_drewN _ _ _⟩
      · have hkl : k = xs.length := by omega
        have HR : Hid (decide (xs = ys) = true) := Lib.hid (decide_eq_true (by have h := HAL.out; rw [hkl] at h; exact h.whole Hl.out))
        clear hkl
        go_wp2
        go_ret
        exact ⟨by rw [HR.out]; rfl, n, HW.out⟩
  · have hne : ((xs.length : Int) != (ys.length : Int)) = true := by simp; omega
    have HR : Hid (decide (xs = ys) = false) := Lib.hid (decide_eq_false (fun e => hl (by rw [e])))
    rw [HR.out]
    clear hl
    go_enter Tryd.func18, Tryd.ntmps18
    go_wp2
    go_ret
    exact ⟨rfl, 0, rfl⟩
set_option maxRecDepth 20000 in
set_option maxHeartbeats 400000 in
theorem clone_some (a : Addr) (n c : Nat) (l : List UInt8) (B : Nat) (w : World) (hsg : Seg w B (.slice (some a) n c) (byteCells l)) (hB : B ≤ w.heap.size) (hl : l.length ≤ 2147483648) :
    Calls Tryd.prog 27 #[.slice (some a) n c] w fun e w' => ∃ u, e = .returned u ∧ Par.Own w' w.heap.size 5 u (byteCells l) ∧ Below w.heap.size w w' := by
  have hown := Par.Own.new w w.heap.size 5 #[] [] rfl (Nat.le_refl _) (by simp)
  have hb0 : Below w.heap.size w (w.alloc (.cells #[] 5)) := (Below.refl _ w).alloc (Nat.le_refl _) _
  have hsg1 := hsg.below (hb0.mono hB)
  clear hsg
  have hnil := fun (W : World) => Lib.run_eql_slice_nil (P := Tryd.prog) W 22 5 (some a) n c 0 0 Tryd.underlying22
  go_enter Tryd.func27, Tryd.ntmps27
  go_wp2_with (at_builtin; refine wpList_app _ rfl _ _ _ rfl w.heap.size 5 _ byteE _ _ rfl hown _ _ _ rfl hsg1 (one_bytes _) ?c1 ?c2 ?_)
  case c1 => rw [byteCells_length]; simp only [List.length_nil]; omega
  case c2 => first | omega | (simp; done) | (simp; omega)
  intro v3 w3 hown4 hg3 hat3
  go_wp2
  go_ret
  exact ⟨_, rfl, by simpa using hown4, below_app hb0 hown hg3 (by simp)⟩
set_option maxRecDepth 20000 in
set_option maxHeartbeats 400000 in
theorem clone_none (c : Nat) (w : World) : Calls Tryd.prog 27 #[.slice none 0 c] w fun e w' => e = .returned (.slice none 0 0) ∧ w = w' := by
  have hnil := fun (W : World) => Lib.run_eql_slice_nil (P := Tryd.prog) W 22 5 none 0 c 0 0 Tryd.underlying22
  go_enter Tryd.func27, Tryd.ntmps27
  go_wp2
  go_ret
  exact ⟨rfl, rfl⟩
/-- of any slice. -/
theorem clone_seg (v : Value) (l : List UInt8) (w : World) (h : Seg w w.heap.size v (byteCells l)) (hl : l.length ≤ 2147483648) :
    Calls Tryd.prog 27 #[v] w fun e w' => ∃ u, e = .returned u ∧ Par.Own w' w.heap.size 5 u (byteCells l) ∧ Below w.heap.size w w' := by
  obtain ⟨A, c, rfl, hc, hm, ha⟩ := h.open_bytes
  cases A with
  | none =>
    have h0 : l = [] := by
      cases l with
      | nil => rfl
      | cons x l => obtain ⟨b, off, e, -⟩ := ha 0 (by simp); cases e
    subst h0
    refine (clone_none c w).mono ?_
    rintro e w' ⟨rfl, rfl⟩
    exact ⟨_, rfl, Par.Own.nil _ _ _, Below.refl _ _⟩
  | some a => exact clone_some a _ c l _ w h (Nat.le_refl _) hl

end Go.Proofs.YtffblcefnckacaaDoor
