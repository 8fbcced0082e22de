/- headEnd. -/
import Derived.Test.YtffblcefnckacaaDoorFL
import Derived.Lib.SlBytesConst
import Derived.Lib.SmallJoins
namespace Go.Proofs.YtffblcefnckacaaDoor
open Go.RowKit Go.Lib Go.Vfs Go.Par Go.Frm
set_option linter.unusedVariables false
set_option linter.unusedSimpArgs false

theorem Seg.lit (w : World) (e : TypeId) (g : Nat × Nat) (cs : Array Value) (xs : List Value) (hx : cs = xs.toArray) (hm : xs.length ≤ maxLen) :
    Seg (w.alloc (.cells cs e g)) (w.heap.size + 1) (.slice (some ⟨w.heap.size, 0, none⟩) xs.length xs.length) xs := by
  subst hx
  refine ⟨_, xs.length, rfl, Nat.le_refl _, hm, fun _ => ⟨w.heap.size, 0, rfl, by omega, fun i hi => ?_⟩⟩
  simp only [World.cell?, World.alloc, Array.getElem?_push_size]
  simp

set_option maxRecDepth 20000 in
set_option maxHeartbeats 2000000 in
theorem headEnd_any (A : Option Addr) (c : Nat) (l : List UInt8) (w : World) (m : Int) (h : Seg w w.heap.size (.slice A l.length c) (Lib.byteCells l)) (hnil : A = none → c = 0) (hs : l.length < 4294967281) (hm : w.cell? ⟨0, 0, none⟩ = some (.int .i64 m)) (hz : 0 < w.heap.size) :
    Calls Tryd.prog 31 #[.slice A l.length c] w fun e w' => e = .returned (.int .i64 (hd l : Nat)) ∧ Below w.heap.size w w' := by
  have HH := Lib.hid h; clear h
  have hcv := fun (W : World) => Lib.run_convert_bytes_const (P := Tryd.prog) W 22 5 #[Value.int IntKind.u8 13, Value.int IntKind.u8 10] 2 2 Tryd.underlying22 Tryd.underlying5
  have hcv4 := Go.Joins.run_convert_bytes_const_at (P := Tryd.prog) (w.alloc (Obj.cells #[Value.int IntKind.u8 13, Value.int IntKind.u8 10] 5 (2, 3))) 22 5 #[Value.int IntKind.u8 13, Value.int IntKind.u8 10, Value.int IntKind.u8 13, Value.int IntKind.u8 10] 4 4 (w.heap.size + 1) (by simp) Tryd.underlying22 Tryd.underlying5
  obtain ⟨r, hr⟩ : ∃ r, r = hd l := ⟨_, rfl⟩
  rw [← hr]
  have HRR := Lib.hid hr; clear hr
  go_enter Tryd.func31, Tryd.ntmps31
  go_wp2_with fail
  have hb1 : Below w.heap.size w (w.alloc (Obj.cells #[Value.int IntKind.u8 13, Value.int IntKind.u8 10] 5 (2, 3))) := (Below.refl _ w).alloc (Nat.le_refl _) _
  refine (prefix_seg _ _ l [13, 10] (w.heap.size + 1) _ ((HH.out.below hb1).more (by omega)) (Seg.lit w 5 (2, 3) _ (Lib.byteCells [13, 10]) rfl (by simp [maxLen, Lib.byteCells]))).mono ?_
  rintro e w2 ⟨rfl, rfl⟩
  have HB1 := Lib.hid hb1; clear hb1
  by_cases hp : [13, 10].isPrefixOf l = true
  · rw [hp]
    have HP := Lib.hid hp; clear hp
    go_wp2
    go_ret
    exact ⟨by rw [HRR.out]; unfold hd; rw [if_pos HP.out]; rfl, HB1.out⟩
  · rw [Bool.eq_false_iff.2 hp]
    have HP := Lib.hid hp; clear hp
    go_wp2_with fail
    have hb2 := HB1.out.alloc (by simp) (Obj.cells #[Value.int IntKind.u8 13, Value.int IntKind.u8 10, Value.int IntKind.u8 13, Value.int IntKind.u8 10] 5 (4, 5))
    have hsl := Seg.lit (w.alloc (Obj.cells #[Value.int IntKind.u8 13, Value.int IntKind.u8 10] 5 (2, 3))) 5 (4, 5) _ (Lib.byteCells [13, 10, 13, 10]) rfl (by simp [maxLen, Lib.byteCells])
    have e1 : (w.alloc (Obj.cells #[Value.int IntKind.u8 13, Value.int IntKind.u8 10] 5 (2, 3))).heap.size = w.heap.size + 1 := by simp
    rw [e1] at hsl
    have hm2 : ((w.alloc (Obj.cells #[Value.int IntKind.u8 13, Value.int IntKind.u8 10] 5 (2, 3))).alloc (Obj.cells #[Value.int IntKind.u8 13, Value.int IntKind.u8 10, Value.int IntKind.u8 13, Value.int IntKind.u8 10] 5 (4, 5))).cell? ⟨0, 0, none⟩ = some (.int .i64 m) := by
      have n1 : (⟨0, 0, none⟩ : Addr).block ≠ (w.alloc (Obj.cells #[Value.int IntKind.u8 13, Value.int IntKind.u8 10] 5 (2, 3))).heap.size := by rw [e1]; show 0 ≠ w.heap.size + 1; omega
      have n0 : (⟨0, 0, none⟩ : Addr).block ≠ w.heap.size := by show 0 ≠ w.heap.size; omega
      exact (World.cell?_alloc_old _ _ _ n1).trans ((World.cell?_alloc_old _ _ _ n0).trans hm)
    refine (index_seg _ _ l [13, 10, 13, 10] (w.heap.size + 2) _ m ((HH.out.below hb2).more (by omega)) (hsl.more (by omega)) (fun n c' e => by cases e; exact hnil rfl) (by simp) hs hm2).mono ?_
    rintro e w2 ⟨rfl, q, rfl⟩
    have HB2 := Lib.hid (below_drewN hb2 q); clear hb2 hsl hm2
    have hix := hd4_index l
    have h4 := @hd4_ge l
    by_cases h0 : hd4 l = 0
    · rw [if_pos h0] at hix
      rw [hix]
      have H0 := Lib.hid h0; clear h0 hix h4
      go_wp2
      go_ret
      exact ⟨by rw [HRR.out]; unfold hd; rw [if_neg HP.out, H0.out]; rfl, HB2.out⟩
    · rw [if_neg h0] at hix
      have h44 := h4 h0
      have hle := hd4_le l
      rw [hix]
      have HR : Hid (r = hd4 l) := Lib.hid (by rw [HRR.out]; unfold hd; rw [if_neg HP.out])
      obtain ⟨x, hx⟩ : ∃ x, x = hd4 l := ⟨_, rfl⟩
      rw [← hx] at h44 hle HR ⊢
      clear h0 hix h4 hx
      have g1 : ¬ ((x : Int) - 4) < 0 := by omega
      have HB2' := HB2
      go_wp2
      go_ret
      exact ⟨by rw [HR.out]; go_num, HB2.out⟩
end Go.Proofs.YtffblcefnckacaaDoor
