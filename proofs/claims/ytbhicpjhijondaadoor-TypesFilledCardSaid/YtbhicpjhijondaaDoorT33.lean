/- types.alike and types.Same at types without arguments. -/
import Derived.Test.YtbhicpjhijondaaDoorT32
import Derived.Carry
namespace Go.Proofs.YtbhicpjhijondaaDoor
open Go.RowKit Go.Lib Go.Vfs Go.Par Go.Typ Go.Shelf
set_option linter.unusedVariables false
set_option linter.unusedSimpArgs false

set_option maxRecDepth 20000 in
set_option maxHeartbeats 2000000 in
theorem alike_leaf (T U : Ty) (hl : T.args = []) (S : Nat → Prop) (v u m : Value) (w : World) (hT : TyAt S w v T) (hU : TyAt S w u U) :
    Calls Tryd.prog 55 #[v, u, m] w fun e w' => e = .returned (.bool (same T U)) ∧ Below w.heap.size w w' := by
  obtain ⟨A, c, rfl, hc, hm, hn⟩ := hT.form
  obtain ⟨A', c', rfl, hc', hm', hn'⟩ := hU.form
  obtain ⟨W1, hW1⟩ : ∃ W1, W1 = (w.alloc (.cells #[.int .i64 T.kind, .int .i64 T.num, .string T.name, .slice A T.args.length c] 24)).alloc (.cells #[.int .i64 U.kind, .int .i64 U.num, .string U.name, .slice A' U.args.length c'] 24) := ⟨_, rfl⟩
  have hb1 : Below w.heap.size w W1 := by rw [hW1]; exact ((Below.refl _ _).alloc (Nat.le_refl _) _).alloc (by simp) _
  have hbg : W1.heap[w.heap.size]? = some (.cells #[.int .i64 T.kind, .int .i64 T.num, .string T.name, .slice A T.args.length c] 24 (0, 0)) := by
    rw [hW1, Below.heap_alloc _ _ _ (by simp)]
    exact heap_alloc_new _ _
  have hbt : W1.heap[w.heap.size + 1]? = some (.cells #[.int .i64 U.kind, .int .i64 U.num, .string U.name, .slice A' U.args.length c'] 24 (0, 0)) := by
    rw [hW1]
    have := heap_alloc_new (w.alloc (.cells #[.int .i64 T.kind, .int .i64 T.num, .string T.name, .slice A T.args.length c] 24)) (.cells #[.int .i64 U.kind, .int .i64 U.num, .string U.name, .slice A' U.args.length c'] 24)
    simpa using this
  have HB1 := Lib.hid hb1
  have ht0 : T.args.length = 0 := by rw [hl]; rfl
  obtain ⟨y0, y1, y2, y3⟩ := box4 hbg
  obtain ⟨z0, z1, z2, z3⟩ := box4 hbt
  rw [hW1] at y0 y1 y2 y3 z0 z1 z2 z3
  have HTL := Lib.hid hl
  clear hT hU hc hm hn hc' hm' hn' hb1 hbg hbt hl
  unfold tyV
  by_cases e1 : T.kind = U.kind
  · by_cases e2 : T.num = U.num
    · by_cases e3 : T.name = U.name
      · by_cases e4 : T.args.length = U.args.length
        · have h1 : (T.kind != U.kind) = false := by simp [e1]
          have h2 : (T.num != U.num) = false := by simp [e2]
          have h3 : (T.name.toList == U.name.toList) = true := (beqS _ _).2 e3
          have h4 : ((T.args.length : Int) != (U.args.length : Int)) = false := by simp [e4]
          have h5 : ((T.args.length : Int) == 0) = true := by simp [ht0]
          have HR : Hid (same T U = true) := Lib.hid (same_true (Ty.ext' e1 e2 e3 (by rw [HTL.out]; exact (List.length_eq_zero_iff.1 (by omega)).symm)))
          clear e1 e2 e3 e4 ht0
          generalize T.args.length = tl at *
          go_enter Tryd.func55, Tryd.ntmps55
          go_wp2
          go_ret
          rw [HR.out, ← hW1]
          exact ⟨rfl, HB1.out⟩
        · have HR : Hid (same T U = false) := Lib.hid (same_false fun e => e4 (by rw [e]))
          have h1 : (T.kind != U.kind) = false := by simp [e1]
          have h2 : (T.num != U.num) = false := by simp [e2]
          have h3 : (T.name.toList == U.name.toList) = true := (beqS _ _).2 e3
          have h4 : ((T.args.length : Int) != (U.args.length : Int)) = true := by simp; omega
          clear e1 e2 e3 e4 ht0
          go_enter Tryd.func55, Tryd.ntmps55
          go_wp2
          go_ret
          rw [HR.out, ← hW1]
          exact ⟨rfl, HB1.out⟩
      · have HR : Hid (same T U = false) := Lib.hid (same_false fun e => e3 (by rw [e]))
        have h1 : (T.kind != U.kind) = false := by simp [e1]
        have h2 : (T.num != U.num) = false := by simp [e2]
        have h3 : (T.name.toList == U.name.toList) = false := beqS_ne e3
        clear e1 e2 e3 ht0
        go_enter Tryd.func55, Tryd.ntmps55
        go_wp2
        go_ret
        rw [HR.out, ← hW1]
        exact ⟨rfl, HB1.out⟩
    · have HR : Hid (same T U = false) := Lib.hid (same_false fun e => e2 (by rw [e]))
      have h1 : (T.kind != U.kind) = false := by simp [e1]
      have h2 : (T.num != U.num) = true := by simp [e2]
      clear e1 e2 ht0
      go_enter Tryd.func55, Tryd.ntmps55
      go_wp2
      go_ret
      rw [HR.out, ← hW1]
      exact ⟨rfl, HB1.out⟩
  · have HR : Hid (same T U = false) := Lib.hid (same_false fun e => e1 (by rw [e]))
    have h1 : (T.kind != U.kind) = true := by simp [e1]
    clear e1 ht0
    go_enter Tryd.func55, Tryd.ntmps55
    go_wp2
    go_ret
    rw [HR.out, ← hW1]
    exact ⟨rfl, HB1.out⟩

set_option maxRecDepth 20000 in
set_option maxHeartbeats 2000000 in
/-- Same, whatever alike is: the boxes, then an empty map, then alike. -/
theorem same_by (T U : Ty) (S : Nat → Prop) (v u : Value) (w : World) (r : Bool) (hT : TyAt S w v T) (hU : TyAt S w u U)
    (HA : ∀ W, Below w.heap.size w W → w.heap.size ≤ W.heap.size → MapI W (w.heap.size + 2) [] → Calls Tryd.prog 55 #[v, u, .map (some (w.heap.size + 2))] W fun e w' => e = .returned (.bool r) ∧ Below w.heap.size W w') :
    Calls Tryd.prog 20 #[v, u] w fun e w' => e = .returned (.bool r) ∧ Below w.heap.size w w' := by
  obtain ⟨A, c, rfl, hc, hm, hn⟩ := hT.form
  obtain ⟨A', c', rfl, hc', hm', hn'⟩ := hU.form
  obtain ⟨W1, hW1⟩ : ∃ W1, W1 = (w.alloc (.cells #[.int .i64 T.kind, .int .i64 T.num, .string T.name, .slice A T.args.length c] 24)).alloc (.cells #[.int .i64 U.kind, .int .i64 U.num, .string U.name, .slice A' U.args.length c'] 24) := ⟨_, rfl⟩
  have hb1 : Below w.heap.size w W1 := by rw [hW1]; exact ((Below.refl _ _).alloc (Nat.le_refl _) _).alloc (by simp) _
  have hz1 : W1.heap.size = w.heap.size + 2 := by rw [hW1]; simp
  obtain ⟨W2, hW2⟩ : ∃ W2, W2 = W1.alloc (.map #[] 0) := ⟨_, rfl⟩
  have hb2 : Below W1.heap.size W1 W2 := by rw [hW2]; exact (Below.refl _ _).alloc (Nat.le_refl _) _
  have hm2 : MapI W2 (w.heap.size + 2) [] := by rw [hW2, ← hz1]; exact MapI.new W1
  have hb3 : Below w.heap.size w W2 := hb1.trans (hb2.mono (by omega))
  have hbg : W1.heap[w.heap.size]? = some (.cells #[.int .i64 T.kind, .int .i64 T.num, .string T.name, .slice A T.args.length c] 24 (0, 0)) := by
    rw [hW1, Below.heap_alloc _ _ _ (by simp)]
    exact heap_alloc_new _ _
  have hbt : W1.heap[w.heap.size + 1]? = some (.cells #[.int .i64 U.kind, .int .i64 U.num, .string U.name, .slice A' U.args.length c'] 24 (0, 0)) := by
    rw [hW1]
    have := heap_alloc_new (w.alloc (.cells #[.int .i64 T.kind, .int .i64 T.num, .string T.name, .slice A T.args.length c] 24)) (.cells #[.int .i64 U.kind, .int .i64 U.num, .string U.name, .slice A' U.args.length c'] 24)
    simpa using this
  obtain ⟨y0, y1, y2, y3⟩ := box4 hbg
  obtain ⟨z0, z1, z2, z3⟩ := box4 hbt
  have HA2 := HA W2 hb3 (by have := hb2.size; omega) hm2
  unfold tyV at HA2
  have HAL := Lib.hid HA2
  have HB3 := Lib.hid hb3
  rw [hW1] at y0 y1 y2 y3 z0 z1 z2 z3 hW2
  clear hT hU hc hm hn hc' hm' hn' hb1 hbg hbt HA HA2 hb2 hb3 hm2 hz1 hW1
  unfold tyV
  have hmm := @run_makeMap Tryd.prog
  go_enter Tryd.func20, Tryd.ntmps20
  go_wp2_with fail
  rw [← hW2]
  clear hW2
  refine HAL.out.mono ?_
  rintro e w3 ⟨rfl, hb4⟩
  have HB4 := Lib.hid hb4
  clear hb4
  go_wp2
  go_ret
  exact ⟨rfl, HB3.out.trans HB4.out⟩
theorem same_leaf (n₀ : Nat) (T U : Ty) (hl : T.args = []) (S : Nat → Prop) (hS : ∀ g, S g → g < n₀) (v u : Value) (w : World) (hT : TyAt S w v T) (hU : TyAt S w u U) (hn : n₀ ≤ w.heap.size) :
    Calls Tryd.prog 20 #[v, u] w fun e w' => e = .returned (.bool (same T U)) ∧ Below w.heap.size w w' :=
  same_by T U S v u w _ hT hU fun W hb hz hm => (alike_leaf T U hl S v u _ W (hT.keep fun g hg => ⟨hg, hb.block g (by have := hS g hg; omega)⟩) (hU.keep fun g hg => ⟨hg, hb.block g (by have := hS g hg; omega)⟩)).mono fun e w' h => ⟨h.1, h.2.mono hz⟩
end Go.Proofs.YtbhicpjhijondaaDoor
