/- The reference's Find, Drop and Put. -/
import Derived.Test.YtbhicpjhijondaaDoorX8
import Derived.Test.YtbhicpjhijondaaDoorY2
namespace Go.Proofs.YtbhicpjhijondaaDoor
open Go.RowKit Go.Lib Go.Vfs Go.Par Go.Typ Go.Shelf
set_option linter.unusedVariables false
set_option linter.unusedSimpArgs false

def RFindPost (xs : List Ex) (nm : ByteArray) (w : World) (e : Ending) (w' : World) : Prop :=
  ∃ (R : Ty) (A : Option Addr) (cc : Nat), e = .returned (.tuple #[tyV R.kind R.num R.name A R.args.length cc, .bool (findX xs nm).isSome]) ∧ TyAt (· < w'.heap.size) w' (tyV R.kind R.num R.name A R.args.length cc) R ∧ Below w.heap.size w w' ∧ R = (findX xs nm).getD zeroT

set_option maxRecDepth 20000 in
set_option maxHeartbeats 2000000 in
theorem rfind_any (xs : List Ex) (nm : ByteArray) (v : Value) (w : World) (hX : ExsAt (· < w.heap.size) w v xs) : Calls Tryd.prog 45 #[v, .string nm] w (RFindPost xs nm w) := by
  obtain ⟨P, hP⟩ : ∃ P, P = RFindPost xs nm w := ⟨_, rfl⟩
  have HPO := Lib.hid hP
  rw [← hP]
  clear hP
  obtain ⟨A, c, rfl, hc, hm⟩ := hX.form
  have hla : xs.length ≤ 9223372036854775807 := by simp only [maxLen] at hm; omega
  obtain ⟨W1, hW1⟩ : ∃ W1, W1 = w.alloc (.cells #[.int .i64 0, .int .i64 0, .string ⟨#[]⟩, .slice none 0 0] 24) := ⟨_, rfl⟩
  have hb1 : Below w.heap.size w W1 := by rw [hW1]; exact (Below.refl _ _).alloc (Nat.le_refl _) _
  have hres : W1.heap[w.heap.size]? = some (.cells #[.int .i64 0, .int .i64 0, .string ⟨#[]⟩, .slice none 0 0] 24 (0, 0)) := by rw [hW1]; exact heap_alloc_new _ _
  have HX := Lib.hid hX; have HB1 := Lib.hid hb1; have HRS := Lib.hid hres
  have HZ1 : Hid (W1.heap.size = w.heap.size + 1) := Lib.hid (by rw [hW1]; simp)
  clear hX hc hm hb1 hres
  go_enter Tryd.func45, Tryd.ntmps45
  go_wp2
  rw [← hW1]
  clear hW1
  go_loopw [6] (fun iv W => ∃ (k : Nat), k ≤ xs.length ∧ iv = .int .i64 ((k : Int) - 1) ∧ Hid (findX (xs.drop k) nm = none) ∧ Hid (W = W1)) (fun iv _ => (RowKit.intOf iv + 1).toNat)
  case atStart => exact ⟨xs.length, by omega, rfl, Lib.hid (by rw [List.drop_length, findX]), Lib.hid rfl⟩
  case round =>
    obtain ⟨k, hk, rfl, HF, HW⟩ := hrel
    have hww := HW.out
    subst hww
    by_cases hk0 : k = 0
    · subst hk0
      have HR : Hid (findX xs nm = none) := Lib.hid (by have := HF.out; rw [List.drop_zero] at this; exact this)
      obtain ⟨Wf, hWf, hbf, hkf⟩ := end4 (.int .i64 0) (.int .i64 0) (.string ⟨#[]⟩) (.slice none 0 0) HRS.out
      obtain ⟨r0, r1, r2, r3⟩ := box4 HRS.out
      obtain ⟨s0, s1, s2, s3⟩ := box4_frozen HRS.out
      have HE : Hid (P (.returned (.tuple #[.agg #[.int .i64 0, .int .i64 0, .string ⟨#[]⟩, .slice none 0 0], .bool false])) Wf) := Lib.hid (by
        rw [HPO.out]
        exact ⟨zeroT, none, 0, by rw [HR.out]; rfl, TyAt.leaf _ _ 0 0 ⟨#[]⟩ none 0 (by simp [maxLen]) (by decide), HB1.out.trans (below_of_kept (p := w.heap.size) hkf (Nat.le_refl _) HB1.out.size), by rw [HR.out]; rfl⟩)
      have HBF := Lib.hid hbf
      have HWF := Lib.hid hWf
      clear hbf hkf hWf
      go_wp2
      rw [← HWF.out]
      obtain ⟨f0, f1, f2, f3⟩ := box4 HBF.out
      refine bodyPost_ret (v := .tuple #[.agg #[.int .i64 0, .int .i64 0, .string ⟨#[]⟩, .slice none 0 0], .bool false]) (by simp [results, Tryd.results45, go_sem, f0, f1, f2, f3]) rfl ?_
      exact HE.out
    · obtain ⟨j, hj⟩ : ∃ j, k = j + 1 := ⟨k - 1, by omega⟩
      have hij : (k : Int) - 1 = (j : Int) := by omega
      have hlt : j < xs.length := by omega
      obtain ⟨b, off, A', c', rfl, hb, hns, ht, x0, x1, x2, x3, x4⟩ := (HX.out.keep (S' := (· < w.heap.size)) fun g hg => ⟨hg, HB1.out.block g hg⟩).arg hlt
      have hF := HF.out
      rw [hj] at hF
      by_cases hn : xs[j].name = nm
      · have HR : Hid (findX xs nm = some xs[j].ty) := Lib.hid (findX_here hlt hF hn)
        have HT0 : Hid (TyAt (· < w.heap.size) w (tyV xs[j].ty.kind xs[j].ty.num xs[j].ty.name A' xs[j].ty.args.length c') xs[j].ty) := Lib.hid (ht.keep fun g hg => ⟨hg, (HB1.out.block g hg).symm⟩)
        have hnn : (xs[j].name.toList == nm.toList) = true := (beqS _ _).2 hn
        rw [hij]
        clear hn hF ht hns hj hk0 hij
        generalize xs[j] = X at *
        have hres2 := HRS.out
        obtain ⟨Wf, hWf, hbf, hkf⟩ := end4 (.int .i64 X.ty.kind) (.int .i64 X.ty.num) (.string X.ty.name) (.slice A' X.ty.args.length c') hres2
        obtain ⟨r0, r1, r2, r3⟩ := box4 hres2
        obtain ⟨s0, s1, s2, s3⟩ := box4_frozen hres2
        have HE : Hid (P (.returned (.tuple #[.agg #[.int .i64 X.ty.kind, .int .i64 X.ty.num, .string X.ty.name, .slice A' X.ty.args.length c'], .bool true])) Wf) := Lib.hid (by
          rw [HPO.out]
          have h1 := HZ1.out
          have h5 := hkf.size
          have HB1f := HB1.out.trans (below_of_kept (p := w.heap.size) hkf (Nat.le_refl _) (by omega))
          exact ⟨X.ty, A', c', by rw [HR.out]; rfl, (HT0.out.blw HB1f), HB1f, by rw [HR.out]; rfl⟩)
        have HBF := Lib.hid hbf
        have HWF := Lib.hid hWf
        clear hbf hkf hWf hres2
        go_wp2
        rw [← HWF.out]
        obtain ⟨f0, f1, f2, f3⟩ := box4 HBF.out
        refine bodyPost_ret (v := .tuple #[.agg #[.int .i64 X.ty.kind, .int .i64 X.ty.num, .string X.ty.name, .slice A' X.ty.args.length c'], .bool true]) (by simp [results, Tryd.results45, go_sem, f0, f1, f2, f3]) rfl ?_
        exact HE.out
      · have HN : Hid (findX (xs.drop j) nm = none) := Lib.hid (findX_next hlt hF hn)
        have hnn : (xs[j].name.toList == nm.toList) = false := beqS_ne hn
        rw [hij]
        clear hn hF ht hns hj hk0 hij
        generalize xs[j] = X at *
        go_wp2
        go_roundw
        case rel => exact ⟨j, by omega, by go_num, HN, Lib.hid trivial⟩
        case measure => simp [RowKit.intOf]

set_option maxRecDepth 20000 in
set_option maxHeartbeats 4000000 in
theorem rdrop_any (xs : List Ex) (nm : ByteArray) (v : Value) (w : World) (hX : ExsAt (· < w.heap.size) w v xs) (hl : xs.length ≤ 1000000) :
    Calls Tryd.prog 48 #[v, .string nm] w fun e w' => ∃ v', e = .returned v' ∧ ExsAt (· < w'.heap.size) w' v' (dropX xs nm) ∧ Below w.heap.size w w' := by
  obtain ⟨A, c, rfl, hc, hm⟩ := hX.form
  obtain ⟨W1, hW1⟩ : ∃ W1, W1 = w.alloc (.cells #[] 46) := ⟨_, rfl⟩
  have hb1 : Below w.heap.size w W1 := by rw [hW1]; exact (Below.refl _ _).alloc (Nat.le_refl _) _
  have HB1 := Lib.hid hb1
  have HMK : Hid (RowK 46 5 ExAt 0 w.heap.size W1 [] (.slice (some ⟨w.heap.size, 0, none⟩) 0 0) []) := Lib.hid (by rw [hW1]; exact RowK.made w (Nat.le_refl _))
  have HX := Lib.hid hX
  have hla : xs.length ≤ 9223372036854775807 := by omega
  clear hX hc hm hb1
  go_enter Tryd.func48, Tryd.ntmps48
  go_wp2
  rw [← hW1]
  clear hW1
  go_loopw [5, 6] (fun sv iv W => ∃ (k : Nat) (us : List Value), k ≤ xs.length ∧ iv = .int .i64 k ∧ Hid (RowK 46 5 ExAt 0 w.heap.size W (dropX (xs.take k) nm) sv us) ∧ Hid (Below w.heap.size w W)) (fun _ iv _ => xs.length - (RowKit.intOf iv).toNat)
  case atStart => exact ⟨0, [], by omega, rfl, Lib.hid (by rw [List.take_zero, dropX_nil]; exact HMK.out), HB1⟩
  case round =>
    obtain ⟨k, us, hk, rfl, HR, HB⟩ := hrel
    have hzb := HB.out.size
    by_cases hlt : k < xs.length
    · obtain ⟨b, off, A', c', rfl, hb, hns, ht, x0, x1, x2, x3, x4⟩ := (HX.out.keep (S' := (· < w.heap.size)) fun g hg => ⟨hg, HB.out.block g hg⟩).arg hlt
      have hac : (dropX (xs.take k) nm).length ≤ k := by
        have := dropX_len (xs.take k) nm
        rw [List.length_take] at this; omega
      by_cases hn : xs[k].name = nm
      · have HSK := Lib.hid (dropX_skip hlt hn)
        have hnn : (xs[k].name.toList == nm.toList) = true := (beqS _ _).2 hn
        clear hn ht hns
        generalize xs[k] = X at *
        go_wp2
        go_roundw
        case rel => exact ⟨k + 1, us, by omega, by go_num, Lib.hid (by rw [HSK.out]; exact HR.out), HB⟩
        case measure => simp [RowKit.intOf]; omega
      · have HKP := Lib.hid (dropX_keep hlt hn)
        have hnn : (xs[k].name.toList == nm.toList) = false := beqS_ne hn
        have HEX : Hid (ExAt (· < w.heap.size) wr (exV xs[k] A' c') xs[k]) := Lib.hid ⟨A', c', rfl, hns, ht⟩
        have hown := HR.out.own
        obtain ⟨us', hus⟩ : ∃ us', us' = us.flatMap flatC := ⟨_, rfl⟩
        obtain ⟨m, hm⟩ : ∃ m, m = (dropX (xs.take k) nm).length := ⟨_, rfl⟩
        rw [← hus, ← hm] at hown
        rw [← hm] at hac
        have HUS := Lib.hid hus
        have HM := Lib.hid hm
        clear hn ht hns hus hm
        generalize xs[k] = X at *
        go_wp2_with (at_builtin; refine wpList_appK _ rfl _ _ _ rfl w.heap.size _ 5 exE _ m us' rfl (World.ownsRow.alloc hown _) ⟨wr.heap.size, 0, none⟩ 1 1 [.string X.name, .int .i64 X.ty.kind, .int .i64 X.ty.num, .string X.ty.name, .slice A' X.ty.args.length c'] rfl rfl (cells_new _ _ _) (one5 _ _ _ _ _ _ _) (by omega) (by simp; omega) ?_; intro v5 w5 hown5 hg5 hat5)
        have hR5 : RowK 46 5 ExAt 0 w.heap.size w5 (dropX (xs.take k) nm ++ [X]) v5 (us ++ [exV X A' c']) := by
          refine row_app5 (Z := w.heap.size) HR.out HEX.out (Nat.le_refl _) hzb ?_ hg5 hat5
          rw [← HM.out, ← HUS.out]; exact hown5
        have HR5 := Lib.hid hR5
        have HB5 : Hid (Below w.heap.size w w5) := Lib.hid (below_grow HB.out hzb _ hg5 (fun g e => (hown.lt g e).1))
        clear hR5 hown5 hg5 hat5 hown
        go_wp2
        go_roundw
        case rel => exact ⟨k + 1, _, by omega, by go_num, Lib.hid (by rw [HKP.out]; exact HR5.out), HB5⟩
        case measure => simp [RowKit.intOf]; omega
    · have hkl : k = xs.length := by omega
      have hr := HR.out
      rw [hkl, List.take_length] at hr
      obtain ⟨A5, c5, hf5, hc5, hm5⟩ := hr.form
      have HEX : Hid (ExsAt (· < wr.heap.size) wr (.slice A5 (dropX xs nm).length c5) (dropX xs nm)) := Lib.hid (by rw [← hf5]; exact hr.exs.sub fun g hg => hg.2)
      subst hf5
      clear hr hc5 hm5
      go_wp2
      go_ret
      exact ⟨_, rfl, HEX.out, HB.out⟩
end Go.Proofs.YtbhicpjhijondaaDoor
