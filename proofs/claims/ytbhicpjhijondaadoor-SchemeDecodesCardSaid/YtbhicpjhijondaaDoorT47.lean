/- types.Close: the walk. -/
import Derived.Test.YtbhicpjhijondaaDoorT46
namespace Go.Proofs.YtbhicpjhijondaaDoor
open Go.RowKit Go.Lib Go.Vfs Go.Par Go.Typ Go.Shelf
set_option linter.unusedVariables false
set_option linter.unusedSimpArgs false

/-- a type whose variables are numbered in order; none, if it isn't right. -/
def closeR (T : Ty) : Ty := if rightT T then (closeT T []).1 else zeroT
def ClosePost (T : Ty) (w : World) (e : Ending) (w' : World) : Prop :=
  ∃ (R : Ty) (A : Option Addr) (cc : Nat), e = .returned (.tuple #[tyV R.kind R.num R.name A R.args.length cc, .int .i64 (if rightT T then 0 else 120)]) ∧ TyC (fun g => w.heap.size ≤ g ∧ g < w'.heap.size) w' (tyV R.kind R.num R.name A R.args.length cc) R ∧ Below w.heap.size w w' ∧ R = closeR T

set_option maxRecDepth 20000 in
set_option maxHeartbeats 1000000 in
theorem close_any (T : Ty) (v : Value) (w : World) (hT : TyAt (· < w.heap.size) w v T) : Calls Tryd.prog 27 #[v] w (ClosePost T w) := by
  obtain ⟨P, hP⟩ : ∃ P, P = ClosePost T w := ⟨_, rfl⟩
  have HPO := Lib.hid hP
  rw [← hP]
  clear hP
  obtain ⟨A, c, rfl, hc, hm, hn⟩ := hT.form
  obtain ⟨W1, hW1⟩ : ∃ W1, W1 = (w.alloc (.cells #[.int .i64 T.kind, .int .i64 T.num, .string T.name, .slice A T.args.length c] 24)).alloc (.cells #[.int .i64 0, .int .i64 0, .string ⟨#[]⟩, .slice none 0 0] 24) := ⟨_, rfl⟩
  have hb1 : Below w.heap.size w W1 := by rw [hW1]; exact ((Below.refl _ _).alloc (Nat.le_refl _) _).alloc (by simp) _
  have hbx : W1.heap[w.heap.size]? = some (.cells #[.int .i64 T.kind, .int .i64 T.num, .string T.name, .slice A T.args.length c] 24 (0, 0)) := by
    rw [hW1, Below.heap_alloc _ _ _ (by simp)]
    exact heap_alloc_new _ _
  have hres : W1.heap[w.heap.size + 1]? = some (.cells #[.int .i64 0, .int .i64 0, .string ⟨#[]⟩, .slice none 0 0] 24 (0, 0)) := by
    rw [hW1]
    have := heap_alloc_new (w.alloc (.cells #[.int .i64 T.kind, .int .i64 T.num, .string T.name, .slice A T.args.length c] 24)) (.cells #[.int .i64 0, .int .i64 0, .string ⟨#[]⟩, .slice none 0 0] 24)
    simpa using this
  have hz1 : W1.heap.size = w.heap.size + 2 := by rw [hW1]; simp
  have hT1 : TyAt (· < w.heap.size) W1 (tyV T.kind T.num T.name A T.args.length c) T := hT.keep fun g hg => ⟨hg, hb1.block g hg⟩
  have hri := right_any T _ W1 (hT1.sub fun g (hg : g < w.heap.size) => by omega)
  have HRI := Lib.hid hri
  have HBX := Lib.hid hbx; have HRS := Lib.hid hres; have HZ1 := Lib.hid hz1; have HT1 := Lib.hid hT1; have HB1 := Lib.hid hb1
  obtain ⟨y0, y1, y2, y3⟩ := box4 hbx
  rw [hW1] at y0 y1 y2 y3
  have hmm := @run_makeMap Tryd.prog
  clear hT hT1 hri hbx hres hz1 hb1 hc hm hn
  unfold tyV at HRI ⊢
  go_enter Tryd.func27, Tryd.ntmps27
  go_wp2_with fail
  rw [← hW1]
  clear hW1 y0 y1 y2 y3
  refine HRI.out.mono ?_
  rintro e w2 ⟨rfl, hb2⟩
  have hz1 := HZ1.out
  have hz2 := hb2.size
  have hbx2 := (hb2.block w.heap.size (by omega)).trans HBX.out
  have hres2 := (hb2.block (w.heap.size + 1) (by omega)).trans HRS.out
  have hT2 : TyAt (· < w.heap.size) w2 (tyV T.kind T.num T.name A T.args.length c) T := HT1.out.keep fun g hg => ⟨hg, hb2.block g (by omega)⟩
  have hbw2 : Below w.heap.size w w2 := HB1.out.trans (hb2.mono (by omega))
  have HBX2 := Lib.hid hbx2; have HRS2 := Lib.hid hres2; have HT2 := Lib.hid hT2; have HBW2 := Lib.hid hbw2
  have HZ2 : Hid (w.heap.size + 2 ≤ w2.heap.size) := Lib.hid (by omega)
  cases hr : rightT T with
  | false =>
    obtain ⟨Wf, hWf, hbf, hkf⟩ := end4 (.int .i64 0) (.int .i64 0) (.string ⟨#[]⟩) (.slice none 0 0) hres2
    obtain ⟨r0, r1, r2, r3⟩ := box4 hres2
    obtain ⟨s0, s1, s2, s3⟩ := box4_frozen hres2
    have HE : Hid (P (.returned (.tuple #[.agg #[.int .i64 0, .int .i64 0, .string ⟨#[]⟩, .slice none 0 0], .int .i64 120])) Wf) := Lib.hid (by
      rw [HPO.out]
      have h5 := hkf.size
      exact ⟨zeroT, none, 0, by rw [hr]; rfl, TyC.nil _ _ 0 0 ⟨#[]⟩ none 0 (by simp [maxLen]) (by decide), hbw2.trans (below_of_kept (p := w.heap.size + 1) hkf (by omega) (by omega)), by unfold closeR; rw [hr]; rfl⟩)
    have HBF := Lib.hid hbf
    have HWF := Lib.hid hWf
    clear hr hres2 hbx2 hT2 hbw2 hbf hkf hWf hb2 hz1 hz2
    go_wp2
    rw [← HWF.out]
    obtain ⟨f0, f1, f2, f3⟩ := box4 HBF.out
    refine bodyPost_ret (v := .tuple #[.agg #[.int .i64 0, .int .i64 0, .string ⟨#[]⟩, .slice none 0 0], .int .i64 120]) (by simp [results, Tryd.results27, go_sem, f0, f1, f2, f3]) rfl ?_
    exact HE.out
  | true =>
    have HRT := Lib.hid hr
    obtain ⟨y0, y1, y2, y3⟩ := box4 hbx2
    obtain ⟨W3, hW3⟩ : ∃ W3, W3 = (w2.alloc (.map #[] 0)).alloc (.cells #[.map (some w2.heap.size)] 82) := ⟨_, rfl⟩
    have hb3 : Below w2.heap.size w2 W3 := by rw [hW3]; exact ((Below.refl _ _).alloc (Nat.le_refl _) _).alloc (by simp) _
    have hz3 : W3.heap.size = w2.heap.size + 2 := by rw [hW3]; simp
    have hN3 : NumAt W3 w2.heap.size (w2.heap.size + 1) 82 [] := by
      refine ⟨?_, ?_⟩
      · have h := MapI.new w2
        refine h.keep ?_
        rw [hW3]
        exact Below.heap_alloc _ _ _ (by simp)
      · rw [hW3]
        have := heap_alloc_new (w2.alloc (.map #[] 0)) (.cells #[.map (some w2.heap.size)] 82)
        simpa using this
    have hca := replaced_any w2.heap.size (w2.heap.size + 1) T [] _ W3 hN3 (HT2.out.keep fun g hg => ⟨⟨by omega, by omega⟩, hb3.block g (by omega)⟩) (by have := (rightT_iff.1 hr).1; simp; omega)
    have hrc : closeR T = (closeT T []).1 := by unfold closeR; rw [if_pos hr]
    rw [← hrc] at hca
    have HRC : Hid (rightT T = true) := Lib.hid hr
    generalize hR : closeR T = R at *
    have HR := Lib.hid hR
    have HCA := Lib.hid hca
    have HRS3 : Hid (W3.heap[w.heap.size + 1]? = some (.cells #[.int .i64 0, .int .i64 0, .string ⟨#[]⟩, .slice none 0 0] 24 (0, 0))) := Lib.hid ((hb3.block _ (by omega)).trans hres2)
    have HB3 := Lib.hid hb3
    have HZ3 := Lib.hid hz3
    obtain ⟨x0, x1, x2, x3⟩ := box4 ((hb3.block _ (by omega)).trans hbx2)
    rw [hW3] at x0 x1 x2 x3
    clear hr hres2 hbx2 hT2 hbw2 hb2 hz1 hz2 hb3 hz3 hN3 hca hrc hR
    unfold tyV at HCA
    go_wp2_with fail
    rw [← hW3]
    clear hW3 x0 x1 x2 x3 y0 y1 y2 y3
    refine HCA.out.mono ?_
    rintro e w4 ⟨A4, c4, rfl, hT4, hN4, hk4⟩
    have h2 := HZ2.out
    have h3 := HZ3.out
    have h4 := hk4.size
    have hres4 := (hk4.block (w.heap.size + 1) (by omega) (by omega)).trans HRS3.out
    obtain ⟨Wf, hWf, hbf, hkf⟩ := end4 (.int .i64 R.kind) (.int .i64 R.num) (.string R.name) (.slice A4 R.args.length c4) hres4
    obtain ⟨r0, r1, r2, r3⟩ := box4 hres4
    obtain ⟨s0, s1, s2, s3⟩ := box4_frozen hres4
    have HE : Hid (P (.returned (.tuple #[.agg #[.int .i64 R.kind, .int .i64 R.num, .string R.name, .slice A4 R.args.length c4], .int .i64 0])) Wf) := Lib.hid (by
      rw [HPO.out]
      have h5 := hkf.size
      have hb4 : Below w.heap.size w w4 := (HBW2.out.trans (HB3.out.mono (by omega))).trans (below_of_kept (p := w2.heap.size) hk4 (by omega) (by omega))
      refine ⟨R, A4, c4, by rw [HRC.out]; rfl, TyC.keep hT4 fun g hg => ⟨by omega, hkf.block g hg.2 (by show ¬ g = _; omega)⟩, hb4.trans (below_of_kept (p := w.heap.size + 1) hkf (by omega) (by omega)), HR.out.symm⟩)
    have HBF := Lib.hid hbf
    have HWF := Lib.hid hWf
    clear hres4 hbf hkf hWf hT4 hN4 hk4 h2 h3 h4
    go_wp2
    rw [← HWF.out]
    obtain ⟨f0, f1, f2, f3⟩ := box4 HBF.out
    refine bodyPost_ret (v := .tuple #[.agg #[.int .i64 R.kind, .int .i64 R.num, .string R.name, .slice A4 R.args.length c4], .int .i64 0]) (by simp [results, Tryd.results27, go_sem, f0, f1, f2, f3]) rfl ?_
    exact HE.out
end Go.Proofs.YtbhicpjhijondaaDoor
