import Derived.Test.YtpdelgjfamelfaaVW
namespace Go.Proofs.Ytpdelgjfamelfaa
open Go.RowKit Go.Lib Go.Vfs Go.Par Go.Shelf
set_option linter.unusedVariables false

/-- the last statement of a round of Crash's loop. -/
theorem crash_last {w V : World} {power : Int} {keeps : List Int} {kv : Value} {cnt : Nat} {fs : List File} (hI : CrashI w power keeps kv cnt fs V) (x : FileR) (hFx : FileAt V x) (hdl : x.f.data.length ≤ 2147483648) (hnl : x.f.name.length ≤ 100000) (hfl : fs.length ≤ 100000)
    {N : Nat} (hN : N = cutN (cutK keeps fs.length) x.f) {l n : Nat} {Q : Exit → Act → World → Prop}
    (hQ : ∀ a w3, CrashI w power keeps kv cnt (fs ++ [x.f]) w3 → KeepsFrom (w.heap.size + 6) V w3 → KpE (w.heap.size + 6) (ExC (w.heap.size + 1 + 1 + 1 + 1) (w.heap.size + 1)) V w3 → Q .normal a w3)
    (a : Act) (hs : a.tmps.size = 65) (f7 : a.tmps.getD 7 undef = .pointer (some ⟨w.heap.size + 1 + 1 + 1, 0, none⟩)) (f9 : a.tmps.getD 9 undef = .string ⟨x.f.name.toArray⟩) (f10 : a.tmps.getD 10 undef = .pointer (some ⟨x.q, 0, none⟩)) (f12 : a.tmps.getD 12 undef = .int .i64 N) :
    (Code.region 11 ops11 true).wpIn (Fence.wide.inRound l) n Try.prog Q a V := by
  obtain ⟨A2, c2, hv⟩ := hFx.form
  have hh := hFx.head
  have hrow := hFx.row
  rw [hv] at hh hrow
  have hcap := row_cap hrow
  have hNl : N ≤ x.f.data.length := by rw [hN]; exact cutN_le _ _ hFx.safe
  obtain ⟨ys, hys, hat, hyb⟩ := hI.fs
  have hcq : V.cell? ⟨x.q, 0, none⟩ = some (.slice A2 x.f.data.length c2) := by simp [World.cell?, hh]
  have hcp : V.cell? ⟨w.heap.size + 1 + 1, 0, none⟩ = some (.map (some (w.heap.size + 1))) := by simp [World.cell?, hat.head]
  have hyl : ys.length ≤ 100000 := by
    have h1 := congrArg List.length hys
    have h2 := crashW_length keeps fs
    simp at h1
    omega
  have hkey : keyOf Try.prog 9 (.string ⟨x.f.name.toArray⟩) = some (.string x.f.name) := by
    have := keyStr ⟨x.f.name.toArray⟩ (by rw [Lib.size_eq]; simp; omega)
    simpa using this
  refine region11 (W := V) (pL := w.heap.size + 1 + 1) (mL := w.heap.size + 1) (q := x.q) (N := N) (len := x.f.data.length) (c2 := c2) (b7 := w.heap.size + 1 + 1 + 1) (A2 := A2) (S := ⟨x.f.name.toArray⟩)
    (Post := fun u w2 => Par.Own w2 V.heap.size 5 u (byteCells (x.f.data.take N)) ∧ Below V.heap.size V w2)
    (Fin := fun w3 => CrashI w power keeps kv cnt (fs ++ [x.f]) w3 ∧ KeepsFrom (w.heap.size + 6) V w3 ∧ KpE (w.heap.size + 6) (ExC (w.heap.size + 1 + 1 + 1 + 1) (w.heap.size + 1)) V w3)
    hI.b7.cell hcp hcq (by omega) (fun u w2 ⟨h1, h2⟩ => ?_) ?_ (fun u w2 ⟨h1, h2⟩ => ?_) (fun a w3 ⟨h1, h2, h3⟩ => hQ a w3 h1 h2 h3) a hs f7 f9 f10 f12
  · obtain ⟨A, c, hu⟩ := h1.form
    exact ⟨(h2.cell (p := ⟨_, _, _⟩) hI.b7.lt).trans hI.b7.cell, (h2.cell (p := ⟨_, _, _⟩) (World.block_lt_of_cell? _ _ hcp)).trans hcp, (h2.cell (p := ⟨_, _, _⟩) (World.block_lt_of_cell? _ _ hcq)).trans hcq, A, _, c, hu⟩
  · have hr : V.drew.ownsRow 0 5 1 (.slice A2 N c2) (x.f.data.take N).length (byteCells (x.f.data.take N)) := by
      have := ownsRow_take hrow N hNl
      rw [List.length_take, Nat.min_eq_left hNl]
      exact this
    refine (clone_any _ (x.f.data.take N) 0 V.drew hr (by simp; omega)).mono ?_
    rintro e w' ⟨u, rfl, h1, h2⟩
    exact ⟨u, rfl, h1, ⟨h2.os, h2.tape, h2.output, h2.size, h2.block⟩⟩
  · have hm2 : (w2.alloc (.cells #[u, .int .i64 N] 89)).ownsMap Try.prog 9 ptrElem (w.heap.size + 1) ys.length (dat ys) := (ownsMap_block hat.map (h2.block _ hat.map.lt)).alloc _
    obtain ⟨w3, hrun, hmap, hg⟩ := hm2.update strK Try.underlying82 (by unfold maxLen; omega) hkey (val := .pointer (some ⟨w2.heap.size, 0, none⟩)) (d := .lit (.int .i64 w2.heap.size)) (ps := []) rfl
    exact ⟨w3, hrun, crash_put hI hFx.safe hN h1 h2 hys hat hyb hmap hg⟩
end Go.Proofs.Ytpdelgjfamelfaa
