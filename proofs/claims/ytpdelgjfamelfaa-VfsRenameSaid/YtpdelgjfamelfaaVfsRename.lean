/- Proved here: VfsRename returns true at every input (the statement Rows.VfsRenameSaid). No condition beyond the form's own. -/
import Derived.Test.YtpdelgjfamelfaaV18
import Derived.Test.YtpdelgjfamelfaaRow
namespace Go.Proofs.Ytpdelgjfamelfaa.vfsRename
open Go.ChangeShapes Go.WideShapes Go.ChangeAt Go.RowKit Go.Par
open Go.ChangeMaps (open_string shut_string)
set_option linter.unusedVariables false

set_option maxRecDepth 100000 in
theorem lifted (os : Os) (started : os.Started) (H : Type) (enc : TypeId × Value → H) :
    ReturnsInHanded {} Try.checked os 4 .any (Rows.vfsRenameSpec.pre6 enc Try.prog Try.f4 Rows.vfsRenameRow.domain false) (Rows.vfsRenameSpec.post enc Try.prog Try.f4 false true false false) := by
  refine returnsInHanded_of_change_sized (C := Try.checked) own started (by kernel_rfl) Try.func4
    (ChangeSpec.witness6 (enc := enc) (C := Try.checked) false ⟨#[], #[.string ⟨#[]⟩, .string ⟨#[]⟩, .string ⟨#[]⟩, .slice none 0 0, .slice none 0 0], []⟩ 8 (by kernel_rfl) (by kernel_rfl) (by kernel_rfl) (by kernel_rfl)) ?_
  intro W base args ds gs before hval0 hW _ hsz _
  have hval : ∀ (j : Nat) t v, Try.f4.params[j]? = some t → args[j]? = some v → Value.okWide Try.prog W .any base t v := hval0
  have hW' := hW
  obtain ⟨p, q, hA0, hV, rfl, hfz, hnd⟩ := hW
  have hA : DataW.TrodAll enc Try.prog W 0 (fun _ => true) true Try.f4.params.toList args.toList ds p := hA0
  rw [Try.params4] at hA hval
  obtain ⟨v0, vs0, d0, ds0, p0, q0, hargs, rfl, rfl, h0, r0⟩ := trodAll_cons hA
  obtain ⟨v1, vs1, d1, ds1, p1, q1, rfl, rfl, rfl, h1, r1⟩ := trodAll_cons r0
  obtain ⟨v2, vs2, d2, ds2, p2, q2, rfl, rfl, rfl, h2, r2⟩ := trodAll_cons r1
  obtain ⟨v3, vs3, d3, ds3, p3, q3, rfl, rfl, rfl, h3, r3⟩ := trodAll_cons r2
  obtain ⟨v4, vs4, d4, ds4, p4, q4, rfl, rfl, rfl, h4, r4⟩ := trodAll_cons r3
  obtain ⟨rfl, rfl, rfl⟩ := trodAll_nil r4
  obtain rfl : args = #[v0, v1, v2, v3, v4] := by cases args; simp_all
  obtain ⟨rfl, rfl⟩ := trodVars_none hV
  obtain ⟨s0, rfl, rfl, rfl, ws0⟩ := open_string Try.underlying9 (hval 0 9 v0 rfl rfl) h0
  have b0 : s0.size ≤ 9223372036854775807 := by simpa [maxLen] using ws0
  obtain ⟨s1, rfl, rfl, rfl, ws1⟩ := open_string Try.underlying9 (hval 1 9 v1 rfl rfl) h1
  have b1 : s1.size ≤ 9223372036854775807 := by simpa [maxLen] using ws1
  obtain ⟨s2, rfl, rfl, rfl, ws2⟩ := open_string Try.underlying9 (hval 2 9 v2 rfl rfl) h2
  have b2 : s2.size ≤ 9223372036854775807 := by simpa [maxLen] using ws2
  have k3 := h3
  have lt3 : ∀ x ∈ p3, x.block < W.heap.size := by obtain ⟨m, hm⟩ := k3; exact DataW.trod_lt m _ _ _ hm
  obtain ⟨z3, b3, g3⟩ := bytes_of_trod (hval 3 22 v3 rfl rfl) h3 (fun k hk => by
    have := List.all_eq_true.1 hsz k (DataW.weights_mem_each (j := 3) (t := 22) (d := d3) (by rw [Try.params4]; rfl) (by simp) k hk)
    simpa using this)
  have k4 := h4
  have lt4 : ∀ x ∈ p4, x.block < W.heap.size := by obtain ⟨m, hm⟩ := k4; exact DataW.trod_lt m _ _ _ hm
  obtain ⟨z4, b4, g4⟩ := bytes_of_trod (hval 4 22 v4 rfl rfl) h4 (fun k hk => by
    have := List.all_eq_true.1 hsz k (DataW.weights_mem_each (j := 4) (t := 22) (d := d4) (by rw [Try.params4]; rfl) (by simp) k hk)
    simpa using this)
  clear hA0 hval0
  refine (Go.Proofs.Ytpdelgjfamelfaa.vfsRename_walk s0 b0 s1 b1 s2 b2 v3 z3 b3 v4 z4 b4 W g3 g4).mono fun e W' ⟨he, bel⟩ => ?_
  subst he
  exact ⟨_, rfl, _, _, _, [], _, [], hW', trodAll_mk1 (shut_bool Try.underlying4 _), (trodAll_cons_mk (shut_string Try.underlying9 ws0) (trodAll_cons_mk (shut_string Try.underlying9 ws1) (trodAll_cons_mk (shut_string Try.underlying9 ws2) (trodAll_cons_mk (Below.trod laidOut (by kernel_rfl) (of_decide_eq_true (by kernel_rfl)) k3 bel lt3) (trodAll_cons_mk (Below.trod laidOut (by kernel_rfl) (of_decide_eq_true (by kernel_rfl)) k4 bel lt4) trodAll_mk0))))), rfl, bel.frame _, fun h => by cases h⟩

theorem over : Rows.vfsRenameRow.holds Try.pinned (OpenSpec.ofChange Rows.vfsRenameSpec) :=
  OpenClaim.holds_of_wide 4 Try.f4 rfl rfl rfl rfl rfl rfl rfl ⟨rfl, rfl, rfl, rfl, rfl⟩ rfl rfl rfl rfl rfl (by kernel_rfl) Try.func4 (by kernel_rfl)
    (of_decide_eq_true (by kernel_rfl)) (by unfold Func.isWrapper; first | (rw [if_pos (by decide +kernel)]; kernel_rfl) | (rw [if_neg (by decide +kernel)]; exact ⟨rfl, rfl⟩))
    (fun os started H enc _ => lifted os started H enc)

theorem proved : Rows.VfsRenameSaid := over
#print axioms proved
end Go.Proofs.Ytpdelgjfamelfaa.vfsRename
