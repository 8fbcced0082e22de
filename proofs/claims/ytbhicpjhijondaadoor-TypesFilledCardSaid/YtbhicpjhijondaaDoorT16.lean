/- say: arrows. -/
import Derived.Test.YtbhicpjhijondaaDoorT15
namespace Go.Proofs.YtbhicpjhijondaaDoor
open Go.RowKit Go.Lib Go.Vfs Go.Par Go.Typ Go.Shelf
set_option linter.unusedVariables false
set_option linter.unusedSimpArgs false

set_option maxRecDepth 20000 in
set_option maxHeartbeats 2000000 in
theorem say_arrow (T : Ty) (ih : ∀ i (hi : i < T.args.length), SayC T.args[i]) (h1 : T.kind = 4) (h2 : T.args.length = 2) : SayC T := by
  intro B b v l W hT h hB htb hg hl
  rw [sayT_arrow h1 h2] at hl ⊢
  have hi0 : 0 < T.args.length := by omega
  have hi1 : 1 < T.args.length := by omega
  have HI0 := Lib.hid (ih 0 hi0); have HI1 := Lib.hid (ih 1 hi1)
  obtain ⟨A, c, rfl, hc, hm, hn⟩ := hT.form
  obtain ⟨W1, hW1⟩ : ∃ W1, W1 = W.alloc (.cells #[.int .i64 T.kind, .int .i64 T.num, .string T.name, .slice A T.args.length c] 24) := ⟨_, rfl⟩
  have hb1 : Below W.heap.size W W1 := by rw [hW1]; exact (Below.refl _ _).alloc (Nat.le_refl _) _
  have hs1 : SB B b W l W1 := (SB.refl h hB).new hb1
  have HBX : Hid (W1.heap[W.heap.size]? = some (.cells #[.int .i64 T.kind, .int .i64 T.num, .string T.name, .slice A T.args.length c] 24 (0, 0))) := Lib.hid (by rw [hW1]; exact heap_alloc_new _ _)
  have hbn : W.heap.size ≠ b := by have := (SB.refl h hB).blt; omega
  obtain ⟨bb, off, A', c', rfl, hbb, ht, x0, x1, x2, x3⟩ := (hs1.ty hT).arg hi0
  obtain ⟨bb2, off2, A2, c2, e2, hbb2, ht2, z0, z1, z2, z3⟩ := (hs1.ty hT).arg hi1
  injection e2 with e2
  injection e2 with e2 e3
  subst e2 e3
  have HS1 := Lib.hid hs1; have HTB := Lib.hid htb; have HL := Lib.hid hl; have HT0 := Lib.hid ht; have HT1 := Lib.hid ht2
  clear hT hs1 htb h hc hm hn hl ih ht ht2
  generalize T.args[0] = X at *
  generalize T.args[1] = Y at *
  have HX0 : Hid (W1.cell? ⟨bb, off, none⟩ = some (.int .i64 X.kind) ∧ W1.cell? ⟨bb, off + 1, none⟩ = some (.int .i64 X.num) ∧ W1.cell? ⟨bb, off + 2, none⟩ = some (.string X.name) ∧ W1.cell? ⟨bb, off + 3, none⟩ = some (.slice A' X.args.length c')) := Lib.hid (by
    simp only [Nat.zero_mul, Nat.add_zero] at x0 x1 x2 x3
    exact ⟨x0, x1, x2, x3⟩)
  have HZ0 : Hid (W1.cell? ⟨bb, off + 4, none⟩ = some (.int .i64 Y.kind) ∧ W1.cell? ⟨bb, off + 5, none⟩ = some (.int .i64 Y.num) ∧ W1.cell? ⟨bb, off + 6, none⟩ = some (.string Y.name) ∧ W1.cell? ⟨bb, off + 7, none⟩ = some (.slice A2 Y.args.length c2)) := Lib.hid (by
    simp only [Nat.one_mul, Nat.add_assoc] at z0 z1 z2 z3
    exact ⟨z0, z1, z2, z3⟩)
  obtain ⟨p4, hp4⟩ : ∃ p, p = decide (X.kind = 4) := ⟨_, rfl⟩
  have g4 : (X.kind == 4) = p4 := by rw [hp4]; by_cases h : X.kind = 4 <;> simp [h]
  rw [← hp4]
  have HP4 := Lib.hid hp4
  obtain ⟨y0, y1, y2, y3⟩ := box4 HBX.out
  have HSK : Hid (∀ w2, Below W1.heap.size W1 w2 → w2.cell? ⟨W.heap.size, 3, none⟩ = some (.slice (some ⟨bb, off, none⟩) T.args.length c) ∧ w2.cell? ⟨bb, off, none⟩ = some (.int .i64 X.kind) ∧ w2.cell? ⟨bb, off + 1, none⟩ = some (.int .i64 X.num) ∧ w2.cell? ⟨bb, off + 2, none⟩ = some (.string X.name) ∧ w2.cell? ⟨bb, off + 3, none⟩ = some (.slice A' X.args.length c')) := Lib.hid fun w2 hw => by
    have hlt : bb < W1.heap.size := lt_cell HX0.out.1
    exact ⟨(hw.cell (p := ⟨_, _, none⟩) (lt_blk HBX.out)).trans y3, (hw.cell (p := ⟨_, _, none⟩) hlt).trans HX0.out.1, (hw.cell (p := ⟨_, _, none⟩) hlt).trans HX0.out.2.1, (hw.cell (p := ⟨_, _, none⟩) hlt).trans HX0.out.2.2.1, (hw.cell (p := ⟨_, _, none⟩) hlt).trans HX0.out.2.2.2⟩
  have HSI : Hid (∀ w2, Below W1.heap.size W1 w2 → Calls Tryd.prog 85 #[.pointer (some ⟨b, 0, none⟩), .agg #[.int .i64 X.kind, .int .i64 X.num, .string X.name, .slice A' X.args.length c'], .bool p4] w2 fun e W' => e = .returned (.tuple #[]) ∧ SB B b W (l ++ wrapB p4 (sayT X)) W' ∧ W'.heap[W.heap.size]? = some (.cells #[.int .i64 T.kind, .int .i64 T.num, .string T.name, .slice (some ⟨bb, off, none⟩) T.args.length c] 24 (0, 0)) ∧ (W'.cell? ⟨W.heap.size, 3, none⟩ = some (.slice (some ⟨bb, off, none⟩) T.args.length c) ∧ W'.cell? ⟨bb, off, none⟩ = some (.int .i64 X.kind) ∧ W'.cell? ⟨bb, off + 1, none⟩ = some (.int .i64 X.num) ∧ W'.cell? ⟨bb, off + 2, none⟩ = some (.string X.name) ∧ W'.cell? ⟨bb, off + 3, none⟩ = some (.slice A' X.args.length c'))) := Lib.hid fun w2 hw => by
    have hs := HS1.out.new hw
    have hbx := (hw.block _ (lt_blk HBX.out)).trans HBX.out
    refine (sayIn_s HI0.out B b _ p4 l w2 (HT0.out.keep fun g hg2 => ⟨hg2, (hw.mono HS1.out.le).block g hg2⟩) hs.bld hs.le (hs.tb HTB.out hg) hg ?_).mono ?_
    · have := HL.out; rw [← hp4] at this; simp only [List.length_append] at this; omega
    · rintro e W' ⟨rfl, h⟩
      have hb2 := h.at hbx (by decide) hbn
      obtain ⟨k0, k1, k2, k3, k4⟩ := HSK.out w2 hw
      exact ⟨rfl, hs.t h, hb2, (box4 hb2).2.2.2, (h.below.cell (p := ⟨_, _, none⟩) hbb).trans k1, (h.below.cell (p := ⟨_, _, none⟩) hbb).trans k2, (h.below.cell (p := ⟨_, _, none⟩) hbb).trans k3, (h.below.cell (p := ⟨_, _, none⟩) hbb).trans k4⟩
  clear hp4 x0 x1 x2 x3 z0 z1 z2 z3
  have HBW : Hid (Below W1.heap.size W1 W1.drew) := Lib.hid (Below.refl _ _).drew
  have H1 := Lib.hid h1
  unfold tyV
  rw [h1] at hW1 ⊢
  have g24 : 0 < T.args.length := by omega
  have g25 : 1 < T.args.length := by omega
  have g26 : T.args.length ≤ 9223372036854775807 := by omega
  have H24 := Lib.hid h2
  clear h2
  go_enter Tryd.func56, Tryd.ntmps56
  go_wp2_with fail
  rw [← hW1]
  clear hW1
  go_region_held (fun w2 => w2.cell? ⟨W.heap.size, 3, none⟩ = some (.slice (some ⟨bb, off, none⟩) T.args.length c) ∧ w2.cell? ⟨bb, off, none⟩ = some (.int .i64 X.kind) ∧ w2.cell? ⟨bb, off + 1, none⟩ = some (.int .i64 X.num) ∧ w2.cell? ⟨bb, off + 2, none⟩ = some (.string X.name) ∧ w2.cell? ⟨bb, off + 3, none⟩ = some (.slice A' X.args.length c'))
    (first | exact HSK.out _ HBW.out | exact HK2 | assumption) ((go_at_call 85; refine (HSI.out _ HBW.out).mono ?_; rintro e w2 ⟨rfl, HS2, HB2, HK2⟩))
  have HBX2 := Lib.hid HB2; have HS2' := Lib.hid HS2
  obtain ⟨y0, y1, y2, y3⟩ := box4 HB2
  clear HB2 HS2
  have hl2 : (l ++ wrapB p4 (sayT X)).length + 4 + (sayT Y).length ≤ 140737488355000 := by
    have h := HL.out
    rw [← HP4.out] at h
    simp only [List.length_append, List.length_cons, List.length_nil] at h ⊢
    omega
  have HL2 := Lib.hid hl2
  have HW := Lib.hid (writeString_s B b _ ⟨#[32, 45, 62, 32]⟩ w2 HS2'.out.bld HS2'.out.le (by show _ + 4 ≤ _; omega))
  clear hl2
  go_wp2_with fail
  refine HW.out.mono ?_
  rintro e w3 ⟨⟨v3, rfl⟩, H3⟩
  have HBX3 := Lib.hid (H3.at HBX2.out (by decide) hbn)
  have HS3 := Lib.hid (HS2'.out.t H3)
  clear y0 y1 y2 y3 H3
  obtain ⟨y0, y1, y2, y3⟩ := box4 HBX3.out
  have hz : w3.cell? ⟨bb, off + 4, none⟩ = some (.int .i64 Y.kind) ∧ w3.cell? ⟨bb, off + 5, none⟩ = some (.int .i64 Y.num) ∧ w3.cell? ⟨bb, off + 6, none⟩ = some (.string Y.name) ∧ w3.cell? ⟨bb, off + 7, none⟩ = some (.slice A2 Y.args.length c2) := by
    have hz0 := HZ0.out
    have hb : Below B W w3 := HS3.out.below
    have hb1 : Below B W W1 := HS1.out.below
    have key : ∀ o : Nat, w3.cell? ⟨bb, o, none⟩ = W1.cell? ⟨bb, o, none⟩ := fun o => (hb.cell (p := ⟨bb, o, none⟩) hbb).trans (hb1.cell (p := ⟨bb, o, none⟩) hbb).symm
    rw [key, key, key, key]
    exact hz0
  obtain ⟨z0, z1, z2, z3⟩ := hz
  have HT3 : Hid (TyAt (· < B) w3 (tyV Y.kind Y.num Y.name A2 Y.args.length c2) Y) := Lib.hid (by
    refine HT1.out.keep fun g hg2 => ⟨hg2, ?_⟩
    exact (HS3.out.below.block g hg2).trans (HS1.out.below.block g hg2).symm)
  have HC := Lib.hid (HI1.out B b _ _ w3 HT3.out HS3.out.bld HS3.out.le (HS3.out.tb HTB.out hg) hg (by
    have h := HL2.out
    rw [List.length_append]
    show _ + 4 + _ ≤ _
    omega))
  unfold tyV at HC
  go_wp2_with fail
  refine HC.out.mono ?_
  rintro e w4 ⟨rfl, H4⟩
  have HS4 := Lib.hid (HS3.out.t H4)
  clear H4
  go_wp2
  go_end0
  refine ⟨rfl, ?_⟩
  have h := HS4.out
  rw [← List.append_assoc, ← List.append_assoc]
  exact h
end Go.Proofs.YtbhicpjhijondaaDoor
