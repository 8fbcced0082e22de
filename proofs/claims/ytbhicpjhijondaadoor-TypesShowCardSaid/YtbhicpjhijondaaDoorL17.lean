/- The reference's show: constructors, pairs, arrows. (printed by mkl14.py) -/
import Derived.Test.YtbhicpjhijondaaDoorL16
import Derived.Deep.RegionHeld
namespace Go.Proofs.YtbhicpjhijondaaDoor
open Go.RowKit Go.Lib Go.Vfs Go.Par Go.Typ Go.Shelf
set_option linter.unusedVariables false
set_option linter.unusedSimpArgs false

set_option maxRecDepth 20000 in
set_option maxHeartbeats 4000000 in
theorem show_arrow (T : Ty) (ih : ∀ i (hi : i < T.args.length), ShowC T.args[i]) (h1 : T.kind = 4) (h2 : T.args.length = 2) : ShowC T := by
  intro hl v w hT
  obtain ⟨A, c, rfl, hc, hm, hn⟩ := hT.form
  have hla : T.args.length ≤ 9223372036854775807 := by simp only [maxLen] at hm; omega
  obtain ⟨W1, hW1⟩ : ∃ W1, W1 = w.alloc (.cells #[.int .i64 T.kind, .int .i64 T.num, .string T.name, .slice A T.args.length c] 24) := ⟨_, rfl⟩
  have hbx : W1.heap[w.heap.size]? = some (.cells #[.int .i64 T.kind, .int .i64 T.num, .string T.name, .slice A T.args.length c] 24 (0, 0)) := by rw [hW1]; exact heap_alloc_new _ _
  have hb1 : Below w.heap.size w W1 := by rw [hW1]; exact (Below.refl _ _).alloc (Nat.le_refl _) _
  have hz1 : W1.heap.size = w.heap.size + 1 := by rw [hW1]; simp
  have HB1 := Lib.hid hb1
  have HT1 := Lib.hid (hT.blw hb1)
  rw [h1] at hbx hW1
  have HBX := Lib.hid hbx
  have HZ1 := Lib.hid hz1
  obtain ⟨y0, y1, y2, y3⟩ := box4 hbx
  rw [hW1] at y0 y1 y2 y3
  have hi0 : 0 < T.args.length := by omega
  have hi1 : 1 < T.args.length := by omega
  have g25 : (1 : Int) < (T.args.length : Int) := by omega
  have hV := sayT_arrow h1 h2
  have HI0 := Lib.hid (ih 0 hi0); have HI1 := Lib.hid (ih 1 hi1)
  obtain ⟨bb, off, A', c', rfl, hbb, ht, x0, x1, x2, x3⟩ := HT1.out.arg hi0
  obtain ⟨bb2, off2, A2, c2, e2, hbb2, ht2, z0, z1, z2, z3⟩ := HT1.out.arg hi1
  injection e2 with e2
  injection e2 with e2 e3
  subst e2 e3
  simp only [Nat.zero_mul, Nat.add_zero] at x0 x1 x2 x3
  simp only [Nat.one_mul, Nat.add_assoc] at z0 z1 z2 z3
  have HTX := Lib.hid ht; have HTY := Lib.hid ht2
  clear hT hb1 hc hm hn hz1 ih ht ht2
  generalize T.args[0] = X at *
  generalize T.args[1] = Y at *
  have H24 := Lib.hid h2
  clear h2
  obtain ⟨p4, hp4⟩ : ∃ p, p = decide (X.kind = 4) := ⟨_, rfl⟩
  have g4 : (X.kind == 4) = p4 := by rw [hp4]; by_cases h : X.kind = 4 <;> simp [h]
  rw [← hp4] at hV
  obtain ⟨u, hu⟩ : ∃ u : ByteArray, u = ⟨(wrapB p4 (sayT X)).toArray⟩ := ⟨_, rfl⟩
  obtain ⟨v2, hv2⟩ : ∃ v2 : ByteArray, v2 = ⟨(sayT Y).toArray⟩ := ⟨_, rfl⟩
  have hll : (wrapB p4 (sayT X)).length + (sayT Y).length ≤ 999999996 := by
    rw [hV] at hl; simp only [List.length_append, List.length_cons, List.length_nil] at hl; omega
  have hle2 : (sayT X).length ≤ (wrapB p4 (sayT X)).length := by
    unfold wrapB; split
    · simp only [List.length_append, List.length_cons, List.length_nil]; omega
    · exact Nat.le_refl _
  have husz : u.size ≤ 1000000000 := by rw [hu, str_len]; omega
  have hvsz : v2.size ≤ 1000000000 := by rw [hv2, str_len]; omega
  have husz2 : (u ++ (⟨#[32, 45, 62, 32]⟩ : ByteArray)).size ≤ 1000000004 := by rw [size_cat]; exact Nat.add_le_add_right husz 4
  have HLX : Hid ((sayT X).length ≤ 1000000000 ∧ (sayT Y).length ≤ 1000000000) := Lib.hid (by omega)
  have HC : Hid (∀ W, Below W1.heap.size W1 W → Calls Tryd.prog 94 #[.agg #[.int .i64 X.kind, .int .i64 X.num, .string X.name, .slice A' X.args.length c'], .bool p4] W fun e w' => e = .returned (.string u) ∧ Below W.heap.size W w') := Lib.hid fun W hW => by
    have := wrapped_any X HI0.out p4 HLX.out.1 _ W (HTX.out.blw hW)
    rw [← hu] at this
    exact this
  have HC2 : Hid (∀ W, Below W1.heap.size W1 W → Calls Tryd.prog 66 #[.agg #[.int .i64 Y.kind, .int .i64 Y.num, .string Y.name, .slice A2 Y.args.length c2]] W fun e w' => e = .returned (.string v2) ∧ Below W.heap.size W w') := Lib.hid fun W hW => by
    have := HI1.out HLX.out.2 _ W (HTY.out.blw hW)
    rw [← hv2] at this
    exact this
  have HE : Hid (u ++ (⟨#[32, 45, 62, 32]⟩ : ByteArray) ++ v2 = ⟨(sayT T).toArray⟩) := Lib.hid (by
    rw [str_cat (str_cat (b := [32, 45, 62, 32]) hu rfl) hv2, hV])
  have hlt : bb < W1.heap.size := lt_cell x0
  have hlb := lt_blk hbx
  have HSK : Hid (∀ w2, Below W1.heap.size W1 w2 → w2.cell? ⟨w.heap.size, 3, none⟩ = some (.slice (some ⟨bb, off, none⟩) T.args.length c) ∧ w2.cell? ⟨bb, off, none⟩ = some (.int .i64 X.kind) ∧ w2.cell? ⟨bb, off + 1, none⟩ = some (.int .i64 X.num) ∧ w2.cell? ⟨bb, off + 2, none⟩ = some (.string X.name) ∧ w2.cell? ⟨bb, off + 3, none⟩ = some (.slice A' X.args.length c') ∧ w2.cell? ⟨bb, off + 4, none⟩ = some (.int .i64 Y.kind) ∧ w2.cell? ⟨bb, off + 5, none⟩ = some (.int .i64 Y.num) ∧ w2.cell? ⟨bb, off + 6, none⟩ = some (.string Y.name) ∧ w2.cell? ⟨bb, off + 7, none⟩ = some (.slice A2 Y.args.length c2)) := Lib.hid fun w2 hw => by
    obtain ⟨q0, q1, q2, q3⟩ := box4 hbx
    exact ⟨(hw.cell (p := ⟨_, _, none⟩) hlb).trans q3, (hw.cell (p := ⟨_, _, none⟩) hlt).trans x0, (hw.cell (p := ⟨_, _, none⟩) hlt).trans x1, (hw.cell (p := ⟨_, _, none⟩) hlt).trans x2, (hw.cell (p := ⟨_, _, none⟩) hlt).trans x3, (hw.cell (p := ⟨_, _, none⟩) hlt).trans z0, (hw.cell (p := ⟨_, _, none⟩) hlt).trans z1, (hw.cell (p := ⟨_, _, none⟩) hlt).trans z2, (hw.cell (p := ⟨_, _, none⟩) hlt).trans z3⟩
  have HBW : Hid (Below W1.heap.size W1 W1.drew) := Lib.hid (Below.refl _ _).drew
  clear hp4 x0 x1 x2 x3 z0 z1 z2 z3 hbx hlb hlt hu hv2 hV hl hll hle2
  unfold tyV
  rw [h1]
  clear h1
  go_enter Tryd.func66, Tryd.ntmps66
  go_wp2_with fail
  rw [← hW1]
  clear hW1
  have HS0 := Lib.hid (HSK.out _ HBW.out)
  refine wp_region_held (S := (fun w2 : World => w2.cell? ⟨w.heap.size, 3, none⟩ = some (.slice (some ⟨bb, off, none⟩) T.args.length c) ∧ w2.cell? ⟨bb, off, none⟩ = some (.int .i64 X.kind) ∧ w2.cell? ⟨bb, off + 1, none⟩ = some (.int .i64 X.num) ∧ w2.cell? ⟨bb, off + 2, none⟩ = some (.string X.name) ∧ w2.cell? ⟨bb, off + 3, none⟩ = some (.slice A' X.args.length c') ∧ w2.cell? ⟨bb, off + 4, none⟩ = some (.int .i64 Y.kind) ∧ w2.cell? ⟨bb, off + 5, none⟩ = some (.int .i64 Y.num) ∧ w2.cell? ⟨bb, off + 6, none⟩ = some (.string Y.name) ∧ w2.cell? ⟨bb, off + 7, none⟩ = some (.slice A2 Y.args.length c2))) (by kernel_rfl) ?_
  refine takeD (i := 0) (s := 127) (v := .pointer (some ⟨w.heap.size, 3, none⟩)) rfl rfl (by kernel_rfl) (by kernel_rfl) (by kernel_rfl) (fun _ _ _ h => h) (Or.inl ⟨by rfl, fun w' hS => by obtain ⟨s0, s1, s2, s3, s4, s5, s6, s7, s8⟩ := hS; go_simp⟩) HS0.out ?_
  try simp only [List.setIfInBounds_toArray, List.set_cons_zero, List.set_cons_succ]
  refine takeD (i := 1) (s := 128) (v := .slice (some ⟨bb, off, none⟩) T.args.length c) rfl rfl (by kernel_rfl) (by kernel_rfl) (by kernel_rfl) (fun _ _ _ h => h) (Or.inl ⟨by rfl, fun w' hS => by obtain ⟨s0, s1, s2, s3, s4, s5, s6, s7, s8⟩ := hS; go_simp⟩) HS0.out ?_
  try simp only [List.setIfInBounds_toArray, List.set_cons_zero, List.set_cons_succ]
  refine takeD (i := 2) (s := 129) (v := .pointer (some ⟨bb, off, none⟩)) rfl rfl (by kernel_rfl) (by kernel_rfl) (by kernel_rfl) (fun _ _ _ h => h) (Or.inl ⟨by rfl, fun w' hS => by obtain ⟨s0, s1, s2, s3, s4, s5, s6, s7, s8⟩ := hS; go_simp⟩) HS0.out ?_
  try simp only [List.setIfInBounds_toArray, List.set_cons_zero, List.set_cons_succ]
  refine takeD (i := 3) (s := 130) (v := .agg #[.int .i64 X.kind, .int .i64 X.num, .string X.name, .slice A' X.args.length c']) rfl rfl (by kernel_rfl) (by kernel_rfl) (by kernel_rfl) (fun _ _ _ h => h) (Or.inl ⟨by rfl, fun w' hS => by obtain ⟨s0, s1, s2, s3, s4, s5, s6, s7, s8⟩ := hS; go_simp⟩) HS0.out ?_
  try simp only [List.setIfInBounds_toArray, List.set_cons_zero, List.set_cons_succ]
  refine takeD (i := 4) (s := 131) (v := .pointer (some ⟨w.heap.size, 3, none⟩)) rfl rfl (by kernel_rfl) (by kernel_rfl) (by kernel_rfl) (fun _ _ _ h => h) (Or.inl ⟨by rfl, fun w' hS => by obtain ⟨s0, s1, s2, s3, s4, s5, s6, s7, s8⟩ := hS; go_simp⟩) HS0.out ?_
  try simp only [List.setIfInBounds_toArray, List.set_cons_zero, List.set_cons_succ]
  refine takeD (i := 5) (s := 132) (v := .slice (some ⟨bb, off, none⟩) T.args.length c) rfl rfl (by kernel_rfl) (by kernel_rfl) (by kernel_rfl) (fun _ _ _ h => h) (Or.inl ⟨by rfl, fun w' hS => by obtain ⟨s0, s1, s2, s3, s4, s5, s6, s7, s8⟩ := hS; go_simp⟩) HS0.out ?_
  try simp only [List.setIfInBounds_toArray, List.set_cons_zero, List.set_cons_succ]
  refine takeD (i := 6) (s := 133) (v := .pointer (some ⟨bb, off, none⟩)) rfl rfl (by kernel_rfl) (by kernel_rfl) (by kernel_rfl) (fun _ _ _ h => h) (Or.inl ⟨by rfl, fun w' hS => by obtain ⟨s0, s1, s2, s3, s4, s5, s6, s7, s8⟩ := hS; go_simp⟩) HS0.out ?_
  try simp only [List.setIfInBounds_toArray, List.set_cons_zero, List.set_cons_succ]
  refine takeD (i := 7) (s := 134) (v := .pointer (some ⟨bb, off, none⟩)) rfl rfl (by kernel_rfl) (by kernel_rfl) (by kernel_rfl) (fun _ _ _ h => h) (Or.inl ⟨by rfl, fun w' hS => by obtain ⟨s0, s1, s2, s3, s4, s5, s6, s7, s8⟩ := hS; go_simp⟩) HS0.out ?_
  try simp only [List.setIfInBounds_toArray, List.set_cons_zero, List.set_cons_succ]
  refine takeD (i := 8) (s := 135) (v := .int .i64 X.kind) rfl rfl (by kernel_rfl) (by kernel_rfl) (by kernel_rfl) (fun _ _ _ h => h) (Or.inl ⟨by rfl, fun w' hS => by obtain ⟨s0, s1, s2, s3, s4, s5, s6, s7, s8⟩ := hS; go_simp⟩) HS0.out ?_
  try simp only [List.setIfInBounds_toArray, List.set_cons_zero, List.set_cons_succ]
  refine takeD (i := 9) (s := 136) (v := .bool p4) rfl rfl (by kernel_rfl) (by kernel_rfl) (by kernel_rfl) (fun _ _ _ h => h) (Or.inl ⟨by rfl, fun w' hS => by obtain ⟨s0, s1, s2, s3, s4, s5, s6, s7, s8⟩ := hS; go_simp⟩) HS0.out ?_
  try simp only [List.setIfInBounds_toArray, List.set_cons_zero, List.set_cons_succ]
  refine takeD (i := 12) (s := 139) (v := .pointer (some ⟨w.heap.size, 3, none⟩)) rfl rfl (by kernel_rfl) (by kernel_rfl) (by kernel_rfl) (fun _ _ _ h => h) (Or.inl ⟨by rfl, fun w' hS => by obtain ⟨s0, s1, s2, s3, s4, s5, s6, s7, s8⟩ := hS; go_simp⟩) HS0.out ?_
  try simp only [List.setIfInBounds_toArray, List.set_cons_zero, List.set_cons_succ]
  refine takeD (i := 13) (s := 140) (v := .slice (some ⟨bb, off, none⟩) T.args.length c) rfl rfl (by kernel_rfl) (by kernel_rfl) (by kernel_rfl) (fun _ _ _ h => h) (Or.inl ⟨by rfl, fun w' hS => by obtain ⟨s0, s1, s2, s3, s4, s5, s6, s7, s8⟩ := hS; go_simp⟩) HS0.out ?_
  try simp only [List.setIfInBounds_toArray, List.set_cons_zero, List.set_cons_succ]
  refine takeD (i := 14) (s := 141) (v := .pointer (some ⟨bb, off + 4, none⟩)) rfl rfl (by kernel_rfl) (by kernel_rfl) (by kernel_rfl) (fun _ _ _ h => h) (Or.inl ⟨by rfl, fun w' hS => by obtain ⟨s0, s1, s2, s3, s4, s5, s6, s7, s8⟩ := hS; go_simp⟩) HS0.out ?_
  try simp only [List.setIfInBounds_toArray, List.set_cons_zero, List.set_cons_succ]
  refine takeD (i := 15) (s := 142) (v := .agg #[.int .i64 Y.kind, .int .i64 Y.num, .string Y.name, .slice A2 Y.args.length c2]) rfl rfl (by kernel_rfl) (by kernel_rfl) (by kernel_rfl) (fun _ _ _ h => h) (Or.inl ⟨by rfl, fun w' hS => by obtain ⟨s0, s1, s2, s3, s4, s5, s6, s7, s8⟩ := hS; go_simp⟩) HS0.out ?_
  try simp only [List.setIfInBounds_toArray, List.set_cons_zero, List.set_cons_succ]
  refine wpAnyH_all (rs := [10]) (by kernel_rfl) (by simp) ?_
  intro i hi
  simp only [List.mem_cons, List.not_mem_nil, or_false] at hi
  subst hi
  refine wpOp_of rfl rfl (fun K hK => ?_)
  go_simp
  refine (HC.out _ HBW.out).mono ?_
  rintro e w2 ⟨rfl, hb2⟩
  have HB2 := Lib.hid (HBW.out.trans (hb2.mono HBW.out.size))
  have HS2 := Lib.hid (HSK.out w2 HB2.out)
  clear hb2
  refine hK _ _ ⟨HS2.out, ?_⟩
  clear hK K
  try simp only [List.setIfInBounds_toArray, List.set_cons_zero, List.set_cons_succ]
  refine takeD (i := 11) (s := 138) (v := .string (u ++ ⟨#[32, 45, 62, 32]⟩)) rfl rfl (by kernel_rfl) (by kernel_rfl) (by kernel_rfl) (fun _ _ _ h => h) (Or.inl ⟨by rfl, fun w' hS => by obtain ⟨s0, s1, s2, s3, s4, s5, s6, s7, s8⟩ := hS; go_simp; omega⟩) HS2.out ?_
  try simp only [List.setIfInBounds_toArray, List.set_cons_zero, List.set_cons_succ]
  refine wpAnyH_all (rs := [16]) (by kernel_rfl) (by simp) ?_
  intro i hi
  simp only [List.mem_cons, List.not_mem_nil, or_false] at hi
  subst hi
  refine wpOp_of rfl rfl (fun K hK => ?_)
  go_simp
  refine (HC2.out _ HB2.out).mono ?_
  rintro e w3 ⟨rfl, hb3⟩
  have HB3 := Lib.hid (HB2.out.trans (hb3.mono HB2.out.size))
  have HS3 := Lib.hid (HSK.out w3 HB3.out)
  clear hb3
  refine hK _ _ ⟨HS3.out, ?_⟩
  clear hK K
  try simp only [List.setIfInBounds_toArray, List.set_cons_zero, List.set_cons_succ]
  refine takeD (i := 17) (s := 144) (v := .string (u ++ ⟨#[32, 45, 62, 32]⟩ ++ v2)) rfl rfl (by kernel_rfl) (by kernel_rfl) (by kernel_rfl) (fun _ _ _ h => h) (Or.inl ⟨by rfl, fun w' hS => by obtain ⟨s0, s1, s2, s3, s4, s5, s6, s7, s8⟩ := hS; go_simp; omega⟩) HS3.out ?_
  try simp only [List.setIfInBounds_toArray, List.set_cons_zero, List.set_cons_succ]
  refine takeD (i := 18) (s := 2) (v := .string (u ++ ⟨#[32, 45, 62, 32]⟩ ++ v2)) rfl rfl (by kernel_rfl) (by kernel_rfl) (by kernel_rfl) (fun _ _ _ h => h) (Or.inl ⟨by rfl, fun w' hS => by obtain ⟨s0, s1, s2, s3, s4, s5, s6, s7, s8⟩ := hS; go_simp⟩) HS3.out ?_
  try simp only [List.setIfInBounds_toArray, List.set_cons_zero, List.set_cons_succ]
  refine wpAnyH_done (by kernel_rfl) ?_ _
  go_wp2
  go_ret
  exact ⟨by rw [← HE.out]; rfl, HB1.out.trans (HB3.out.mono HB1.out.size)⟩
theorem rshow_any (T : Ty) : FitAll T → ShowC T := by
  induction T using Ty.ind with
  | h T ih =>
    intro hF
    have ih' : ∀ i (hi : i < T.args.length), ShowC T.args[i] := fun i hi => ih i hi (hF.arg hi)
    rcases fits_kinds hF.self with ⟨h1, h2, h3, _, _⟩ | ⟨h1, _, _⟩ | ⟨h1, _, _, _⟩ | ⟨h1, _, _, h4⟩
    · exact show_var T h1 h2 h3
    · by_cases h0 : T.args.length = 0
      · exact show_con0 T h1 h0
      · by_cases h5 : T.args.length = 1
        · exact show_con1 T ih' h1 h5
        · exact show_conN T ih' h1 (by omega)
    · exact show_pair T ih' h1
    · exact show_arrow T ih' h1 h4
set_option maxRecDepth 20000 in
set_option maxHeartbeats 4000000 in
/-- the document's Show. -/
theorem rShow_any (T : Ty) (v : Value) (w : World) (hT : TyAt (· < w.heap.size) w v T) (hp : T.parts ≤ 1099511627776) (hn : NmB 1000000000 T) (hl : rightT T = true → (sayT T).length ≤ 1000000000) :
    Calls Tryd.prog 30 #[v] w fun e w' => e = .returned (.tuple #[.string ⟨(showT T).1.toArray⟩, .int .i64 (showT T).2]) ∧ Below w.heap.size w w' := by
  obtain ⟨A, c, rfl, -⟩ := hT.form
  obtain ⟨W1, hW1⟩ : ∃ W1, W1 = w.alloc (.cells #[.int .i64 T.kind, .int .i64 T.num, .string T.name, .slice A T.args.length c] 24) := ⟨_, rfl⟩
  have hbx : W1.heap[w.heap.size]? = some (.cells #[.int .i64 T.kind, .int .i64 T.num, .string T.name, .slice A T.args.length c] 24 (0, 0)) := by rw [hW1]; exact heap_alloc_new _ _
  have hb1 : Below w.heap.size w W1 := by rw [hW1]; exact (Below.refl _ _).alloc (Nat.le_refl _) _
  have hT1 := hT.blw hb1
  have hri := r12Right_any T _ W1 hT1 hp hn
  have HB1 := Lib.hid hb1; have HBX := Lib.hid hbx; have HT1 := Lib.hid hT1; have HL := Lib.hid hl
  obtain ⟨y0, y1, y2, y3⟩ := box4 hbx
  rw [hW1] at y0 y1 y2 y3
  unfold tyV at hri ⊢
  have HRI := Lib.hid hri
  clear hT hbx hb1 hT1 hri hl
  go_enter Tryd.func30, Tryd.ntmps30
  go_wp2_with fail
  rw [← hW1]
  clear hW1 y0 y1 y2 y3
  refine HRI.out.mono ?_
  rintro e w2 ⟨rfl, hb2⟩
  have HB2 := Lib.hid (HB1.out.trans (hb2.mono HB1.out.size))
  obtain ⟨y0, y1, y2, y3⟩ := box4 ((hb2.block _ (lt_blk HBX.out)).trans HBX.out)
  cases hr : rightT T with
  | false =>
    have HE : Hid (showT T = ([], 120)) := Lib.hid (by unfold showT; rw [if_neg (by rw [hr]; decide)])
    clear hr hb2
    go_wp2
    go_ret2
    rw [HE.out]
    exact ⟨rfl, HB2.out⟩
  | true =>
    have HE : Hid (showT T = (sayT T, 0)) := Lib.hid (by unfold showT; rw [if_pos hr])
    have hca := rshow_any T (rightT_iff.1 hr).2 (HL.out hr) _ w2 (HT1.out.blw hb2)
    obtain ⟨u, hu⟩ : ∃ u : ByteArray, u = ⟨(sayT T).toArray⟩ := ⟨_, rfl⟩
    unfold tyV at hca
    rw [← hu] at hca
    have HCA := Lib.hid hca
    have HU := Lib.hid hu
    clear hr hb2 hca hu
    go_wp2_with fail
    refine HCA.out.mono ?_
    rintro e w3 ⟨rfl, hb3⟩
    have HB3 := Lib.hid (HB2.out.trans (hb3.mono HB2.out.size))
    clear hb3
    go_wp2
    go_ret2
    rw [HE.out]
    exact ⟨by rw [HU.out]; rfl, HB3.out⟩
end Go.Proofs.YtbhicpjhijondaaDoor
