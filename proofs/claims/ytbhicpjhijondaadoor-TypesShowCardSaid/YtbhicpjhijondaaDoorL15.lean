/- The reference's show: constructors, pairs, arrows. (printed by mkl14.py) -/
import Derived.Test.YtbhicpjhijondaaDoorL14
import Derived.Deep.RegionHeld
namespace Go.Proofs.YtbhicpjhijondaaDoor
open Go.RowKit Go.Lib Go.Vfs Go.Par Go.Typ Go.Shelf
set_option linter.unusedVariables false
set_option linter.unusedSimpArgs false

set_option maxRecDepth 20000 in
set_option maxHeartbeats 4000000 in
theorem show_con1 (T : Ty) (ih : ∀ i (hi : i < T.args.length), ShowC T.args[i]) (h1 : T.kind = 2) (h0 : T.args.length = 1) : ShowC T := by
  intro hl v w hT
  obtain ⟨A, c, rfl, hc, hm, hn⟩ := hT.form
  have hla : T.args.length ≤ 9223372036854775807 := by simp only [maxLen] at hm; omega
  obtain ⟨W1, hW1⟩ : ∃ W1, W1 = w.alloc (.cells #[.int .i64 T.kind, .int .i64 T.num, .string T.name, .slice A T.args.length c] 24) := ⟨_, rfl⟩
  have hbx : W1.heap[w.heap.size]? = some (.cells #[.int .i64 T.kind, .int .i64 T.num, .string T.name, .slice A T.args.length c] 24 (0, 0)) := by rw [hW1]; exact heap_alloc_new _ _
  have hb1 : Below w.heap.size w W1 := by rw [hW1]; exact (Below.refl _ _).alloc (Nat.le_refl _) _
  have hz1 : W1.heap.size = w.heap.size + 1 := by rw [hW1]; simp
  have HB1 := Lib.hid hb1
  have HT1 := Lib.hid (hT.blw hb1)
  rw [h1] at hbx hW1
  have HBX := Lib.hid hbx
  have HZ1 := Lib.hid hz1
  obtain ⟨y0, y1, y2, y3⟩ := box4 hbx
  rw [hW1] at y0 y1 y2 y3
  have hi0 : 0 < T.args.length := by omega
  have hj : joinW [] (T.args.map insT) = insT T.args[0] := by
    obtain ⟨x, hx⟩ : ∃ x, T.args = [x] := List.length_eq_one_iff.1 h0
    simp [hx, joinW]
  have hV : sayT T = insT T.args[0] ++ [32] ++ T.name.data.toList := by
    rw [sayT_con h1, if_pos h0, if_neg (by omega), hj]
  have hnl := name_len T.name
  have hlen : (insT T.args[0]).length + T.name.size ≤ 999999999 := by
    rw [hV] at hl; simp only [List.length_append, List.length_cons, List.length_nil] at hl; omega
  have hle2 : (sayT T.args[0]).length ≤ (insT T.args[0]).length := by
    unfold insT wrapB; split
    · simp only [List.length_append, List.length_cons, List.length_nil]; omega
    · exact Nat.le_refl _
  have hns : T.name.size ≤ 1000000000 := by omega
  have HLN := Lib.hid hlen
  have HLN2 : Hid ((sayT T.args[0]).length ≤ 1000000000) := Lib.hid (by omega)
  have HV := Lib.hid hV
  have HI0 := Lib.hid (ih 0 hi0)
  obtain ⟨bb, off, A', c', rfl, hbb, ht, x0, x1, x2, x3⟩ := HT1.out.arg hi0
  simp only [Nat.zero_mul, Nat.add_zero] at x0 x1 x2 x3
  have HTX := Lib.hid ht
  have g0 : ((T.args.length : Int) == 0) = false := by rw [beq_zero]; exact decide_eq_false (by omega)
  have g1 : ((T.args.length : Int) == 1) = true := by simp; omega
  clear hT hb1 hc hm hn hz1 h0 hl hV hnl hlen ih hj hle2 ht
  generalize T.args[0] = X at *
  have hlt : bb < W1.heap.size := lt_cell x0
  have hlb := lt_blk hbx
  have HSK : Hid (∀ w2, Below W1.heap.size W1 w2 → w2.cell? ⟨w.heap.size, 2, none⟩ = some (.string T.name) ∧ w2.cell? ⟨w.heap.size, 3, none⟩ = some (.slice (some ⟨bb, off, none⟩) T.args.length c) ∧ w2.cell? ⟨bb, off, none⟩ = some (.int .i64 X.kind) ∧ w2.cell? ⟨bb, off + 1, none⟩ = some (.int .i64 X.num) ∧ w2.cell? ⟨bb, off + 2, none⟩ = some (.string X.name) ∧ w2.cell? ⟨bb, off + 3, none⟩ = some (.slice A' X.args.length c')) := Lib.hid fun w2 hw => by
    obtain ⟨q0, q1, q2, q3⟩ := box4 hbx
    exact ⟨(hw.cell (p := ⟨_, _, none⟩) hlb).trans q2, (hw.cell (p := ⟨_, _, none⟩) hlb).trans q3, (hw.cell (p := ⟨_, _, none⟩) hlt).trans x0, (hw.cell (p := ⟨_, _, none⟩) hlt).trans x1, (hw.cell (p := ⟨_, _, none⟩) hlt).trans x2, (hw.cell (p := ⟨_, _, none⟩) hlt).trans x3⟩
  have HBW : Hid (Below W1.heap.size W1 W1.drew) := Lib.hid (Below.refl _ _).drew
  obtain ⟨p3, hp3⟩ : ∃ p, p = decide (X.kind = 3) := ⟨_, rfl⟩
  obtain ⟨p4, hp4⟩ : ∃ p, p = decide (X.kind = 4) := ⟨_, rfl⟩
  have g5 : (X.kind == 3) = p3 := by rw [hp3]; by_cases h : X.kind = 3 <;> simp [h]
  have g6 : (X.kind == 4) = p4 := by rw [hp4]; by_cases h : X.kind = 4 <;> simp [h]
  have HPB : Hid (pairB X = (p3 || p4)) := Lib.hid (by rw [hp3, hp4]; rfl)
  clear hp3 hp4 x0 x1 x2 x3 hbx hlb hlt
  unfold tyV
  rw [h1]
  clear h1
  have hcs : (p3 = true) ∨ (p3 = false ∧ p4 = true) ∨ (p3 = false ∧ p4 = false) := by cases p3 <;> cases p4 <;> simp
  rcases hcs with rfl | ⟨rfl, rfl⟩ | ⟨rfl, rfl⟩
  · have hpb : pairB X = true := by rw [HPB.out]; rfl
    have hu : insT X = wrapB true (sayT X) := by unfold insT; rw [hpb]
    obtain ⟨u, hu2⟩ : ∃ u : ByteArray, u = ⟨(wrapB true (sayT X)).toArray⟩ := ⟨_, rfl⟩
    have HU : Hid (u = ⟨(insT X).toArray⟩) := Lib.hid (by rw [hu2, hu])
    have husz : u.size ≤ 1000000000 := by rw [HU.out, str_len]; have := HLN.out; omega
    have husz2 : (u ++ (⟨#[32]⟩ : ByteArray)).size ≤ 1000000001 := by rw [size_cat]; exact Nat.add_le_add_right husz 1
    have HC : Hid (∀ W, Below W1.heap.size W1 W → Calls Tryd.prog 94 #[.agg #[.int .i64 X.kind, .int .i64 X.num, .string X.name, .slice A' X.args.length c'], .bool true] W fun e w' => e = .returned (.string u) ∧ Below W.heap.size W w') := Lib.hid fun W hW => by
      have := wrapped_any X HI0.out true (by have := HLN2.out; omega) _ W (HTX.out.blw hW)
      rw [← hu2] at this
      exact this
    have HE : Hid (u ++ (⟨#[32]⟩ : ByteArray) ++ T.name = ⟨(sayT T).toArray⟩) := Lib.hid (by
      rw [str_cat (str_cat (b := [32]) HU.out rfl) (str_data T.name), HV.out])
    clear hu hu2 hpb
    go_enter Tryd.func66, Tryd.ntmps66
    go_wp2_with fail
    rw [← hW1]
    clear hW1
    have HS0 := Lib.hid (HSK.out _ HBW.out)
    refine wp_region_held (S := (fun w2 : World => w2.cell? ⟨w.heap.size, 2, none⟩ = some (.string T.name) ∧ w2.cell? ⟨w.heap.size, 3, none⟩ = some (.slice (some ⟨bb, off, none⟩) T.args.length c) ∧ w2.cell? ⟨bb, off, none⟩ = some (.int .i64 X.kind) ∧ w2.cell? ⟨bb, off + 1, none⟩ = some (.int .i64 X.num) ∧ w2.cell? ⟨bb, off + 2, none⟩ = some (.string X.name) ∧ w2.cell? ⟨bb, off + 3, none⟩ = some (.slice A' X.args.length c'))) (by kernel_rfl) ?_
    refine takeD (i := 0) (s := 42) (v := .pointer (some ⟨w.heap.size, 3, none⟩)) rfl rfl (by kernel_rfl) (by kernel_rfl) (by kernel_rfl) (fun _ _ _ h => h) (Or.inl ⟨by rfl, fun w' hS => by obtain ⟨s0, s1, s2, s3, s4, s5⟩ := hS; go_simp⟩) HS0.out ?_
    try simp only [List.setIfInBounds_toArray, List.set_cons_zero, List.set_cons_succ]
    refine takeD (i := 1) (s := 43) (v := .slice (some ⟨bb, off, none⟩) T.args.length c) rfl rfl (by kernel_rfl) (by kernel_rfl) (by kernel_rfl) (fun _ _ _ h => h) (Or.inl ⟨by rfl, fun w' hS => by obtain ⟨s0, s1, s2, s3, s4, s5⟩ := hS; go_simp⟩) HS0.out ?_
    try simp only [List.setIfInBounds_toArray, List.set_cons_zero, List.set_cons_succ]
    refine takeD (i := 2) (s := 44) (v := .pointer (some ⟨bb, off, none⟩)) rfl rfl (by kernel_rfl) (by kernel_rfl) (by kernel_rfl) (fun _ _ _ h => h) (Or.inl ⟨by rfl, fun w' hS => by obtain ⟨s0, s1, s2, s3, s4, s5⟩ := hS; go_simp⟩) HS0.out ?_
    try simp only [List.setIfInBounds_toArray, List.set_cons_zero, List.set_cons_succ]
    refine takeD (i := 3) (s := 45) (v := .agg #[.int .i64 X.kind, .int .i64 X.num, .string X.name, .slice A' X.args.length c']) rfl rfl (by kernel_rfl) (by kernel_rfl) (by kernel_rfl) (fun _ _ _ h => h) (Or.inl ⟨by rfl, fun w' hS => by obtain ⟨s0, s1, s2, s3, s4, s5⟩ := hS; go_simp⟩) HS0.out ?_
    try simp only [List.setIfInBounds_toArray, List.set_cons_zero, List.set_cons_succ]
    refine takeD (i := 4) (s := 46) (v := .pointer (some ⟨w.heap.size, 3, none⟩)) rfl rfl (by kernel_rfl) (by kernel_rfl) (by kernel_rfl) (fun _ _ _ h => h) (Or.inl ⟨by rfl, fun w' hS => by obtain ⟨s0, s1, s2, s3, s4, s5⟩ := hS; go_simp⟩) HS0.out ?_
    try simp only [List.setIfInBounds_toArray, List.set_cons_zero, List.set_cons_succ]
    refine takeD (i := 5) (s := 47) (v := .slice (some ⟨bb, off, none⟩) T.args.length c) rfl rfl (by kernel_rfl) (by kernel_rfl) (by kernel_rfl) (fun _ _ _ h => h) (Or.inl ⟨by rfl, fun w' hS => by obtain ⟨s0, s1, s2, s3, s4, s5⟩ := hS; go_simp⟩) HS0.out ?_
    try simp only [List.setIfInBounds_toArray, List.set_cons_zero, List.set_cons_succ]
    refine takeD (i := 6) (s := 48) (v := .pointer (some ⟨bb, off, none⟩)) rfl rfl (by kernel_rfl) (by kernel_rfl) (by kernel_rfl) (fun _ _ _ h => h) (Or.inl ⟨by rfl, fun w' hS => by obtain ⟨s0, s1, s2, s3, s4, s5⟩ := hS; go_simp⟩) HS0.out ?_
    try simp only [List.setIfInBounds_toArray, List.set_cons_zero, List.set_cons_succ]
    refine takeD (i := 7) (s := 49) (v := .pointer (some ⟨bb, off, none⟩)) rfl rfl (by kernel_rfl) (by kernel_rfl) (by kernel_rfl) (fun _ _ _ h => h) (Or.inl ⟨by rfl, fun w' hS => by obtain ⟨s0, s1, s2, s3, s4, s5⟩ := hS; go_simp⟩) HS0.out ?_
    try simp only [List.setIfInBounds_toArray, List.set_cons_zero, List.set_cons_succ]
    refine takeD (i := 8) (s := 50) (v := .int .i64 X.kind) rfl rfl (by kernel_rfl) (by kernel_rfl) (by kernel_rfl) (fun _ _ _ h => h) (Or.inl ⟨by rfl, fun w' hS => by obtain ⟨s0, s1, s2, s3, s4, s5⟩ := hS; go_simp⟩) HS0.out ?_
    try simp only [List.setIfInBounds_toArray, List.set_cons_zero, List.set_cons_succ]
    refine takeD (i := 9) (s := 51) (v := .bool true) rfl rfl (by kernel_rfl) (by kernel_rfl) (by kernel_rfl) (fun _ _ _ h => h) (Or.inl ⟨by rfl, fun w' hS => by obtain ⟨s0, s1, s2, s3, s4, s5⟩ := hS; go_simp⟩) HS0.out ?_
    try simp only [List.setIfInBounds_toArray, List.set_cons_zero, List.set_cons_succ]
    refine takeD (i := 10) (s := 52) (v := .bool true) rfl rfl (by kernel_rfl) (by kernel_rfl) (by kernel_rfl) (fun _ _ _ h => h) (Or.inl ⟨by rfl, fun w' hS => by obtain ⟨s0, s1, s2, s3, s4, s5⟩ := hS; go_simp⟩) HS0.out ?_
    try simp only [List.setIfInBounds_toArray, List.set_cons_zero, List.set_cons_succ]
    refine takeD (i := 11) (s := 53) (v := undef) rfl rfl (by kernel_rfl) (by kernel_rfl) (by kernel_rfl) (fun _ _ _ h => h) (Or.inr ⟨by rfl, rfl⟩) HS0.out ?_
    try simp only [List.setIfInBounds_toArray, List.set_cons_zero, List.set_cons_succ]
    refine takeD (i := 12) (s := 54) (v := undef) rfl rfl (by kernel_rfl) (by kernel_rfl) (by kernel_rfl) (fun _ _ _ h => h) (Or.inr ⟨by rfl, rfl⟩) HS0.out ?_
    try simp only [List.setIfInBounds_toArray, List.set_cons_zero, List.set_cons_succ]
    refine takeD (i := 13) (s := 55) (v := undef) rfl rfl (by kernel_rfl) (by kernel_rfl) (by kernel_rfl) (fun _ _ _ h => h) (Or.inr ⟨by rfl, rfl⟩) HS0.out ?_
    try simp only [List.setIfInBounds_toArray, List.set_cons_zero, List.set_cons_succ]
    refine takeD (i := 14) (s := 56) (v := undef) rfl rfl (by kernel_rfl) (by kernel_rfl) (by kernel_rfl) (fun _ _ _ h => h) (Or.inr ⟨by rfl, rfl⟩) HS0.out ?_
    try simp only [List.setIfInBounds_toArray, List.set_cons_zero, List.set_cons_succ]
    refine takeD (i := 15) (s := 57) (v := undef) rfl rfl (by kernel_rfl) (by kernel_rfl) (by kernel_rfl) (fun _ _ _ h => h) (Or.inr ⟨by rfl, rfl⟩) HS0.out ?_
    try simp only [List.setIfInBounds_toArray, List.set_cons_zero, List.set_cons_succ]
    refine takeD (i := 16) (s := 58) (v := undef) rfl rfl (by kernel_rfl) (by kernel_rfl) (by kernel_rfl) (fun _ _ _ h => h) (Or.inr ⟨by rfl, rfl⟩) HS0.out ?_
    try simp only [List.setIfInBounds_toArray, List.set_cons_zero, List.set_cons_succ]
    refine takeD (i := 17) (s := 59) (v := .bool true) rfl rfl (by kernel_rfl) (by kernel_rfl) (by kernel_rfl) (fun _ _ _ h => h) (Or.inl ⟨by rfl, fun w' hS => by obtain ⟨s0, s1, s2, s3, s4, s5⟩ := hS; go_simp⟩) HS0.out ?_
    try simp only [List.setIfInBounds_toArray, List.set_cons_zero, List.set_cons_succ]
    refine takeD (i := 20) (s := 62) (v := .pointer (some ⟨w.heap.size, 2, none⟩)) rfl rfl (by kernel_rfl) (by kernel_rfl) (by kernel_rfl) (fun _ _ _ h => h) (Or.inl ⟨by rfl, fun w' hS => by obtain ⟨s0, s1, s2, s3, s4, s5⟩ := hS; go_simp⟩) HS0.out ?_
    try simp only [List.setIfInBounds_toArray, List.set_cons_zero, List.set_cons_succ]
    refine takeD (i := 21) (s := 63) (v := .string T.name) rfl rfl (by kernel_rfl) (by kernel_rfl) (by kernel_rfl) (fun _ _ _ h => h) (Or.inl ⟨by rfl, fun w' hS => by obtain ⟨s0, s1, s2, s3, s4, s5⟩ := hS; go_simp⟩) HS0.out ?_
    try simp only [List.setIfInBounds_toArray, List.set_cons_zero, List.set_cons_succ]
    refine wpAnyH_all (rs := [18]) (by kernel_rfl) (by simp) ?_
    intro i hi
    simp only [List.mem_cons, List.not_mem_nil, or_false] at hi
    subst hi
    refine wpOp_of rfl rfl (fun K hK => ?_)
    go_simp
    refine (HC.out _ HBW.out).mono ?_
    rintro e w2 ⟨rfl, hb2⟩
    have HB2 := Lib.hid hb2
    have HS2 := Lib.hid (HSK.out w2 (HBW.out.trans (hb2.mono HBW.out.size)))
    clear hb2
    refine hK _ _ ⟨HS2.out, ?_⟩
    clear hK K
    try simp only [List.setIfInBounds_toArray, List.set_cons_zero, List.set_cons_succ]
    refine takeD (i := 19) (s := 61) (v := .string (u ++ ⟨#[32]⟩)) rfl rfl (by kernel_rfl) (by kernel_rfl) (by kernel_rfl) (fun _ _ _ h => h) (Or.inl ⟨by rfl, fun w' hS => by obtain ⟨s0, s1, s2, s3, s4, s5⟩ := hS; go_simp; omega⟩) HS2.out ?_
    try simp only [List.setIfInBounds_toArray, List.set_cons_zero, List.set_cons_succ]
    refine takeD (i := 22) (s := 64) (v := .string (u ++ ⟨#[32]⟩ ++ T.name)) rfl rfl (by kernel_rfl) (by kernel_rfl) (by kernel_rfl) (fun _ _ _ h => h) (Or.inl ⟨by rfl, fun w' hS => by obtain ⟨s0, s1, s2, s3, s4, s5⟩ := hS; go_simp; omega⟩) HS2.out ?_
    try simp only [List.setIfInBounds_toArray, List.set_cons_zero, List.set_cons_succ]
    refine takeD (i := 23) (s := 2) (v := .string (u ++ ⟨#[32]⟩ ++ T.name)) rfl rfl (by kernel_rfl) (by kernel_rfl) (by kernel_rfl) (fun _ _ _ h => h) (Or.inl ⟨by rfl, fun w' hS => by obtain ⟨s0, s1, s2, s3, s4, s5⟩ := hS; go_simp⟩) HS2.out ?_
    try simp only [List.setIfInBounds_toArray, List.set_cons_zero, List.set_cons_succ]
    refine wpAnyH_done (by kernel_rfl) ?_ _
    go_wp2
    go_ret
    exact ⟨by rw [← HE.out]; rfl, HB1.out.trans ((HBW.out.trans (HB2.out.mono HBW.out.size)).mono HB1.out.size)⟩
  · have hpb : pairB X = true := by rw [HPB.out]; rfl
    have hu : insT X = wrapB true (sayT X) := by unfold insT; rw [hpb]
    obtain ⟨u, hu2⟩ : ∃ u : ByteArray, u = ⟨(wrapB true (sayT X)).toArray⟩ := ⟨_, rfl⟩
    have HU : Hid (u = ⟨(insT X).toArray⟩) := Lib.hid (by rw [hu2, hu])
    have husz : u.size ≤ 1000000000 := by rw [HU.out, str_len]; have := HLN.out; omega
    have husz2 : (u ++ (⟨#[32]⟩ : ByteArray)).size ≤ 1000000001 := by rw [size_cat]; exact Nat.add_le_add_right husz 1
    have HC : Hid (∀ W, Below W1.heap.size W1 W → Calls Tryd.prog 94 #[.agg #[.int .i64 X.kind, .int .i64 X.num, .string X.name, .slice A' X.args.length c'], .bool true] W fun e w' => e = .returned (.string u) ∧ Below W.heap.size W w') := Lib.hid fun W hW => by
      have := wrapped_any X HI0.out true (by have := HLN2.out; omega) _ W (HTX.out.blw hW)
      rw [← hu2] at this
      exact this
    have HE : Hid (u ++ (⟨#[32]⟩ : ByteArray) ++ T.name = ⟨(sayT T).toArray⟩) := Lib.hid (by
      rw [str_cat (str_cat (b := [32]) HU.out rfl) (str_data T.name), HV.out])
    clear hu hu2 hpb
    go_enter Tryd.func66, Tryd.ntmps66
    go_wp2_with fail
    rw [← hW1]
    clear hW1
    have HS0 := Lib.hid (HSK.out _ HBW.out)
    refine wp_region_held (S := (fun w2 : World => w2.cell? ⟨w.heap.size, 2, none⟩ = some (.string T.name) ∧ w2.cell? ⟨w.heap.size, 3, none⟩ = some (.slice (some ⟨bb, off, none⟩) T.args.length c) ∧ w2.cell? ⟨bb, off, none⟩ = some (.int .i64 X.kind) ∧ w2.cell? ⟨bb, off + 1, none⟩ = some (.int .i64 X.num) ∧ w2.cell? ⟨bb, off + 2, none⟩ = some (.string X.name) ∧ w2.cell? ⟨bb, off + 3, none⟩ = some (.slice A' X.args.length c'))) (by kernel_rfl) ?_
    refine takeD (i := 0) (s := 42) (v := .pointer (some ⟨w.heap.size, 3, none⟩)) rfl rfl (by kernel_rfl) (by kernel_rfl) (by kernel_rfl) (fun _ _ _ h => h) (Or.inl ⟨by rfl, fun w' hS => by obtain ⟨s0, s1, s2, s3, s4, s5⟩ := hS; go_simp⟩) HS0.out ?_
    try simp only [List.setIfInBounds_toArray, List.set_cons_zero, List.set_cons_succ]
    refine takeD (i := 1) (s := 43) (v := .slice (some ⟨bb, off, none⟩) T.args.length c) rfl rfl (by kernel_rfl) (by kernel_rfl) (by kernel_rfl) (fun _ _ _ h => h) (Or.inl ⟨by rfl, fun w' hS => by obtain ⟨s0, s1, s2, s3, s4, s5⟩ := hS; go_simp⟩) HS0.out ?_
    try simp only [List.setIfInBounds_toArray, List.set_cons_zero, List.set_cons_succ]
    refine takeD (i := 2) (s := 44) (v := .pointer (some ⟨bb, off, none⟩)) rfl rfl (by kernel_rfl) (by kernel_rfl) (by kernel_rfl) (fun _ _ _ h => h) (Or.inl ⟨by rfl, fun w' hS => by obtain ⟨s0, s1, s2, s3, s4, s5⟩ := hS; go_simp⟩) HS0.out ?_
    try simp only [List.setIfInBounds_toArray, List.set_cons_zero, List.set_cons_succ]
    refine takeD (i := 3) (s := 45) (v := .agg #[.int .i64 X.kind, .int .i64 X.num, .string X.name, .slice A' X.args.length c']) rfl rfl (by kernel_rfl) (by kernel_rfl) (by kernel_rfl) (fun _ _ _ h => h) (Or.inl ⟨by rfl, fun w' hS => by obtain ⟨s0, s1, s2, s3, s4, s5⟩ := hS; go_simp⟩) HS0.out ?_
    try simp only [List.setIfInBounds_toArray, List.set_cons_zero, List.set_cons_succ]
    refine takeD (i := 4) (s := 46) (v := .pointer (some ⟨w.heap.size, 3, none⟩)) rfl rfl (by kernel_rfl) (by kernel_rfl) (by kernel_rfl) (fun _ _ _ h => h) (Or.inl ⟨by rfl, fun w' hS => by obtain ⟨s0, s1, s2, s3, s4, s5⟩ := hS; go_simp⟩) HS0.out ?_
    try simp only [List.setIfInBounds_toArray, List.set_cons_zero, List.set_cons_succ]
    refine takeD (i := 5) (s := 47) (v := .slice (some ⟨bb, off, none⟩) T.args.length c) rfl rfl (by kernel_rfl) (by kernel_rfl) (by kernel_rfl) (fun _ _ _ h => h) (Or.inl ⟨by rfl, fun w' hS => by obtain ⟨s0, s1, s2, s3, s4, s5⟩ := hS; go_simp⟩) HS0.out ?_
    try simp only [List.setIfInBounds_toArray, List.set_cons_zero, List.set_cons_succ]
    refine takeD (i := 6) (s := 48) (v := .pointer (some ⟨bb, off, none⟩)) rfl rfl (by kernel_rfl) (by kernel_rfl) (by kernel_rfl) (fun _ _ _ h => h) (Or.inl ⟨by rfl, fun w' hS => by obtain ⟨s0, s1, s2, s3, s4, s5⟩ := hS; go_simp⟩) HS0.out ?_
    try simp only [List.setIfInBounds_toArray, List.set_cons_zero, List.set_cons_succ]
    refine takeD (i := 7) (s := 49) (v := .pointer (some ⟨bb, off, none⟩)) rfl rfl (by kernel_rfl) (by kernel_rfl) (by kernel_rfl) (fun _ _ _ h => h) (Or.inl ⟨by rfl, fun w' hS => by obtain ⟨s0, s1, s2, s3, s4, s5⟩ := hS; go_simp⟩) HS0.out ?_
    try simp only [List.setIfInBounds_toArray, List.set_cons_zero, List.set_cons_succ]
    refine takeD (i := 8) (s := 50) (v := .int .i64 X.kind) rfl rfl (by kernel_rfl) (by kernel_rfl) (by kernel_rfl) (fun _ _ _ h => h) (Or.inl ⟨by rfl, fun w' hS => by obtain ⟨s0, s1, s2, s3, s4, s5⟩ := hS; go_simp⟩) HS0.out ?_
    try simp only [List.setIfInBounds_toArray, List.set_cons_zero, List.set_cons_succ]
    refine takeD (i := 9) (s := 51) (v := .bool false) rfl rfl (by kernel_rfl) (by kernel_rfl) (by kernel_rfl) (fun _ _ _ h => h) (Or.inl ⟨by rfl, fun w' hS => by obtain ⟨s0, s1, s2, s3, s4, s5⟩ := hS; go_simp⟩) HS0.out ?_
    try simp only [List.setIfInBounds_toArray, List.set_cons_zero, List.set_cons_succ]
    refine takeD (i := 10) (s := 52) (v := .bool false) rfl rfl (by kernel_rfl) (by kernel_rfl) (by kernel_rfl) (fun _ _ _ h => h) (Or.inl ⟨by rfl, fun w' hS => by obtain ⟨s0, s1, s2, s3, s4, s5⟩ := hS; go_simp⟩) HS0.out ?_
    try simp only [List.setIfInBounds_toArray, List.set_cons_zero, List.set_cons_succ]
    refine takeD (i := 11) (s := 53) (v := .pointer (some ⟨w.heap.size, 3, none⟩)) rfl rfl (by kernel_rfl) (by kernel_rfl) (by kernel_rfl) (fun _ _ _ h => h) (Or.inl ⟨by rfl, fun w' hS => by obtain ⟨s0, s1, s2, s3, s4, s5⟩ := hS; go_simp⟩) HS0.out ?_
    try simp only [List.setIfInBounds_toArray, List.set_cons_zero, List.set_cons_succ]
    refine takeD (i := 12) (s := 54) (v := .slice (some ⟨bb, off, none⟩) T.args.length c) rfl rfl (by kernel_rfl) (by kernel_rfl) (by kernel_rfl) (fun _ _ _ h => h) (Or.inl ⟨by rfl, fun w' hS => by obtain ⟨s0, s1, s2, s3, s4, s5⟩ := hS; go_simp⟩) HS0.out ?_
    try simp only [List.setIfInBounds_toArray, List.set_cons_zero, List.set_cons_succ]
    refine takeD (i := 13) (s := 55) (v := .pointer (some ⟨bb, off, none⟩)) rfl rfl (by kernel_rfl) (by kernel_rfl) (by kernel_rfl) (fun _ _ _ h => h) (Or.inl ⟨by rfl, fun w' hS => by obtain ⟨s0, s1, s2, s3, s4, s5⟩ := hS; go_simp⟩) HS0.out ?_
    try simp only [List.setIfInBounds_toArray, List.set_cons_zero, List.set_cons_succ]
    refine takeD (i := 14) (s := 56) (v := .pointer (some ⟨bb, off, none⟩)) rfl rfl (by kernel_rfl) (by kernel_rfl) (by kernel_rfl) (fun _ _ _ h => h) (Or.inl ⟨by rfl, fun w' hS => by obtain ⟨s0, s1, s2, s3, s4, s5⟩ := hS; go_simp⟩) HS0.out ?_
    try simp only [List.setIfInBounds_toArray, List.set_cons_zero, List.set_cons_succ]
    refine takeD (i := 15) (s := 57) (v := .int .i64 X.kind) rfl rfl (by kernel_rfl) (by kernel_rfl) (by kernel_rfl) (fun _ _ _ h => h) (Or.inl ⟨by rfl, fun w' hS => by obtain ⟨s0, s1, s2, s3, s4, s5⟩ := hS; go_simp⟩) HS0.out ?_
    try simp only [List.setIfInBounds_toArray, List.set_cons_zero, List.set_cons_succ]
    refine takeD (i := 16) (s := 58) (v := .bool true) rfl rfl (by kernel_rfl) (by kernel_rfl) (by kernel_rfl) (fun _ _ _ h => h) (Or.inl ⟨by rfl, fun w' hS => by obtain ⟨s0, s1, s2, s3, s4, s5⟩ := hS; go_simp⟩) HS0.out ?_
    try simp only [List.setIfInBounds_toArray, List.set_cons_zero, List.set_cons_succ]
    refine takeD (i := 17) (s := 59) (v := .bool true) rfl rfl (by kernel_rfl) (by kernel_rfl) (by kernel_rfl) (fun _ _ _ h => h) (Or.inl ⟨by rfl, fun w' hS => by obtain ⟨s0, s1, s2, s3, s4, s5⟩ := hS; go_simp⟩) HS0.out ?_
    try simp only [List.setIfInBounds_toArray, List.set_cons_zero, List.set_cons_succ]
    refine takeD (i := 20) (s := 62) (v := .pointer (some ⟨w.heap.size, 2, none⟩)) rfl rfl (by kernel_rfl) (by kernel_rfl) (by kernel_rfl) (fun _ _ _ h => h) (Or.inl ⟨by rfl, fun w' hS => by obtain ⟨s0, s1, s2, s3, s4, s5⟩ := hS; go_simp⟩) HS0.out ?_
    try simp only [List.setIfInBounds_toArray, List.set_cons_zero, List.set_cons_succ]
    refine takeD (i := 21) (s := 63) (v := .string T.name) rfl rfl (by kernel_rfl) (by kernel_rfl) (by kernel_rfl) (fun _ _ _ h => h) (Or.inl ⟨by rfl, fun w' hS => by obtain ⟨s0, s1, s2, s3, s4, s5⟩ := hS; go_simp⟩) HS0.out ?_
    try simp only [List.setIfInBounds_toArray, List.set_cons_zero, List.set_cons_succ]
    refine wpAnyH_all (rs := [18]) (by kernel_rfl) (by simp) ?_
    intro i hi
    simp only [List.mem_cons, List.not_mem_nil, or_false] at hi
    subst hi
    refine wpOp_of rfl rfl (fun K hK => ?_)
    go_simp
    refine (HC.out _ HBW.out).mono ?_
    rintro e w2 ⟨rfl, hb2⟩
    have HB2 := Lib.hid hb2
    have HS2 := Lib.hid (HSK.out w2 (HBW.out.trans (hb2.mono HBW.out.size)))
    clear hb2
    refine hK _ _ ⟨HS2.out, ?_⟩
    clear hK K
    try simp only [List.setIfInBounds_toArray, List.set_cons_zero, List.set_cons_succ]
    refine takeD (i := 19) (s := 61) (v := .string (u ++ ⟨#[32]⟩)) rfl rfl (by kernel_rfl) (by kernel_rfl) (by kernel_rfl) (fun _ _ _ h => h) (Or.inl ⟨by rfl, fun w' hS => by obtain ⟨s0, s1, s2, s3, s4, s5⟩ := hS; go_simp; omega⟩) HS2.out ?_
    try simp only [List.setIfInBounds_toArray, List.set_cons_zero, List.set_cons_succ]
    refine takeD (i := 22) (s := 64) (v := .string (u ++ ⟨#[32]⟩ ++ T.name)) rfl rfl (by kernel_rfl) (by kernel_rfl) (by kernel_rfl) (fun _ _ _ h => h) (Or.inl ⟨by rfl, fun w' hS => by obtain ⟨s0, s1, s2, s3, s4, s5⟩ := hS; go_simp; omega⟩) HS2.out ?_
    try simp only [List.setIfInBounds_toArray, List.set_cons_zero, List.set_cons_succ]
    refine takeD (i := 23) (s := 2) (v := .string (u ++ ⟨#[32]⟩ ++ T.name)) rfl rfl (by kernel_rfl) (by kernel_rfl) (by kernel_rfl) (fun _ _ _ h => h) (Or.inl ⟨by rfl, fun w' hS => by obtain ⟨s0, s1, s2, s3, s4, s5⟩ := hS; go_simp⟩) HS2.out ?_
    try simp only [List.setIfInBounds_toArray, List.set_cons_zero, List.set_cons_succ]
    refine wpAnyH_done (by kernel_rfl) ?_ _
    go_wp2
    go_ret
    exact ⟨by rw [← HE.out]; rfl, HB1.out.trans ((HBW.out.trans (HB2.out.mono HBW.out.size)).mono HB1.out.size)⟩
  · have hpb : pairB X = false := by rw [HPB.out]; rfl
    have hu : insT X = wrapB false (sayT X) := by unfold insT; rw [hpb]
    obtain ⟨u, hu2⟩ : ∃ u : ByteArray, u = ⟨(wrapB false (sayT X)).toArray⟩ := ⟨_, rfl⟩
    have HU : Hid (u = ⟨(insT X).toArray⟩) := Lib.hid (by rw [hu2, hu])
    have husz : u.size ≤ 1000000000 := by rw [HU.out, str_len]; have := HLN.out; omega
    have husz2 : (u ++ (⟨#[32]⟩ : ByteArray)).size ≤ 1000000001 := by rw [size_cat]; exact Nat.add_le_add_right husz 1
    have HC : Hid (∀ W, Below W1.heap.size W1 W → Calls Tryd.prog 94 #[.agg #[.int .i64 X.kind, .int .i64 X.num, .string X.name, .slice A' X.args.length c'], .bool false] W fun e w' => e = .returned (.string u) ∧ Below W.heap.size W w') := Lib.hid fun W hW => by
      have := wrapped_any X HI0.out false (by have := HLN2.out; omega) _ W (HTX.out.blw hW)
      rw [← hu2] at this
      exact this
    have HE : Hid (u ++ (⟨#[32]⟩ : ByteArray) ++ T.name = ⟨(sayT T).toArray⟩) := Lib.hid (by
      rw [str_cat (str_cat (b := [32]) HU.out rfl) (str_data T.name), HV.out])
    clear hu hu2 hpb
    go_enter Tryd.func66, Tryd.ntmps66
    go_wp2_with fail
    rw [← hW1]
    clear hW1
    have HS0 := Lib.hid (HSK.out _ HBW.out)
    refine wp_region_held (S := (fun w2 : World => w2.cell? ⟨w.heap.size, 2, none⟩ = some (.string T.name) ∧ w2.cell? ⟨w.heap.size, 3, none⟩ = some (.slice (some ⟨bb, off, none⟩) T.args.length c) ∧ w2.cell? ⟨bb, off, none⟩ = some (.int .i64 X.kind) ∧ w2.cell? ⟨bb, off + 1, none⟩ = some (.int .i64 X.num) ∧ w2.cell? ⟨bb, off + 2, none⟩ = some (.string X.name) ∧ w2.cell? ⟨bb, off + 3, none⟩ = some (.slice A' X.args.length c'))) (by kernel_rfl) ?_
    refine takeD (i := 0) (s := 42) (v := .pointer (some ⟨w.heap.size, 3, none⟩)) rfl rfl (by kernel_rfl) (by kernel_rfl) (by kernel_rfl) (fun _ _ _ h => h) (Or.inl ⟨by rfl, fun w' hS => by obtain ⟨s0, s1, s2, s3, s4, s5⟩ := hS; go_simp⟩) HS0.out ?_
    try simp only [List.setIfInBounds_toArray, List.set_cons_zero, List.set_cons_succ]
    refine takeD (i := 1) (s := 43) (v := .slice (some ⟨bb, off, none⟩) T.args.length c) rfl rfl (by kernel_rfl) (by kernel_rfl) (by kernel_rfl) (fun _ _ _ h => h) (Or.inl ⟨by rfl, fun w' hS => by obtain ⟨s0, s1, s2, s3, s4, s5⟩ := hS; go_simp⟩) HS0.out ?_
    try simp only [List.setIfInBounds_toArray, List.set_cons_zero, List.set_cons_succ]
    refine takeD (i := 2) (s := 44) (v := .pointer (some ⟨bb, off, none⟩)) rfl rfl (by kernel_rfl) (by kernel_rfl) (by kernel_rfl) (fun _ _ _ h => h) (Or.inl ⟨by rfl, fun w' hS => by obtain ⟨s0, s1, s2, s3, s4, s5⟩ := hS; go_simp⟩) HS0.out ?_
    try simp only [List.setIfInBounds_toArray, List.set_cons_zero, List.set_cons_succ]
    refine takeD (i := 3) (s := 45) (v := .agg #[.int .i64 X.kind, .int .i64 X.num, .string X.name, .slice A' X.args.length c']) rfl rfl (by kernel_rfl) (by kernel_rfl) (by kernel_rfl) (fun _ _ _ h => h) (Or.inl ⟨by rfl, fun w' hS => by obtain ⟨s0, s1, s2, s3, s4, s5⟩ := hS; go_simp⟩) HS0.out ?_
    try simp only [List.setIfInBounds_toArray, List.set_cons_zero, List.set_cons_succ]
    refine takeD (i := 4) (s := 46) (v := .pointer (some ⟨w.heap.size, 3, none⟩)) rfl rfl (by kernel_rfl) (by kernel_rfl) (by kernel_rfl) (fun _ _ _ h => h) (Or.inl ⟨by rfl, fun w' hS => by obtain ⟨s0, s1, s2, s3, s4, s5⟩ := hS; go_simp⟩) HS0.out ?_
    try simp only [List.setIfInBounds_toArray, List.set_cons_zero, List.set_cons_succ]
    refine takeD (i := 5) (s := 47) (v := .slice (some ⟨bb, off, none⟩) T.args.length c) rfl rfl (by kernel_rfl) (by kernel_rfl) (by kernel_rfl) (fun _ _ _ h => h) (Or.inl ⟨by rfl, fun w' hS => by obtain ⟨s0, s1, s2, s3, s4, s5⟩ := hS; go_simp⟩) HS0.out ?_
    try simp only [List.setIfInBounds_toArray, List.set_cons_zero, List.set_cons_succ]
    refine takeD (i := 6) (s := 48) (v := .pointer (some ⟨bb, off, none⟩)) rfl rfl (by kernel_rfl) (by kernel_rfl) (by kernel_rfl) (fun _ _ _ h => h) (Or.inl ⟨by rfl, fun w' hS => by obtain ⟨s0, s1, s2, s3, s4, s5⟩ := hS; go_simp⟩) HS0.out ?_
    try simp only [List.setIfInBounds_toArray, List.set_cons_zero, List.set_cons_succ]
    refine takeD (i := 7) (s := 49) (v := .pointer (some ⟨bb, off, none⟩)) rfl rfl (by kernel_rfl) (by kernel_rfl) (by kernel_rfl) (fun _ _ _ h => h) (Or.inl ⟨by rfl, fun w' hS => by obtain ⟨s0, s1, s2, s3, s4, s5⟩ := hS; go_simp⟩) HS0.out ?_
    try simp only [List.setIfInBounds_toArray, List.set_cons_zero, List.set_cons_succ]
    refine takeD (i := 8) (s := 50) (v := .int .i64 X.kind) rfl rfl (by kernel_rfl) (by kernel_rfl) (by kernel_rfl) (fun _ _ _ h => h) (Or.inl ⟨by rfl, fun w' hS => by obtain ⟨s0, s1, s2, s3, s4, s5⟩ := hS; go_simp⟩) HS0.out ?_
    try simp only [List.setIfInBounds_toArray, List.set_cons_zero, List.set_cons_succ]
    refine takeD (i := 9) (s := 51) (v := .bool false) rfl rfl (by kernel_rfl) (by kernel_rfl) (by kernel_rfl) (fun _ _ _ h => h) (Or.inl ⟨by rfl, fun w' hS => by obtain ⟨s0, s1, s2, s3, s4, s5⟩ := hS; go_simp⟩) HS0.out ?_
    try simp only [List.setIfInBounds_toArray, List.set_cons_zero, List.set_cons_succ]
    refine takeD (i := 10) (s := 52) (v := .bool false) rfl rfl (by kernel_rfl) (by kernel_rfl) (by kernel_rfl) (fun _ _ _ h => h) (Or.inl ⟨by rfl, fun w' hS => by obtain ⟨s0, s1, s2, s3, s4, s5⟩ := hS; go_simp⟩) HS0.out ?_
    try simp only [List.setIfInBounds_toArray, List.set_cons_zero, List.set_cons_succ]
    refine takeD (i := 11) (s := 53) (v := .pointer (some ⟨w.heap.size, 3, none⟩)) rfl rfl (by kernel_rfl) (by kernel_rfl) (by kernel_rfl) (fun _ _ _ h => h) (Or.inl ⟨by rfl, fun w' hS => by obtain ⟨s0, s1, s2, s3, s4, s5⟩ := hS; go_simp⟩) HS0.out ?_
    try simp only [List.setIfInBounds_toArray, List.set_cons_zero, List.set_cons_succ]
    refine takeD (i := 12) (s := 54) (v := .slice (some ⟨bb, off, none⟩) T.args.length c) rfl rfl (by kernel_rfl) (by kernel_rfl) (by kernel_rfl) (fun _ _ _ h => h) (Or.inl ⟨by rfl, fun w' hS => by obtain ⟨s0, s1, s2, s3, s4, s5⟩ := hS; go_simp⟩) HS0.out ?_
    try simp only [List.setIfInBounds_toArray, List.set_cons_zero, List.set_cons_succ]
    refine takeD (i := 13) (s := 55) (v := .pointer (some ⟨bb, off, none⟩)) rfl rfl (by kernel_rfl) (by kernel_rfl) (by kernel_rfl) (fun _ _ _ h => h) (Or.inl ⟨by rfl, fun w' hS => by obtain ⟨s0, s1, s2, s3, s4, s5⟩ := hS; go_simp⟩) HS0.out ?_
    try simp only [List.setIfInBounds_toArray, List.set_cons_zero, List.set_cons_succ]
    refine takeD (i := 14) (s := 56) (v := .pointer (some ⟨bb, off, none⟩)) rfl rfl (by kernel_rfl) (by kernel_rfl) (by kernel_rfl) (fun _ _ _ h => h) (Or.inl ⟨by rfl, fun w' hS => by obtain ⟨s0, s1, s2, s3, s4, s5⟩ := hS; go_simp⟩) HS0.out ?_
    try simp only [List.setIfInBounds_toArray, List.set_cons_zero, List.set_cons_succ]
    refine takeD (i := 15) (s := 57) (v := .int .i64 X.kind) rfl rfl (by kernel_rfl) (by kernel_rfl) (by kernel_rfl) (fun _ _ _ h => h) (Or.inl ⟨by rfl, fun w' hS => by obtain ⟨s0, s1, s2, s3, s4, s5⟩ := hS; go_simp⟩) HS0.out ?_
    try simp only [List.setIfInBounds_toArray, List.set_cons_zero, List.set_cons_succ]
    refine takeD (i := 16) (s := 58) (v := .bool false) rfl rfl (by kernel_rfl) (by kernel_rfl) (by kernel_rfl) (fun _ _ _ h => h) (Or.inl ⟨by rfl, fun w' hS => by obtain ⟨s0, s1, s2, s3, s4, s5⟩ := hS; go_simp⟩) HS0.out ?_
    try simp only [List.setIfInBounds_toArray, List.set_cons_zero, List.set_cons_succ]
    refine takeD (i := 17) (s := 59) (v := .bool false) rfl rfl (by kernel_rfl) (by kernel_rfl) (by kernel_rfl) (fun _ _ _ h => h) (Or.inl ⟨by rfl, fun w' hS => by obtain ⟨s0, s1, s2, s3, s4, s5⟩ := hS; go_simp⟩) HS0.out ?_
    try simp only [List.setIfInBounds_toArray, List.set_cons_zero, List.set_cons_succ]
    refine takeD (i := 20) (s := 62) (v := .pointer (some ⟨w.heap.size, 2, none⟩)) rfl rfl (by kernel_rfl) (by kernel_rfl) (by kernel_rfl) (fun _ _ _ h => h) (Or.inl ⟨by rfl, fun w' hS => by obtain ⟨s0, s1, s2, s3, s4, s5⟩ := hS; go_simp⟩) HS0.out ?_
    try simp only [List.setIfInBounds_toArray, List.set_cons_zero, List.set_cons_succ]
    refine takeD (i := 21) (s := 63) (v := .string T.name) rfl rfl (by kernel_rfl) (by kernel_rfl) (by kernel_rfl) (fun _ _ _ h => h) (Or.inl ⟨by rfl, fun w' hS => by obtain ⟨s0, s1, s2, s3, s4, s5⟩ := hS; go_simp⟩) HS0.out ?_
    try simp only [List.setIfInBounds_toArray, List.set_cons_zero, List.set_cons_succ]
    refine wpAnyH_all (rs := [18]) (by kernel_rfl) (by simp) ?_
    intro i hi
    simp only [List.mem_cons, List.not_mem_nil, or_false] at hi
    subst hi
    refine wpOp_of rfl rfl (fun K hK => ?_)
    go_simp
    refine (HC.out _ HBW.out).mono ?_
    rintro e w2 ⟨rfl, hb2⟩
    have HB2 := Lib.hid hb2
    have HS2 := Lib.hid (HSK.out w2 (HBW.out.trans (hb2.mono HBW.out.size)))
    clear hb2
    refine hK _ _ ⟨HS2.out, ?_⟩
    clear hK K
    try simp only [List.setIfInBounds_toArray, List.set_cons_zero, List.set_cons_succ]
    refine takeD (i := 19) (s := 61) (v := .string (u ++ ⟨#[32]⟩)) rfl rfl (by kernel_rfl) (by kernel_rfl) (by kernel_rfl) (fun _ _ _ h => h) (Or.inl ⟨by rfl, fun w' hS => by obtain ⟨s0, s1, s2, s3, s4, s5⟩ := hS; go_simp; omega⟩) HS2.out ?_
    try simp only [List.setIfInBounds_toArray, List.set_cons_zero, List.set_cons_succ]
    refine takeD (i := 22) (s := 64) (v := .string (u ++ ⟨#[32]⟩ ++ T.name)) rfl rfl (by kernel_rfl) (by kernel_rfl) (by kernel_rfl) (fun _ _ _ h => h) (Or.inl ⟨by rfl, fun w' hS => by obtain ⟨s0, s1, s2, s3, s4, s5⟩ := hS; go_simp; omega⟩) HS2.out ?_
    try simp only [List.setIfInBounds_toArray, List.set_cons_zero, List.set_cons_succ]
    refine takeD (i := 23) (s := 2) (v := .string (u ++ ⟨#[32]⟩ ++ T.name)) rfl rfl (by kernel_rfl) (by kernel_rfl) (by kernel_rfl) (fun _ _ _ h => h) (Or.inl ⟨by rfl, fun w' hS => by obtain ⟨s0, s1, s2, s3, s4, s5⟩ := hS; go_simp⟩) HS2.out ?_
    try simp only [List.setIfInBounds_toArray, List.set_cons_zero, List.set_cons_succ]
    refine wpAnyH_done (by kernel_rfl) ?_ _
    go_wp2
    go_ret
    exact ⟨by rw [← HE.out]; rfl, HB1.out.trans ((HBW.out.trans (HB2.out.mono HBW.out.size)).mono HB1.out.size)⟩
end Go.Proofs.YtbhicpjhijondaaDoor
