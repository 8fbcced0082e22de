/- The reference's show: constructors, pairs, arrows. (printed by mkl14.py) -/
import Derived.Test.YtbhicpjhijondaaDoorL15
import Derived.Deep.CutBlock
import Derived.Deep.DeepCutAuto
import Derived.Deep.RegionHeld
namespace Go.Proofs.YtbhicpjhijondaaDoor
open Go.RowKit Go.Lib Go.Vfs Go.Par Go.Typ Go.Shelf
set_option linter.unusedVariables false
set_option linter.unusedSimpArgs false

set_option maxRecDepth 20000 in
set_option maxHeartbeats 4000000 in
theorem show_pair (T : Ty) (ih : ∀ i (hi : i < T.args.length), ShowC T.args[i]) (h1 : T.kind = 3) : ShowC T := by
  intro hl v w hT
  obtain ⟨A, c, rfl, hc, hm, hn⟩ := hT.form
  have hla : T.args.length ≤ 9223372036854775807 := by simp only [maxLen] at hm; omega
  obtain ⟨W1, hW1⟩ : ∃ W1, W1 = w.alloc (.cells #[.int .i64 T.kind, .int .i64 T.num, .string T.name, .slice A T.args.length c] 24) := ⟨_, rfl⟩
  have hbx : W1.heap[w.heap.size]? = some (.cells #[.int .i64 T.kind, .int .i64 T.num, .string T.name, .slice A T.args.length c] 24 (0, 0)) := by rw [hW1]; exact heap_alloc_new _ _
  have hb1 : Below w.heap.size w W1 := by rw [hW1]; exact (Below.refl _ _).alloc (Nat.le_refl _) _
  have hz1 : W1.heap.size = w.heap.size + 1 := by rw [hW1]; simp
  have HB1 := Lib.hid hb1
  have HT1 := Lib.hid (hT.blw hb1)
  rw [h1] at hbx hW1
  have HBX := Lib.hid hbx
  have HZ1 := Lib.hid hz1
  obtain ⟨y0, y1, y2, y3⟩ := box4 hbx
  rw [hW1] at y0 y1 y2 y3
  have HV := Lib.hid (sayT_pair h1)
  have HLN : Hid ((joinW [32, 42, 32] (T.args.map insT)).length ≤ 1000000000) := Lib.hid (by rw [← sayT_pair h1]; exact hl)
  have IH := Lib.hid ih
  clear hT hb1 hc hm hn hbx hz1 hl ih
  unfold tyV
  rw [h1]
  clear h1
  go_enter Tryd.func66, Tryd.ntmps66
  go_wp2
  rw [← hW1]
  clear hW1 y0 y1 y2 y3
  go_loopw [6, 7] (fun sv iv W => ∃ (k : Nat) (s : ByteArray), k ≤ T.args.length ∧ sv = .string s ∧ iv = .int .i64 k ∧ Hid (s = ⟨(joinW [32, 42, 32] ((T.args.map insT).take k)).toArray⟩) ∧ Hid (Below W1.heap.size W1 W)) (fun _ iv _ => T.args.length - (RowKit.intOf iv).toNat)
  case atStart => exact ⟨0, _, by omega, rfl, rfl, Lib.hid rfl, Lib.hid (Below.refl _ _)⟩
  case round =>
    obtain ⟨k, s, hk, rfl, rfl, HS, HB⟩ := hrel
    have hbox := (HB.out.block _ (by have := HZ1.out; omega)).trans HBX.out
    obtain ⟨y0, y1, y2, y3⟩ := box4 hbox
    by_cases hlt : k < T.args.length
    · have hlm : k < (T.args.map insT).length := by rw [List.length_map]; exact hlt
      have htk := joinW_take [32, 42, 32] (T.args.map insT) hlm
      rw [List.getElem_map] at htk
      have hln := joinW_len_mem (sep := [32, 42, 32]) hlm
      rw [List.getD_eq_getElem?_getD, List.getElem?_eq_getElem hlm, List.getElem_map, Option.getD_some] at hln
      have hsz : s.size = (joinW [32, 42, 32] ((T.args.map insT).take k)).length := by rw [HS.out, str_len]
      obtain ⟨b, off, A', c', rfl, hb, ht, x0, x1, x2, x3⟩ := (HT1.out.blw HB.out).arg hlt
      have hul : (insT T.args[k]).length ≤ 1000000000 := by have := HLN.out; omega
      have hle2 : (sayT T.args[k]).length ≤ (insT T.args[k]).length := by
        unfold insT wrapB; split
        · simp only [List.length_append, List.length_cons, List.length_nil]; omega
        · exact Nat.le_refl _
      have hs1 : s.size ≤ 1000000000 := by have := HLN.out; omega
      have HI0 := Lib.hid (IH.out k hlt)
      generalize T.args[k] = X at *
      have HIL : Hid ((sayT X).length ≤ 1000000000 ∧ (insT X).length ≤ 1000000000) := Lib.hid ⟨by omega, hul⟩
      have HTK := Lib.hid htk
      have HTX := Lib.hid ht
      have hlb := lt_blk hbox
      have HSK : Hid (∀ w2, Below wr.heap.size wr w2 → w2.cell? ⟨w.heap.size, 3, none⟩ = some (.slice (some ⟨b, off, none⟩) T.args.length c) ∧ w2.cell? ⟨b, off + k * 4, none⟩ = some (.int .i64 X.kind) ∧ w2.cell? ⟨b, off + k * 4 + 1, none⟩ = some (.int .i64 X.num) ∧ w2.cell? ⟨b, off + k * 4 + 2, none⟩ = some (.string X.name) ∧ w2.cell? ⟨b, off + k * 4 + 3, none⟩ = some (.slice A' X.args.length c')) := Lib.hid fun w2 hw => by
        exact ⟨(hw.cell (p := ⟨_, _, none⟩) hlb).trans y3, (hw.cell (p := ⟨_, _, none⟩) hb).trans x0, (hw.cell (p := ⟨_, _, none⟩) hb).trans x1, (hw.cell (p := ⟨_, _, none⟩) hb).trans x2, (hw.cell (p := ⟨_, _, none⟩) hb).trans x3⟩
      have HBW : Hid (Below wr.heap.size wr wr.drew) := Lib.hid (Below.refl _ _).drew
      obtain ⟨p3, hp3⟩ : ∃ p, p = decide (X.kind = 3) := ⟨_, rfl⟩
      obtain ⟨p4, hp4⟩ : ∃ p, p = decide (X.kind = 4) := ⟨_, rfl⟩
      have g5 : (X.kind == 3) = p3 := by rw [hp3]; by_cases h : X.kind = 3 <;> simp [h]
      have g6 : (X.kind == 4) = p4 := by rw [hp4]; by_cases h : X.kind = 4 <;> simp [h]
      have HPB : Hid (pairB X = (p3 || p4)) := Lib.hid (by rw [hp3, hp4]; rfl)
      clear hp3 hp4 htk hln hsz ht hul hle2 hlm hbox hlb
      go_upto_if 99 with fail
      go_cut [6] from 91 to 125 (fun v wx => ∃ s5 : ByteArray, v = .string s5 ∧ Hid (s5 = ⟨(joinW [32, 42, 32] ((T.args.map insT).take k) ++ (if k = 0 then [] else [32, 42, 32])).toArray⟩) ∧ Hid (s5.size ≤ 1000000003) ∧ wx = wr)
      case first =>
        by_cases hk0 : k = 0
        · have hkn : ¬ (0 : Int) < (k : Int) := by omega
          have HK0 := Lib.hid hk0
          clear hk0
          go_wp2_with fail
          go_meet
          exact ⟨s, rfl, Lib.hid (by rw [if_pos HK0.out, List.append_nil]; exact HS.out), Lib.hid (by omega), rfl⟩
        · have hkp : (0 : Int) < (k : Int) := by omega
          have HK0 := Lib.hid hk0
          clear hk0
          go_wp2_with fail
          go_meet
          exact ⟨_, rfl, Lib.hid (by rw [if_neg HK0.out]; exact str_cat (b := [32, 42, 32]) HS.out rfl), Lib.hid (by rw [size_cat]; exact Nat.add_le_add_right hs1 3), rfl⟩
      case rest =>
      obtain ⟨s5, rfl, HS5, HZ5, rfl⟩ := hcut
      have hs5 : s5.size ≤ 1000000003 := HZ5.out
      have hcs : (p3 = true) ∨ (p3 = false ∧ p4 = true) ∨ (p3 = false ∧ p4 = false) := by cases p3 <;> cases p4 <;> simp
      rcases hcs with rfl | ⟨rfl, rfl⟩ | ⟨rfl, rfl⟩
      · have hpb : pairB X = true := by rw [HPB.out]; rfl
        have hu : insT X = wrapB true (sayT X) := by unfold insT; rw [hpb]
        obtain ⟨u, hu2⟩ : ∃ u : ByteArray, u = ⟨(wrapB true (sayT X)).toArray⟩ := ⟨_, rfl⟩
        have HU : Hid (u = ⟨(insT X).toArray⟩) := Lib.hid (by rw [hu2, hu])
        have husz : u.size ≤ 1000000000 := by rw [HU.out, str_len]; have := HIL.out; omega
        have HC : Hid (∀ W, Below wc.heap.size wc W → Calls Tryd.prog 94 #[.agg #[.int .i64 X.kind, .int .i64 X.num, .string X.name, .slice A' X.args.length c'], .bool true] W fun e w' => e = .returned (.string u) ∧ Below W.heap.size W w') := Lib.hid fun W hW => by
          have := wrapped_any X HI0.out true (by have := HIL.out; omega) _ W (HTX.out.blw hW)
          rw [← hu2] at this
          exact this
        have HE : Hid (s5 ++ u = ⟨(joinW [32, 42, 32] ((T.args.map insT).take (k + 1))).toArray⟩) := Lib.hid (by
          rw [str_cat HS5.out HU.out, HTK.out, List.append_assoc])
        clear hu hu2 hpb
        go_upto_region 27 with fail
        have HS0 := Lib.hid (HSK.out _ HBW.out)
        refine wp_region_held (S := (fun w2 : World => w2.cell? ⟨w.heap.size, 3, none⟩ = some (.slice (some ⟨b, off, none⟩) T.args.length c) ∧ w2.cell? ⟨b, off + k * 4, none⟩ = some (.int .i64 X.kind) ∧ w2.cell? ⟨b, off + k * 4 + 1, none⟩ = some (.int .i64 X.num) ∧ w2.cell? ⟨b, off + k * 4 + 2, none⟩ = some (.string X.name) ∧ w2.cell? ⟨b, off + k * 4 + 3, none⟩ = some (.slice A' X.args.length c'))) (by kernel_rfl) ?_
        refine takeD (i := 0) (s := 102) (v := .string s5) rfl rfl (by kernel_rfl) (by kernel_rfl) (by kernel_rfl) (fun _ _ _ h => h) (Or.inl ⟨by rfl, fun w' hS => by obtain ⟨s0, s1, s2, s3, s4⟩ := hS; go_simp⟩) HS0.out ?_
        try simp only [List.setIfInBounds_toArray, List.set_cons_zero, List.set_cons_succ]
        refine takeD (i := 1) (s := 103) (v := .pointer (some ⟨w.heap.size, 3, none⟩)) rfl rfl (by kernel_rfl) (by kernel_rfl) (by kernel_rfl) (fun _ _ _ h => h) (Or.inl ⟨by rfl, fun w' hS => by obtain ⟨s0, s1, s2, s3, s4⟩ := hS; go_simp⟩) HS0.out ?_
        try simp only [List.setIfInBounds_toArray, List.set_cons_zero, List.set_cons_succ]
        refine takeD (i := 2) (s := 104) (v := .slice (some ⟨b, off, none⟩) T.args.length c) rfl rfl (by kernel_rfl) (by kernel_rfl) (by kernel_rfl) (fun _ _ _ h => h) (Or.inl ⟨by rfl, fun w' hS => by obtain ⟨s0, s1, s2, s3, s4⟩ := hS; go_simp⟩) HS0.out ?_
        try simp only [List.setIfInBounds_toArray, List.set_cons_zero, List.set_cons_succ]
        refine takeD (i := 3) (s := 105) (v := .int .i64 k) rfl rfl (by kernel_rfl) (by kernel_rfl) (by kernel_rfl) (fun _ _ _ h => h) (Or.inl ⟨by rfl, fun w' hS => by obtain ⟨s0, s1, s2, s3, s4⟩ := hS; go_simp⟩) HS0.out ?_
        try simp only [List.setIfInBounds_toArray, List.set_cons_zero, List.set_cons_succ]
        refine takeD (i := 4) (s := 106) (v := .pointer (some ⟨b, off + k * 4, none⟩)) rfl rfl (by kernel_rfl) (by kernel_rfl) (by kernel_rfl) (fun _ _ _ h => h) (Or.inl ⟨by rfl, fun w' hS => by obtain ⟨s0, s1, s2, s3, s4⟩ := hS; go_simp⟩) HS0.out ?_
        try simp only [List.setIfInBounds_toArray, List.set_cons_zero, List.set_cons_succ]
        refine takeD (i := 5) (s := 107) (v := .agg #[.int .i64 X.kind, .int .i64 X.num, .string X.name, .slice A' X.args.length c']) rfl rfl (by kernel_rfl) (by kernel_rfl) (by kernel_rfl) (fun _ _ _ h => h) (Or.inl ⟨by rfl, fun w' hS => by obtain ⟨s0, s1, s2, s3, s4⟩ := hS; go_simp⟩) HS0.out ?_
        try simp only [List.setIfInBounds_toArray, List.set_cons_zero, List.set_cons_succ]
        refine takeD (i := 6) (s := 108) (v := .pointer (some ⟨w.heap.size, 3, none⟩)) rfl rfl (by kernel_rfl) (by kernel_rfl) (by kernel_rfl) (fun _ _ _ h => h) (Or.inl ⟨by rfl, fun w' hS => by obtain ⟨s0, s1, s2, s3, s4⟩ := hS; go_simp⟩) HS0.out ?_
        try simp only [List.setIfInBounds_toArray, List.set_cons_zero, List.set_cons_succ]
        refine takeD (i := 7) (s := 109) (v := .slice (some ⟨b, off, none⟩) T.args.length c) rfl rfl (by kernel_rfl) (by kernel_rfl) (by kernel_rfl) (fun _ _ _ h => h) (Or.inl ⟨by rfl, fun w' hS => by obtain ⟨s0, s1, s2, s3, s4⟩ := hS; go_simp⟩) HS0.out ?_
        try simp only [List.setIfInBounds_toArray, List.set_cons_zero, List.set_cons_succ]
        refine takeD (i := 8) (s := 110) (v := .int .i64 k) rfl rfl (by kernel_rfl) (by kernel_rfl) (by kernel_rfl) (fun _ _ _ h => h) (Or.inl ⟨by rfl, fun w' hS => by obtain ⟨s0, s1, s2, s3, s4⟩ := hS; go_simp⟩) HS0.out ?_
        try simp only [List.setIfInBounds_toArray, List.set_cons_zero, List.set_cons_succ]
        refine takeD (i := 9) (s := 111) (v := .pointer (some ⟨b, off + k * 4, none⟩)) rfl rfl (by kernel_rfl) (by kernel_rfl) (by kernel_rfl) (fun _ _ _ h => h) (Or.inl ⟨by rfl, fun w' hS => by obtain ⟨s0, s1, s2, s3, s4⟩ := hS; go_simp⟩) HS0.out ?_
        try simp only [List.setIfInBounds_toArray, List.set_cons_zero, List.set_cons_succ]
        refine takeD (i := 10) (s := 112) (v := .pointer (some ⟨b, off + k * 4, none⟩)) rfl rfl (by kernel_rfl) (by kernel_rfl) (by kernel_rfl) (fun _ _ _ h => h) (Or.inl ⟨by rfl, fun w' hS => by obtain ⟨s0, s1, s2, s3, s4⟩ := hS; go_simp⟩) HS0.out ?_
        try simp only [List.setIfInBounds_toArray, List.set_cons_zero, List.set_cons_succ]
        refine takeD (i := 11) (s := 113) (v := .int .i64 X.kind) rfl rfl (by kernel_rfl) (by kernel_rfl) (by kernel_rfl) (fun _ _ _ h => h) (Or.inl ⟨by rfl, fun w' hS => by obtain ⟨s0, s1, s2, s3, s4⟩ := hS; go_simp⟩) HS0.out ?_
        try simp only [List.setIfInBounds_toArray, List.set_cons_zero, List.set_cons_succ]
        refine takeD (i := 12) (s := 114) (v := .bool true) rfl rfl (by kernel_rfl) (by kernel_rfl) (by kernel_rfl) (fun _ _ _ h => h) (Or.inl ⟨by rfl, fun w' hS => by obtain ⟨s0, s1, s2, s3, s4⟩ := hS; go_simp⟩) HS0.out ?_
        try simp only [List.setIfInBounds_toArray, List.set_cons_zero, List.set_cons_succ]
        refine takeD (i := 13) (s := 115) (v := .bool true) rfl rfl (by kernel_rfl) (by kernel_rfl) (by kernel_rfl) (fun _ _ _ h => h) (Or.inl ⟨by rfl, fun w' hS => by obtain ⟨s0, s1, s2, s3, s4⟩ := hS; go_simp⟩) HS0.out ?_
        try simp only [List.setIfInBounds_toArray, List.set_cons_zero, List.set_cons_succ]
        refine takeD (i := 14) (s := 116) (v := undef) rfl rfl (by kernel_rfl) (by kernel_rfl) (by kernel_rfl) (fun _ _ _ h => h) (Or.inr ⟨by rfl, rfl⟩) HS0.out ?_
        try simp only [List.setIfInBounds_toArray, List.set_cons_zero, List.set_cons_succ]
        refine takeD (i := 15) (s := 117) (v := undef) rfl rfl (by kernel_rfl) (by kernel_rfl) (by kernel_rfl) (fun _ _ _ h => h) (Or.inr ⟨by rfl, rfl⟩) HS0.out ?_
        try simp only [List.setIfInBounds_toArray, List.set_cons_zero, List.set_cons_succ]
        refine takeD (i := 16) (s := 118) (v := undef) rfl rfl (by kernel_rfl) (by kernel_rfl) (by kernel_rfl) (fun _ _ _ h => h) (Or.inr ⟨by rfl, rfl⟩) HS0.out ?_
        try simp only [List.setIfInBounds_toArray, List.set_cons_zero, List.set_cons_succ]
        refine takeD (i := 17) (s := 119) (v := undef) rfl rfl (by kernel_rfl) (by kernel_rfl) (by kernel_rfl) (fun _ _ _ h => h) (Or.inr ⟨by rfl, rfl⟩) HS0.out ?_
        try simp only [List.setIfInBounds_toArray, List.set_cons_zero, List.set_cons_succ]
        refine takeD (i := 18) (s := 120) (v := undef) rfl rfl (by kernel_rfl) (by kernel_rfl) (by kernel_rfl) (fun _ _ _ h => h) (Or.inr ⟨by rfl, rfl⟩) HS0.out ?_
        try simp only [List.setIfInBounds_toArray, List.set_cons_zero, List.set_cons_succ]
        refine takeD (i := 19) (s := 121) (v := undef) rfl rfl (by kernel_rfl) (by kernel_rfl) (by kernel_rfl) (fun _ _ _ h => h) (Or.inr ⟨by rfl, rfl⟩) HS0.out ?_
        try simp only [List.setIfInBounds_toArray, List.set_cons_zero, List.set_cons_succ]
        refine takeD (i := 20) (s := 122) (v := undef) rfl rfl (by kernel_rfl) (by kernel_rfl) (by kernel_rfl) (fun _ _ _ h => h) (Or.inr ⟨by rfl, rfl⟩) HS0.out ?_
        try simp only [List.setIfInBounds_toArray, List.set_cons_zero, List.set_cons_succ]
        refine takeD (i := 21) (s := 123) (v := .bool true) rfl rfl (by kernel_rfl) (by kernel_rfl) (by kernel_rfl) (fun _ _ _ h => h) (Or.inl ⟨by rfl, fun w' hS => by obtain ⟨s0, s1, s2, s3, s4⟩ := hS; go_simp⟩) HS0.out ?_
        try simp only [List.setIfInBounds_toArray, List.set_cons_zero, List.set_cons_succ]
        refine wpAnyH_all (rs := [22]) (by kernel_rfl) (by simp) ?_
        intro i hi
        simp only [List.mem_cons, List.not_mem_nil, or_false] at hi
        subst hi
        refine wpOp_of rfl rfl (fun K hK => ?_)
        go_simp
        refine (HC.out _ HBW.out).mono ?_
        rintro e w2 ⟨rfl, hb2⟩
        have HB2 := Lib.hid hb2
        have HS2 := Lib.hid (HSK.out w2 (HBW.out.trans (hb2.mono HBW.out.size)))
        clear hb2
        refine hK _ _ ⟨HS2.out, ?_⟩
        clear hK K
        try simp only [List.setIfInBounds_toArray, List.set_cons_zero, List.set_cons_succ]
        refine takeD (i := 23) (s := 125) (v := .string (s5 ++ u)) rfl rfl (by kernel_rfl) (by kernel_rfl) (by kernel_rfl) (fun _ _ _ h => h) (Or.inl ⟨by rfl, fun w' hS => by obtain ⟨s0, s1, s2, s3, s4⟩ := hS; go_simp; omega⟩) HS2.out ?_
        try simp only [List.setIfInBounds_toArray, List.set_cons_zero, List.set_cons_succ]
        refine takeD (i := 24) (s := 6) (v := .string (s5 ++ u)) rfl rfl (by kernel_rfl) (by kernel_rfl) (by kernel_rfl) (fun _ _ _ h => h) (Or.inl ⟨by rfl, fun w' hS => by obtain ⟨s0, s1, s2, s3, s4⟩ := hS; go_simp⟩) HS2.out ?_
        try simp only [List.setIfInBounds_toArray, List.set_cons_zero, List.set_cons_succ]
        refine wpAnyH_done (by kernel_rfl) ?_ _
        have HBN := Lib.hid (HB.out.trans ((HBW.out.trans (HB2.out.mono HBW.out.size)).mono HB.out.size))
        go_wp2
        go_roundw
        case rel => exact ⟨k + 1, _, by omega, rfl, by go_num, HE, HBN⟩
        case measure => simp [RowKit.intOf]; omega
      · have hpb : pairB X = true := by rw [HPB.out]; rfl
        have hu : insT X = wrapB true (sayT X) := by unfold insT; rw [hpb]
        obtain ⟨u, hu2⟩ : ∃ u : ByteArray, u = ⟨(wrapB true (sayT X)).toArray⟩ := ⟨_, rfl⟩
        have HU : Hid (u = ⟨(insT X).toArray⟩) := Lib.hid (by rw [hu2, hu])
        have husz : u.size ≤ 1000000000 := by rw [HU.out, str_len]; have := HIL.out; omega
        have HC : Hid (∀ W, Below wc.heap.size wc W → Calls Tryd.prog 94 #[.agg #[.int .i64 X.kind, .int .i64 X.num, .string X.name, .slice A' X.args.length c'], .bool true] W fun e w' => e = .returned (.string u) ∧ Below W.heap.size W w') := Lib.hid fun W hW => by
          have := wrapped_any X HI0.out true (by have := HIL.out; omega) _ W (HTX.out.blw hW)
          rw [← hu2] at this
          exact this
        have HE : Hid (s5 ++ u = ⟨(joinW [32, 42, 32] ((T.args.map insT).take (k + 1))).toArray⟩) := Lib.hid (by
          rw [str_cat HS5.out HU.out, HTK.out, List.append_assoc])
        clear hu hu2 hpb
        go_upto_region 27 with fail
        have HS0 := Lib.hid (HSK.out _ HBW.out)
        refine wp_region_held (S := (fun w2 : World => w2.cell? ⟨w.heap.size, 3, none⟩ = some (.slice (some ⟨b, off, none⟩) T.args.length c) ∧ w2.cell? ⟨b, off + k * 4, none⟩ = some (.int .i64 X.kind) ∧ w2.cell? ⟨b, off + k * 4 + 1, none⟩ = some (.int .i64 X.num) ∧ w2.cell? ⟨b, off + k * 4 + 2, none⟩ = some (.string X.name) ∧ w2.cell? ⟨b, off + k * 4 + 3, none⟩ = some (.slice A' X.args.length c'))) (by kernel_rfl) ?_
        refine takeD (i := 0) (s := 102) (v := .string s5) rfl rfl (by kernel_rfl) (by kernel_rfl) (by kernel_rfl) (fun _ _ _ h => h) (Or.inl ⟨by rfl, fun w' hS => by obtain ⟨s0, s1, s2, s3, s4⟩ := hS; go_simp⟩) HS0.out ?_
        try simp only [List.setIfInBounds_toArray, List.set_cons_zero, List.set_cons_succ]
        refine takeD (i := 1) (s := 103) (v := .pointer (some ⟨w.heap.size, 3, none⟩)) rfl rfl (by kernel_rfl) (by kernel_rfl) (by kernel_rfl) (fun _ _ _ h => h) (Or.inl ⟨by rfl, fun w' hS => by obtain ⟨s0, s1, s2, s3, s4⟩ := hS; go_simp⟩) HS0.out ?_
        try simp only [List.setIfInBounds_toArray, List.set_cons_zero, List.set_cons_succ]
        refine takeD (i := 2) (s := 104) (v := .slice (some ⟨b, off, none⟩) T.args.length c) rfl rfl (by kernel_rfl) (by kernel_rfl) (by kernel_rfl) (fun _ _ _ h => h) (Or.inl ⟨by rfl, fun w' hS => by obtain ⟨s0, s1, s2, s3, s4⟩ := hS; go_simp⟩) HS0.out ?_
        try simp only [List.setIfInBounds_toArray, List.set_cons_zero, List.set_cons_succ]
        refine takeD (i := 3) (s := 105) (v := .int .i64 k) rfl rfl (by kernel_rfl) (by kernel_rfl) (by kernel_rfl) (fun _ _ _ h => h) (Or.inl ⟨by rfl, fun w' hS => by obtain ⟨s0, s1, s2, s3, s4⟩ := hS; go_simp⟩) HS0.out ?_
        try simp only [List.setIfInBounds_toArray, List.set_cons_zero, List.set_cons_succ]
        refine takeD (i := 4) (s := 106) (v := .pointer (some ⟨b, off + k * 4, none⟩)) rfl rfl (by kernel_rfl) (by kernel_rfl) (by kernel_rfl) (fun _ _ _ h => h) (Or.inl ⟨by rfl, fun w' hS => by obtain ⟨s0, s1, s2, s3, s4⟩ := hS; go_simp⟩) HS0.out ?_
        try simp only [List.setIfInBounds_toArray, List.set_cons_zero, List.set_cons_succ]
        refine takeD (i := 5) (s := 107) (v := .agg #[.int .i64 X.kind, .int .i64 X.num, .string X.name, .slice A' X.args.length c']) rfl rfl (by kernel_rfl) (by kernel_rfl) (by kernel_rfl) (fun _ _ _ h => h) (Or.inl ⟨by rfl, fun w' hS => by obtain ⟨s0, s1, s2, s3, s4⟩ := hS; go_simp⟩) HS0.out ?_
        try simp only [List.setIfInBounds_toArray, List.set_cons_zero, List.set_cons_succ]
        refine takeD (i := 6) (s := 108) (v := .pointer (some ⟨w.heap.size, 3, none⟩)) rfl rfl (by kernel_rfl) (by kernel_rfl) (by kernel_rfl) (fun _ _ _ h => h) (Or.inl ⟨by rfl, fun w' hS => by obtain ⟨s0, s1, s2, s3, s4⟩ := hS; go_simp⟩) HS0.out ?_
        try simp only [List.setIfInBounds_toArray, List.set_cons_zero, List.set_cons_succ]
        refine takeD (i := 7) (s := 109) (v := .slice (some ⟨b, off, none⟩) T.args.length c) rfl rfl (by kernel_rfl) (by kernel_rfl) (by kernel_rfl) (fun _ _ _ h => h) (Or.inl ⟨by rfl, fun w' hS => by obtain ⟨s0, s1, s2, s3, s4⟩ := hS; go_simp⟩) HS0.out ?_
        try simp only [List.setIfInBounds_toArray, List.set_cons_zero, List.set_cons_succ]
        refine takeD (i := 8) (s := 110) (v := .int .i64 k) rfl rfl (by kernel_rfl) (by kernel_rfl) (by kernel_rfl) (fun _ _ _ h => h) (Or.inl ⟨by rfl, fun w' hS => by obtain ⟨s0, s1, s2, s3, s4⟩ := hS; go_simp⟩) HS0.out ?_
        try simp only [List.setIfInBounds_toArray, List.set_cons_zero, List.set_cons_succ]
        refine takeD (i := 9) (s := 111) (v := .pointer (some ⟨b, off + k * 4, none⟩)) rfl rfl (by kernel_rfl) (by kernel_rfl) (by kernel_rfl) (fun _ _ _ h => h) (Or.inl ⟨by rfl, fun w' hS => by obtain ⟨s0, s1, s2, s3, s4⟩ := hS; go_simp⟩) HS0.out ?_
        try simp only [List.setIfInBounds_toArray, List.set_cons_zero, List.set_cons_succ]
        refine takeD (i := 10) (s := 112) (v := .pointer (some ⟨b, off + k * 4, none⟩)) rfl rfl (by kernel_rfl) (by kernel_rfl) (by kernel_rfl) (fun _ _ _ h => h) (Or.inl ⟨by rfl, fun w' hS => by obtain ⟨s0, s1, s2, s3, s4⟩ := hS; go_simp⟩) HS0.out ?_
        try simp only [List.setIfInBounds_toArray, List.set_cons_zero, List.set_cons_succ]
        refine takeD (i := 11) (s := 113) (v := .int .i64 X.kind) rfl rfl (by kernel_rfl) (by kernel_rfl) (by kernel_rfl) (fun _ _ _ h => h) (Or.inl ⟨by rfl, fun w' hS => by obtain ⟨s0, s1, s2, s3, s4⟩ := hS; go_simp⟩) HS0.out ?_
        try simp only [List.setIfInBounds_toArray, List.set_cons_zero, List.set_cons_succ]
        refine takeD (i := 12) (s := 114) (v := .bool false) rfl rfl (by kernel_rfl) (by kernel_rfl) (by kernel_rfl) (fun _ _ _ h => h) (Or.inl ⟨by rfl, fun w' hS => by obtain ⟨s0, s1, s2, s3, s4⟩ := hS; go_simp⟩) HS0.out ?_
        try simp only [List.setIfInBounds_toArray, List.set_cons_zero, List.set_cons_succ]
        refine takeD (i := 13) (s := 115) (v := .bool false) rfl rfl (by kernel_rfl) (by kernel_rfl) (by kernel_rfl) (fun _ _ _ h => h) (Or.inl ⟨by rfl, fun w' hS => by obtain ⟨s0, s1, s2, s3, s4⟩ := hS; go_simp⟩) HS0.out ?_
        try simp only [List.setIfInBounds_toArray, List.set_cons_zero, List.set_cons_succ]
        refine takeD (i := 14) (s := 116) (v := .pointer (some ⟨w.heap.size, 3, none⟩)) rfl rfl (by kernel_rfl) (by kernel_rfl) (by kernel_rfl) (fun _ _ _ h => h) (Or.inl ⟨by rfl, fun w' hS => by obtain ⟨s0, s1, s2, s3, s4⟩ := hS; go_simp⟩) HS0.out ?_
        try simp only [List.setIfInBounds_toArray, List.set_cons_zero, List.set_cons_succ]
        refine takeD (i := 15) (s := 117) (v := .slice (some ⟨b, off, none⟩) T.args.length c) rfl rfl (by kernel_rfl) (by kernel_rfl) (by kernel_rfl) (fun _ _ _ h => h) (Or.inl ⟨by rfl, fun w' hS => by obtain ⟨s0, s1, s2, s3, s4⟩ := hS; go_simp⟩) HS0.out ?_
        try simp only [List.setIfInBounds_toArray, List.set_cons_zero, List.set_cons_succ]
        refine takeD (i := 16) (s := 118) (v := .int .i64 k) rfl rfl (by kernel_rfl) (by kernel_rfl) (by kernel_rfl) (fun _ _ _ h => h) (Or.inl ⟨by rfl, fun w' hS => by obtain ⟨s0, s1, s2, s3, s4⟩ := hS; go_simp⟩) HS0.out ?_
        try simp only [List.setIfInBounds_toArray, List.set_cons_zero, List.set_cons_succ]
        refine takeD (i := 17) (s := 119) (v := .pointer (some ⟨b, off + k * 4, none⟩)) rfl rfl (by kernel_rfl) (by kernel_rfl) (by kernel_rfl) (fun _ _ _ h => h) (Or.inl ⟨by rfl, fun w' hS => by obtain ⟨s0, s1, s2, s3, s4⟩ := hS; go_simp⟩) HS0.out ?_
        try simp only [List.setIfInBounds_toArray, List.set_cons_zero, List.set_cons_succ]
        refine takeD (i := 18) (s := 120) (v := .pointer (some ⟨b, off + k * 4, none⟩)) rfl rfl (by kernel_rfl) (by kernel_rfl) (by kernel_rfl) (fun _ _ _ h => h) (Or.inl ⟨by rfl, fun w' hS => by obtain ⟨s0, s1, s2, s3, s4⟩ := hS; go_simp⟩) HS0.out ?_
        try simp only [List.setIfInBounds_toArray, List.set_cons_zero, List.set_cons_succ]
        refine takeD (i := 19) (s := 121) (v := .int .i64 X.kind) rfl rfl (by kernel_rfl) (by kernel_rfl) (by kernel_rfl) (fun _ _ _ h => h) (Or.inl ⟨by rfl, fun w' hS => by obtain ⟨s0, s1, s2, s3, s4⟩ := hS; go_simp⟩) HS0.out ?_
        try simp only [List.setIfInBounds_toArray, List.set_cons_zero, List.set_cons_succ]
        refine takeD (i := 20) (s := 122) (v := .bool true) rfl rfl (by kernel_rfl) (by kernel_rfl) (by kernel_rfl) (fun _ _ _ h => h) (Or.inl ⟨by rfl, fun w' hS => by obtain ⟨s0, s1, s2, s3, s4⟩ := hS; go_simp⟩) HS0.out ?_
        try simp only [List.setIfInBounds_toArray, List.set_cons_zero, List.set_cons_succ]
        refine takeD (i := 21) (s := 123) (v := .bool true) rfl rfl (by kernel_rfl) (by kernel_rfl) (by kernel_rfl) (fun _ _ _ h => h) (Or.inl ⟨by rfl, fun w' hS => by obtain ⟨s0, s1, s2, s3, s4⟩ := hS; go_simp⟩) HS0.out ?_
        try simp only [List.setIfInBounds_toArray, List.set_cons_zero, List.set_cons_succ]
        refine wpAnyH_all (rs := [22]) (by kernel_rfl) (by simp) ?_
        intro i hi
        simp only [List.mem_cons, List.not_mem_nil, or_false] at hi
        subst hi
        refine wpOp_of rfl rfl (fun K hK => ?_)
        go_simp
        refine (HC.out _ HBW.out).mono ?_
        rintro e w2 ⟨rfl, hb2⟩
        have HB2 := Lib.hid hb2
        have HS2 := Lib.hid (HSK.out w2 (HBW.out.trans (hb2.mono HBW.out.size)))
        clear hb2
        refine hK _ _ ⟨HS2.out, ?_⟩
        clear hK K
        try simp only [List.setIfInBounds_toArray, List.set_cons_zero, List.set_cons_succ]
        refine takeD (i := 23) (s := 125) (v := .string (s5 ++ u)) rfl rfl (by kernel_rfl) (by kernel_rfl) (by kernel_rfl) (fun _ _ _ h => h) (Or.inl ⟨by rfl, fun w' hS => by obtain ⟨s0, s1, s2, s3, s4⟩ := hS; go_simp; omega⟩) HS2.out ?_
        try simp only [List.setIfInBounds_toArray, List.set_cons_zero, List.set_cons_succ]
        refine takeD (i := 24) (s := 6) (v := .string (s5 ++ u)) rfl rfl (by kernel_rfl) (by kernel_rfl) (by kernel_rfl) (fun _ _ _ h => h) (Or.inl ⟨by rfl, fun w' hS => by obtain ⟨s0, s1, s2, s3, s4⟩ := hS; go_simp⟩) HS2.out ?_
        try simp only [List.setIfInBounds_toArray, List.set_cons_zero, List.set_cons_succ]
        refine wpAnyH_done (by kernel_rfl) ?_ _
        have HBN := Lib.hid (HB.out.trans ((HBW.out.trans (HB2.out.mono HBW.out.size)).mono HB.out.size))
        go_wp2
        go_roundw
        case rel => exact ⟨k + 1, _, by omega, rfl, by go_num, HE, HBN⟩
        case measure => simp [RowKit.intOf]; omega
      · have hpb : pairB X = false := by rw [HPB.out]; rfl
        have hu : insT X = wrapB false (sayT X) := by unfold insT; rw [hpb]
        obtain ⟨u, hu2⟩ : ∃ u : ByteArray, u = ⟨(wrapB false (sayT X)).toArray⟩ := ⟨_, rfl⟩
        have HU : Hid (u = ⟨(insT X).toArray⟩) := Lib.hid (by rw [hu2, hu])
        have husz : u.size ≤ 1000000000 := by rw [HU.out, str_len]; have := HIL.out; omega
        have HC : Hid (∀ W, Below wc.heap.size wc W → Calls Tryd.prog 94 #[.agg #[.int .i64 X.kind, .int .i64 X.num, .string X.name, .slice A' X.args.length c'], .bool false] W fun e w' => e = .returned (.string u) ∧ Below W.heap.size W w') := Lib.hid fun W hW => by
          have := wrapped_any X HI0.out false (by have := HIL.out; omega) _ W (HTX.out.blw hW)
          rw [← hu2] at this
          exact this
        have HE : Hid (s5 ++ u = ⟨(joinW [32, 42, 32] ((T.args.map insT).take (k + 1))).toArray⟩) := Lib.hid (by
          rw [str_cat HS5.out HU.out, HTK.out, List.append_assoc])
        clear hu hu2 hpb
        go_upto_region 27 with fail
        have HS0 := Lib.hid (HSK.out _ HBW.out)
        refine wp_region_held (S := (fun w2 : World => w2.cell? ⟨w.heap.size, 3, none⟩ = some (.slice (some ⟨b, off, none⟩) T.args.length c) ∧ w2.cell? ⟨b, off + k * 4, none⟩ = some (.int .i64 X.kind) ∧ w2.cell? ⟨b, off + k * 4 + 1, none⟩ = some (.int .i64 X.num) ∧ w2.cell? ⟨b, off + k * 4 + 2, none⟩ = some (.string X.name) ∧ w2.cell? ⟨b, off + k * 4 + 3, none⟩ = some (.slice A' X.args.length c'))) (by kernel_rfl) ?_
        refine takeD (i := 0) (s := 102) (v := .string s5) rfl rfl (by kernel_rfl) (by kernel_rfl) (by kernel_rfl) (fun _ _ _ h => h) (Or.inl ⟨by rfl, fun w' hS => by obtain ⟨s0, s1, s2, s3, s4⟩ := hS; go_simp⟩) HS0.out ?_
        try simp only [List.setIfInBounds_toArray, List.set_cons_zero, List.set_cons_succ]
        refine takeD (i := 1) (s := 103) (v := .pointer (some ⟨w.heap.size, 3, none⟩)) rfl rfl (by kernel_rfl) (by kernel_rfl) (by kernel_rfl) (fun _ _ _ h => h) (Or.inl ⟨by rfl, fun w' hS => by obtain ⟨s0, s1, s2, s3, s4⟩ := hS; go_simp⟩) HS0.out ?_
        try simp only [List.setIfInBounds_toArray, List.set_cons_zero, List.set_cons_succ]
        refine takeD (i := 2) (s := 104) (v := .slice (some ⟨b, off, none⟩) T.args.length c) rfl rfl (by kernel_rfl) (by kernel_rfl) (by kernel_rfl) (fun _ _ _ h => h) (Or.inl ⟨by rfl, fun w' hS => by obtain ⟨s0, s1, s2, s3, s4⟩ := hS; go_simp⟩) HS0.out ?_
        try simp only [List.setIfInBounds_toArray, List.set_cons_zero, List.set_cons_succ]
        refine takeD (i := 3) (s := 105) (v := .int .i64 k) rfl rfl (by kernel_rfl) (by kernel_rfl) (by kernel_rfl) (fun _ _ _ h => h) (Or.inl ⟨by rfl, fun w' hS => by obtain ⟨s0, s1, s2, s3, s4⟩ := hS; go_simp⟩) HS0.out ?_
        try simp only [List.setIfInBounds_toArray, List.set_cons_zero, List.set_cons_succ]
        refine takeD (i := 4) (s := 106) (v := .pointer (some ⟨b, off + k * 4, none⟩)) rfl rfl (by kernel_rfl) (by kernel_rfl) (by kernel_rfl) (fun _ _ _ h => h) (Or.inl ⟨by rfl, fun w' hS => by obtain ⟨s0, s1, s2, s3, s4⟩ := hS; go_simp⟩) HS0.out ?_
        try simp only [List.setIfInBounds_toArray, List.set_cons_zero, List.set_cons_succ]
        refine takeD (i := 5) (s := 107) (v := .agg #[.int .i64 X.kind, .int .i64 X.num, .string X.name, .slice A' X.args.length c']) rfl rfl (by kernel_rfl) (by kernel_rfl) (by kernel_rfl) (fun _ _ _ h => h) (Or.inl ⟨by rfl, fun w' hS => by obtain ⟨s0, s1, s2, s3, s4⟩ := hS; go_simp⟩) HS0.out ?_
        try simp only [List.setIfInBounds_toArray, List.set_cons_zero, List.set_cons_succ]
        refine takeD (i := 6) (s := 108) (v := .pointer (some ⟨w.heap.size, 3, none⟩)) rfl rfl (by kernel_rfl) (by kernel_rfl) (by kernel_rfl) (fun _ _ _ h => h) (Or.inl ⟨by rfl, fun w' hS => by obtain ⟨s0, s1, s2, s3, s4⟩ := hS; go_simp⟩) HS0.out ?_
        try simp only [List.setIfInBounds_toArray, List.set_cons_zero, List.set_cons_succ]
        refine takeD (i := 7) (s := 109) (v := .slice (some ⟨b, off, none⟩) T.args.length c) rfl rfl (by kernel_rfl) (by kernel_rfl) (by kernel_rfl) (fun _ _ _ h => h) (Or.inl ⟨by rfl, fun w' hS => by obtain ⟨s0, s1, s2, s3, s4⟩ := hS; go_simp⟩) HS0.out ?_
        try simp only [List.setIfInBounds_toArray, List.set_cons_zero, List.set_cons_succ]
        refine takeD (i := 8) (s := 110) (v := .int .i64 k) rfl rfl (by kernel_rfl) (by kernel_rfl) (by kernel_rfl) (fun _ _ _ h => h) (Or.inl ⟨by rfl, fun w' hS => by obtain ⟨s0, s1, s2, s3, s4⟩ := hS; go_simp⟩) HS0.out ?_
        try simp only [List.setIfInBounds_toArray, List.set_cons_zero, List.set_cons_succ]
        refine takeD (i := 9) (s := 111) (v := .pointer (some ⟨b, off + k * 4, none⟩)) rfl rfl (by kernel_rfl) (by kernel_rfl) (by kernel_rfl) (fun _ _ _ h => h) (Or.inl ⟨by rfl, fun w' hS => by obtain ⟨s0, s1, s2, s3, s4⟩ := hS; go_simp⟩) HS0.out ?_
        try simp only [List.setIfInBounds_toArray, List.set_cons_zero, List.set_cons_succ]
        refine takeD (i := 10) (s := 112) (v := .pointer (some ⟨b, off + k * 4, none⟩)) rfl rfl (by kernel_rfl) (by kernel_rfl) (by kernel_rfl) (fun _ _ _ h => h) (Or.inl ⟨by rfl, fun w' hS => by obtain ⟨s0, s1, s2, s3, s4⟩ := hS; go_simp⟩) HS0.out ?_
        try simp only [List.setIfInBounds_toArray, List.set_cons_zero, List.set_cons_succ]
        refine takeD (i := 11) (s := 113) (v := .int .i64 X.kind) rfl rfl (by kernel_rfl) (by kernel_rfl) (by kernel_rfl) (fun _ _ _ h => h) (Or.inl ⟨by rfl, fun w' hS => by obtain ⟨s0, s1, s2, s3, s4⟩ := hS; go_simp⟩) HS0.out ?_
        try simp only [List.setIfInBounds_toArray, List.set_cons_zero, List.set_cons_succ]
        refine takeD (i := 12) (s := 114) (v := .bool false) rfl rfl (by kernel_rfl) (by kernel_rfl) (by kernel_rfl) (fun _ _ _ h => h) (Or.inl ⟨by rfl, fun w' hS => by obtain ⟨s0, s1, s2, s3, s4⟩ := hS; go_simp⟩) HS0.out ?_
        try simp only [List.setIfInBounds_toArray, List.set_cons_zero, List.set_cons_succ]
        refine takeD (i := 13) (s := 115) (v := .bool false) rfl rfl (by kernel_rfl) (by kernel_rfl) (by kernel_rfl) (fun _ _ _ h => h) (Or.inl ⟨by rfl, fun w' hS => by obtain ⟨s0, s1, s2, s3, s4⟩ := hS; go_simp⟩) HS0.out ?_
        try simp only [List.setIfInBounds_toArray, List.set_cons_zero, List.set_cons_succ]
        refine takeD (i := 14) (s := 116) (v := .pointer (some ⟨w.heap.size, 3, none⟩)) rfl rfl (by kernel_rfl) (by kernel_rfl) (by kernel_rfl) (fun _ _ _ h => h) (Or.inl ⟨by rfl, fun w' hS => by obtain ⟨s0, s1, s2, s3, s4⟩ := hS; go_simp⟩) HS0.out ?_
        try simp only [List.setIfInBounds_toArray, List.set_cons_zero, List.set_cons_succ]
        refine takeD (i := 15) (s := 117) (v := .slice (some ⟨b, off, none⟩) T.args.length c) rfl rfl (by kernel_rfl) (by kernel_rfl) (by kernel_rfl) (fun _ _ _ h => h) (Or.inl ⟨by rfl, fun w' hS => by obtain ⟨s0, s1, s2, s3, s4⟩ := hS; go_simp⟩) HS0.out ?_
        try simp only [List.setIfInBounds_toArray, List.set_cons_zero, List.set_cons_succ]
        refine takeD (i := 16) (s := 118) (v := .int .i64 k) rfl rfl (by kernel_rfl) (by kernel_rfl) (by kernel_rfl) (fun _ _ _ h => h) (Or.inl ⟨by rfl, fun w' hS => by obtain ⟨s0, s1, s2, s3, s4⟩ := hS; go_simp⟩) HS0.out ?_
        try simp only [List.setIfInBounds_toArray, List.set_cons_zero, List.set_cons_succ]
        refine takeD (i := 17) (s := 119) (v := .pointer (some ⟨b, off + k * 4, none⟩)) rfl rfl (by kernel_rfl) (by kernel_rfl) (by kernel_rfl) (fun _ _ _ h => h) (Or.inl ⟨by rfl, fun w' hS => by obtain ⟨s0, s1, s2, s3, s4⟩ := hS; go_simp⟩) HS0.out ?_
        try simp only [List.setIfInBounds_toArray, List.set_cons_zero, List.set_cons_succ]
        refine takeD (i := 18) (s := 120) (v := .pointer (some ⟨b, off + k * 4, none⟩)) rfl rfl (by kernel_rfl) (by kernel_rfl) (by kernel_rfl) (fun _ _ _ h => h) (Or.inl ⟨by rfl, fun w' hS => by obtain ⟨s0, s1, s2, s3, s4⟩ := hS; go_simp⟩) HS0.out ?_
        try simp only [List.setIfInBounds_toArray, List.set_cons_zero, List.set_cons_succ]
        refine takeD (i := 19) (s := 121) (v := .int .i64 X.kind) rfl rfl (by kernel_rfl) (by kernel_rfl) (by kernel_rfl) (fun _ _ _ h => h) (Or.inl ⟨by rfl, fun w' hS => by obtain ⟨s0, s1, s2, s3, s4⟩ := hS; go_simp⟩) HS0.out ?_
        try simp only [List.setIfInBounds_toArray, List.set_cons_zero, List.set_cons_succ]
        refine takeD (i := 20) (s := 122) (v := .bool false) rfl rfl (by kernel_rfl) (by kernel_rfl) (by kernel_rfl) (fun _ _ _ h => h) (Or.inl ⟨by rfl, fun w' hS => by obtain ⟨s0, s1, s2, s3, s4⟩ := hS; go_simp⟩) HS0.out ?_
        try simp only [List.setIfInBounds_toArray, List.set_cons_zero, List.set_cons_succ]
        refine takeD (i := 21) (s := 123) (v := .bool false) rfl rfl (by kernel_rfl) (by kernel_rfl) (by kernel_rfl) (fun _ _ _ h => h) (Or.inl ⟨by rfl, fun w' hS => by obtain ⟨s0, s1, s2, s3, s4⟩ := hS; go_simp⟩) HS0.out ?_
        try simp only [List.setIfInBounds_toArray, List.set_cons_zero, List.set_cons_succ]
        refine wpAnyH_all (rs := [22]) (by kernel_rfl) (by simp) ?_
        intro i hi
        simp only [List.mem_cons, List.not_mem_nil, or_false] at hi
        subst hi
        refine wpOp_of rfl rfl (fun K hK => ?_)
        go_simp
        refine (HC.out _ HBW.out).mono ?_
        rintro e w2 ⟨rfl, hb2⟩
        have HB2 := Lib.hid hb2
        have HS2 := Lib.hid (HSK.out w2 (HBW.out.trans (hb2.mono HBW.out.size)))
        clear hb2
        refine hK _ _ ⟨HS2.out, ?_⟩
        clear hK K
        try simp only [List.setIfInBounds_toArray, List.set_cons_zero, List.set_cons_succ]
        refine takeD (i := 23) (s := 125) (v := .string (s5 ++ u)) rfl rfl (by kernel_rfl) (by kernel_rfl) (by kernel_rfl) (fun _ _ _ h => h) (Or.inl ⟨by rfl, fun w' hS => by obtain ⟨s0, s1, s2, s3, s4⟩ := hS; go_simp; omega⟩) HS2.out ?_
        try simp only [List.setIfInBounds_toArray, List.set_cons_zero, List.set_cons_succ]
        refine takeD (i := 24) (s := 6) (v := .string (s5 ++ u)) rfl rfl (by kernel_rfl) (by kernel_rfl) (by kernel_rfl) (fun _ _ _ h => h) (Or.inl ⟨by rfl, fun w' hS => by obtain ⟨s0, s1, s2, s3, s4⟩ := hS; go_simp⟩) HS2.out ?_
        try simp only [List.setIfInBounds_toArray, List.set_cons_zero, List.set_cons_succ]
        refine wpAnyH_done (by kernel_rfl) ?_ _
        have HBN := Lib.hid (HB.out.trans ((HBW.out.trans (HB2.out.mono HBW.out.size)).mono HB.out.size))
        go_wp2
        go_roundw
        case rel => exact ⟨k + 1, _, by omega, rfl, by go_num, HE, HBN⟩
        case measure => simp [RowKit.intOf]; omega
    · have hkl : k = T.args.length := by omega
      have hss := HS.out
      rw [hkl, ← List.length_map (f := insT), List.take_length, ← HV.out] at hss
      have HE := Lib.hid hss
      clear hss
      go_wp2
      go_ret
      exact ⟨by rw [← HE.out]; rfl, HB1.out.trans (HB.out.mono HB1.out.size)⟩
end Go.Proofs.YtbhicpjhijondaaDoor
