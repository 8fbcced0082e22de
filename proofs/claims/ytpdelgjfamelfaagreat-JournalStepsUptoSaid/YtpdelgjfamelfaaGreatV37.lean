/- The reference's file system: Rename. -/
import Derived.Test.YtpdelgjfamelfaaGreatM5
import Derived.Deep.RegionWith
import Derived.Deep.DeepCutAuto
import Derived.BigRegion
namespace Go.Proofs.YtpdelgjfamelfaaGreat
open Go.RowKit Go.Lib Go.Vfs Go.Par
set_option linter.unusedVariables false
set_option linter.unusedSimpArgs false

set_option maxRecDepth 20000 in
set_option maxHeartbeats 2000000 in
theorem rrename_any (st : St) (hp : st.power ≤ 9223372036854775807) (v : Value) (S : Nat → Prop) (w : World) (hS : ∀ b, S b → b < w.heap.size) (h : RefS S w v st.files) (s t : List UInt8) (hs : s.length ≤ 9223372036854775807) (ht : t.length ≤ 9223372036854775807) (hl : st.files.length ≤ 900000) (hd : ∀ f ∈ st.files, f.data.length ≤ 1000000) :
    Calls Tryz.prog 67 #[.agg #[.int .i64 st.power, v], .string ⟨s.toArray⟩, .string ⟨t.toArray⟩] w (RPost w S (stRename st s t)) := by
  obtain ⟨pow, fs⟩ := st
  simp only at hp h hl hd ⊢
  obtain ⟨A, c, rfl, hc, hm⟩ := h.form
  have H := Lib.hid h; clear h
  have HS := Lib.hid hS; clear hS
  have HDL := Lib.hid hd; clear hd
  have b1 := BoxI.start w pow A fs.length c
  have HS1 : Hid (∀ b, S b → b < (Boxed w pow A fs.length c).heap.size) := Lib.hid fun b hb => by have := HS.out b hb; rw [boxed_size]; omega
  have B1 := Lib.hid b1; clear b1
  have HN1 : Hid (∀ W, BoxI w pow (.slice A fs.length c) W → Calls Tryz.prog 68 #[.string ⟨s.toArray⟩] W fun e w' => e = .returned (.bool (nameB s)) ∧ Hid (BoxI w pow (.slice A fs.length c) w')) := Lib.hid (fun W hW => (rname_any ⟨s.toArray⟩ W hs).mono (by rintro e w' ⟨rfl, rfl⟩; exact ⟨by simp, Lib.hid hW⟩))
  have HN2 : Hid (∀ W, BoxI w pow (.slice A fs.length c) W → Calls Tryz.prog 68 #[.string ⟨t.toArray⟩] W fun e w' => e = .returned (.bool (nameB t)) ∧ Hid (BoxI w pow (.slice A fs.length c) w')) := Lib.hid (fun W hW => (rname_any ⟨t.toArray⟩ W ht).mono (by rintro e w' ⟨rfl, rfl⟩; exact ⟨by simp, Lib.hid hW⟩))
  go_enter Tryz.func67, Tryz.ntmps67
  go_wp2_with fail
  refine (HN1.out _ B1.out).mono ?_
  rintro e w0 ⟨rfl, B0⟩
  obtain ⟨x0, x1, x2, x3, x4, x5, x6, x7⟩ := B0.out.cells
  clear B1
  cases ha : nameB s with
  | false =>
    have HST := Lib.hid (stRename_name (st := ⟨pow, fs⟩) (b := t) (.inl ha))
    clear ha
    go_wp2
    refine bodyPost_ret (v := .tuple #[.agg #[.int .i64 pow, .slice A fs.length c], .int .i64 10]) (by simp [results, Tryz.results67, go_sem, x0, x1, x2, x3, x4, x5, x6, x7]) rfl ?_
    rw [HST.out]
    exact ⟨_, rfl, B0.out.done HS.out (RefS.mid (B0.out.old HS.out H.out)) (((Kept.refl (fun b => b = w.heap.size ∨ b = w.heap.size + 1) _).setCell (p := ⟨w.heap.size + 1, 0, none⟩) (.inl (.inr rfl)) _).setCell (p := ⟨w.heap.size + 1, 1, none⟩) (.inl (.inr rfl)) _)⟩
  | true =>
    go_wp2_with fail
    refine (HN2.out _ B0.out).mono ?_
    rintro e w1 ⟨rfl, B1⟩
    clear x0 x1 x2 x3 x4 x5 x6 x7
    obtain ⟨x0, x1, x2, x3, x4, x5, x6, x7⟩ := B1.out.cells
    clear B0
    cases hbt : nameB t with
    | false =>
      have HST := Lib.hid (stRename_name (st := ⟨pow, fs⟩) (a := s) (.inr hbt))
      clear ha hbt
      go_wp2
      refine bodyPost_ret (v := .tuple #[.agg #[.int .i64 pow, .slice A fs.length c], .int .i64 10]) (by simp [results, Tryz.results67, go_sem, x0, x1, x2, x3, x4, x5, x6, x7]) rfl ?_
      rw [HST.out]
      exact ⟨_, rfl, B1.out.done HS.out (RefS.mid (B1.out.old HS.out H.out)) (((Kept.refl (fun b => b = w.heap.size ∨ b = w.heap.size + 1) _).setCell (p := ⟨w.heap.size + 1, 0, none⟩) (.inl (.inr rfl)) _).setCell (p := ⟨w.heap.size + 1, 1, none⟩) (.inl (.inr rfl)) _)⟩
    | true =>
      have hck := rcheck_any pow _ fs S w1 (fun b hb => by have := HS.out b hb; have := B1.out.size; omega) (B1.out.old HS.out H.out) s hs true
      have HCK := Lib.hid hck; clear hck
      cases hf : stFind ⟨pow, fs⟩ s with
      | error er =>
        obtain ⟨e1, e2⟩ := chk_err hf
        have HST := Lib.hid (stRename_err ha hbt hf)
        simp only at e1
        rw [e1] at HCK
        clear e1 hf ha hbt
        go_wp2_with fail
        refine HCK.out.mono ?_
        rintro e w2 ⟨rfl, hb2⟩
        have B2 := Lib.hid (B1.out.go hb2)
        clear x0 x1 x2 x3 x4 x5 x6 x7 hb2 HCK B1
        obtain ⟨x0, x1, x2, x3, x4, x5, x6, x7⟩ := B2.out.cells
        go_wp2
        refine bodyPost_ret (v := .tuple #[.agg #[.int .i64 pow, .slice A fs.length c], .int .i64 er]) (by simp [results, Tryz.results67, go_sem, x0, x1, x2, x3, x4, x5, x6, x7]) rfl ?_
        rw [HST.out]
        exact ⟨_, rfl, B2.out.done HS.out (RefS.mid (B2.out.old HS.out H.out)) (((Kept.refl (fun b => b = w.heap.size ∨ b = w.heap.size + 1) w2).setCell (p := ⟨w.heap.size + 1, 0, none⟩) (.inl (.inr rfl)) _).setCell (p := ⟨w.heap.size + 1, 1, none⟩) (.inl (.inr rfl)) _)⟩
      | ok f =>
        obtain ⟨e1, e2⟩ := chk_ok hf
        have HST := Lib.hid (stRename_ok ha hbt hf)
        simp only at e1 e2
        rw [e1] at HCK
        have HFD := Lib.hid e2
        clear e1 e2 hf ha hbt
        go_wp2_with fail
        refine HCK.out.mono ?_
        rintro e w2 ⟨rfl, hb2⟩
        have B2 := Lib.hid (B1.out.go hb2)
        clear x0 x1 x2 x3 x4 x5 x6 x7 hb2 HCK B1
        obtain ⟨x0, x1, x2, x3, x4, x5, x6, x7⟩ := B2.out.cells
        go_wp2_with fail
        refine (rdraw_any pow hp A fs.length c w2).mono ?_
        rintro e w3 ⟨rfl, hb3⟩
        have B3 := Lib.hid (B2.out.go hb3)
        clear x0 x1 x2 x3 x4 x5 x6 x7 hb3 B2
        obtain ⟨x0, x1, x2, x3, x4, x5, x6, x7⟩ := B3.out.cells
        by_cases hp0 : pow = 0
        · subst hp0
          have HD := Lib.hid (doSt_down (st := ⟨0, fs⟩) (fs := withL File.name ⟨t, f.data, f.safe⟩ (dropL File.name s fs)) rfl)
          rw [if_pos rfl, show dec 0 = 0 from rfl]
          go_wp2
          refine bodyPost_ret (v := .tuple #[.agg #[.int .i64 0, .slice A fs.length c], .int .i64 13]) (by simp [results, Tryz.results67, go_sem, x0, x1, x2, x3, x4, x5, x6, x7]) rfl ?_
          rw [HST.out, HD.out]
          exact ⟨_, rfl, B3.out.done HS.out (RefS.mid (B3.out.old HS.out H.out)) (((((Kept.refl (fun b => b = w.heap.size ∨ b = w.heap.size + 1) w3).setCell (p := ⟨w.heap.size, 0, none⟩) (.inl (.inl rfl)) _).setCell (p := ⟨w.heap.size, 1, none⟩) (.inl (.inl rfl)) _).setCell (p := ⟨w.heap.size + 1, 0, none⟩) (.inl (.inr rfl)) _).setCell (p := ⟨w.heap.size + 1, 1, none⟩) (.inl (.inr rfl)) _)⟩
        · have HD := Lib.hid (doSt_do (st := ⟨pow, fs⟩) (fs := withL File.name ⟨t, f.data, f.safe⟩ (dropL File.name s fs)) hp0)
          rw [if_neg hp0]
          clear hp0
          have B4 := Lib.hid (B3.out.store (dec pow) (.slice A fs.length c))
          generalize dec pow = pd at *
          have HAT := Lib.hid (at_box (fun W hW => rat_found (S := S) (pow := pd) (s := s) (f := f) (fun b hb => by have := HS.out b hb; have := hW.size; omega) (hW.old HS.out H.out) HFD.out) HS.out H.out)
          go_upto_region 9 with fail
          go_cut [9] (fun px wx => ∃ bx, px = .pointer (some ⟨bx, 0, none⟩) ∧ Hid (XI w S pd (.slice A fs.length c) f bx wx))
          case first =>
            have hz3 : w.heap.size + 2 ≤ w3.heap.size := B3.out.size
            have hz3a : w.heap.size < w3.heap.size := by omega
            have hz3b : ¬ w.heap.size = w3.heap.size := by omega
            have hz3c : ¬ w3.heap.size = w.heap.size := by omega
            go_region_with (first
              | (go_at_call 41; refine (HAT.out _ (B4.out.go ((Below.refl _ _).drew))).mono ?_; rintro e w5 ⟨i, b, off, Au, cu, rfl, rfl, HB5, ⟨hi, hb, hz5, hz5a, hz5b, hz5c, hz5d⟩, ⟨y0, y1, y2, y3, y4, y5, y6, y7⟩, g0, g1, g2, G3⟩)
                    | (go_at_call 41; refine (HAT.out _ (B4.out.go (((Below.refl _ _).alloc (Nat.le_refl _) _).drew))).mono ?_; rintro e w5 ⟨i, b, off, Au, cu, rfl, rfl, HB5, ⟨hi, hb, hz5, hz5a, hz5b, hz5c, hz5d⟩, ⟨y0, y1, y2, y3, y4, y5, y6, y7⟩, g0, g1, g2, G3⟩; have hxz := x_zero HB5.out.1; try simp at hxz; have HXZ := Lib.hid hxz; obtain ⟨q0, q1, q2, q3, q4, q5⟩ := three_cells hxz; clear hxz))
            all_goals (
              go_wp2_with fail
              go_meet
              first
              | exact ⟨_, rfl, Lib.hid (xi_new HB5.out.2 G3.out)⟩
              | exact ⟨_, rfl, Lib.hid (xi_set HB5.out.2 G3.out hz3 HXZ.out)⟩)
          case rest =>
            obtain ⟨bx, rfl, HX⟩ := hcut
            clear x0 x1 x2 x3 x4 x5 x6 x7 HAT B4 B3
            obtain ⟨Au, cu, hM⟩ := HX.out.toM HS.out
            have M0 := Lib.hid hM; clear hM HX
            obtain ⟨⟨x0, x1, x2, x3, x4, x5, x6, x7⟩, ⟨q0, q1, q2, q3, q4, q5⟩, n0, n1, n2, n3⟩ := M0.out.cells
            have M1 := Lib.hid (M0.out.setName HS.out t)
            have HWO : Hid (∀ W, XM w S pd (.slice A fs.length c) ⟨t, f.data, f.safe⟩ Au cu bx W → Calls Tryz.prog 69 #[.agg #[.int .i64 pd, .slice A fs.length c], .string ⟨s.toArray⟩] W fun e w6 => ∃ A6 n6 c6, e = .returned (.agg #[.int .i64 pd, .slice A6 n6 c6]) ∧ Hid (RefS (Mid S w w6) w6 (.slice A6 n6 c6) (dropL File.name s fs) ∧ XM w S pd (.slice A fs.length c) ⟨t, f.data, f.safe⟩ Au cu bx w6)) := Lib.hid (fun W hW => by
              have hz := hW.box.size
              refine (rwithout_any pd _ fs S W (fun b hb => by have := HS.out b hb; omega) (hW.box.old HS.out H.out) s (by omega)).mono ?_
              rintro e w6 ⟨v6, rfl, hr6, hb6⟩
              have R := RefS.midN hr6 hz
              obtain ⟨A6, c6, rfl, -, -⟩ := R.form
              exact ⟨A6, _, c6, rfl, Lib.hid ⟨R, hW.go HS.out hb6⟩⟩)
            have hgl : (dropL File.name s fs).length ≤ fs.length := List.length_filter_le _ _
            generalize dropL File.name s fs = gs at *
            go_upto_region 11 with fail
            go_region_with (first
              | (go_at_call 69; refine (HWO.out _ (M1.out.go HS.out ((Below.refl _ _).drew))).mono ?_; rintro e w6 ⟨A6, n6, c6, rfl, HM6⟩; obtain ⟨⟨y0, y1, y2, y3, y4, y5, y6, y7⟩, ⟨g0, g1, g2, g3, g4, g5⟩, m0, m1, m2, m3⟩ := HM6.out.2.cells; simp only at g0 g1 g2)
              | (go_at_call 42; refine (HM6.out.2.with HS.out HM6.out.1 (by omega)).mono ?_; rintro e w7 ⟨A7, n7, c7, rfl, HM7⟩; obtain ⟨z0, z1, z2, z3, z4, z5, z6, z7⟩ := HM7.out.2.box.cells))
            all_goals (
              go_wp2_with fail
              refine bodyPost_ret (v := .tuple #[.agg #[.int .i64 pd, .slice A7 n7 c7], .int .i64 0]) (by simp [results, Tryz.results67, go_sem, z0, z1, z2, z3, z4, z5, z6, z7]) rfl ?_
              rw [HST.out, HD.out]
              exact ⟨_, rfl, HM7.out.2.done HS.out HM7.out.1 (((Kept.refl (fun b => b = w.heap.size ∨ b = w.heap.size + 1) w7).setCell (p := ⟨w.heap.size + 1, 0, none⟩) (.inl (.inr rfl)) _).setCell (p := ⟨w.heap.size + 1, 1, none⟩) (.inl (.inr rfl)) _)⟩)
end Go.Proofs.YtpdelgjfamelfaaGreat
