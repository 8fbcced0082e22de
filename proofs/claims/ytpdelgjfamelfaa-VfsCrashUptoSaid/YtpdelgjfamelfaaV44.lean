/- VfsSteps. -/
import Derived.Test.YtpdelgjfamelfaaM6
namespace Go.Proofs.Ytpdelgjfamelfaa
open Go.RowKit Go.Lib Go.Vfs Go.Par
set_option linter.unusedVariables false
set_option linter.unusedSimpArgs false

theorem copy_keeps {W w : World} {p : Nat} {st : St} {F : Nat → Prop} {bm : Nat} {sm : St} {v : Value} (h : Pair W w p st F bm sm v) {kv : Value} {keeps : List Int} (hk : Seg W W.heap.size kv (ints keeps)) (hl : keeps.length ≤ 17592186043904) {bo : Nat} {u0 u1 u2 u3 u4 u5 : Value} (hbo : w.heap[bo]? = some (.cells #[u0, u1, u2, u3, u4, u5] 44 (0, 0))) :
    Calls Try.prog 24 #[kv] w fun e w' => ∃ A c, e = .returned (.slice A keeps.length c) ∧ Hid (Seg w' w'.heap.size (.slice A keeps.length c) (ints keeps)) ∧ Hid (Pair W w' p st F bm sm v) ∧ Hid (w'.heap[bo]? = some (.cells #[u0, u1, u2, u3, u4, u5] 44 (0, 0))) ∧ w'.cell? ⟨bo, 1, none⟩ = some u1 ∧ w'.cell? ⟨bo, 5, none⟩ = some u5 := by
  refine (copyInts_big _ keeps W.heap.size w (hk.below h.held.below) h.sz hl).mono ?_
  rintro e w' ⟨u, rfl, hu, hb⟩
  obtain ⟨A, c, rfl⟩ := hu.form
  rw [ints_length] at hu ⊢
  have hb' := (hb.block _ (lt_of_block hbo)).trans hbo
  obtain ⟨x0, x1, x2, x3, x4, x5⟩ := six_cells hb'
  exact ⟨A, c, rfl, Lib.hid (Own.seg hu), Lib.hid (h.go hb), Lib.hid hb', x1, x5⟩

set_option maxRecDepth 100000 in
set_option maxHeartbeats 8000000 in
theorem vfsSteps_walk (power : Int) (hpw0 : -9223372036854775808 ≤ power ∧ power ≤ 9223372036854775807) (v : Value) (os0 : List OpR) (hs : sizeO os0 ≤ 1048576) (s : ByteArray) (hsn : s.size ≤ 9223372036854775807) (W : World) (h : SegO W W.heap.size v os0 ∧ ∀ o ∈ os0, o.n ≤ 9223372036854775807) :
    Calls Try.prog 5 #[.int .i64 power, v, .string s] W fun e W' => e = .returned (.bool true) ∧ Below W.heap.size W W' := by
  have hpw := hpw0.2
  clear hpw0
  obtain ⟨h, hn0⟩ := h
  have HN0 : Hid (∀ o ∈ os0.take 60, o.n ≤ 9223372036854775807) := Lib.hid fun o ho => hn0 o (List.mem_of_mem_take ho)
  clear hn0
  obtain ⟨A0, c0, rfl, -, -⟩ := h.form
  have HS := Lib.hid h; clear h
  have hB : W.heap.size ≤ W.heap.size := Nat.le_refl _
  go_enter Try.func5, Try.ntmps5
  go_wp2_with fail
  refine (alive_any W).mono ?_
  rintro e w1 ⟨rfl, hb1⟩
  have HB1 := Lib.hid hb1
  go_wp2_with fail
  refine (cut_any _ os0 W.heap.size w1 (HS.out.below hb1)).mono ?_
  rintro e w1' ⟨u, rfl, hu, rfl⟩
  have hs' : sizeO (os0.take 60) ≤ 1048576 := Nat.le_trans (sizeO_take os0 60) hs
  have hl60 : (os0.take 60).length ≤ 60 := by simp; omega
  generalize os0.take 60 = os at *
  clear hs HS hb1
  obtain ⟨A, c, rfl, hlc, hcm⟩ := hu.form
  have HU := Lib.hid hu; have HU4 := Lib.hid (hu.back HB1.out); clear hu
  go_wp2_with fail
  refine (great_any _ os _ w1' HU.out (by omega)).mono ?_
  rintro e w2 ⟨rfl, n2, rfl⟩
  by_cases hg : 5000 < sizeO os
  · rw [decide_eq_true hg]
    go_wp2
    go_ret
    exact ⟨rfl, below_drewN HB1.out _⟩
  rw [decide_eq_false hg]
  go_wp2_with fail
  refine (new_fs power _).mono ?_
  rintro e w3 ⟨p, F3, rfl, hfs3, hF3, hb3⟩
  have hs1 : W.heap.size ≤ w1'.heap.size := HB1.out.size
  have H3 : Held W.heap.size W w3 p ⟨power, []⟩ F3 := ⟨hfs3, fun k hk => Nat.le_trans hs1 (hF3 k hk).1, (below_drewN HB1.out n2).trans (hb3.mono hs1)⟩
  have HP0 : Hid (StepI W (w3.alloc (.cells #[.int .i64 power, .slice none 0 0] 41)) os 0 p F3 w3.heap.size ⟨power, []⟩ (.slice none 0 0)) := Lib.hid ⟨⟨H3.go hB (box_below w3 _), heap_alloc_new w3 _, H3.size hB, fun hf => by have := H3.fs.lt _ hf; omega, RefS.nil _ _⟩, Calm.nil, hpw⟩
  clear hfs3 hF3 hb3 HB1 H3 HU
  obtain ⟨bm, hbm⟩ : ∃ bm, bm = w3.heap.size := ⟨_, rfl⟩
  have HBM := Lib.hid hbm
  go_wp2
  rw [← hbm] at HP0
  rw [← hbm]
  clear hbm
  go_loopw [7, 9] (fun pf i wr => ∃ (k p : Nat) (F : Nat → Prop) (st : St) (v : Value), k ≤ os.length ∧ pf = .pointer (some ⟨p, 0, none⟩) ∧ i = .int .i64 k ∧ Hid (StepI W wr os k p F bm st v)) (fun _ i _ => os.length - (intOf i).toNat)
  case atStart => exact ⟨0, p, F3, _, _, by omega, rfl, rfl, HP0⟩
  case round =>
    clear HP0
    obtain ⟨k, p, F, st, v, hk, rfl, rfl, HP⟩ := hrel
    by_cases hlt : k < os.length
    · have hop := HU4.out.op k hlt
      obtain ⟨b, off, rfl, hb, hsix⟩ := HU4.out.six k hlt
      have hbel := HP.out.pair.held.below
      have hbw : b < wr.heap.size := by have := HP.out.pair.sz; omega
      replace hsix : Six wr b (off + k * 6) os[k] := hsix.kept (F := fun k => ¬ k < W.heap.size) ⟨hbel.os, hbel.tape, hbel.output, hbel.size, fun k _ hk => hbel.block k (by omega)⟩ (by omega) (by omega)
      obtain ⟨⟨A1, n1, c1, hpv⟩, A2, n2, c2, hkv⟩ := hop.forms
      have hsz := sizeO_nth os k hlt
      have hnb := HN0.out os[k] (List.getElem_mem hlt)
      have hc1 : Calm st.files k 5000 := HP.out.calm.mono (Nat.le_refl _) (by have := sizeO_take os k; omega)
      have hfl := flat_sizeP os[k].parts
      have hdoes := fun (w : World) (hw : Pair W w p st F bm st v) => hw.does hop HP.out.power (Nat.le_trans hc1.files (by omega)) (fun f hf => by have := hc1.data f hf; omega) (by omega)
      have hact := fun (w : World) (sm : St) (v' : Value) (hw : Pair W w p st F bm sm v') => hw.act hop (hc1.modest HP.out.power (by omega) (by omega)) (by omega)
      have hnext := fun (w' : World) (F' : Nat → Prop) (v' : Value) (hp' : Pair W w' p (actSt st os[k]).1 F' bm (actSt st os[k]).1 v') => HP.out.act hlt hp'
      have hcrash := fun (w' : World) (p' : Nat) (F' : Nat → Prop) (v' : Value) (hp' : Pair W w' p' (stCrash st os[k].keeps os[k].n) F' bm (stCrash st os[k].keeps os[k].n) v') => HP.out.crash hlt os[k].keeps os[k].n hnb hp'
      have hkl : os[k].kv = .slice A2 n2 c2 → n2 = os[k].keeps.length := fun e => by obtain ⟨A', c', e', -⟩ := hop.ints.open_ints; rw [e] at e'; injection e'
      have hki := hop.ints
      have hkf := hop.few
      generalize os[k] = o at *
      obtain ⟨what, n, name, other, pv, kv, parts, keeps⟩ := o
      simp only at hpv hkv hsz hnb hdoes hact hnext hcrash hkl hki hkf
      have hkl2 := hkl hkv
      subst hpv hkv hkl2
      obtain ⟨d0, d1, d2, d3, d4, d5⟩ := hsix
      simp only [Nat.add_zero] at d0 d1 d2 d3 d4 d5
      have PR := Lib.hid HP.out.pair
      have HC1 := Lib.hid hc1; have HDO := Lib.hid hdoes; have HAC := Lib.hid hact; have HNX := Lib.hid hnext; have HCR := Lib.hid hcrash; have HKI := Lib.hid hki
      clear hc1 hdoes hact hnext hcrash hki hkl hop hbel HP
      obtain ⟨X0, hX0⟩ : ∃ X0, X0 = wr.alloc (.cells #[.int .i64 what, .int .i64 n, .string name, .string other, .slice A1 n1 c1, .slice A2 keeps.length c2] 44) := ⟨_, rfl⟩
      have p0 : Pair W X0 p st F bm st v := by rw [hX0]; exact PR.out.go (box_below wr _)
      have hbo : X0.heap[wr.heap.size]? = some (.cells #[.int .i64 what, .int .i64 n, .string name, .string other, .slice A1 n1 c1, .slice A2 keeps.length c2] 44 (0, 0)) := by rw [hX0]; exact heap_alloc_new wr _
      rw [hX0] at p0 hbo
      have P0 := Lib.hid p0; have HBO := Lib.hid hbo
      have hml : bm < wr.heap.size := PR.out.lt
      have hmn : ¬ bm = wr.heap.size := by omega
      have hmn2 : ¬ wr.heap.size = bm := by omega
      clear hX0 p0 hbo PR
      go_upto_if 41 with fail
      go_cut [7] from 29 to 95 (fun pf wx => ∃ (p' : Nat) (F' : Nat → Prop) (st' : St) (v' : Value), pf = .pointer (some ⟨p', 0, none⟩) ∧ Hid (StepI W wx os (k + 1) p' F' bm st' v'))
      case first =>
        by_cases h6 : what = 6
        · subst h6
          have HCI := Lib.hid (copy_keeps (P0.out.go ((Below.refl _ _).drew)) HKI.out hkf HBO.out)
          obtain ⟨o0, o1, o2, o3, o4, o5⟩ := six_cells HBO.out
          clear d0 d1 d2 d3 d4 d5
          go_upto_region 15 with fail
          go_cut [7] from 29 to 95 (fun pf wx => ∃ (p' : Nat) (F' : Nat → Prop), pf = .pointer (some ⟨p', 0, none⟩) ∧ Hid (Pair W wx p' (stCrash st keeps n) F' bm st v) ∧ Hid (wx.heap[wr.heap.size]? = some (.cells #[.int .i64 6, .int .i64 n, .string name, .string other, .slice A1 n1 c1, .slice A2 keeps.length c2] 44 (0, 0))))
          case first =>
            go_region_with (first
              | (go_at_call 24; refine HCI.out.mono ?_; rintro e w5 ⟨A5, c5, rfl, HS5, HP5, HB5, y1, y5⟩)
              | (go_at_call 18; refine (HP5.out.crash HC1.out (by omega) (by omega) HS5.out n).mono ?_; rintro e w6 ⟨p6, F6, rfl, HP6, -, HB6⟩))
            all_goals (
              go_wp2_with fail
              go_meet
              exact ⟨p6, F6, rfl, HP6, Lib.hid ((HB6.out.block _ (lt_of_block HB5.out)).trans HB5.out)⟩)
          case rest =>
            obtain ⟨p6, F6, rfl, HP6, HB6⟩ := hcut
            clear o0 o1 o2 o3 o4 o5 HCI HBO P0
            obtain ⟨o0, o1, o2, o3, o4, o5⟩ := six_cells HB6.out
            obtain ⟨x0, x1, x2, x3⟩ := HP6.out.cells
            have HSK := Lib.hid ((HKI.out.below HP6.out.held.below).more HP6.out.sz)
            go_wp2_with fail
            refine (HP6.out.rcrash HC1.out (by omega) (by omega) HSK.out n).mono ?_
            rintro e w7 ⟨A7, n7, c7, rfl, HP7, HR7, HB7⟩
            have HP8 := Lib.hid (HP7.out.store (sm' := stCrash st keeps n) HR7.out)
            clear x0 x1 x2 x3 o0 o1 o2 o3 o4 o5 HSK HP6
            obtain ⟨x0, x1, x2, x3⟩ := HP7.out.cells
            go_wp2
            go_meet
            exact ⟨p6, F6, _, _, rfl, Lib.hid (HCR.out _ _ _ _ HP8.out)⟩
        · have hne : (what == 6) = false := by simpa using h6
          obtain ⟨o0, o1, o2, o3, o4, o5⟩ := six_cells HBO.out
          obtain ⟨x0, x1, x2, x3⟩ := P0.out.cells
          have hdo := HDO.out _ P0.out
          have hac := HAC.out
          have hnx := HNX.out
          clear d0 d1 d2 d3 d4 d5 HDO HAC HNX
          generalize actSt st ⟨what, n, name, other, .slice A1 n1 c1, .slice A2 keeps.length c2, parts, keeps⟩ = r at *
          obtain ⟨st', er⟩ := r
          simp only at hdo hac hnx
          have HDO := Lib.hid hdo; have HAC := Lib.hid hac; have HNX := Lib.hid hnx
          clear hdo hac hnx
          go_wp2_with fail
          refine HDO.out.mono ?_
          rintro e w5 ⟨A5, n5, c5, rfl, HP5, HR5, HB5⟩
          have hb5 := (HB5.out.block _ (lt_of_block HBO.out)).trans HBO.out
          have hz5 : wr.heap.size < w5.heap.size := lt_of_block hb5
          have hm5 : bm < w5.heap.size := by omega
          have hz5a : ¬ w5.heap.size = wr.heap.size := by omega
          have hz5b : ¬ wr.heap.size = w5.heap.size := by omega
          have hz5c : ¬ w5.heap.size = bm := by omega
          have hz5d : ¬ bm = w5.heap.size := by omega
          clear x0 x1 x2 x3 o0 o1 o2 o3 o4 o5 HDO P0
          obtain ⟨o0, o1, o2, o3, o4, o5⟩ := six_cells hb5
          obtain ⟨x0, x1, x2, x3⟩ := HP5.out.cells
          clear hb5
          have HP7 := Lib.hid ((HP5.out.store (sm' := st') HR5.out).go (box_below _ (.cells #[.int .i64 st'.power, .slice A5 n5 c5] 41)))
          go_wp2_with fail
          refine (HAC.out _ _ _ HP7.out).mono ?_
          rintro e w8 ⟨F8, rfl, HP8⟩
          have HN8 := Lib.hid (HNX.out _ _ _ HP8.out)
          clear x0 x1 x2 x3 o0 o1 o2 o3 o4 o5 HP7 HAC HNX HP5 HR5
          go_wp2
          go_meet
          exact ⟨p, F8, _, _, rfl, HN8⟩
      case rest =>
        obtain ⟨p', F', st', v', rfl, HP'⟩ := hcut
        clear d0 d1 d2 d3 d4 d5 P0 HBO HDO HAC HNX HCR HKI HC1
        have hc' : Calm st'.files (k + 1) 5000 := HP'.out.calm.mono (Nat.le_refl _) (by have := sizeO_take os (k + 1); omega)
        obtain ⟨R, hR⟩ : ∃ R, R = rdR (stFind st' s.data.toList) := ⟨_, rfl⟩
        have hr1 := HP'.out.pair.read hc' (by omega) hsn
        have hr2 := fun (w : World) (hw : Pair W w p' st' F' bm st' v') => hw.rread hc' (by omega) hsn
        simp only [← hR] at hr1 hr2
        clear hR
        obtain ⟨D, er⟩ := R
        simp only at hr1 hr2
        have HR1 := Lib.hid hr1; have HR2 := Lib.hid hr2; have HC2 := Lib.hid hc'
        clear hr1 hr2 hc'
        obtain ⟨x0, x1, x2, x3⟩ := HP'.out.pair.cells
        go_wp2_with fail
        refine HR1.out.mono ?_
        rintro e w6 ⟨A6, c6, rfl, HS6, HB6⟩
        have HP6 := Lib.hid (HP'.out.go HB6.out)
        clear x0 x1 x2 x3 HR1 HP'
        obtain ⟨x0, x1, x2, x3⟩ := HP6.out.pair.cells
        go_wp2_with fail
        refine (HR2.out _ HP6.out.pair).mono ?_
        rintro e w7 ⟨A7, c7, rfl, HS7, HB7⟩
        have HP7 := Lib.hid (HP6.out.go HB7.out)
        have HS67 := Lib.hid ((HS6.out.below HB7.out).more HB7.out.size)
        clear x0 x1 x2 x3 HR2 HP6 HS6
        obtain ⟨x0, x1, x2, x3⟩ := HP7.out.pair.cells
        go_wp2_with fail
        refine (HP7.out.pair.same HC2.out (by omega) (by omega)).mono ?_
        rintro e w8 ⟨rfl, HB8⟩
        have HP8 := Lib.hid (HP7.out.go HB8.out)
        clear x0 x1 x2 x3 HP7
        have hsb := sameBytes_any _ _ _ _ w8.heap.size w8 ((HS67.out.below HB8.out).more HB8.out.size) ((HS7.out.below HB8.out).more HB8.out.size)
        rw [decide_eq_true rfl] at hsb
        have HSB := Lib.hid hsb; clear hsb
        go_wp2_with fail
        refine HSB.out.mono ?_
        rintro e w9 ⟨rfl, n9, rfl⟩
        have HP9 := Lib.hid (HP8.out.go (below_drewN (Below.refl _ w8) n9))
        clear HSB HP8
        go_wp2
        go_roundw
        case rel => exact ⟨k + 1, p', F', st', v', by omega, rfl, by go_num, HP9⟩
        case measure => simp [intOf]; omega
    · have hbel := Lib.hid HP.out.pair.held.below
      go_wp2
      go_ret
      exact ⟨rfl, hbel.out⟩
end Go.Proofs.Ytpdelgjfamelfaa
