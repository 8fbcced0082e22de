/- VfsCrash. -/
import Derived.Test.YtpdelgjfamelfaaV44
namespace Go.Proofs.Ytpdelgjfamelfaa
open Go.RowKit Go.Lib Go.Vfs Go.Par
set_option linter.unusedVariables false
set_option linter.unusedSimpArgs false

set_option maxRecDepth 100000 in
set_option maxHeartbeats 8000000 in
theorem vfsCrash_walk (v : Value) (os0 : List OpR) (hs : sizeO os0 ≤ 1048576) (vk : Value) (keeps0 : List Int) (hkl : keeps0.length ≤ 1048576) (W : World) (h : SegO W W.heap.size v os0) (hkp : Seg W W.heap.size vk (ints keeps0)) :
    Calls Try.prog 6 #[v, vk] W fun e W' => e = .returned (.bool true) ∧ Below W.heap.size W W' := by
  obtain ⟨A0, c0, rfl, -, -⟩ := h.form
  obtain ⟨Ak, ck, rfl, -⟩ := hkp.open_ints
  have HS := Lib.hid h; clear h
  have HK := Lib.hid hkp; clear hkp
  have hB : W.heap.size ≤ W.heap.size := Nat.le_refl _
  go_enter Try.func6, Try.ntmps6
  go_wp2_with fail
  refine (alive_any W).mono ?_
  rintro e w1 ⟨rfl, hb1⟩
  have HB1 := Lib.hid hb1
  go_wp2_with fail
  refine (cut_any _ os0 W.heap.size w1 (HS.out.below hb1)).mono ?_
  rintro e w1' ⟨u, rfl, hu, rfl⟩
  have hs' : sizeO (os0.take 60) ≤ 1048576 := Nat.le_trans (sizeO_take os0 60) hs
  have hl60 : (os0.take 60).length ≤ 60 := by simp; omega
  generalize os0.take 60 = os at *
  clear hs HS hb1
  obtain ⟨A, c, rfl, hlc, hcm⟩ := hu.form
  have HU := Lib.hid hu; have HU4 := Lib.hid (hu.back HB1.out); clear hu
  go_wp2_with fail
  refine (great_any _ os _ w1' HU.out (by omega)).mono ?_
  rintro e w2 ⟨rfl, n2, rfl⟩
  by_cases hg : 5000 < sizeO os
  · rw [decide_eq_true hg]
    go_wp2
    go_ret
    exact ⟨rfl, below_drewN HB1.out _⟩
  rw [decide_eq_false hg]
  go_wp2_with fail
  refine (new_fs (-1) _).mono ?_
  rintro e w3 ⟨p, F3, rfl, hfs3, hF3, hb3⟩
  have hs1 : W.heap.size ≤ w1'.heap.size := HB1.out.size
  have H3 : Held W.heap.size W w3 p ⟨-1, []⟩ F3 := ⟨hfs3, fun k hk => Nat.le_trans hs1 (hF3 k hk).1, (below_drewN HB1.out n2).trans (hb3.mono hs1)⟩
  have HP0 : Hid (StepI W (w3.alloc (.cells #[.int .i64 (-1), .slice none 0 0] 41)) os 0 p F3 w3.heap.size ⟨-1, []⟩ (.slice none 0 0)) := Lib.hid ⟨⟨H3.go hB (box_below w3 _), heap_alloc_new w3 _, H3.size hB, fun hf => by have := H3.fs.lt _ hf; omega, RefS.nil _ _⟩, Calm.nil, by simp only; decide⟩
  clear hfs3 hF3 hb3 HB1 H3 HU
  obtain ⟨bm, hbm⟩ : ∃ bm, bm = w3.heap.size := ⟨_, rfl⟩
  have HBM := Lib.hid hbm
  go_wp2
  rw [← hbm] at HP0
  rw [← hbm]
  clear hbm
  go_loopw [7] (fun i wr => ∃ (k : Nat) (F : Nat → Prop) (st : St) (v : Value), k ≤ os.length ∧ i = .int .i64 k ∧ Hid (StepI W wr os k p F bm st v)) (fun i _ => os.length - (intOf i).toNat)
  case atStart => exact ⟨0, F3, _, _, by omega, rfl, HP0⟩
  case round =>
    clear HP0
    obtain ⟨k, F, st, v, hk, rfl, HP⟩ := hrel
    by_cases hlt : k < os.length
    · have hop := HU4.out.op k hlt
      obtain ⟨b, off, rfl, hb, hsix0⟩ := HU4.out.six k hlt
      have hthere : ∀ w (_ : Below W.heap.size W w), Six w b (off + k * 6) os[k] := fun w hbel => hsix0.kept (F := fun k => ¬ k < W.heap.size) ⟨hbel.os, hbel.tape, hbel.output, hbel.size, fun k _ hk => hbel.block k (by omega)⟩ (by omega) (by omega)
      have hbw : b < wr.heap.size := by have := HP.out.pair.sz; omega
      obtain ⟨⟨A1, n1, c1, hpv⟩, A2, n2, c2, hkv⟩ := hop.forms
      have hsz := sizeO_nth os k hlt
      have hc1 : Calm st.files k 5000 := HP.out.calm.mono (Nat.le_refl _) (by have := sizeO_take os k; omega)
      have hfl := flat_sizeP os[k].parts
      have hact := HP.out.pair.act hop (hc1.modest HP.out.power (by omega) (by omega)) (by omega)
      have hdoes := fun (w : World) (s' : St) (F' : Nat → Prop) (hw : Pair W w p s' F' bm st v) => hw.does hop HP.out.power (Nat.le_trans hc1.files (by omega)) (fun f hf => by have := hc1.data f hf; omega) (by omega)
      have hnext := fun (w' : World) (F' : Nat → Prop) (v' : Value) (hp' : Pair W w' p (actSt st os[k]).1 F' bm (actSt st os[k]).1 v') => HP.out.act hlt hp'
      generalize os[k] = o at *
      obtain ⟨what, n, name, other, pv, kv, parts, keeps⟩ := o
      simp only at hpv hkv hact hdoes hnext
      subst hpv hkv
      obtain ⟨d0, d1, d2, d3, d4, d5⟩ := hthere wr HP.out.pair.held.below
      simp only [Nat.add_zero] at d0 d1 d2 d3 d4 d5
      generalize actSt st ⟨what, n, name, other, .slice A1 n1 c1, .slice A2 n2 c2, parts, keeps⟩ = r at *
      obtain ⟨st', er⟩ := r
      simp only at hact hdoes hnext
      have HT := Lib.hid hthere; have HDO := Lib.hid hdoes; have HAC := Lib.hid hact; have HNX := Lib.hid hnext
      clear hthere hsix0 hdoes hact hnext hop hc1 HP
      go_wp2_with fail
      refine HAC.out.mono ?_
      rintro e w4 ⟨F4, rfl, HP4⟩
      have HD4 := Lib.hid (HDO.out _ _ _ (HP4.out.go ((Below.refl _ w4).drew)))
      clear d0 d1 d2 d3 d4 d5 HAC HDO
      obtain ⟨d0, d1, d2, d3, d4, d5⟩ := HT.out w4 HP4.out.held.below
      simp only [Nat.add_zero] at d0 d1 d2 d3 d4 d5
      obtain ⟨x0, x1, x2, x3⟩ := HP4.out.cells
      go_upto_region 14 with fail
      go_region_with (first
        | (go_at_call 26; refine HD4.out.mono ?_; rintro e w5 ⟨A5, n5, c5, rfl, HP5, HR5, HB5⟩; obtain ⟨y0, y1, y2, y3⟩ := HP5.out.cells; have HP6 := Lib.hid (HP5.out.store (sm' := st') HR5.out)))
      all_goals (
        have HN6 := Lib.hid (HNX.out _ _ _ HP6.out)
        clear d0 d1 d2 d3 d4 d5 x0 x1 x2 x3 y0 y1 y2 y3 HP4 HD4 HNX HT
        go_wp2
        go_roundw
        case rel => exact ⟨k + 1, F4, st', _, by omega, by go_num, HN6⟩
        case measure => simp [intOf]; omega)
    · have hc1 : Calm st.files k 5000 := HP.out.calm.mono (Nat.le_refl _) (by have := sizeO_take os k; omega)
      have PR := Lib.hid HP.out.pair; have HC1 := Lib.hid hc1; have HC2 := Lib.hid (hc1.crash keeps0 0)
      clear hc1 HP HU4
      go_wp2_with fail
      refine (copyInts_big _ keeps0 W.heap.size wr (HK.out.below PR.out.held.below) PR.out.sz (by omega)).mono ?_
      rintro e w4 ⟨u4, rfl, hu4, hb4⟩
      obtain ⟨A4, c4, hf4⟩ := hu4.form
      rw [ints_length] at hf4
      subst hf4
      have P4 := Lib.hid (PR.out.go hb4)
      have S4 := Lib.hid (Own.seg hu4)
      clear hu4 hb4 PR
      go_wp2_with fail
      refine (P4.out.crash HC1.out (by omega) (by omega) S4.out 2).mono ?_
      rintro e w5 ⟨p5, F5, rfl, HG5, HP5, HB5⟩
      have S5 := Lib.hid ((S4.out.below HB5.out).more HB5.out.size)
      clear P4 S4
      obtain ⟨x0, x1, x2, x3⟩ := HP5.out.cells
      go_wp2_with fail
      refine (HG5.out.rcrash HC1.out (by omega) (by omega) ((HK.out.below HG5.out.held.below).more HG5.out.sz) 2).mono ?_
      rintro e w6 ⟨A6, n6, c6, rfl, HG6, HR6, HB6⟩
      have P6 := Lib.hid (HP5.out.go HB6.out)
      have S6 := Lib.hid ((S5.out.below HB6.out).more HB6.out.size)
      clear x0 x1 x2 x3 HP5 HG5 S5
      go_wp2_with fail
      refine (same_any (stCrash st keeps0 2) p5 F5 _ _ w6 HG6.out.held.fs (fun b hb => hb.2.1) HR6.out k 5000 HC2.out (by omega) (by omega)).mono ?_
      rintro e w7 ⟨rfl, hb7⟩
      have P7 := Lib.hid (P6.out.go hb7)
      have S7 := Lib.hid ((S6.out.below hb7).more hb7.size)
      clear hb7 P6 S6 HG6 HR6
      obtain ⟨x0, x1, x2, x3⟩ := P7.out.cells
      go_wp2_with fail
      refine (P7.out.same HC1.out (by omega) (by omega)).mono ?_
      rintro e w8 ⟨rfl, HB8⟩
      have P8 := Lib.hid (P7.out.go HB8.out)
      have S8 := Lib.hid ((S7.out.below HB8.out).more HB8.out.size)
      clear x0 x1 x2 x3 P7 S7
      have hsi := sameInts_any _ _ _ _ w8.heap.size w8 S8.out ((HK.out.below P8.out.held.below).more P8.out.sz)
      rw [decide_eq_true rfl] at hsi
      have HSI := Lib.hid hsi; clear hsi
      go_wp2_with fail
      refine HSI.out.mono ?_
      rintro e w9 ⟨rfl, n9, rfl⟩
      go_wp2
      go_ret
      exact ⟨rfl, below_drewN P8.out.held.below _⟩
end Go.Proofs.Ytpdelgjfamelfaa
