import Derived.Test.YtpdelgjfamelfaaV27
namespace Go.Proofs.Ytpdelgjfamelfaa
open Go.RowKit Go.Lib Go.Vfs Go.Par
set_option linter.unusedVariables false
set_option linter.unusedSimpArgs false

set_option maxRecDepth 20000 in
set_option maxHeartbeats 2000000 in
theorem vfsPower_walk (power : Int) (hpw0 : -9223372036854775808 ≤ power ∧ power ≤ 9223372036854775807) (v : Value) (os0 : List OpR) (hs : sizeO os0 ≤ 1048576) (W : World) (h : SegO W W.heap.size v os0) :
    Calls Try.prog 8 #[.int .i64 power, v] W fun e W' => e = .returned (.bool true) ∧ Below W.heap.size W W' := by
  have hpw := hpw0.2
  clear hpw0
  obtain ⟨A0, c0, rfl, -, -⟩ := h.form
  have HS := Lib.hid h; clear h
  have hB : W.heap.size ≤ W.heap.size := Nat.le_refl _
  go_enter Try.func8, Try.ntmps8
  go_wp2_with fail
  refine (alive_any W).mono ?_
  rintro e w1 ⟨rfl, hb1⟩
  have HB1 := Lib.hid hb1
  go_wp2_with fail
  refine (cut_any _ os0 W.heap.size w1 (HS.out.below hb1)).mono ?_
  rintro e w1' ⟨u, rfl, hu, rfl⟩
  have hs' : sizeO (os0.take 60) ≤ 1048576 := Nat.le_trans (sizeO_take os0 60) hs
  have hl60 : (os0.take 60).length ≤ 60 := by simp; omega
  generalize os0.take 60 = os at *
  clear hs HS hb1
  obtain ⟨A, c, rfl, hlc, hcm⟩ := hu.form
  have HU := Lib.hid hu; have HU4 := Lib.hid (hu.back HB1.out); clear hu
  go_wp2_with fail
  refine (great_any _ os _ w1' HU.out (by omega)).mono ?_
  rintro e w2 ⟨rfl, n2, rfl⟩
  by_cases hg : 5000 < sizeO os
  · rw [decide_eq_true hg]
    go_wp2
    go_ret
    exact ⟨rfl, below_drewN HB1.out _⟩
  rw [decide_eq_false hg]
  by_cases hp0 : power < 0
  · go_wp2
    go_ret
    exact ⟨rfl, below_drewN HB1.out _⟩
  go_wp2_with fail
  refine (new_fs power _).mono ?_
  rintro e w3 ⟨p, F3, rfl, hfs3, hF3, hb3⟩
  have hs1 : W.heap.size ≤ w1'.heap.size := HB1.out.size
  have H3 : Hid (Held W.heap.size W w3 p ⟨power, []⟩ F3) := Lib.hid ⟨hfs3, fun k hk => Nat.le_trans hs1 (hF3 k hk).1, (below_drewN HB1.out n2).trans (hb3.mono hs1)⟩
  clear hfs3 hF3 hb3 HB1
  go_wp2_with fail
  refine (new_fs (-1) _).mono ?_
  rintro e w4 ⟨q, G4, rfl, hfs4, hF4, hb4⟩
  have H4 : Hid (Two W.heap.size W w4 p ⟨power, []⟩ F3 q ⟨-1, []⟩ G4) := Lib.hid ⟨H3.out.go hB hb4, hfs4, fun k hk => Nat.le_trans (H3.out.size hB) (hF4 k hk).1, fun k hf hg => by have := H3.out.fs.lt k hf; have := (hF4 k hg).1; omega⟩
  clear hfs4 hF4 hb4 H3
  clear HU
  go_wp2
  go_loopw [7, 8] (fun l i wr => ∃ (k : Nat) (fs : List File) (F G : Nat → Prop) (left : Int), k ≤ os.length ∧ i = .int .i64 k ∧ l = .int .i64 left ∧ Hid (PowI W wr os power k p F q G left fs)) (fun _ i _ => os.length - (intOf i).toNat)
  case atStart => exact ⟨0, [], F3, G4, power, by omega, rfl, rfl, Lib.hid ⟨H4.out, Calm.nil, by omega, hpw⟩⟩
  case round =>
    obtain ⟨k, fs, F, G, left, hk, rfl, rfl, HP⟩ := hrel
    have hl0 := HP.out.left0
    have hl1 := HP.out.left1
    by_cases hlt : k < os.length
    · have hop := HU4.out.op k hlt
      have hopr : OpAt wr W.heap.size os[k] := hop.below HP.out.two.one.below
      obtain ⟨b, off, rfl, hb, hsix⟩ := HU4.out.six k hlt
      replace hsix : Six wr b (off + k * 6) os[k] := hsix.kept (F := fun k => ¬ k < W.heap.size) ⟨HP.out.two.one.below.os, HP.out.two.one.below.tape, HP.out.two.one.below.output, HP.out.two.one.below.size, fun k _ hk => HP.out.two.one.below.block k (by omega)⟩ (by omega) (by omega)
      obtain ⟨⟨A1, n1, c1, hpv⟩, A2, n2, c2, hkv⟩ := hop.forms
      have hsz := sizeO_nth os k hlt
      have HSZ := Lib.hid (sizeO_succ os k hlt)
      generalize os[k] = o at *
      obtain ⟨what, n, name, other, pv, kv, parts, keeps⟩ := o
      simp only at hpv hkv hsz
      subst hpv hkv
      obtain ⟨d0, d1, d2, d3, d4, d5⟩ := hsix
      simp only [Nat.add_zero] at d0 d1 d2 d3 d4 d5
      have HOP := Lib.hid hop; have HOPR := Lib.hid hopr; clear hop hopr
      by_cases hc1 : what < 1
      · go_wp2
        go_roundw
        case rel => exact ⟨k + 1, fs, F, G, left, by omega, by go_num, rfl, Lib.hid (HP.out.same (HP.out.two.go hB (box_below wr _)) hlt)⟩
        case measure => simp [intOf]; omega
      by_cases hc2 : 5 < what
      · go_wp2
        go_roundw
        case rel => exact ⟨k + 1, fs, F, G, left, by omega, by go_num, rfl, Lib.hid (HP.out.same (HP.out.two.go hB (box_below wr _)) hlt)⟩
        case measure => simp [intOf]; omega
      have hcall : Call ⟨what, n, name, other, .slice A1 n1 c1, .slice A2 n2 c2, parts, keeps⟩ := ⟨by simp only; omega, by simp only; omega⟩
      have T5 := HP.out.two.go hB (box_below wr (.cells #[.int .i64 what, .int .i64 n, .string name, .string other, .slice A1 n1 c1, .slice A2 n2 c2] 44))
      have hszW : W.heap.size ≤ wr.heap.size := HP.out.two.one.size hB
      have hop5 := HOPR.out.below ((box_below wr (.cells #[.int .i64 what, .int .i64 n, .string name, .string other, .slice A1 n1 c1, .slice A2 n2 c2] 44)).mono hszW)
      have hcalm := HP.out.calm
      have hmod : Modest ⟨left, fs⟩ (sizeP parts) := hcalm.modest hl1 (by omega) (by omega)
      have hmod' : Modest ⟨-1, fs⟩ (sizeP parts) := hcalm.modest (by simp only; decide) (by omega) (by omega)
      have hact := act_any _ p ⟨left, fs⟩ F T5.one.fs _ W.heap.size (T5.one.size hB) T5.one.new hop5 hmod (by simp only; omega)
      have h6 := cells_alloc6 wr ⟨what, n, name, other, .slice A1 n1 c1, .slice A2 n2 c2, parts, keeps⟩ 44
      have HC := Lib.hid hcall; have HA := Lib.hid hact; have HT5 := Lib.hid T5; have HO5 := Lib.hid hop5; have H6 := Lib.hid h6; have HM := Lib.hid hmod'; have HCM := Lib.hid hcalm
      clear hcall hact T5 hop5 h6 hmod hmod' hcalm HOP HOPR
      by_cases hleft : left = 0
      · subst hleft
        have hr : ∃ er : Int, er ≠ 0 ∧ actSt ⟨0, fs⟩ ⟨what, n, name, other, .slice A1 n1 c1, .slice A2 n2 c2, parts, keeps⟩ = (⟨0, fs⟩, er) := by
          cases hf : actF fs ⟨what, n, name, other, .slice A1 n1 c1, .slice A2 n2 c2, parts, keeps⟩ with
          | error e => exact ⟨e, (actSt_err HC.out hf 0).2, (actSt_err HC.out hf 0).1⟩
          | ok fs' => exact ⟨13, by decide, by rw [actSt_ok HC.out hf 0]; rfl⟩
        obtain ⟨er, hne, hst⟩ := hr
        rw [hst] at HA
        clear hst
        go_wp2_with fail
        refine HA.out.mono ?_
        rintro e w6 ⟨F6, rfl, g1, g2, g3⟩
        have HT6 := Lib.hid (HT5.out.op hB g1 g2 g3)
        clear g1 g2 g3
        go_wp2
        go_roundw
        case rel => exact ⟨k + 1, fs, F6, G, 0, by omega, by go_num, rfl, Lib.hid (HP.out.same HT6.out hlt)⟩
        case measure => simp [intOf]; omega
      cases hf : actF fs ⟨what, n, name, other, .slice A1 n1 c1, .slice A2 n2 c2, parts, keeps⟩ with
      | error er =>
        have hne := (actSt_err HC.out hf 0).2
        have hst := (actSt_err HC.out hf left).1
        have hst' := (actSt_err HC.out hf (-1)).1
        rw [hst] at HA
        clear hst hf
        go_wp2_with fail
        refine HA.out.mono ?_
        rintro e w6 ⟨F6, rfl, g1, g2, g3⟩
        have T6 := HT5.out.op hB g1 g2 g3
        have hx := H6.out.kept g2 (by simp) (fun hf => by have := HP.out.two.one.fs.lt _ hf; omega)
        have hact := act_any _ q ⟨-1, fs⟩ G T6.two _ W.heap.size (T6.one.size hB) T6.new (HO5.out.below (g2.below (HT5.out.one.size hB) HT5.out.one.new)) HM.out (by simp only; omega)
        rw [hst'] at hact
        obtain ⟨x0, x1, x2, x3, x4, x5⟩ := hx
        simp only [Nat.zero_add] at x0 x1 x2 x3 x4 x5
        have HT6 := Lib.hid T6; have HA6 := Lib.hid hact
        clear g1 g2 g3 T6 hact hst'
        go_wp2_with fail
        refine HA6.out.mono ?_
        rintro e w7 ⟨G7, rfl, g1, g2, g3⟩
        have HT7 := Lib.hid (HT6.out.swap.op hB g1 g2 g3).swap
        clear g1 g2 g3 x0 x1 x2 x3 x4 x5
        go_wp2
        go_roundw
        case rel => exact ⟨k + 1, fs, F6, G7, left, by omega, by go_num, rfl, Lib.hid (HP.out.same HT7.out hlt)⟩
        case measure => simp [intOf]; omega
      | ok fs' =>
        have hst : actSt ⟨left, fs⟩ ⟨what, n, name, other, .slice A1 n1 c1, .slice A2 n2 c2, parts, keeps⟩ = (⟨left - 1, fs'⟩, 0) := by
          rw [actSt_ok HC.out hf left]
          unfold doSt dec
          rw [if_neg hleft, if_pos (by simp only; omega)]
        have hst' : actSt ⟨-1, fs⟩ ⟨what, n, name, other, .slice A1 n1 c1, .slice A2 n2 c2, parts, keeps⟩ = (⟨-1, fs'⟩, 0) := by
          rw [actSt_ok HC.out hf (-1)]; rfl
        rw [hst] at HA
        have hcalm' := HCM.out.actF hf
        have hcalm2 : Calm fs' (k + 1) (sizeO (os.take (k + 1))) := hcalm'.mono (Nat.le_refl _) (by have := flat_sizeP parts; have := HSZ.out; simp only at this ⊢; omega)
        have HCM2 := Lib.hid hcalm2
        clear hst hf hcalm' hcalm2
        go_wp2_with fail
        refine HA.out.mono ?_
        rintro e w6 ⟨F6, rfl, g1, g2, g3⟩
        have T6 := HT5.out.op hB g1 g2 g3
        have hx := H6.out.kept g2 (by simp) (fun hf => by have := HP.out.two.one.fs.lt _ hf; omega)
        have hact := act_any _ q ⟨-1, fs⟩ G T6.two _ W.heap.size (T6.one.size hB) T6.new (HO5.out.below (g2.below (HT5.out.one.size hB) HT5.out.one.new)) HM.out (by simp only; omega)
        rw [hst'] at hact
        obtain ⟨x0, x1, x2, x3, x4, x5⟩ := hx
        simp only [Nat.zero_add] at x0 x1 x2 x3 x4 x5
        have HT6 := Lib.hid T6; have HA6 := Lib.hid hact
        clear g1 g2 g3 T6 hact hst'
        go_wp2_with fail
        refine HA6.out.mono ?_
        rintro e w7 ⟨G7, rfl, g1, g2, g3⟩
        have HT7 := Lib.hid (HT6.out.swap.op hB g1 g2 g3).swap
        clear g1 g2 g3 x0 x1 x2 x3 x4 x5
        go_wp2
        go_roundw
        case rel => exact ⟨k + 1, fs', F6, G7, left - 1, by omega, by go_num, rfl, Lib.hid ⟨HT7.out, HCM2.out, by omega, by omega⟩⟩
        case measure => simp [intOf]; omega
    · have hcalm := HP.out.calm
      have hn : ∀ f ∈ fs, f.name.length ≤ 100000 := fun f hf => by have := name_len (hcalm.names f hf); omega
      have hfl : fs.length ≤ 100000 := by have := hcalm.files; omega
      have HN := Lib.hid hn; clear hn hcalm
      go_wp2_with fail
      refine (names_any wr p ⟨left, fs⟩ F HP.out.two.one.fs hfl HN.out).mono ?_
      rintro e w5 ⟨v5, rfl, hv5, hb5⟩
      have HT5 := Lib.hid (HP.out.two.go hB hb5)
      obtain ⟨A5, c5, hf5⟩ := hv5.form
      have HV5 := Lib.hid hv5
      clear hv5 hb5
      subst hf5
      go_wp2_with fail
      refine (names_any w5 q ⟨-1, fs⟩ G HT5.out.two hfl HN.out).mono ?_
      rintro e w6 ⟨v6, rfl, hv6, hb6⟩
      have HT6 := Lib.hid (HT5.out.go hB hb6)
      have s5 := (Own.seg HV5.out).below hb6
      have s6 := Own.seg hv6
      obtain ⟨A6, c6, hf6⟩ := hv6.form
      have hz6 := hb6.size
      have HS5 := Lib.hid (s5.more hz6); have HS6 := Lib.hid s6
      clear hv6 hb6 s5 s6 hz6
      subst hf6
      go_wp2_with fail
      refine (sameTexts_any _ _ (fs.map File.name) (fs.map File.name) _ _ HS5.out HS6.out).mono ?_
      rintro e w7 ⟨rfl, n7, rfl⟩
      rw [decide_eq_true rfl]
      go_wp2
      go_ret
      exact ⟨rfl, below_drewN HT6.out.one.below _⟩
end Go.Proofs.Ytpdelgjfamelfaa
