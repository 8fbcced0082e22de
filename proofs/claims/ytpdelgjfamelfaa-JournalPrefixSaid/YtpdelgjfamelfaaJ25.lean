/- JournalPrefix, walked. -/
import Derived.Test.YtpdelgjfamelfaaJ24
import Derived.Deep.CutRange
namespace Go.Proofs.Ytpdelgjfamelfaa
open Go.RowKit Go.Lib Go.Vfs Go.Par Go.Shelf
set_option linter.unusedVariables false
set_option linter.unusedSimpArgs false

set_option maxRecDepth 100000 in
set_option maxHeartbeats 4000000 in
theorem journalPrefix_walk (va : Value) (xa : List (List UInt8)) (ha : RowsOk xa) (vb : Value) (xb : List (List UInt8)) (hb : RowsOk xb) (kv : Value) (ks : List Int) (hks : ks.length ≤ 17592186043904) (pw : Int) (hpw : -9223372036854775808 ≤ pw ∧ pw ≤ 9223372036854775807) (W : World)
    (ga : RowsAt (· < W.heap.size) W va xa) (gb : RowsAt (· < W.heap.size) W vb xb) (gk : Seg W W.heap.size kv (ints ks)) :
    Calls Try.prog 12 #[va, vb, kv, .int .i64 pw] W fun e W' => e = .returned (.bool true) ∧ Below W.heap.size W W' := by
  obtain ⟨A, c, rfl, hca, hma, HRA⟩ := ga.open_
  obtain ⟨A', c', rfl, hcb, hmb, HRB⟩ := gb.open_
  obtain ⟨K, kc, rfl, hkc, hkm, -⟩ := gk.open_ints
  have GA := Lib.hid ga; have GB := Lib.hid gb; have GK := Lib.hid gk; have HA := Lib.hid ha; have HB := Lib.hid hb; have HKS := Lib.hid hks
  have hla := ha.1
  have hlb := hb.1
  clear ga gb gk ha hb hks hpw
  go_enter Try.func12, Try.ntmps12
  go_wp2_with fail
  refine (jalive_any W).mono ?_
  rintro e w1 ⟨rfl, hb1⟩
  have hgr := great2_any w1 A A' c c' xa xb (GA.out.keep fun b hb => ⟨Nat.lt_of_lt_of_le hb hb1.size, hb1.block b hb⟩) (GB.out.keep fun b hb => ⟨Nat.lt_of_lt_of_le hb hb1.size, hb1.block b hb⟩) HA.out HB.out
  have hb2 := Lib.hid (hb1.trans ((box_below w1 (.cells #[.int .i64 0, .int .i64 0, .slice A xa.length c, .slice none 0 0, .int .i64 0, .int .i64 0, .slice A' xb.length c', .slice none 0 0] 68)).mono hb1.size))
  clear hb1
  by_cases hsm : xa.length ≤ 60 ∧ xb.length ≤ 60 ∧ sizeR xa + sizeR xb ≤ 5000
  case neg =>
    have HG : Hid (Calls Try.prog 39 #[.slice (some ⟨w1.heap.size, 0, none⟩) 2 2] (w1.alloc (.cells #[.int .i64 0, .int .i64 0, .slice A xa.length c, .slice none 0 0, .int .i64 0, .int .i64 0, .slice A' xb.length c', .slice none 0 0] 68)) fun e w' => ∃ b, e = .returned (.bool b) ∧ Hid (Below W.heap.size W w' ∧ (xa.length ≤ 60 → xb.length ≤ 60 → b = true))) := Lib.hid (hgr.mono (by
      rintro e w' ⟨b, rfl, rfl, hb⟩
      refine ⟨b, rfl, Lib.hid ⟨hb2.out, fun h1 h2 => ?_⟩⟩
      rw [hb h1 h2]
      exact decide_eq_true (by omega)))
    have HNS := Lib.hid hsm
    clear hgr hsm hb2 HRA HRB
    by_cases h1 : (60 : Int) < (xa.length : Int)
    · go_wp2_with fail
      refine HG.out.mono ?_
      rintro e w3 ⟨b, rfl, HB3⟩
      cases b
      · go_wp2
        go_ret
        exact ⟨rfl, HB3.out.1⟩
      · go_wp2
        go_ret
        exact ⟨rfl, HB3.out.1⟩
    · by_cases h2 : (60 : Int) < (xb.length : Int)
      · go_wp2_with fail
        refine HG.out.mono ?_
        rintro e w3 ⟨b, rfl, HB3⟩
        cases b
        · go_wp2
          go_ret
          exact ⟨rfl, HB3.out.1⟩
        · go_wp2
          go_ret
          exact ⟨rfl, HB3.out.1⟩
      · go_wp2_with fail
        refine HG.out.mono ?_
        rintro e w3 ⟨b, rfl, HB3⟩
        have hbt : b = true := HB3.out.2 (by omega) (by omega)
        subst hbt
        go_wp2
        go_ret
        exact ⟨rfl, HB3.out.1⟩
  case pos =>
    obtain ⟨h60a, h60b, h5000⟩ := hsm
    have HG : Hid (Calls Try.prog 39 #[.slice (some ⟨w1.heap.size, 0, none⟩) 2 2] (w1.alloc (.cells #[.int .i64 0, .int .i64 0, .slice A xa.length c, .slice none 0 0, .int .i64 0, .int .i64 0, .slice A' xb.length c', .slice none 0 0] 68)) fun e w' => e = .returned (.bool false) ∧ Hid (Below W.heap.size W w')) := Lib.hid (hgr.mono (by
      rintro e w' ⟨b, rfl, rfl, hb⟩
      rw [hb h60a h60b, decide_eq_false (by omega)]
      exact ⟨rfl, hb2⟩))
    have HSM := Lib.hid (And.intro h60a (And.intro h60b h5000))
    have HLA : Hid (∀ l ∈ xa, l.length ≤ 5000) := Lib.hid fun l hl => by have := sizeR_mem hl; omega
    have HLB : Hid (∀ l ∈ xb, l.length ≤ 5000) := Lib.hid fun l hl => by have := sizeR_mem hl; omega
    have h60a' : ¬ (60 : Int) < (xa.length : Int) := by omega
    have h60b' : ¬ (60 : Int) < (xb.length : Int) := by omega
    clear hgr h5000 hb2 hla hlb
    go_wp2_with fail
    refine HG.out.mono ?_
    rintro e w2 ⟨rfl, HB2⟩
    clear HG
    go_wp2_with fail
    refine (new_fs (-1) w2).mono ?_
    rintro e w3 ⟨p, F, rfl, hfs, hF, hb3⟩
    have hop := jopen_any w3 p ⟨-1, []⟩ F hfs Calm.nil (by omega) (by omega) (by decide)
    have HF : Hid (∀ k, F k → W.heap.size ≤ k) := Lib.hid fun k hk => Nat.le_trans HB2.out.size (hF k hk).1
    have HB3 := Lib.hid (HB2.out.trans (hb3.mono HB2.out.size)); have HOP := Lib.hid hop
    clear hfs hF hb3 hop HB2
    go_wp2_with fail
    refine HOP.out.mono ?_
    rintro e w4 hop
    obtain ⟨pj, F2, G2, rfl, h4⟩ := hop.fresh HB3.out HF.out
    have H4 := Lib.hid h4.pi
    clear hop h4 HOP HF HB3
    go_wp2
    go_loopw [12] (fun i wr => ∃ k : Nat, k ≤ xa.length ∧ i = .int .i64 k ∧ Hid (PI W wr pj p (xa.take k) 0 k (k * 6000))) (fun i _ => xa.length - (intOf i).toNat)
    case atStart => exact ⟨0, by omega, rfl, Lib.hid (by simpa using H4.out)⟩
    case round =>
      obtain ⟨k, hk, rfl, HPI⟩ := hrel
      have HBW := Lib.hid HPI.out.below
      by_cases hlt : k < xa.length
      · obtain ⟨b, off, Ak, ck, rfl, hbk, hcell, hseg⟩ := HRA.out wr HBW.out k hlt
        have htk : xa.take (k + 1) = xa.take k ++ [xa.getD k []] := by
          rw [List.take_succ_eq_append_getElem hlt, List.getD_eq_getElem?_getD, List.getElem?_eq_getElem hlt]; rfl
        have HTK := Lib.hid htk
        have hL : (xa.getD k []).length ≤ 5000 := by
          rw [List.getD_eq_getElem?_getD, List.getElem?_eq_getElem hlt]
          exact HLA.out _ (List.getElem_mem hlt)
        generalize xa.getD k [] = L at *
        have HSEG := Lib.hid hseg
        clear hseg htk
        go_wp2_with fail
        refine (copyBytes_any _ L W.heap.size wr HSEG.out HBW.out.size (by omega)).mono ?_
        rintro e w5 ⟨u5, rfl, hu5, hb5⟩
        have happ := HPI.out.append (fun _ => rfl) hb5 hu5 hL (by omega) (by have : k * 6000 ≤ 60 * 6000 := Nat.mul_le_mul_right _ (by omega); omega) (by simp; omega)
        obtain ⟨A5, c5, hf5⟩ := hu5.form
        have HAPP := Lib.hid happ
        clear hu5 hb5 happ hcell
        subst hf5
        go_wp2_with fail
        refine HAPP.out.mono ?_
        rintro e w6 ⟨rfl, HP6⟩
        go_wp2
        go_roundw
        case rel => exact ⟨k + 1, by omega, by go_num, Lib.hid (by rw [HTK.out, Nat.succ_mul]; exact HP6.out)⟩
        case measure => simp [intOf]; omega
      · have hkl : k = xa.length := by omega
        have hP1 := HPI.out
        rw [hkl, List.take_length] at hP1
        have HP1 := Lib.hid hP1
        have HKL := Lib.hid hkl
        obtain ⟨wo, rfl⟩ : ∃ wo : World, wo = wr := ⟨_, rfl⟩
        clear hP1 HPI hkl
        go_wp2_with fail
        refine (HP1.out.sync (by have := HSM.out.1; omega)).mono ?_
        rintro e w5 ⟨rfl, HP5⟩
        clear HP1 H4 HBW
        go_wp2
        go_loopw [13] (fun i wx => ∃ j : Nat, j ≤ xb.length ∧ i = .int .i64 j ∧ Hid (PI W wx pj p (xa ++ xb.take j) (encR 0 xa).length (100 + j) (500000 + j * 6000))) (fun i _ => xb.length - (intOf i).toNat)
        case atStart => exact ⟨0, by omega, rfl, Lib.hid (by
          obtain ⟨fs, F, G, h1, h2, h3⟩ := HP5.out
          rw [List.take_zero, List.append_nil]
          exact ⟨fs, F, G, h1, h2, h3.mono (by have := HSM.out.1; omega) (by have : xa.length * 6000 ≤ 60 * 6000 := Nat.mul_le_mul_right _ HSM.out.1; omega)⟩)⟩
        case round =>
          obtain ⟨j, hj, rfl, HPJ⟩ := hrel
          have HBW := Lib.hid HPJ.out.below
          by_cases hlt2 : j < xb.length
          · obtain ⟨b, off, Ak, ck, rfl, hbk, hcell, hseg⟩ := HRB.out _ HBW.out j hlt2
            have htk : xa ++ xb.take (j + 1) = (xa ++ xb.take j) ++ [xb.getD j []] := by
              rw [List.take_succ_eq_append_getElem hlt2, List.getD_eq_getElem?_getD, List.getElem?_eq_getElem hlt2, ← List.append_assoc]; rfl
            have HTK := Lib.hid htk
            have hL : (xb.getD j []).length ≤ 5000 := by
              rw [List.getD_eq_getElem?_getD, List.getElem?_eq_getElem hlt2]
              exact HLB.out _ (List.getElem_mem hlt2)
            generalize xb.getD j [] = L at *
            have HSEG := Lib.hid hseg
            clear hseg htk
            go_wp2_with fail
            refine (copyBytes_any _ L W.heap.size _ HSEG.out HBW.out.size (by omega)).mono ?_
            rintro e w7 ⟨u7, rfl, hu7, hb7⟩
            have happ := HPJ.out.append (fun h => by rw [(List.append_eq_nil_iff.1 h).1]; rfl) hb7 hu7 hL (by omega) (by have : j * 6000 ≤ 60 * 6000 := Nat.mul_le_mul_right _ (by omega); omega) (by simp; omega)
            obtain ⟨A7, c7, hf7⟩ := hu7.form
            have HAPP := Lib.hid happ
            clear hu7 hb7 happ hcell
            subst hf7
            go_wp2_with fail
            refine HAPP.out.mono ?_
            rintro e w8 ⟨rfl, HP8⟩
            go_wp2
            go_roundw
            case rel => exact ⟨j + 1, by omega, by go_num, Lib.hid (by rw [HTK.out, Nat.succ_mul]; exact HP8.out)⟩
            case measure => simp [intOf]; omega
          · have hjl : j = xb.length := by omega
            have hP2 := HPJ.out
            rw [hjl, List.take_length] at hP2
            obtain ⟨fs, F, G, h1, h2, h3⟩ := hP2
            have H1 := Lib.hid h1; have H2 := Lib.hid h2
            have H3 : Hid (Calm fs 200 1000000) := Lib.hid (h3.mono (by have := HSM.out.2.1; omega) (by have : xb.length * 6000 ≤ 60 * 6000 := Nat.mul_le_mul_right _ HSM.out.2.1; omega))
            clear h1 h2 h3 HPJ hjl HP5
            go_wp2_with fail
            refine (copyInts_big _ ks W.heap.size wr (GK.out.below HBW.out) HBW.out.size HKS.out).mono ?_
            rintro e w7 ⟨u7, rfl, hu7, hb7⟩
            obtain ⟨q, hq, hqe⟩ := and3 pw
            have hcr := crash_any w7 p ⟨-1, fs⟩ F (H1.out.jf.fs.below hb7) (by have := H3.out.files; simp only; omega) H3.out.short (fun f hf => by have := H3.out.data f hf; omega) u7 ks (Own.seg hu7) (q : Int)
            have H7 := Lib.hid (H1.out.below.trans (hb7.mono H1.out.below.size))
            obtain ⟨A7, c7, hf7⟩ := hu7.form
            have HCR := Lib.hid hcr
            have HQ := Lib.hid hq
            clear hu7 hb7 hcr hq
            subst hf7
            -- HERE
            obtain ⟨m, lg, hm1, hm2, hv, hrec, hnil⟩ := prefix_law (ks := ks) H2.out (fun l hl => by
              rcases List.mem_append.1 hl with h | h
              · have := HLA.out l h; omega
              · have := HLB.out l h; omega)
            obtain ⟨xs, hxs⟩ : ∃ xs, xs = xa ++ xb := ⟨_, rfl⟩
            obtain ⟨MX, hMX⟩ : ∃ MX, MX = (xa ++ xb).length := ⟨_, rfl⟩
            obtain ⟨RS, hRS⟩ : ∃ RS, RS = xs.take m := ⟨_, rfl⟩
            have HXS := Lib.hid hxs; have HMX := Lib.hid hMX
            have HMX' : Hid (MX = xs.length) := Lib.hid (by rw [hMX, hxs])
            have HM2 : Hid (m ≤ MX) := Lib.hid (by rw [hMX]; exact hm2)
            have HMXl : Hid (MX ≤ 120) := Lib.hid (by rw [hMX, List.length_append]; have := HSM.out.1; have := HSM.out.2.1; omega)
            have HRS' := Lib.hid hRS
            have HRL : Hid (RS.length = m) := Lib.hid (by rw [hRS, List.length_take, ← HMX'.out]; have := HM2.out; omega)
            have HRS : Hid (∀ l ∈ RS, l.length ≤ 5000) := Lib.hid fun l hl => by
              rw [hRS, hxs] at hl
              rcases List.mem_append.1 (List.mem_of_mem_take hl) with h | h
              · exact HLA.out l h
              · exact HLB.out l h
            rw [← hxs, ← hRS] at hrec
            have hm1' : (xa.length : Int) ≤ (m : Int) := by omega
            have hm2' : (m : Int) ≤ (MX : Int) := by rw [hMX]; omega
            have HV := Lib.hid hv; have HREC := Lib.hid hrec; have HNIL := Lib.hid hnil
            have HCM : Hid (Calm (crashL ks 0 fs) 200 1000000) := Lib.hid (H3.out.crash ks 0)
            clear hm1 hm2 hv hrec hnil hxs hMX hRS
            go_wp2_with fail
            refine HCR.out.mono ?_
            rintro e w8 ⟨p2, F8, rfl, hfs8, hF8, hb8⟩
            have HB8 := Lib.hid (H7.out.trans (hb8.mono H7.out.size))
            have HF8 : Hid (∀ k, F8 k → W.heap.size ≤ k) := Lib.hid fun k hk => by have := (hF8 k hk).1; have := H7.out.size; omega
            have hop8 := jopen_any w8 p2 ⟨(q : Int), crashL ks 0 fs⟩ F8 hfs8 HCM.out (by omega) (by omega) (by simp only; have := HQ.out; omega)
            have HOP8 := Lib.hid hop8
            clear hfs8 hF8 hb8 hop8 HCR
            by_cases hfail : logBad lg 0 = true ∧ q = 0
            · obtain ⟨hbad, hq0⟩ := hfail
              have hof := HV.out.opnD (g := 0) (ps := []) rfl hbad
              have HOF : Hid (Calls Try.prog 40 #[.pointer (some ⟨p2, 0, none⟩)] w8 fun e w' => e = .returned (.tuple #[.pointer none, .int .i64 13]) ∧ Hid (∃ F', Held W.heap.size W w' p2 ⟨0, crashL ks 0 fs⟩ F')) := Lib.hid (HOP8.out.mono (by
                intro e w' hpost
                rw [hq0, show ((0 : Nat) : Int) = 0 from rfl, hof] at hpost
                obtain ⟨h1, h2⟩ := hpost.failed HB8.out (Nat.le_refl _) HF8.out
                exact ⟨h1, Lib.hid h2⟩))
              clear hbad hq0 hof HOP8
              go_wp2_with fail
              refine HOF.out.mono ?_
              rintro e w9 ⟨rfl, HH9⟩
              obtain ⟨F9, hh9⟩ := HH9.out
              have hcr2 := crash_any w9 p2 ⟨0, crashL ks 0 fs⟩ F9 hh9.fs (by have := HCM.out.files; simp only; omega) HCM.out.short (fun f hf => by have := HCM.out.data f hf; omega) (.slice none 0 0) [] (Seg.nil _ _) (-1)
              have HH := Lib.hid hh9
              have HCR2 := Lib.hid hcr2
              clear hcr2 hh9 HH9 HOF
              go_wp2_with fail
              refine HCR2.out.mono ?_
              rintro e w10 ⟨p3, F10, rfl, hfs10, hF10, hb10⟩
              have HB10 := Lib.hid (HH.out.below.trans (hb10.mono HH.out.below.size))
              have HF10 : Hid (∀ k, F10 k → W.heap.size ≤ k) := Lib.hid fun k hk => by have := (hF10 k hk).1; have := HH.out.below.size; omega
              have hop10 := jopen_any w10 p3 ⟨-1, crashL [] 0 (crashL ks 0 fs)⟩ F10 hfs10 (HCM.out.crash [] 0) (by omega) (by omega) (by simp only; omega)
              obtain ⟨i1, i2, i3, hv2⟩ := HV.out.crash []
              simp only [Option.map_none] at hv2
              rw [HNIL.out] at hv2
              obtain ⟨fs5, e5, -⟩ := hv2.opn (g := 0) (ps := []) rfl
              rw [e5, HREC.out] at hop10
              have HOP10 : Hid (Calls Try.prog 40 #[.pointer (some ⟨p3, 0, none⟩)] w10 fun e w' => ∃ pjk, e = .returned (.tuple #[.pointer (some ⟨pjk, 0, none⟩), .int .i64 0]) ∧ Hid (∃ st F G, JH W.heap.size W w' pjk p3 st 0 [] RS F G)) := Lib.hid (hop10.mono (by
                intro e w' hpost
                obtain ⟨pjk, F', G', h1, h2⟩ := hpost.held HB10.out (Nat.le_refl _) HF10.out
                exact ⟨pjk, h1, Lib.hid ⟨_, F', G', h2⟩⟩))
              clear hfs10 hF10 hb10 hop10 hv2 e5 HCR2
              go_wp2_with fail
              refine HOP10.out.mono ?_
              rintro e wX ⟨pjk, rfl, HK⟩
              clear HOP10
              obtain ⟨st9, F9, G9, h9⟩ := HK.out
              have H9 := Lib.hid h9
              clear h9 HK
              go_wp2_with fail
              refine (copyRowsX_any _ xa W.heap.size wX (GA.out.keep fun b hb => ⟨hb, H9.out.below.block b hb⟩) H9.out.below.size (by have := HSM.out.1; omega) (fun l hl => by have := HLA.out l hl; omega)).mono ?_
              rintro e w10 ⟨u10, us10, rfl, hx10⟩
              have H10 := Lib.hid (H9.out.go (Nat.le_refl _) hx10.below)
              obtain ⟨A10, c10, hf10⟩ := hx10.own.form
              rw [hx10.len] at hf10
              have HX10 := Lib.hid hx10
              clear hx10
              subst hf10
              go_wp2_with fail
              refine (copyRowsX_any _ xb W.heap.size w10 (GB.out.keep fun b hb => ⟨hb, H10.out.below.block b hb⟩) H10.out.below.size (by have := HSM.out.2.1; omega) (fun l hl => by have := HLB.out l hl; omega)).mono ?_
              rintro e w11 ⟨u11, us11, rfl, hx11⟩
              obtain ⟨A11, c11, hf11⟩ := hx11.own.form
              rw [hx11.len] at hf11
              have HX11 := Lib.hid hx11
              have hown10 := HX10.out.own.below hx11.below
              have hsg11 := Own.seg hx11.own
              have hone11 := all_one hx11.len (fun i hi => hx11.cells i hi)
              have hz10 := HX10.out.below.size
              have hz11 := hx11.below.size
              have hl10 := HX10.out.len
              have hl11 := hx11.len
              clear hx11
              subst hf11
              go_wp2_with (at_builtin; refine wpList_app _ rfl _ _ _ rfl wX.heap.size 22 _ rowE _ _ rfl hown10 _ _ _ rfl hsg11 hone11 ?c1 ?c2 ?_)
              case c1 => omega
              case c2 => omega
              intro v12 w12 hown12 hg12 hat12
              have hwant := RowedX.join HX10.out HX11.out hown12 hg12 hat12
              obtain ⟨A12, c12, hf12⟩ := hown12.form
              have hl12 : (us10 ++ us11).length = MX := by rw [List.length_append, HMX.out, List.length_append]; omega
              rw [hl12] at hf12
              have H12 := Lib.hid (H9.out.go (Nat.le_refl _) hwant.below)
              have hwr := hwant.toRowed.rows
              rw [← HXS.out] at hwr
              rw [hf12] at hwr
              obtain ⟨hmc, hfr⟩ := hwr.front (m := m) (by rw [← HMX'.out]; exact HM2.out)
              have HFR := Lib.hid hfr
              have hsl : ∀ w', (Instr.slice 42 (.slice A12 MX c12) none (some (.int .i64 (m : Int))) none).run Try.prog w' = .ok (.slice A12 m c12) w' := fun w' => slice_frontR A12 MX c12 m w' hmc
              clear hown12 hg12 hat12 hwant hwr hfr hown10 hsg11 hone11 hz10 hz11 hl10 hl11 hl12 HX10 HX11 H9 H10
              subst hf12
              have hrec := jrecordsX_any H12.out.jf.js (by simp) (by rw [HRL.out]; have := HM2.out; have := HMXl.out; omega) (fun l hl => by cases hl) (fun l hl => by have := HRS.out l hl; omega)
              rw [List.nil_append, HRL.out] at hrec
              go_wp2_with fail
              refine hrec.mono ?_
              rintro e w13 ⟨u13, us13, rfl, hx13⟩
              have H13 := Lib.hid (H12.out.go (Nat.le_refl _) hx13.below)
              obtain ⟨A13, c13, hf13⟩ := hx13.own.form
              rw [hx13.len] at hf13
              have hG13 : RowsAt (· < w13.heap.size) w13 u13 RS := by
                have hgr13 : Rowed w12 RS RS.length u13 us13 w13 := by rw [HRL.out]; exact hx13.toRowed
                exact hgr13.rows.sub fun b hb => hb.2
              have hW13 : RowsAt (· < w13.heap.size) w13 (.slice A12 m c12) RS := by
                have := HFR.out
                rw [← HRS'.out] at this
                exact this.keep fun b hb => ⟨by have := hx13.below.size; omega, hx13.below.block b hb.2⟩
              have hsame := sameRows_any _ _ _ _ w13 hG13 hW13
              rw [decide_eq_true rfl] at hsame
              have HSAME := Lib.hid hsame
              clear hG13 hW13 hsame hx13 hrec H12
              subst hf13
              go_wp2_with fail
              refine HSAME.out.mono ?_
              rintro e w14 ⟨rfl, n14, hw14⟩
              have H14 := Lib.hid (H13.out.go (Nat.le_refl _) (show Below w13.heap.size w13 w14 by rw [hw14]; exact below_drewN (Below.refl _ _) n14))
              clear hw14 HSAME H13
              go_wp2_with fail
              refine (jlog_any H14.out.jf).mono ?_
              rintro e w15 ⟨he, n15, hw15⟩
              rw [HRL.out] at he
              subst he
              have HB15 : Hid (Below W.heap.size W w15) := Lib.hid (by rw [hw15]; exact below_drewN H14.out.below n15)
              clear hw15
              go_wp2
              go_ret
              exact ⟨rfl, HB15.out⟩
            · have HOK : Hid (Calls Try.prog 40 #[.pointer (some ⟨p2, 0, none⟩)] w8 fun e w' => ∃ pjk, e = .returned (.tuple #[.pointer (some ⟨pjk, 0, none⟩), .int .i64 0]) ∧ Hid (∃ st F G, JH W.heap.size W w' pjk p2 st 0 [] RS F G)) := Lib.hid (HOP8.out.mono (by
                intro e w' hpost
                have ho : ∃ st', openSt ⟨(q : Int), crashL ks 0 fs⟩ = (st', .ok (0, [], RS)) := by
                  cases hbad : logBad lg 0 with
                  | false => exact ⟨_, by rw [HV.out.opn0 (g := 0) (ps := []) rfl hbad, HREC.out]⟩
                  | true =>
                    have hq0 : (q : Int) ≠ 0 := fun e => hfail ⟨hbad, by omega⟩
                    obtain ⟨fs5, e5, -⟩ := HV.out.opnC (pw := (q : Int)) hq0 (g := 0) (ps := []) rfl hbad
                    exact ⟨_, by rw [e5, HREC.out]⟩
                obtain ⟨st', ho⟩ := ho
                rw [ho] at hpost
                obtain ⟨pjk, F', G', h1, h2⟩ := hpost.held HB8.out (Nat.le_refl _) HF8.out
                exact ⟨pjk, h1, Lib.hid ⟨_, F', G', h2⟩⟩))
              clear hfail HOP8
              go_wp2_with fail
              refine HOK.out.mono ?_
              rintro e wX ⟨pjk, rfl, HK⟩
              clear HOK
              obtain ⟨st9, F9, G9, h9⟩ := HK.out
              have H9 := Lib.hid h9
              clear h9 HK
              go_wp2_with fail
              refine (copyRowsX_any _ xa W.heap.size wX (GA.out.keep fun b hb => ⟨hb, H9.out.below.block b hb⟩) H9.out.below.size (by have := HSM.out.1; omega) (fun l hl => by have := HLA.out l hl; omega)).mono ?_
              rintro e w10 ⟨u10, us10, rfl, hx10⟩
              have H10 := Lib.hid (H9.out.go (Nat.le_refl _) hx10.below)
              obtain ⟨A10, c10, hf10⟩ := hx10.own.form
              rw [hx10.len] at hf10
              have HX10 := Lib.hid hx10
              clear hx10
              subst hf10
              go_wp2_with fail
              refine (copyRowsX_any _ xb W.heap.size w10 (GB.out.keep fun b hb => ⟨hb, H10.out.below.block b hb⟩) H10.out.below.size (by have := HSM.out.2.1; omega) (fun l hl => by have := HLB.out l hl; omega)).mono ?_
              rintro e w11 ⟨u11, us11, rfl, hx11⟩
              obtain ⟨A11, c11, hf11⟩ := hx11.own.form
              rw [hx11.len] at hf11
              have HX11 := Lib.hid hx11
              have hown10 := HX10.out.own.below hx11.below
              have hsg11 := Own.seg hx11.own
              have hone11 := all_one hx11.len (fun i hi => hx11.cells i hi)
              have hz10 := HX10.out.below.size
              have hz11 := hx11.below.size
              have hl10 := HX10.out.len
              have hl11 := hx11.len
              clear hx11
              subst hf11
              go_wp2_with (at_builtin; refine wpList_app _ rfl _ _ _ rfl wX.heap.size 22 _ rowE _ _ rfl hown10 _ _ _ rfl hsg11 hone11 ?c1 ?c2 ?_)
              case c1 => omega
              case c2 => omega
              intro v12 w12 hown12 hg12 hat12
              have hwant := RowedX.join HX10.out HX11.out hown12 hg12 hat12
              obtain ⟨A12, c12, hf12⟩ := hown12.form
              have hl12 : (us10 ++ us11).length = MX := by rw [List.length_append, HMX.out, List.length_append]; omega
              rw [hl12] at hf12
              have H12 := Lib.hid (H9.out.go (Nat.le_refl _) hwant.below)
              have hwr := hwant.toRowed.rows
              rw [← HXS.out] at hwr
              rw [hf12] at hwr
              obtain ⟨hmc, hfr⟩ := hwr.front (m := m) (by rw [← HMX'.out]; exact HM2.out)
              have HFR := Lib.hid hfr
              have hsl : ∀ w', (Instr.slice 42 (.slice A12 MX c12) none (some (.int .i64 (m : Int))) none).run Try.prog w' = .ok (.slice A12 m c12) w' := fun w' => slice_frontR A12 MX c12 m w' hmc
              clear hown12 hg12 hat12 hwant hwr hfr hown10 hsg11 hone11 hz10 hz11 hl10 hl11 hl12 HX10 HX11 H9 H10
              subst hf12
              have hrec := jrecordsX_any H12.out.jf.js (by simp) (by rw [HRL.out]; have := HM2.out; have := HMXl.out; omega) (fun l hl => by cases hl) (fun l hl => by have := HRS.out l hl; omega)
              rw [List.nil_append, HRL.out] at hrec
              go_wp2_with fail
              refine hrec.mono ?_
              rintro e w13 ⟨u13, us13, rfl, hx13⟩
              have H13 := Lib.hid (H12.out.go (Nat.le_refl _) hx13.below)
              obtain ⟨A13, c13, hf13⟩ := hx13.own.form
              rw [hx13.len] at hf13
              have hG13 : RowsAt (· < w13.heap.size) w13 u13 RS := by
                have hgr13 : Rowed w12 RS RS.length u13 us13 w13 := by rw [HRL.out]; exact hx13.toRowed
                exact hgr13.rows.sub fun b hb => hb.2
              have hW13 : RowsAt (· < w13.heap.size) w13 (.slice A12 m c12) RS := by
                have := HFR.out
                rw [← HRS'.out] at this
                exact this.keep fun b hb => ⟨by have := hx13.below.size; omega, hx13.below.block b hb.2⟩
              have hsame := sameRows_any _ _ _ _ w13 hG13 hW13
              rw [decide_eq_true rfl] at hsame
              have HSAME := Lib.hid hsame
              clear hG13 hW13 hsame hx13 hrec H12
              subst hf13
              go_wp2_with fail
              refine HSAME.out.mono ?_
              rintro e w14 ⟨rfl, n14, hw14⟩
              have H14 := Lib.hid (H13.out.go (Nat.le_refl _) (show Below w13.heap.size w13 w14 by rw [hw14]; exact below_drewN (Below.refl _ _) n14))
              clear hw14 HSAME H13
              go_wp2_with fail
              refine (jlog_any H14.out.jf).mono ?_
              rintro e w15 ⟨he, n15, hw15⟩
              rw [HRL.out] at he
              subst he
              have HB15 : Hid (Below W.heap.size W w15) := Lib.hid (by rw [hw15]; exact below_drewN H14.out.below n15)
              clear hw15
              go_wp2
              go_ret
              exact ⟨rfl, HB15.out⟩
end Go.Proofs.Ytpdelgjfamelfaa
