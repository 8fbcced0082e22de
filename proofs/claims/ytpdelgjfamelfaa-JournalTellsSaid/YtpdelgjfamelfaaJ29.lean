/- JournalTells, walked. -/
import Derived.Test.YtpdelgjfamelfaaJ28
import Derived.Test.YtpdelgjfamelfaaJQ
import Derived.BigQuiet
import Derived.Deep.QuietTactic
namespace Go.Proofs.Ytpdelgjfamelfaa
open Go.RowKit Go.Lib Go.Vfs Go.Par Go.Shelf
set_option linter.unusedVariables false
set_option linter.unusedSimpArgs false

set_option maxRecDepth 100000 in
set_option maxHeartbeats 4000000 in
theorem journalTells_walk (v : Value) (ls : List (List UInt8)) (hb : RowsOk ls) (pa : Int) (hpa : -9223372036854775808 ≤ pa ∧ pa ≤ 9223372036854775807) (tn : Int) (htn : 0 ≤ tn ∧ tn ≤ 255) (W : World) (hsg : RowsAt (· < W.heap.size) W v ls) :
    Calls Try.prog 10 #[v, .int .i64 pa, .int .u8 tn] W fun e W' => e = .returned (.bool true) ∧ Below W.heap.size W W' := by
  obtain ⟨A, c, rfl, hc, hm, HR⟩ := hsg.open_
  have HSG := Lib.hid hsg; have HB := Lib.hid hb; have HTN := Lib.hid htn
  have hlb := hb.1
  clear hsg hb hpa htn
  go_enter Try.func10, Try.ntmps10
  go_wp2_with fail
  refine (jalive_any W).mono ?_
  rintro e w1 ⟨rfl, hb1⟩
  have hgr := great1_any w1 A c ls (HSG.out.keep fun b hb => ⟨Nat.lt_of_lt_of_le hb hb1.size, hb1.block b hb⟩) HB.out
  have hb2 := Lib.hid (hb1.trans ((box_below w1 (.cells #[.int .i64 0, .int .i64 0, .slice A ls.length c, .slice none 0 0] 68)).mono hb1.size))
  clear hb1
  by_cases hsm : ls.length ≤ 60 ∧ sizeR ls ≤ 5000 ∧ tn ≠ 0
  case neg =>
    have HG : Hid (Calls Try.prog 39 #[.slice (some ⟨w1.heap.size, 0, none⟩) 1 1] (w1.alloc (.cells #[.int .i64 0, .int .i64 0, .slice A ls.length c, .slice none 0 0] 68)) fun e w' => ∃ b, e = .returned (.bool b) ∧ Hid (Below W.heap.size W w' ∧ (ls.length ≤ 60 → tn ≠ 0 → b = true))) := Lib.hid (hgr.mono (by
      rintro e w' ⟨b, rfl, rfl, hb⟩
      refine ⟨b, rfl, Lib.hid ⟨hb2.out, fun h1 h2 => ?_⟩⟩
      rw [hb h1]
      exact decide_eq_true (by omega)))
    clear hgr hsm hb2 HR
    by_cases h1 : (60 : Int) < (ls.length : Int)
    · go_wp2_with fail
      refine HG.out.mono ?_
      rintro e w3 ⟨b, rfl, HB3⟩
      cases b
      · go_wp2
        go_ret
        exact ⟨rfl, HB3.out.1⟩
      · go_wp2
        go_ret
        exact ⟨rfl, HB3.out.1⟩
    · by_cases h2 : tn = 0
      · subst h2
        go_wp2_with fail
        refine HG.out.mono ?_
        rintro e w3 ⟨b, rfl, HB3⟩
        cases b
        · go_wp2
          go_ret
          exact ⟨rfl, HB3.out.1⟩
        · go_wp2
          go_ret
          exact ⟨rfl, HB3.out.1⟩
      · have HNT := Lib.hid h2
        have hnb : (tn == 0) = false := by simpa using h2
        clear h2
        go_wp2_with fail
        refine HG.out.mono ?_
        rintro e w3 ⟨b, rfl, HB3⟩
        have hbt : b = true := HB3.out.2 (by omega) HNT.out
        subst hbt
        go_wp2
        go_ret
        exact ⟨rfl, HB3.out.1⟩
  case pos =>
    obtain ⟨h60, h5000, hne⟩ := hsm
    have HG : Hid (Calls Try.prog 39 #[.slice (some ⟨w1.heap.size, 0, none⟩) 1 1] (w1.alloc (.cells #[.int .i64 0, .int .i64 0, .slice A ls.length c, .slice none 0 0] 68)) fun e w' => e = .returned (.bool false) ∧ Hid (Below W.heap.size W w')) := Lib.hid (hgr.mono (by
      rintro e w' ⟨b, rfl, rfl, hb⟩
      rw [hb h60, decide_eq_false (by omega)]
      exact ⟨rfl, hb2⟩))
    have HSM := Lib.hid (And.intro h60 (And.intro h5000 hne))
    have HLL : Hid (∀ l ∈ ls, l.length ≤ 5000) := Lib.hid fun l hl => Nat.le_trans (sizeR_mem hl) h5000
    have h60' : ¬ (60 : Int) < (ls.length : Int) := by omega
    have hnb : (tn == 0) = false := by simpa using hne
    clear hgr h5000 hb2 hlb hne
    go_wp2_with fail
    refine HG.out.mono ?_
    rintro e w2 ⟨rfl, HB2⟩
    clear HG
    go_wp2_with fail
    refine (new_fs (-1) w2).mono ?_
    rintro e w3 ⟨p, F, rfl, hfs, hF, hb3⟩
    have hop := jopen_any w3 p ⟨-1, []⟩ F hfs Calm.nil (by omega) (by omega) (by decide)
    have HF : Hid (∀ k, F k → W.heap.size ≤ k) := Lib.hid fun k hk => Nat.le_trans HB2.out.size (hF k hk).1
    have HB3 := Lib.hid (HB2.out.trans (hb3.mono HB2.out.size)); have HOP := Lib.hid hop
    clear hfs hF hb3 hop HB2
    go_wp2_with fail
    refine HOP.out.mono ?_
    rintro e w4 hop
    obtain ⟨pj, F2, G2, rfl, h4⟩ := hop.fresh HB3.out HF.out
    have h4' := h4.go (Nat.le_refl _) (box_below w4 (.cells #[] 3))
    have HT0 : Hid (TJ W (w4.alloc (.cells #[] 3)) pj p ls 0 0 (.slice (some ⟨w4.heap.size, 0, none⟩) 0 0)) := Lib.hid ⟨[], F2, G2, by simpa using h4', V3.nil, ⟨0, Calm.nil, by omega⟩, own_empty' h4.below.size, fun g e => by
      have hg : g = w4.heap.size := by injection e with e; exact e.symm
      exact ⟨fun hf => by have := h4.lt g (.inl hf); omega, fun hg2 => by have := h4.lt g (.inr hg2); omega⟩⟩
    clear hop h4 h4' HOP HF HB3 hnb
    go_wp2
    go_loopw [10, 11] (fun s i wr => ∃ k : Nat, k ≤ ls.length ∧ i = .int .i64 k ∧ Hid (TJ W wr pj p ls k k s)) (fun _ i _ => ls.length - (intOf i).toNat)
    case atStart => exact ⟨0, by omega, rfl, HT0⟩
    case round =>
      obtain ⟨k, hk, rfl, HT⟩ := hrel
      have HBW := Lib.hid HT.out.below
      obtain ⟨As, cs, hfs⟩ := HT.out.own.form
      rw [ints_length, endsL_length] at hfs
      subst hfs
      by_cases hlt : k < ls.length
      · obtain ⟨b, off, Ak, ck, rfl, hbk, hcell, hseg⟩ := HR.out wr HBW.out k hlt
        have hL : (ls.getD k []).length ≤ 5000 := by
          rw [List.getD_eq_getElem?_getD, List.getElem?_eq_getElem hlt]
          exact HLL.out _ (List.getElem_mem hlt)
        have happ := fun (w5 : World) (u5 : Value) (hb5 : Below wr.heap.size wr w5) (hu5 : Par.Own w5 wr.heap.size 5 u5 (byteCells (ls.getD k []))) => HT.out.append hlt HSM.out.1 hb5 hu5 hL
        have HAP := Lib.hid happ
        have HSEG := Lib.hid hseg
        clear happ hseg
        generalize ls.getD k [] = L at *
        go_wp2_with fail
        refine (copyBytes_any _ L W.heap.size wr HSEG.out HBW.out.size (by omega)).mono ?_
        rintro e w5 ⟨u5, rfl, hu5, hb5⟩
        have happ := HAP.out w5 u5 hb5 hu5
        obtain ⟨A5, c5, hf5⟩ := hu5.form
        have HAPP := Lib.hid happ
        clear hu5 hb5 happ hcell HAP
        subst hf5
        go_wp2_with fail
        refine HAPP.out.mono ?_
        rintro e w6 ⟨rfl, HT6⟩
        clear HAPP
        have HEN := Lib.hid (show ∃ E, E = endL ls (k + 1) from ⟨_, rfl⟩)
        have hread := HT6.out.read hlt HSM.out.1
        obtain ⟨E, hE⟩ := HEN.out
        rw [← hE] at hread
        have HE := Lib.hid hE
        have HREAD := Lib.hid hread
        clear hread hE
        go_wp2_with fail
        refine HREAD.out.mono ?_
        rintro e w7 ⟨A7, c7, rfl, -, HB7⟩
        have ht7 := HT6.out.go HB7.out
        have ht8 := ht7.go (box_below w7 (.cells #[.int .i64 ((E : Nat) : Int)] 3))
        have hown8 := ht8.own
        have hsg8 := Seg.new w7 3 #[.int .i64 ((E : Nat) : Int)] [.int .i64 ((E : Nat) : Int)] rfl (by simp [maxLen])
        have HT8 := Lib.hid ht8
        have hz8 := ht8.below.size
        clear ht7 ht8 HREAD
        go_wp2_with (at_builtin; refine wpList_app _ rfl _ _ _ rfl W.heap.size 3 _ intE _ _ rfl hown8 _ _ _ rfl hsg8 (fun x hx => by simp at hx; subst hx; rfl) ?c1 ?c2 ?_)
        case c1 => rw [ints_length, endsL_length]; simp; omega
        case c2 => simpa using hz8
        intro v9 w9 hown9 hg9 hat9
        rw [HE.out] at hown9
        have ht9 := HT8.out.grow hown9 hg9 (by simpa using hat9)
        obtain ⟨A9, c9, hf9⟩ := hown9.form
        have HT9 := Lib.hid ht9
        rw [List.length_append, ints_length, endsL_length] at hf9
        clear hown9 hg9 hat9 ht9 hown8 hsg8 hz8 HT8 HT6 HT
        subst hf9
        go_wp2
        go_roundw
        case rel => exact ⟨k + 1, by omega, by go_num, HT9⟩
        case measure => simp [intOf]; omega
      · have hkl : k = ls.length := by omega
        by_cases hn : ls = []
        · have hk0 : k = 0 := by rw [hkl, hn]; rfl
          have ht := HT.out
          rw [hk0, hn] at ht
          have HR0 := Lib.hid ht.read0
          have HL0 : Hid (Below W.heap.size W wr) := HBW
          clear hn hk0 ht hkl
          go_wp2_with fail
          refine HR0.out.mono ?_
          rintro e w5 ⟨rfl, HB5⟩
          have HB := Lib.hid (HL0.out.trans (HB5.out.mono HL0.out.size))
          by_cases hp0 : pa < 0
          · go_wp2
            go_ret
            exact ⟨rfl, HB.out⟩
          · have hp1 : (0 : Int) ≤ pa := by omega
            go_wp2
            go_ret
            exact ⟨rfl, HB.out⟩
        obtain ⟨n', hn'⟩ : ∃ n', ls.length = n' + 1 := ⟨ls.length - 1, by have := List.length_pos_iff.2 hn; omega⟩
        have ht := HT.out
        rw [hkl, hn'] at ht
        have hread := ht.read (by omega) HSM.out.1
        have hND : endL ls (n' + 1) = (encR 0 ls).length := by unfold endL; rw [← hn', List.take_length]
        have hDD : encR 0 (ls.take (n' + 1)) = encR 0 ls := by rw [← hn', List.take_length]
        rw [hDD] at hread
        obtain ⟨N, hN⟩ : ∃ N, N = endL ls (n' + 1) := ⟨_, rfl⟩
        rw [← hN] at hread hND
        have HN := Lib.hid hN; have HND := Lib.hid hND; have HN' := Lib.hid hn'
        have HNS : Hid (N ≤ 6000) := Lib.hid (by rw [hN]; exact endL_small HSM.out.1 HSM.out.2.1 _ (by omega))
        have HREAD := Lib.hid hread; have HTT := Lib.hid ht
        clear hn hn' ht hread hND hDD hN hkl HT HT0
        go_wp2_with fail
        refine HREAD.out.mono ?_
        rintro e w5 ⟨A5, c5, rfl, HU5, HB5⟩
        have HBW5 := Lib.hid (HBW.out.trans (HB5.out.mono HBW.out.size))
        clear HREAD
        by_cases hp0 : pa < 0
        · go_wp2
          go_ret
          exact ⟨rfl, HBW5.out⟩
        by_cases hp1 : (N : Int) ≤ pa
        · go_wp2
          go_ret
          exact ⟨rfl, HBW5.out⟩
        obtain ⟨a, rfl⟩ : ∃ a : Nat, pa = a := ⟨pa.toNat, by omega⟩
        have haN : a < N := by omega
        have HAN := Lib.hid haN
        have hseg5 := Own.seg (HTT.out.go HB5.out).own
        obtain ⟨fs, F, G, hjh, hv3, ⟨dc, hcalm, hdc⟩, -, -⟩ := HTT.out
        have HJH := Lib.hid hjh; have HV3 := Lib.hid hv3
        have HCM : Hid (Calm fs 100 500000) := Lib.hid (hcalm.mono (by have := HN'.out; have := HSM.out.1; omega) (by have := HN'.out; have := HSM.out.1; omega))
        have HEC : Hid (∀ i, i < k → ∃ b off, As = some ⟨b, off, none⟩ ∧ b < w5.heap.size ∧ w5.cell? ⟨b, off + i, none⟩ = some (.int .i64 ((endL ls (i + 1) : Nat) : Int))) := Lib.hid fun i hi => by
          have hkn : k = n' + 1 := by have := HN'.out; omega
          obtain ⟨Ax, cx, he, -, -, h4⟩ := hseg5
          injection he with e1 e2 e3
          rw [ints_length, endsL_length] at h4
          obtain ⟨b, off, e, hb, hcell⟩ := h4 (by omega)
          refine ⟨b, off, by rw [e1, e], hb, ?_⟩
          rw [hcell i (by omega)]
          simp only [ints, List.getElem?_map, endsL_get ls _ i (by omega : i < n' + 1)]
          rfl
        clear hjh hv3 hcalm hdc hseg5 hp0 hp1 HTT
        obtain ⟨wo, rfl⟩ : ∃ wo : World, wo = wr := ⟨_, rfl⟩
        go_wp2
        go_loopw [16, 17] (fun s i wx => ∃ ci ii : Nat, ii ≤ k ∧ i = .int .i64 ii ∧ s = .int .i64 ci ∧ ci ≤ ii ∧ Hid (WI ls a ci ii) ∧ w5 = wx) (fun _ i _ => k - (intOf i).toNat)
        case atStart => exact ⟨0, 0, by omega, rfl, rfl, by omega, Lib.hid ⟨by omega, fun j hj => by omega, fun j _ hj => by omega⟩, rfl⟩
        case round =>
          obtain ⟨ci, ii, hii, rfl, rfl, hci, HWI, rfl⟩ := hrel
          by_cases hil : ii < k
          · obtain ⟨b, off, rfl, hbb, hcell⟩ := HEC.out ii hil
            have HYES := Lib.hid (fun he : endL ls (ii + 1) ≤ a => HWI.out.yes (by omega) he)
            have HNO := Lib.hid (fun he : a < endL ls (ii + 1) => HWI.out.no he)
            generalize endL ls (ii + 1) = Ei at *
            by_cases hle : (Ei : Int) ≤ (a : Int)
            · go_wp2
              go_roundw
              case rel => exact ⟨ci + 1, ii + 1, by omega, by go_num, by go_num, by omega, Lib.hid (HYES.out (by omega)), trivial⟩
              case measure => simp [intOf]; omega
            · go_wp2
              go_roundw
              case rel => exact ⟨ci, ii + 1, by omega, by go_num, rfl, by omega, Lib.hid (HNO.out (by omega)), trivial⟩
              case measure => simp [intOf]; omega
          · have hik : ii = k := by omega
            have hkl : k = ls.length := by omega
            have hwi := HWI.out
            rw [hik, hkl] at hwi
            have hdone := hwi.done (by have := HAN.out; have := HN.out; have := HN'.out; rw [HN'.out, ← HN.out]; omega) (by have := HN'.out; omega)
            have HD := Lib.hid hdone
            have hcl : ci < ls.length := hdone.1
            obtain ⟨g, rfl⟩ : ∃ g, A5 = some ⟨g, 0, none⟩ := by
              rcases HU5.out.2 with ⟨he, h0⟩ | ⟨g, cap, cur, he, -⟩
              · rw [byteCells_length, ← HND.out] at h0; have := HAN.out; omega
              · injection he with e1 e2 e3
                exact ⟨g, e1⟩
            have hflip := Flip.start (l := encR 0 ls) (by have := HU5.out; rw [HND.out] at this; exact this)
            obtain ⟨g', m', he', hcell, hfz⟩ := hflip.2.2 a (by rw [← HND.out]; exact HAN.out)
            injection he' with he'
            injection he' with he'
            subst he'
            obtain ⟨x, hx⟩ : ∃ x, (encR 0 ls)[a]? = some x := ⟨_, List.getElem?_eq_getElem (by rw [← HND.out]; exact HAN.out)⟩
            have hcx : w5.cell? ⟨g, a, none⟩ = some (.int .u8 ((x.toNat : Nat) : Int)) := by
              obtain ⟨Ax, cx, he, -, -, h4⟩ := own_seg HU5.out
              obtain ⟨b, off, e, -, hcl2⟩ := h4 (by rw [byteCells_length, ← HND.out]; have := HAN.out; omega)
              injection he with e1 e2 e3
              rw [e] at e1
              injection e1 with e1
              injection e1 with e4 e5
              have := hcl2 a (by rw [byteCells_length, ← HND.out]; exact HAN.out)
              rw [← e4, ← e5] at this
              simp only [Nat.zero_add, byteCells, List.getElem?_map, hx] at this
              exact this
            obtain ⟨y, hxy, hyne⟩ := turn_byte x tn HTN.out.1 HTN.out.2 HSM.out.2.2
            have HX := Lib.hid hx; have HY := Lib.hid hyne
            have hgl : g < w5.heap.size ∧ wo.heap.size ≤ g := by have := HU5.out.lt g rfl; omega
            have HGL := Lib.hid hgl
            obtain ⟨D2, hD2⟩ : ∃ D2, D2 = (encR 0 ls).set a y := ⟨_, rfl⟩
            have hsegD : SegS (fun k => k = g) (w5.setCell ⟨g, a, none⟩ (.int .u8 ((y.toNat : Nat) : Int))) (.slice (some ⟨g, 0, none⟩) N c5) (byteCells D2) := by rw [hD2]; exact seg_set HU5.out y (by rw [← HND.out]; exact HAN.out)
            have HSD := Lib.hid hsegD; have HD2 := Lib.hid hD2
            have HDL : Hid (D2.length = N) := Lib.hid (by rw [hD2, List.length_set, ← HND.out])
            clear hflip hcell hdone hwi hik hkl hsegD hD2 hx hyne hgl
            obtain ⟨w6, hw6⟩ : ∃ w6, w6 = w5.setCell ⟨g, a, none⟩ (.int .u8 ((y.toNat : Nat) : Int)) := ⟨_, rfl⟩
            rw [← hw6] at HSD
            have hz6 : w6.heap.size = w5.heap.size := by rw [hw6]; simp [World.setCell]
            have hF6 : Fsy w6 p ⟨-1, fs⟩ F := HJH.out.jf.fs.keep fun j hj => by
              have hlt := HJH.out.jf.fs.lt j hj
              rw [hw6, setCell_block (fun (e : j = g) => by have := HGL.out.2; omega)]
              exact HB5.out.block j hlt
            have hb6 : Below W.heap.size W w6 := by
              have h1 := ((Kept.refl (fun j => j = g) w5).setCell (p := ⟨g, a, none⟩) (.inl rfl) (.int .u8 ((y.toNat : Nat) : Int))).below (B := W.heap.size) HBW5.out.size (fun j hj => by have := HGL.out.2; have := HBW.out.size; omega)
              rw [hw6]
              exact HBW5.out.trans h1
            have hne : ls.take (n' + 1) ≠ [] := fun e => by have h1 := congrArg List.length e; rw [List.length_take, List.length_nil] at h1; have := HN'.out; omega
            have hlg : lgOf 0 (ls.take (n' + 1)) 0 = some ⟨nLog, encR 0 (ls.take (n' + 1)), 0⟩ := by unfold lgOf; rw [if_neg hne]
            obtain ⟨fs2, e2, hv2⟩ := HV3.out.trunc (pw := -1) hlg (Nat.zero_le _)
            rw [do_on (by decide), dec_neg] at e2
            have e2' : stTruncate ⟨-1, fs⟩ nLog 0 = (⟨-1, fs2⟩, 0) := e2
            have hc2 : Calm fs2 101 500000 := by
              have := step_calm (b := []) (st := ⟨-1, fs⟩) HCM.out 3
              rw [show stepSt [] 3 ⟨-1, fs⟩ = stTruncate ⟨-1, fs⟩ nLog 0 from rfl, e2'] at this
              exact this.mono (by omega) (by simp)
            have hv2' : V3 fs2 none none (some ⟨nLog, [], 0⟩) := by simpa using hv2
            have htr := truncate_any w6 p ⟨-1, fs⟩ F hF6 ⟨#[108, 111, 103]⟩ (by decide) (show (-1 : Int) ≤ 9223372036854775807 by decide) 0
            rw [show (ByteArray.mk #[108, 111, 103]).data.toList = nLog from rfl, e2'] at htr
            have HTR : Hid (Calls Try.prog 42 #[.pointer (some ⟨p, 0, none⟩), .string ⟨#[108, 111, 103]⟩, .int .i64 0] w6 fun e w7 => e = .returned (.int .i64 0) ∧ Hid (∃ F7, Held W.heap.size W w7 p ⟨-1, fs2⟩ F7 ∧ SegS (Out w7 F7) w7 (.slice (some ⟨g, 0, none⟩) N c5) (byteCells D2))) := Lib.hid (htr.mono (by
              rintro e w7 ⟨F7, rfl, h1, h2, h3⟩
              have hFg : ¬ F g := fun hf => by have := HJH.out.jf.fs.lt g hf; have := HGL.out.2; omega
              refine ⟨rfl, Lib.hid ⟨F7, ⟨h1, fun j hj => ?_, ?_⟩, HSD.out.keep fun j hj => ?_⟩⟩
              · rcases h3 j hj with x1 | x1
                · exact HJH.out.fnew j x1
                · have := hb6.size; omega
              · exact hb6.trans (h2.below hb6.size HJH.out.fnew)
              · subst hj
                have hgl := HGL.out.1
                refine ⟨⟨by have := h2.size; omega, fun hf => ?_⟩, h2.block j (by omega) hFg⟩
                rcases h3 j hf with x1 | x1
                · exact hFg x1
                · omega))
            have HC2 := Lib.hid hc2; have HV2 := Lib.hid hv2'
            have HR : Hid (∃ l2, logRecs (some ⟨nLog, D2, 0⟩) 0 = ls.take ci ++ l2 ∧ ∀ z, l2.head? = some z → z.length ≠ (ls.getD ci []).length) := Lib.hid (by
              have := frs_turned (b := encR 0 ls) (b' := D2) (rows := ls) (fun l hl => by have := HLL.out l hl; omega) rfl (i := a) (v := y) (by rw [← HND.out]; exact HAN.out) (by rw [HX.out]; intro e; injection e with e; exact HY.out e.symm) HD2.out HD.out.1 HD.out.2.1 HD.out.2.2
              exact this)
            have hfrl : ∀ l ∈ logRecs (some ⟨nLog, D2, 0⟩) 0, l.length ≤ 65536 := by
              intro l hl
              simp only [logRecs, pays, List.mem_map] at hl
              obtain ⟨z, -, rfl⟩ := hl
              exact (frAt_some z.2).2.2.2.2.2
            have hfrn : (logRecs (some ⟨nLog, D2, 0⟩) 0).length ≤ 6001 := by
              have h1 := frs_length D2
              have h2 : (sameGen 0 (frs D2)).length ≤ (frs D2).length := (List.takeWhile_sublist _).length_le
              have := HDL.out; have := HNS.out
              simp only [logRecs, pays, List.length_map]
              omega
            have HFR := Lib.hid (And.intro hfrl hfrn)
            clear hb6 hne hlg e2 hv2 e2' hc2 hv2' htr hfrl hfrn hF6 hz6
            go_wp2_with fail
            rw [← hw6]
            refine HTR.out.mono ?_
            rintro e w7 ⟨rfl, HK7⟩
            obtain ⟨F7, hheld, hsg7⟩ := HK7.out
            have HH7 := Lib.hid hheld
            have hlt7 : ∀ j, F7 j → j < w7.heap.size := hheld.fs.lt
            have hr7 := RowsAt.new1 hlt7 hsg7 w7.heap.size rfl
            have hap := append_any _ p ⟨-1, fs2⟩ F7 (hheld.fs.alloc (.cells #[.slice (some ⟨g, 0, none⟩) N c5] 22)) ⟨#[108, 111, 103]⟩ (by decide) _ [D2] hr7 (HC2.out.modest (st := ⟨-1, fs2⟩) (show (-1 : Int) ≤ 9223372036854775807 by decide) (by omega) (by simp; have := HDL.out; have := HNS.out; omega))
            rw [show (ByteArray.mk #[108, 111, 103]).data.toList = nLog from rfl, show [D2].flatten = D2 by simp, HV2.out.append, do_on (by decide), dec_neg] at hap
            have HAP : Hid (Calls Try.prog 17 #[.pointer (some ⟨p, 0, none⟩), .string ⟨#[108, 111, 103]⟩, .slice (some ⟨w7.heap.size, 0, none⟩) 1 1] (w7.alloc (.cells #[.slice (some ⟨g, 0, none⟩) N c5] 22)) fun e w8 => e = .returned (.int .i64 0) ∧ Hid (∃ F8, Held W.heap.size W w8 p ⟨-1, appF nLog D2 fs2⟩ F8)) := Lib.hid (hap.mono (by
              rintro e w8 ⟨F8, rfl, h1, h2, h3⟩
              have hh := HH7.out.go (Nat.le_refl _) (box_below w7 (.cells #[.slice (some ⟨g, 0, none⟩) N c5] 22))
              exact ⟨rfl, Lib.hid ⟨F8, hh.op (Nat.le_refl _) h1 h2 h3⟩⟩))
            clear hheld hsg7 hlt7 hr7 hap HK7 HTR hw6
            go_wp2_with fail
            refine HAP.out.mono ?_
            rintro e w8 ⟨rfl, HK8⟩
            obtain ⟨F8, hheld⟩ := HK8.out
            have hop8 := jopen_any w8 p ⟨-1, appF nLog D2 fs2⟩ F8 hheld.fs (HC2.out.app (s := nLog) (by decide)) (by omega) (by have := HDL.out; have := HNS.out; omega) (show (-1 : Int) ≤ 9223372036854775807 by decide)
            have hv8 := HV2.out.appL D2
            obtain ⟨fs9, e9, -⟩ := hv8.opn (g := 0) (ps := []) rfl
            rw [show addF nLog (some ⟨nLog, [], 0⟩) D2 = ⟨nLog, D2, 0⟩ from rfl] at e9
            obtain ⟨l2, hl2, hhd⟩ := HR.out
            obtain ⟨RS, hRS⟩ : ∃ RS, RS = logRecs (some ⟨nLog, D2, 0⟩) 0 := ⟨_, rfl⟩
            have hfr := HFR.out
            rw [← hRS] at hl2 hfr e9
            rw [e9] at hop8
            have HOP8 : Hid (Calls Try.prog 40 #[.pointer (some ⟨p, 0, none⟩)] w8 fun e w' => ∃ pjk, e = .returned (.tuple #[.pointer (some ⟨pjk, 0, none⟩), .int .i64 0]) ∧ Hid (∃ st F G, JH W.heap.size W w' pjk p st 0 [] RS F G)) := Lib.hid (hop8.mono (by
              intro e w' hpost
              obtain ⟨pjk, F', G', h1, h2⟩ := hpost.held hheld.below (Nat.le_refl _) hheld.new
              exact ⟨pjk, h1, Lib.hid ⟨_, F', G', h2⟩⟩))
            have HL2 := Lib.hid hl2; have HHD := Lib.hid hhd; have HFR2 := Lib.hid hfr
            clear hheld hop8 hv8 e9 hl2 hhd hfr hRS HK8 HAP
            go_wp2_with fail
            refine HOP8.out.mono ?_
            rintro e w9 ⟨pjk, rfl, HK9⟩
            obtain ⟨st9, F9, G9, h9⟩ := HK9.out
            have H9 := Lib.hid h9
            clear h9 HK9 HOP8
            have hrec := jrecordsX_any H9.out.jf.js (by simp) (by have := HFR2.out.2; omega) (fun l hl => by cases hl) (fun l hl => by have := HFR2.out.1 l hl; omega)
            rw [List.nil_append] at hrec
            go_wp2_with fail
            refine hrec.mono ?_
            rintro e w10 ⟨u10, us10, rfl, hx10⟩
            have HB10 := Lib.hid (H9.out.go (Nat.le_refl _) hx10.below).below
            obtain ⟨A10, c10, hf10⟩ := hx10.own.form
            rw [hx10.len] at hf10
            have hG10 : RowsAt (· < w10.heap.size) w10 u10 RS := hx10.toRowed.rows.sub fun b hb => hb.2
            have hW10 : RowsAt (· < w10.heap.size) w10 (.slice A ls.length c) ls := HSG.out.keep fun b hb => ⟨Nat.lt_of_lt_of_le hb HB10.out.size, HB10.out.block b hb⟩
            have hRL : RS.length = ci + l2.length := by rw [HL2.out, List.length_append, List.length_take]; omega
            have HRL := Lib.hid hRL
            rw [hf10] at hG10
            obtain ⟨hg1, hg2⟩ := hG10.front (m := ci) (by omega)
            obtain ⟨hw1, hw2⟩ := hW10.front (m := ci) (by omega)
            have hge : RS.take ci = ls.take ci := by
              rw [HL2.out, List.take_append_of_le_length (by rw [List.length_take]; omega), List.take_take, Nat.min_self]
            have hsame : ∀ n, Calls Try.prog 38 #[.slice A10 ci c10, .slice A ci c] (w10.drewN n) fun e w' => e = .returned (.bool true) ∧ ∃ n', w' = (w10.drewN n).drewN n' := fun n => by
              have := sameRows_any _ _ _ _ (w10.drewN n) (hg2.sub (S' := (· < (w10.drewN n).heap.size)) fun b hb => hb) (hw2.sub (S' := (· < (w10.drewN n).heap.size)) fun b hb => hb)
              rw [decide_eq_true hge] at this
              exact this
            have hsl1 : ∀ w', (Instr.slice 42 (.slice A10 RS.length c10) none (some (.int .i64 (ci : Int))) none).run Try.prog w' = .ok (.slice A10 ci c10) w' := fun w' => slice_frontR A10 RS.length c10 ci w' hg1
            have hsl2 : ∀ w', (Instr.slice 42 (.slice A ls.length c) none (some (.int .i64 (ci : Int))) none).run Try.prog w' = .ok (.slice A ci c) w' := fun w' => slice_frontR A ls.length c ci w' hw1
            have hci : ci ≤ RS.length := by omega
            have hd : decide ((RS.length : Int) < (ci : Int)) = false := decide_eq_false (by omega)
            have HSAME := Lib.hid hsame
            obtain ⟨Ag, cg, heg, -, -, HGO⟩ := hG10.open_
            cases heg
            obtain ⟨Aw, cw, hew, -, -, HWO⟩ := hW10.open_
            cases hew
            clear hsame hg1 hg2 hw1 hw2 hge hx10 hrec hG10 hW10 hRL
            subst hf10
            go_wp2
            go_quiet ((go_at_call 38; exact Calls.quiet_of (HSAME.out _)))
            obtain ⟨wq, hwq⟩ : ∃ wq, wq = w10.drewN nq := ⟨_, rfl⟩
            have HBQ : Hid (Below w10.heap.size w10 wq) := Lib.hid (by rw [hwq]; exact below_drewN (Below.refl _ _) nq)
            have HBW : Hid (Below W.heap.size W wq) := Lib.hid (HB10.out.trans (HBQ.out.mono HB10.out.size))
            rw [← hwq]
            clear hwq hsl1 hsl2 hd
            by_cases heq : RS.length = ci
            · have hd2 : ((RS.length : Int) == (ci : Int)) = true := by simp; omega
              go_wp2
              go_quiet (fail)
              go_wp2
              go_ret
              exact ⟨rfl, below_drewN HBW.out _⟩
            · have hlt : ci < RS.length := by omega
              have hd2 : ((RS.length : Int) == (ci : Int)) = false := by simp; omega
              obtain ⟨b1, off1, A1, c1, hA1, hb1, hc1, -⟩ := HGO.out wq HBQ.out ci hlt
              obtain ⟨b2, off2, A2, c2, hA2, hb2, hc2, -⟩ := HWO.out wq HBQ.out ci hcl
              subst hA1 hA2
              have hlen : (RS.getD ci []).length ≠ (ls.getD ci []).length := by
                cases hl2e : l2 with
                | nil => exfalso; have := HRL.out; rw [hl2e] at this; simp at this; omega
                | cons z r =>
                  have h1 := HHD.out z (by rw [hl2e]; rfl)
                  have h2 : RS.getD ci [] = z := by
                    rw [HL2.out, hl2e, List.getD_eq_getElem?_getD, List.getElem?_append_right (by rw [List.length_take]; omega), List.length_take, Nat.min_eq_left (by omega), Nat.sub_self]
                    rfl
                  rw [h2]; exact h1
              have hne2 : (((RS.getD ci []).length : Int) != ((ls.getD ci []).length : Int)) = true := bne_iff_ne.2 (fun e => hlen (by omega))
              clear hlen
              generalize (RS.getD ci []).length = LA at *
              generalize (ls.getD ci []).length = LB at *
              go_wp2
              go_quiet (fail)
              go_wp2
              go_ret
              exact ⟨rfl, below_drewN HBW.out _⟩
end Go.Proofs.Ytpdelgjfamelfaa
