/- JournalLays, walked. -/
import Derived.Test.YtpdelgjfamelfaaJ26
import Derived.Deep.CutRange
namespace Go.Proofs.Ytpdelgjfamelfaa
open Go.RowKit Go.Lib Go.Vfs Go.Par Go.Shelf
set_option linter.unusedVariables false
set_option linter.unusedSimpArgs false

theorem enc_small2 {g : Nat} {ls : List (List UInt8)} (h1 : ls.length ≤ 60) (h2 : sizeR ls ≤ 5000) : (encR g (be4 ls.length :: ls)).length ≤ 6000 := by
  rw [encR_len, List.length_cons, List.flatten_cons, List.length_append, be4_length]
  have := sizeR_flat ls
  omega
/-- where the loop of JournalLays stands. -/
def LI (W wr : World) (pj p : Nat) (xa : List (List UInt8)) (H k : Nat) : Prop := ∃ g base log c d, base ++ log = xa.take k ∧ QI W wr pj p g base log 0 c d ∧ (k ≤ H → g = 0 ∧ base = [] ∧ c ≤ k ∧ d ≤ k * 6000) ∧ (H < k → g = 1) ∧ c ≤ 10 + k ∧ d ≤ 30000 + k * 6000
theorem LI.below {W wr : World} {pj p H k : Nat} {xa : List (List UInt8)} (h : LI W wr pj p xa H k) : Below W.heap.size W wr := by
  obtain ⟨g, base, log, c, d, h1, h2, -⟩ := h
  exact h2.below
/-- a record more. -/
theorem LI.append {W wr : World} {pj p H k : Nat} {xa : List (List UInt8)} (h : LI W wr pj p xa H k) (hk : k < xa.length) (hl : xa.length ≤ 60) (hL : (xa.getD k []).length ≤ 5000) {w2 : World} (hb : Below wr.heap.size wr w2) {u : Value} (hu : Par.Own w2 wr.heap.size 5 u (byteCells (xa.getD k []))) :
    Calls Try.prog 41 #[.pointer (some ⟨pj, 0, none⟩), u] w2 fun e w' => e = .returned (.int .i64 0) ∧ Hid (Below W.heap.size W w' ∧ (k ≠ H → LI W w' pj p xa H (k + 1)) ∧ (k = H → QI W w' pj p 0 [] (xa.take (k + 1)) 0 (k + 1) (k * 6000 + 6000))) := by
  obtain ⟨g, base, log, c, d, h1, h2, h3, h4, h5, h6⟩ := h
  have hkm : k * 6000 ≤ 60 * 6000 := Nat.mul_le_mul_right _ (by omega)
  have hll : log.length ≤ 1000 := by
    have := congrArg List.length h1
    rw [List.length_append, List.length_take] at this
    omega
  have htk : xa.take (k + 1) = xa.take k ++ [xa.getD k []] := by
    rw [List.take_succ_eq_append_getElem hk, List.getD_eq_getElem?_getD, List.getElem?_eq_getElem hk]; rfl
  refine (h2.append hb hu hL (by omega) (by omega) hll).mono ?_
  rintro e w' ⟨rfl, HQ⟩
  refine ⟨rfl, Lib.hid ⟨HQ.out.below, fun hne => ⟨g, base, log ++ [xa.getD k []], c + 1, d + 6000, by rw [← List.append_assoc, h1, htk], HQ.out, fun hle => ?_, fun hlt => ?_, by omega, by rw [Nat.succ_mul]; omega⟩, fun heq => ?_⟩⟩
  · obtain ⟨x1, x2, x3, x4⟩ := h3 (by omega)
    exact ⟨x1, x2, by omega, by rw [Nat.succ_mul]; omega⟩
  · exact h4 (by omega)
  · obtain ⟨x1, x2, x3, x4⟩ := h3 (by omega)
    have hq := HQ.out
    subst x1 x2
    rw [List.nil_append] at h1
    rw [htk, ← h1]
    obtain ⟨fs, lg, F, G, y1, y2, y3, y4, y5⟩ := hq
    exact ⟨fs, lg, F, G, y1, y2, y3, y4, y5.mono (by omega) (by omega)⟩

set_option maxRecDepth 100000 in
set_option maxHeartbeats 4000000 in
theorem journalLays_walk (va : Value) (xa : List (List UInt8)) (ha : RowsOk xa) (vb : Value) (xb : List (List UInt8)) (hb : RowsOk xb) (pw : Int) (hpw : -9223372036854775808 ≤ pw ∧ pw ≤ 9223372036854775807) (kv : Value) (ks : List Int) (hks : ks.length ≤ 17592186043904) (W : World)
    (ga : RowsAt (· < W.heap.size) W va xa) (gb : RowsAt (· < W.heap.size) W vb xb) (gk : Seg W W.heap.size kv (ints ks)) :
    Calls Try.prog 13 #[va, vb, .int .i64 pw, kv] W fun e W' => e = .returned (.bool true) ∧ Below W.heap.size W W' := by
  obtain ⟨A, c, rfl, hca, hma, HRA⟩ := ga.open_
  obtain ⟨A', c', rfl, hcb, hmb, HRB⟩ := gb.open_
  obtain ⟨K, kc, rfl, hkc, hkm, -⟩ := gk.open_ints
  have GA := Lib.hid ga; have GB := Lib.hid gb; have GK := Lib.hid gk; have HA := Lib.hid ha; have HB := Lib.hid hb; have HKS := Lib.hid hks
  have hla := ha.1
  have hlb := hb.1
  clear ga gb gk ha hb hks hpw
  go_enter Try.func13, Try.ntmps13
  go_wp2_with fail
  refine (jalive_any W).mono ?_
  rintro e w1 ⟨rfl, hb1⟩
  have hgr := great2_any w1 A A' c c' xa xb (GA.out.keep fun b hb => ⟨Nat.lt_of_lt_of_le hb hb1.size, hb1.block b hb⟩) (GB.out.keep fun b hb => ⟨Nat.lt_of_lt_of_le hb hb1.size, hb1.block b hb⟩) HA.out HB.out
  have hb2 := Lib.hid (hb1.trans ((box_below w1 (.cells #[.int .i64 0, .int .i64 0, .slice A xa.length c, .slice none 0 0, .int .i64 0, .int .i64 0, .slice A' xb.length c', .slice none 0 0] 68)).mono hb1.size))
  clear hb1
  by_cases hsm : xa.length ≤ 60 ∧ xb.length ≤ 60 ∧ sizeR xa + sizeR xb ≤ 5000
  case neg =>
    have HG : Hid (Calls Try.prog 39 #[.slice (some ⟨w1.heap.size, 0, none⟩) 2 2] (w1.alloc (.cells #[.int .i64 0, .int .i64 0, .slice A xa.length c, .slice none 0 0, .int .i64 0, .int .i64 0, .slice A' xb.length c', .slice none 0 0] 68)) fun e w' => ∃ b, e = .returned (.bool b) ∧ Hid (Below W.heap.size W w' ∧ (xa.length ≤ 60 → xb.length ≤ 60 → b = true))) := Lib.hid (hgr.mono (by
      rintro e w' ⟨b, rfl, rfl, hb⟩
      refine ⟨b, rfl, Lib.hid ⟨hb2.out, fun h1 h2 => ?_⟩⟩
      rw [hb h1 h2]
      exact decide_eq_true (by omega)))
    have HNS := Lib.hid hsm
    clear hgr hsm hb2 HRA HRB
    by_cases h1 : (60 : Int) < (xa.length : Int)
    · go_wp2_with fail
      refine HG.out.mono ?_
      rintro e w3 ⟨b, rfl, HB3⟩
      cases b
      · go_wp2
        go_ret
        exact ⟨rfl, HB3.out.1⟩
      · go_wp2
        go_ret
        exact ⟨rfl, HB3.out.1⟩
    · by_cases h2 : (60 : Int) < (xb.length : Int)
      · go_wp2_with fail
        refine HG.out.mono ?_
        rintro e w3 ⟨b, rfl, HB3⟩
        cases b
        · go_wp2
          go_ret
          exact ⟨rfl, HB3.out.1⟩
        · go_wp2
          go_ret
          exact ⟨rfl, HB3.out.1⟩
      · go_wp2_with fail
        refine HG.out.mono ?_
        rintro e w3 ⟨b, rfl, HB3⟩
        have hbt : b = true := HB3.out.2 (by omega) (by omega)
        subst hbt
        go_wp2
        go_ret
        exact ⟨rfl, HB3.out.1⟩
  case pos =>
    obtain ⟨h60a, h60b, h5000⟩ := hsm
    have HG : Hid (Calls Try.prog 39 #[.slice (some ⟨w1.heap.size, 0, none⟩) 2 2] (w1.alloc (.cells #[.int .i64 0, .int .i64 0, .slice A xa.length c, .slice none 0 0, .int .i64 0, .int .i64 0, .slice A' xb.length c', .slice none 0 0] 68)) fun e w' => e = .returned (.bool false) ∧ Hid (Below W.heap.size W w')) := Lib.hid (hgr.mono (by
      rintro e w' ⟨b, rfl, rfl, hb⟩
      rw [hb h60a h60b, decide_eq_false (by omega)]
      exact ⟨rfl, hb2⟩))
    have HSM := Lib.hid (And.intro h60a (And.intro h60b h5000))
    have HLA : Hid (∀ l ∈ xa, l.length ≤ 5000) := Lib.hid fun l hl => by have := sizeR_mem hl; omega
    have HLB : Hid (∀ l ∈ xb, l.length ≤ 5000) := Lib.hid fun l hl => by have := sizeR_mem hl; omega
    have h60a' : ¬ (60 : Int) < (xa.length : Int) := by omega
    have h60b' : ¬ (60 : Int) < (xb.length : Int) := by omega
    clear hgr h5000 hb2 hla hlb
    go_wp2_with fail
    refine HG.out.mono ?_
    rintro e w2 ⟨rfl, HB2⟩
    clear HG
    go_wp2_with fail
    refine (new_fs (-1) w2).mono ?_
    rintro e w3 ⟨p, F, rfl, hfs, hF, hb3⟩
    have hop := jopen_any w3 p ⟨-1, []⟩ F hfs Calm.nil (by omega) (by omega) (by decide)
    have HF : Hid (∀ k, F k → W.heap.size ≤ k) := Lib.hid fun k hk => Nat.le_trans HB2.out.size (hF k hk).1
    have HB3 := Lib.hid (HB2.out.trans (hb3.mono HB2.out.size)); have HOP := Lib.hid hop
    clear hfs hF hb3 hop HB2
    go_wp2_with fail
    refine HOP.out.mono ?_
    rintro e w4 hop
    obtain ⟨pj, F2, G2, rfl, h4⟩ := hop.fresh HB3.out HF.out
    have H4 := Lib.hid h4.qi
    clear hop h4 HOP HF HB3
    go_wp2
    have HH : Hid (∃ H, H = xa.length / 2) := Lib.hid ⟨_, rfl⟩
    obtain ⟨H, hH⟩ := HH.out
    have HH2 := Lib.hid hH
    clear hH
    go_loopw [12] (fun i wr => ∃ k : Nat, k ≤ xa.length ∧ i = .int .i64 k ∧ Hid (LI W wr pj p xa H k)) (fun i _ => xa.length - (intOf i).toNat)
    case atStart => exact ⟨0, by omega, rfl, Lib.hid ⟨0, [], [], 0, 0, by simp, H4.out, fun _ => ⟨rfl, rfl, by omega, by omega⟩, fun h => by omega, by omega, by omega⟩⟩
    case round =>
      obtain ⟨k, hk, rfl, HPI⟩ := hrel
      have HBW := Lib.hid HPI.out.below
      by_cases hlt : k < xa.length
      · obtain ⟨b, off, Ak, ck, rfl, hbk, hcell, hseg⟩ := HRA.out wr HBW.out k hlt
        have hL : (xa.getD k []).length ≤ 5000 := by
          rw [List.getD_eq_getElem?_getD, List.getElem?_eq_getElem hlt]
          exact HLA.out _ (List.getElem_mem hlt)
        have happ := fun (w5 : World) (u5 : Value) => HPI.out.append hlt HSM.out.1 hL (w2 := w5) (u := u5)
        generalize xa.getD k [] = L at *
        have HSEG := Lib.hid hseg
        have HAP := Lib.hid happ
        clear hseg happ
        go_wp2_with fail
        refine (copyBytes_any _ L W.heap.size wr HSEG.out HBW.out.size (by omega)).mono ?_
        rintro e w5 ⟨u5, rfl, hu5, hb5⟩
        have happ := HAP.out w5 u5 hb5 hu5
        obtain ⟨A5, c5, hf5⟩ := hu5.form
        have HAPP := Lib.hid happ
        clear hu5 hb5 happ hcell HAP
        subst hf5
        go_wp2_with fail
        refine HAPP.out.mono ?_
        rintro e w6 ⟨rfl, HP6⟩
        clear HAPP
        -- HERE
        have hq1 : (xa.length : Int).tdiv 2 = (H : Int) := by rw [HH2.out, Int.tdiv_eq_ediv_of_nonneg (by omega)]; omega
        have hq2 : (xa.length : Int) / 2 = (H : Int) := by rw [HH2.out]; omega
        by_cases hkH : k = H
        · subst hkH
          have hqi := HP6.out.2.2 rfl
          have hlt2 : (xa.take (k + 1)).length ≤ 60 := by have := HSM.out.1; rw [List.length_take]; omega
          have hl5 : ∀ l ∈ xa.take (k + 1), l.length ≤ 5000 := fun l hl => HLA.out l (List.mem_of_mem_take hl)
          have hE : (encR 1 (be4 (xa.take (k + 1)).length :: xa.take (k + 1))).length ≤ 6000 := enc_small2 hlt2 (by have := sizeR_mono xa (k + 1); have := HSM.out.2.2; omega)
          have hkm : k * 6000 ≤ 60 * 6000 := Nat.mul_le_mul_right _ (by have := HSM.out.1; omega)
          have hrec : Calls Try.prog 43 #[.pointer (some ⟨pj, 0, none⟩)] w6 fun e w' => ∃ v us, e = .returned v ∧ RowedX w6 (xa.take (k + 1)) (xa.take (k + 1)).length v us w' := by
            obtain ⟨fs, lg, F, G, y1, -⟩ := hqi
            have := jrecordsX_any y1.jf.js (by simp) (by omega) (fun l hl => by cases hl) (fun l hl => by have := hl5 l hl; omega)
            rw [List.nil_append] at this
            exact this
          have HREC := Lib.hid hrec; have HQI := Lib.hid hqi; have HL5 := Lib.hid (And.intro hlt2 (And.intro hl5 (And.intro hE hkm)))
          have hnext : ∀ (v : Value) (us : List Value) (w7 : World), RowedX w6 (xa.take (k + 1)) (xa.take (k + 1)).length v us w7 → Calls Try.prog 44 #[.pointer (some ⟨pj, 0, none⟩), v] w7 fun e w' => e = .returned (.int .i64 0) ∧ Hid (LI W w' pj p xa k (k + 1)) := fun v us w7 hx => by
            refine (HQI.out.lay hx HL5.out.2.1 HL5.out.1 HL5.out.2.2.1 (by have := HSM.out.1; omega) (by have := HL5.out.2.2.2; omega)).mono ?_
            rintro e w' ⟨rfl, HQ2⟩
            exact ⟨rfl, Lib.hid ⟨1, xa.take (k + 1), [], _, _, by rw [List.append_nil], HQ2.out, fun h => by omega, fun _ => rfl, by omega, by rw [Nat.succ_mul]; omega⟩⟩
          have HNEXT := Lib.hid hnext
          clear hqi hrec hlt2 hl5 hE hkm hnext HP6
          generalize xa.take (k + 1) = XK at *
          go_wp2_with fail
          refine HREC.out.mono ?_
          rintro e w7 ⟨u7, us7, rfl, hx7⟩
          have hlay := HNEXT.out u7 us7 w7 hx7
          obtain ⟨A7, c7, hf7⟩ := hx7.own.form
          rw [hx7.len] at hf7
          have HLAY := Lib.hid hlay
          clear hx7 hlay
          subst hf7
          go_wp2_with fail
          refine HLAY.out.mono ?_
          rintro e w8 ⟨rfl, HLI⟩
          go_wp2
          go_roundw
          case rel => exact ⟨k + 1, by omega, by go_num, HLI⟩
          case measure => simp [intOf]; omega
        · have HLI := Lib.hid (HP6.out.2.1 hkH)
          have hkb : ((k : Int) == (H : Int)) = false := by simp; omega
          clear hkH
          go_wp2
          go_roundw
          case rel => exact ⟨k + 1, by omega, by go_num, HLI⟩
          case measure => simp [intOf]; omega
      · have hkl : k = xa.length := by omega
        have hli := HPI.out
        rw [hkl] at hli
        obtain ⟨g, base, log, cc, dd, hbl, hqi, hz1, hz2, hcc, hdd⟩ := hli
        rw [List.take_length] at hbl
        have hg1 : g ≤ 1 := by
          by_cases h : xa.length ≤ H
          · have := (hz1 h).1; omega
          · have := hz2 (by omega); omega
        have hg0 : g = 0 → base = [] := fun h => by
          by_cases h2 : xa.length ≤ H
          · exact (hz1 h2).2.1
          · have := hz2 (by omega); omega
        have HBL := Lib.hid hbl; have HQI := Lib.hid hqi; have HGG := Lib.hid (And.intro hg1 hg0)
        have hxm : xa.length * 6000 ≤ 60 * 6000 := Nat.mul_le_mul_right _ HSM.out.1
        have HCD : Hid (cc ≤ 70 ∧ dd ≤ 400000) := Lib.hid ⟨by have := HSM.out.1; omega, by omega⟩
        have HMB : Hid (∀ l ∈ base ++ log, l.length ≤ 5000) := Lib.hid fun l hl => HLA.out l (by rw [← hbl]; exact hl)
        have HLB2 : Hid (base.length + log.length = xa.length) := Lib.hid (by rw [← hbl, List.length_append])
        obtain ⟨wo, rfl⟩ : ∃ wo : World, wo = wr := ⟨_, rfl⟩
        clear hbl hqi hz1 hz2 hcc hdd hg1 hg0 hkl HPI H4 hxm
        go_wp2_with fail
        refine (HQI.out.sync (by have := HCD.out.1; omega)).mono ?_
        rintro e w5 ⟨rfl, HS5⟩
        obtain ⟨fs, lg, F5, G5, h5, hv5, hlg5, hcm5⟩ := HS5.out
        have H5 := Lib.hid h5; have HV5 := Lib.hid hv5; have HLG := Lib.hid hlg5
        have HCM : Hid (Calm fs 100 500000) := Lib.hid (hcm5.mono (by have := HCD.out.1; omega) (by have := HCD.out.2; omega))
        clear h5 hv5 hlg5 hcm5 HS5 HQI HBW
        have hrec := jrecordsX_any H5.out.jf.js (by have := HLB2.out; have := HSM.out.1; omega) (by have := HLB2.out; have := HSM.out.1; omega) (fun l hl => by have := HMB.out l (List.mem_append_left _ hl); omega) (fun l hl => by have := HMB.out l (List.mem_append_right _ hl); omega)
        rw [HBL.out] at hrec
        go_wp2_with fail
        refine hrec.mono ?_
        rintro e w6 ⟨u6, us6, rfl, hx6⟩
        have H6 := Lib.hid (H5.out.go (Nat.le_refl _) hx6.below)
        obtain ⟨A6, c6, hf6⟩ := hx6.own.form
        rw [hx6.len] at hf6
        have hbr := hx6.toRowed.rows
        rw [hf6] at hbr
        have HBR := Lib.hid hbr
        clear hx6 hbr hrec H5
        subst hf6
        obtain ⟨q, hq, hqe⟩ := and7 pw
        have hcr := crash_any w6 p ⟨-1, fs⟩ F5 H6.out.jf.fs (by have := HCM.out.files; simp only; omega) HCM.out.short (fun f hf => by have := HCM.out.data f hf; omega) (.slice none 0 0) [] (Seg.nil _ _) (q : Int)
        have HCR := Lib.hid hcr; have HQ := Lib.hid hq
        clear hcr hq
        go_wp2_with fail
        refine HCR.out.mono ?_
        rintro e w7 ⟨p2, F7, rfl, hfs7, hF7, hb7⟩
        have HB7 := Lib.hid (H6.out.below.trans (hb7.mono H6.out.below.size))
        have HF7 : Hid (∀ k, F7 k → W.heap.size ≤ k) := Lib.hid fun k hk => by have := (hF7 k hk).1; have := H6.out.below.size; omega
        have HBR7 : Hid (RowsAt (· < w7.heap.size) w7 (.slice A6 xa.length c6) xa) := Lib.hid (HBR.out.keep fun b hb => ⟨by have := hb7.size; omega, hb7.block b hb.2⟩)
        have hop7 := jopen_any w7 p2 ⟨(q : Int), crashL [] 0 fs⟩ F7 hfs7 (HCM.out.crash [] 0) (by omega) (by omega) (by simp only; have := HQ.out; omega)
        obtain ⟨i1, i2, i3, hv7⟩ := HV5.out.crash []
        rw [bsOf_crash, HLG.out.crash] at hv7
        simp only [Option.map_none] at hv7
        have hp1 : ∀ l ∈ base, l.length ≤ 65536 := fun l hl => by have := HMB.out l (List.mem_append_left _ hl); omega
        have hp2 : ∀ l ∈ log, l.length ≤ 65536 := fun l hl => by have := HMB.out l (List.mem_append_right _ hl); omega
        have hbok := bsOf_ok (g := g) (base := base) (by have := HGG.out.1; omega) hp1 (by have := HLB2.out; have := HSM.out.1; omega) HGG.out.2
        have hlok := HLG.out.recs (by have := HGG.out.1; omega) hp2
        rw [hv7.opn0 hbok hlok.2, hlok.1] at hop7
        have HV7 := Lib.hid hv7
        have HOP7 : Hid (Calls Try.prog 40 #[.pointer (some ⟨p2, 0, none⟩)] w7 fun e w' => ∃ pjk, e = .returned (.tuple #[.pointer (some ⟨pjk, 0, none⟩), .int .i64 0]) ∧ Hid (∃ F G, JH w6.heap.size w6 w' pjk p2 ⟨(q : Int), crashL [] 0 fs⟩ g base log F G)) := Lib.hid (hop7.mono (by
          intro e w' hpost
          obtain ⟨pjk, F', G', h1, h2⟩ := hpost.held (B := w6.heap.size) (w0 := w6) hb7 (Nat.le_refl _) (fun k hk => (hF7 k hk).1)
          exact ⟨pjk, h1, Lib.hid ⟨F', G', h2⟩⟩))
        have hp3 : ∀ l ∈ xb, l.length ≤ 65536 := fun l hl => by have := HLB.out l hl; omega
        obtain ⟨st, er, hls, hlaw⟩ := lays_law (xb := xb) q HV7.out HLG.out (by have := HGG.out.1; omega) HGG.out.2 hp1 hp2 hp3 (by have := HLB2.out; have := HSM.out.1; omega) (by have := HSM.out.2.1; omega) ks
        have HLS := Lib.hid hls; have HLAW := Lib.hid hlaw
        have hEx := enc_small2 (g := g + 1) HSM.out.2.1 (by have := HSM.out.2.2; omega)
        have hcst : Calm st.files 104 524000 := by
          have := lay_calm (b := encR (g + 1) (be4 xb.length :: xb)) (stepsOf (hasF (crashL [] 0 fs) nLog)) (st := ⟨(q : Int), crashL [] 0 fs⟩) (HCM.out.crash [] 0)
          rw [hls] at this
          have hks : (stepsOf (hasF (crashL [] 0 fs) nLog)).length ≤ 4 := by cases hasF (crashL [] 0 fs) nLog <;> simp [stepsOf]
          have hmul : (stepsOf (hasF (crashL [] 0 fs) nLog)).length * (encR (g + 1) (be4 xb.length :: xb)).length ≤ 4 * 6000 := Nat.mul_le_mul hks hEx
          exact this.mono (by omega) (by omega)
        have HCST := Lib.hid hcst; have HEX := Lib.hid hEx
        clear hfs7 hF7 hb7 hop7 hv7 hp1 hp2 hp3 hbok hlok hls hlaw hEx hcst HCR
        go_wp2_with fail
        refine HOP7.out.mono ?_
        rintro e w8 ⟨pjk, rfl, HK8⟩
        obtain ⟨F8, G8, h8⟩ := HK8.out
        have H8 := Lib.hid h8
        have HW8 := Lib.hid (H6.out.below.trans (h8.below.mono H6.out.below.size))
        clear h8 HK8 HOP7
        go_wp2_with fail
        refine (copyRowsX_any _ xb W.heap.size w8 (GB.out.keep fun b hb => ⟨hb, HW8.out.block b hb⟩) HW8.out.size (by have := HSM.out.2.1; omega) (fun l hl => by have := HLB.out l hl; omega)).mono ?_
        rintro e w9 ⟨u9, us9, rfl, hx9⟩
        have hrows : RowsAt (fun k => k < w9.heap.size ∧ ¬ F8 k ∧ ¬ G8 k) w9 u9 xb := hx9.toRowed.rows.keep fun b hb => ⟨⟨hb.2, fun hf => by have := H8.out.lt b (.inl hf); omega, fun hg => by have := H8.out.lt b (.inr hg); omega⟩, rfl⟩
        have h9 := H8.out.go (Nat.le_refl _) hx9.below
        have hlay : Calls Try.prog 44 #[.pointer (some ⟨pjk, 0, none⟩), u9] w9 fun e w' => e = .returned (.int .i64 er) ∧ Hid (∃ F, Held w6.heap.size w6 w' p2 st F) := by
          refine (jlay_any h9.jf u9 xb hrows (fun l hl => by have := HLB.out l hl; omega) (by have := HSM.out.2.1; omega) (by have := HGG.out.1; omega) (Nat.le_trans HEX.out (by omega)) (kf := 100) (d := 500000) (HCM.out.crash [] 0) (by omega) (by omega) (by simp only; have := HQ.out; omega)).mono ?_
          rintro e w' ⟨r, hr, rfl, hp⟩
          have hr' : r = (st, er) := by rw [← hr]; exact HLS.out
          subst hr'
          obtain ⟨F', G', hh, -⟩ := h9.op (Nat.le_refl _) hp
          exact ⟨rfl, Lib.hid ⟨F', hh.jf.fs, hh.fnew, hh.below⟩⟩
        obtain ⟨A9, c9, hf9⟩ := hx9.own.form
        rw [hx9.len] at hf9
        have HLAY := Lib.hid hlay
        clear hx9 hrows h9 hlay
        subst hf9
        go_wp2_with fail
        refine HLAY.out.mono ?_
        rintro e w10 ⟨rfl, HK10⟩
        obtain ⟨F10, h10⟩ := HK10.out
        have H10 := Lib.hid h10
        have HW10 := Lib.hid (H6.out.below.trans (h10.below.mono H6.out.below.size))
        clear h10 HK10 HLAY
        go_wp2_with fail
        refine (copyInts_big _ ks W.heap.size w10 (GK.out.below HW10.out) HW10.out.size HKS.out).mono ?_
        rintro e w11 ⟨u11, rfl, hu11, hb11⟩
        have hcr2 := crash_any w11 p2 st F10 (H10.out.fs.below hb11) (by have := HCST.out.files; omega) HCST.out.short (fun f hf => by have := HCST.out.data f hf; omega) u11 ks (Own.seg hu11) (-1)
        have HB11 := Lib.hid (H10.out.below.trans (hb11.mono H10.out.below.size))
        obtain ⟨A11, c11, hf11⟩ := hu11.form
        have HCR2 := Lib.hid hcr2
        clear hu11 hb11 hcr2
        subst hf11
        go_wp2_with fail
        refine HCR2.out.mono ?_
        rintro e w12 ⟨p3, F12, rfl, hfs12, hF12, hb12⟩
        have HB12 := Lib.hid (HB11.out.trans (hb12.mono HB11.out.size))
        have HF12 : Hid (∀ k, F12 k → w6.heap.size ≤ k) := Lib.hid fun k hk => by have := (hF12 k hk).1; have := HB11.out.size; omega
        have hop12 := jopen_any w12 p3 ⟨-1, crashL ks 0 st.files⟩ F12 hfs12 (HCST.out.crash ks 0) (by omega) (by omega) (by simp only; omega)
        have HOP12 := Lib.hid hop12
        clear hfs12 hF12 hb12 hop12 HCR2
        rcases HLAW.out with ⟨he0, st', g', hopn⟩ | ⟨he13, st', g', ps, ls, hopn, heq⟩
        · obtain ⟨RS, hRS⟩ : ∃ RS, RS = xb := ⟨_, rfl⟩
          have HRS := Lib.hid hRS
          have HOK : Hid (Calls Try.prog 40 #[.pointer (some ⟨p3, 0, none⟩)] w12 fun e w' => ∃ pjl, e = .returned (.tuple #[.pointer (some ⟨pjl, 0, none⟩), .int .i64 0]) ∧ Hid (∃ F G, JH w6.heap.size w6 w' pjl p3 st' g' RS [] F G)) := Lib.hid (HOP12.out.mono (by
            intro e w' hpost
            rw [hopn] at hpost
            obtain ⟨pjl, F', G', h1, h2⟩ := hpost.held HB12.out (Nat.le_refl _) HF12.out
            exact ⟨pjl, h1, Lib.hid ⟨F', G', by rw [hRS]; exact h2⟩⟩))
          clear hopn hRS HOP12 HLAW
          subst he0
          go_wp2_with fail
          refine HOK.out.mono ?_
          rintro e w14 ⟨pjl, rfl, HK14⟩
          obtain ⟨F14, G14, h14⟩ := HK14.out
          have H14 := Lib.hid h14
          have HRL : Hid (RS.length ≤ 60 ∧ ∀ l ∈ RS, l.length ≤ 5000) := Lib.hid (by rw [HRS.out]; exact ⟨HSM.out.2.1, HLB.out⟩)
          clear h14 HK14 HOK
          have hrec2 := jrecordsX_any H14.out.jf.js (by have := HRL.out.1; omega) (by simp) (fun l hl => by have := HRL.out.2 l hl; omega) (fun l hl => by cases hl)
          rw [List.append_nil] at hrec2
          go_wp2_with fail
          refine hrec2.mono ?_
          rintro e w15 ⟨u15, us15, rfl, hx15⟩
          have H15 := Lib.hid (H14.out.go (Nat.le_refl _) hx15.below)
          obtain ⟨A15, c15, hf15⟩ := hx15.own.form
          rw [hx15.len] at hf15
          have hG15 : RowsAt (· < w15.heap.size) w15 u15 RS := hx15.toRowed.rows.sub fun b hb => hb.2
          have hB15 : RowsAt (· < w15.heap.size) w15 (.slice A6 xa.length c6) xa := HBR.out.keep fun b hb => ⟨Nat.lt_of_lt_of_le hb.2 H15.out.below.size, H15.out.below.block b hb.2⟩
          have hW15 := H6.out.below.trans (H15.out.below.mono H6.out.below.size)
          have hC15 : RowsAt (· < w15.heap.size) w15 (.slice A' xb.length c') xb := GB.out.keep fun b hb => ⟨Nat.lt_of_lt_of_le hb hW15.size, hW15.block b hb⟩
          have hsa := sameRows_any _ _ _ _ w15 hG15 hB15
          have hsb := fun (w16 : World) (n : Nat) (hw : w16 = w15.drewN n) => sameRows_any u15 (.slice A' xb.length c') RS xb w16 (hG15.keep fun b hb => ⟨by rw [hw]; exact hb, by rw [hw]; rfl⟩) (hC15.keep fun b hb => ⟨by rw [hw]; exact hb, by rw [hw]; rfl⟩)
          have HSA := Lib.hid hsa; have HSB := Lib.hid hsb; have HW15 := Lib.hid hW15
          clear hG15 hB15 hC15 hsa hsb hx15 hW15 hrec2
          rw [hf15] at HSA HSB
          subst hf15
          have hsb := HSB.out w15 0 rfl
          rw [decide_eq_true HRS.out] at hsb
          have HSB2 := Lib.hid hsb
          clear hsb
          go_wp2_with fail
          refine HSB2.out.mono ?_
          rintro e w16 ⟨rfl, n16, hw16⟩
          have HB16 : Hid (Below W.heap.size W w16) := Lib.hid (by rw [hw16]; exact below_drewN HW15.out n16)
          clear hw16
          go_wp2
          go_ret
          exact ⟨rfl, HB16.out⟩
        · obtain ⟨RS, hRS⟩ : ∃ RS, RS = ps ++ ls := ⟨_, rfl⟩
          rw [← hRS, HBL.out] at heq
          have HRS := Lib.hid hRS; have HEQ := Lib.hid heq
          have HRL : Hid (RS.length ≤ 60 ∧ ∀ l ∈ RS, l.length ≤ 5000) := Lib.hid (by
            rcases heq with h | h
            · rw [h]; exact ⟨HSM.out.1, HLA.out⟩
            · rw [h]; exact ⟨HSM.out.2.1, HLB.out⟩)
          have HPL : Hid (ps.length ≤ 60 ∧ ls.length ≤ 60 ∧ (∀ l ∈ ps, l.length ≤ 5000) ∧ ∀ l ∈ ls, l.length ≤ 5000) := Lib.hid (by
            have h1 := HRL.out.1
            rw [hRS, List.length_append] at h1
            exact ⟨by omega, by omega, fun l hl => HRL.out.2 l (by rw [hRS]; exact List.mem_append_left _ hl), fun l hl => HRL.out.2 l (by rw [hRS]; exact List.mem_append_right _ hl)⟩)
          have HOK : Hid (Calls Try.prog 40 #[.pointer (some ⟨p3, 0, none⟩)] w12 fun e w' => ∃ pjl, e = .returned (.tuple #[.pointer (some ⟨pjl, 0, none⟩), .int .i64 0]) ∧ Hid (∃ F G, JH w6.heap.size w6 w' pjl p3 st' g' ps ls F G)) := Lib.hid (HOP12.out.mono (by
            intro e w' hpost
            rw [hopn] at hpost
            obtain ⟨pjl, F', G', h1, h2⟩ := hpost.held HB12.out (Nat.le_refl _) HF12.out
            exact ⟨pjl, h1, Lib.hid ⟨F', G', h2⟩⟩))
          clear hopn heq hRS HOP12 HLAW
          subst he13
          go_wp2_with fail
          refine HOK.out.mono ?_
          rintro e w14 ⟨pjl, rfl, HK14⟩
          obtain ⟨F14, G14, h14⟩ := HK14.out
          have H14 := Lib.hid h14
          clear h14 HK14 HOK
          have hrec2 := jrecordsX_any H14.out.jf.js (by have := HPL.out.1; omega) (by have := HPL.out.2.1; omega) (fun l hl => by have := HPL.out.2.2.1 l hl; omega) (fun l hl => by have := HPL.out.2.2.2 l hl; omega)
          rw [← HRS.out] at hrec2
          go_wp2_with fail
          refine hrec2.mono ?_
          rintro e w15 ⟨u15, us15, rfl, hx15⟩
          have H15 := Lib.hid (H14.out.go (Nat.le_refl _) hx15.below)
          obtain ⟨A15, c15, hf15⟩ := hx15.own.form
          rw [hx15.len] at hf15
          have hG15 : RowsAt (· < w15.heap.size) w15 u15 RS := hx15.toRowed.rows.sub fun b hb => hb.2
          have hB15 : RowsAt (· < w15.heap.size) w15 (.slice A6 xa.length c6) xa := HBR.out.keep fun b hb => ⟨Nat.lt_of_lt_of_le hb.2 H15.out.below.size, H15.out.below.block b hb.2⟩
          have hW15 := H6.out.below.trans (H15.out.below.mono H6.out.below.size)
          have hC15 : RowsAt (· < w15.heap.size) w15 (.slice A' xb.length c') xb := GB.out.keep fun b hb => ⟨Nat.lt_of_lt_of_le hb hW15.size, hW15.block b hb⟩
          have hsa := sameRows_any _ _ _ _ w15 hG15 hB15
          have hsb := fun (w16 : World) (n : Nat) (hw : w16 = w15.drewN n) => sameRows_any u15 (.slice A' xb.length c') RS xb w16 (hG15.keep fun b hb => ⟨by rw [hw]; exact hb, by rw [hw]; rfl⟩) (hC15.keep fun b hb => ⟨by rw [hw]; exact hb, by rw [hw]; rfl⟩)
          have HSA := Lib.hid hsa; have HSB := Lib.hid hsb; have HW15 := Lib.hid hW15
          clear hG15 hB15 hC15 hsa hsb hx15 hW15 hrec2
          rw [hf15] at HSA HSB
          subst hf15
          by_cases hxa : RS = xa
          · have hsa := HSA.out
            rw [decide_eq_true hxa] at hsa
            have HSA2 := Lib.hid hsa
            clear hsa hxa
            go_wp2_with fail
            refine HSA2.out.mono ?_
            rintro e w16 ⟨rfl, n16, hw16⟩
            have HB16 : Hid (Below W.heap.size W w16) := Lib.hid (by rw [hw16]; exact below_drewN HW15.out n16)
            clear hw16
            go_wp2
            go_ret
            exact ⟨rfl, HB16.out⟩
          · have hxb : RS = xb := HEQ.out.resolve_left hxa
            have hsa := HSA.out
            rw [decide_eq_false hxa] at hsa
            have HSA2 := Lib.hid hsa; have HXB := Lib.hid hxb
            clear hsa hxa hxb
            go_wp2_with fail
            refine HSA2.out.mono ?_
            rintro e w16 ⟨rfl, n16, hw16⟩
            have hsb := HSB.out w16 n16 hw16
            rw [decide_eq_true HXB.out] at hsb
            have HSB2 := Lib.hid hsb
            have HB16 : Hid (Below W.heap.size W w16) := Lib.hid (by rw [hw16]; exact below_drewN HW15.out n16)
            clear hsb hw16
            go_wp2_with fail
            refine HSB2.out.mono ?_
            rintro e w17 ⟨rfl, n17, hw17⟩
            have HB17 : Hid (Below W.heap.size W w17) := Lib.hid (by rw [hw17]; exact below_drewN HB16.out n17)
            clear hw17
            go_wp2
            go_ret
            exact ⟨rfl, HB17.out⟩
end Go.Proofs.Ytpdelgjfamelfaa
