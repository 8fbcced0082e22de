/- JournalMemory, walked. -/
import Derived.Test.YtpdelgjfamelfaaJ21
namespace Go.Proofs.Ytpdelgjfamelfaa
open Go.RowKit Go.Lib Go.Vfs Go.Par Go.Shelf
set_option linter.unusedVariables false
set_option linter.unusedSimpArgs false

theorem enc_small {g : Nat} {ls : List (List UInt8)} (h1 : ls.length ≤ 60) (h2 : sizeR ls ≤ 5000) : (encR g (be4 ls.length :: ls)).length ≤ 6000 := by
  rw [encR_len, List.length_cons, List.flatten_cons, List.length_append, be4_length]
  have := sizeR_flat ls
  omega
/-- where the loop of JournalMemory stands. -/
structure MemI (W w5 : World) (B pj p : Nat) (u : Value) (us : List Value) (ls : List (List UInt8)) (k : Nat) (wr : World) : Prop where
  ex : ∃ fs F G, JH W.heap.size W wr pj p ⟨-1, fs⟩ 1 ls (ls.take k) F G ∧ Calm fs (10 + k) (20000 + k * 6000) ∧ OwnS wr B u us ls k (fun g => F g ∨ G g)
theorem MemI.go {W w5 wr w' : World} {B pj p : Nat} {u : Value} {us : List Value} {ls : List (List UInt8)} {k : Nat} (h : MemI W w5 B pj p u us ls k wr) (hb : Below wr.heap.size wr w') : MemI W w5 B pj p u us ls k w' := by
  obtain ⟨fs, F, G, h1, h2, h3⟩ := h.ex
  exact ⟨fs, F, G, h1.go (Nat.le_refl _) hb, h2, h3.below hb⟩
/-- one more record, as the law appends it. -/
theorem MemI.append {W w5 wr : World} {B pj p : Nat} {u : Value} {us : List Value} {ls : List (List UInt8)} {k : Nat} (h : MemI W w5 B pj p u us ls k wr) (hk : k < ls.length) (hl : ls.length ≤ 60) (hs : sizeR ls ≤ 5000) (hBW : W.heap.size ≤ B) :
    ∃ g A c, (∃ c', u = .slice (some ⟨g, 0, none⟩) ls.length c') ∧ us.getD k (.bool false) = .slice A (ls.getD k []).length c ∧ wr.cell? ⟨g, k, none⟩ = some (.slice A (ls.getD k []).length c) ∧
      Calls Try.prog 41 #[.pointer (some ⟨pj, 0, none⟩), .slice A (ls.getD k []).length c] wr fun e w' => e = .returned (.int .i64 0) ∧ w'.cell? ⟨g, k, none⟩ = some (.slice A (ls.getD k []).length c) ∧ Flip w' A (ls.getD k []).length w' ∧
        Hid (∀ wx, Flip w' A (ls.getD k []).length wx → MemI W w5 B pj p u us ls (k + 1) wx ∧ wx.cell? ⟨g, k, none⟩ = some (.slice A (ls.getD k []).length c)) := by
  obtain ⟨fs, F, G, h1, h2, h3⟩ := h.ex
  obtain ⟨g, A, c, e1, e2, e3, e4, e5⟩ := h3.cell hk
  have hmem : ls.getD k [] ∈ ls := by rw [List.getD_eq_getElem?_getD, List.getElem?_eq_getElem hk]; exact List.getElem_mem hk
  have hlen : (ls.getD k []).length ≤ 5000 := Nat.le_trans (sizeR_mem hmem) hs
  refine ⟨g, A, c, e3, e2, e4, ?_⟩
  have ho := h3.rest k (Nat.le_refl _) hk
  rw [e2] at ho
  have hsg : SegS (fun j => j < wr.heap.size ∧ ¬ F j) wr (.slice A (ls.getD k []).length c) (byteCells (ls.getD k [])) := (own_seg ho).keep fun j hj => ⟨⟨(h3.out j (.inr ⟨k, hk, by rw [e2]; exact hj⟩)).2.1, fun hf => (h3.out j (.inr ⟨k, hk, by rw [e2]; exact hj⟩)).1 (.inl hf)⟩, rfl⟩
  have hkm : k * 6000 ≤ 60 * 6000 := Nat.mul_le_mul_right _ (by omega)
  refine (jappend_any h1.jf _ (ls.getD k []) hsg (by omega) (h2.modest (st := ⟨-1, fs⟩) (show (-1 : Int) ≤ 9223372036854775807 by decide) (by omega) (by omega)) (by simp; omega)).mono ?_
  rw [jAppend_on]
  rintro e w' ⟨rfl, hp⟩
  obtain ⟨F', G', h4, hkp, hgF, hgG⟩ := h1.op (Nat.le_refl _) hp
  have htk : ls.take k ++ [ls.getD k []] = ls.take (k + 1) := by
    rw [List.take_succ_eq_append_getElem hk, List.getD_eq_getElem?_getD, List.getElem?_eq_getElem hk]; rfl
  rw [htk] at h4
  have h5 : OwnS w' B u us ls k (fun j => F' j ∨ G' j) := h3.kept hkp fun j hj => by
    rcases hj with hj | hj
    · exact (hgF j hj).imp .inl id
    · exact (hgG j hj).imp .inr id
  have h6 : Calm (appF nLog (frameB 1 (ls.getD k [])) fs) (10 + (k + 1)) (20000 + (k + 1) * 6000) := (h2.app (s := nLog) (by decide)).mono (by omega) (by rw [frameB_length, Nat.succ_mul]; omega)
  have ho' := h5.rest k (Nat.le_refl _) hk
  rw [e2] at ho'
  have hcell : w'.cell? ⟨g, k, none⟩ = some (.slice A (ls.getD k []).length c) := (World.cell?_of_block (a := ⟨g, k, none⟩) (hkp.block g e5 (h3.out g (.inl e1)).1)).trans e4
  have hb2 : ∀ j, A.map (·.block) = some j → (us.getD k (.bool false)).ownBlock = some j := fun j e => by rw [e2]; cases A <;> simp [Value.ownBlock] at e ⊢; exact e
  refine ⟨rfl, hcell, Flip.start ho', Lib.hid fun wx hf => ⟨⟨_, F', G', h4.flip (Nat.le_refl _) hf fun j e => ?_, h6, h5.flip hk e2 hf⟩, ?_⟩⟩
  · obtain ⟨x1, x2, x3⟩ := h5.out j (.inr ⟨k, hk, hb2 j e⟩)
    exact ⟨fun hF => x1 (.inl hF), fun hG => x1 (.inr hG), by omega⟩
  · exact (World.cell?_of_block (a := ⟨g, k, none⟩) (hf.1.block g (h5.out g (.inl e1)).2.1 (fun e => h5.vsep k hk g (hb2 g e) e1))).trans hcell

/-- where the loop over the answered rows stands. -/
structure GotI (W w3 : World) (B pj p : Nat) (fs : List File) (ls : List (List UInt8)) (u : Value) (us : List Value) (k : Nat) (wr : World) : Prop where
  ex : ∃ F G, JH W.heap.size W wr pj p ⟨-1, fs⟩ 1 ls ls F G ∧ OwnS wr w3.heap.size u us (ls ++ ls) k (fun g => F g ∨ G g)
  kept : Kept (fun g => w3.heap.size ≤ g) w3 wr
theorem GotI.flip {W w3 wr : World} {B pj p : Nat} {fs : List File} {ls : List (List UInt8)} {u : Value} {us : List Value} {k : Nat} (h : GotI W w3 B pj p fs ls u us k wr) (hk : k < (ls ++ ls).length) (hBW : W.heap.size ≤ w3.heap.size) :
    ∃ g A c, (∃ c', u = .slice (some ⟨g, 0, none⟩) (ls ++ ls).length c') ∧ us.getD k (.bool false) = .slice A ((ls ++ ls).getD k []).length c ∧ Flip wr A ((ls ++ ls).getD k []).length wr ∧
        Hid (∀ wx, Flip wr A ((ls ++ ls).getD k []).length wx → GotI W w3 B pj p fs ls u us (k + 1) wx ∧ wx.cell? ⟨g, k, none⟩ = some (.slice A ((ls ++ ls).getD k []).length c)) := by
  obtain ⟨F, G, h1, h3⟩ := h.ex
  obtain ⟨g, A, c, e1, e2, e3, e4, e5⟩ := h3.cell hk
  have ho := h3.rest k (Nat.le_refl _) hk
  rw [e2] at ho
  have hb2 : ∀ j, A.map (·.block) = some j → (us.getD k (.bool false)).ownBlock = some j := fun j e => by rw [e2]; cases A <;> simp [Value.ownBlock] at e ⊢; exact e
  refine ⟨g, A, c, e3, e2, Flip.start ho, Lib.hid fun wx hf => ⟨⟨⟨F, G, h1.flip (Nat.le_refl _) hf fun j e => ?_, h3.flip hk e2 hf⟩, ?_⟩, ?_⟩⟩
  · obtain ⟨x1, x2, x3⟩ := h3.out j (.inr ⟨k, hk, hb2 j e⟩)
    exact ⟨fun hF => x1 (.inl hF), fun hG => x1 (.inr hG), by omega⟩
  · refine ⟨hf.1.os.trans h.kept.os, hf.1.tape.trans h.kept.tape, hf.1.output.trans h.kept.output, Nat.le_trans h.kept.size hf.1.size, fun j hj hn => ?_⟩
    refine (hf.1.block j (by have := h.kept.size; omega) fun e => ?_).trans (h.kept.block j hj hn)
    have := (h3.out j (.inr ⟨k, hk, hb2 j e⟩)).2.2
    omega
  · exact (World.cell?_of_block (a := ⟨g, k, none⟩) (hf.1.block g (h3.out g (.inl e1)).2.1 (fun e => h3.vsep k hk g (hb2 g e) e1))).trans e4

set_option maxRecDepth 20000 in
set_option maxHeartbeats 4000000 in
theorem journalMemory_walk (v : Value) (ls : List (List UInt8)) (hb : RowsOk ls) (W : World) (hsg : RowsAt (· < W.heap.size) W v ls) :
    Calls Try.prog 11 #[v] W fun e W' => e = .returned (.bool true) ∧ Below W.heap.size W W' := by
  obtain ⟨A, c, rfl, hc, hm, HR⟩ := hsg.open_
  have HSG := Lib.hid hsg; have HB := Lib.hid hb
  have hlb := hb.1
  clear hsg hb HR
  go_enter Try.func11, Try.ntmps11
  go_wp2_with fail
  refine (jalive_any W).mono ?_
  rintro e w1 ⟨rfl, hb1⟩
  have HB1 := Lib.hid hb1
  have hgr := great1_any w1 A c ls (HSG.out.keep fun b hb => ⟨Nat.lt_of_lt_of_le hb hb1.size, hb1.block b hb⟩) HB.out
  have hb2 := Lib.hid (hb1.trans ((box_below w1 (.cells #[.int .i64 0, .int .i64 0, .slice A ls.length c, .slice none 0 0] 68)).mono hb1.size))
  clear hb1
  by_cases hsm : ls.length ≤ 60 ∧ sizeR ls ≤ 5000
  case neg =>
    by_cases hfew : ls.length ≤ 60
    · have hbig : 5000 < sizeR ls := by omega
      have HG : Hid (Calls Try.prog 39 #[.slice (some ⟨w1.heap.size, 0, none⟩) 1 1] (w1.alloc (.cells #[.int .i64 0, .int .i64 0, .slice A ls.length c, .slice none 0 0] 68)) fun e w' => e = .returned (.bool true) ∧ Hid (Below W.heap.size W w')) := Lib.hid (hgr.mono (by
        rintro e w' ⟨b, rfl, rfl, hb⟩
        rw [hb hfew, decide_eq_true hbig]
        exact ⟨rfl, hb2⟩))
      clear hgr hsm hbig
      go_wp2_with fail
      refine HG.out.mono ?_
      rintro e w3 ⟨rfl, HB3⟩
      go_wp2
      go_ret
      exact ⟨rfl, HB3.out⟩
    · have h60 : (60 : Int) < (ls.length : Int) := by omega
      have HG : Hid (Calls Try.prog 39 #[.slice (some ⟨w1.heap.size, 0, none⟩) 1 1] (w1.alloc (.cells #[.int .i64 0, .int .i64 0, .slice A ls.length c, .slice none 0 0] 68)) fun e w' => ∃ b, e = .returned (.bool b) ∧ Hid (Below W.heap.size W w')) := Lib.hid (hgr.mono (by
        rintro e w' ⟨b, rfl, rfl, hb⟩
        exact ⟨b, rfl, hb2⟩))
      clear hgr hsm
      go_wp2_with fail
      refine HG.out.mono ?_
      rintro e w3 ⟨b, rfl, HB3⟩
      cases b
      · go_wp2
        go_ret
        exact ⟨rfl, HB3.out⟩
      · go_wp2
        go_ret
        exact ⟨rfl, HB3.out⟩
  case pos =>
    obtain ⟨h60, h5000⟩ := hsm
    have HG : Hid (Calls Try.prog 39 #[.slice (some ⟨w1.heap.size, 0, none⟩) 1 1] (w1.alloc (.cells #[.int .i64 0, .int .i64 0, .slice A ls.length c, .slice none 0 0] 68)) fun e w' => e = .returned (.bool false) ∧ Hid (Below W.heap.size W w')) := Lib.hid (hgr.mono (by
      rintro e w' ⟨b, rfl, rfl, hb⟩
      rw [hb h60, decide_eq_false (by omega)]
      exact ⟨rfl, hb2⟩))
    have HSM := Lib.hid (And.intro h60 h5000)
    have HLL : Hid (∀ l ∈ ls, l.length ≤ 5000) := Lib.hid fun l hl => Nat.le_trans (sizeR_mem hl) h5000
    have h60' : ¬ (60 : Int) < (ls.length : Int) := by omega
    clear hgr h5000 HB1 hb2 hlb
    go_wp2_with fail
    refine HG.out.mono ?_
    rintro e w2 ⟨rfl, HB2⟩
    clear HG
    go_wp2_with fail
    refine (new_fs (-1) w2).mono ?_
    rintro e w3 ⟨p, F, rfl, hfs, hF, hb3⟩
    have hop := jopen_any w3 p ⟨-1, []⟩ F hfs Calm.nil (by omega) (by omega) (by decide)
    have HF : Hid (∀ k, F k → W.heap.size ≤ k) := Lib.hid fun k hk => Nat.le_trans HB2.out.size (hF k hk).1
    have HB3 := Lib.hid (HB2.out.trans (hb3.mono HB2.out.size)); have HOP := Lib.hid hop
    clear hfs hF hb3 hop HB2
    go_wp2_with fail
    refine HOP.out.mono ?_
    rintro e w4 hop
    obtain ⟨pj, F2, G2, rfl, h4⟩ := hop.fresh HB3.out HF.out
    have H4 := Lib.hid h4
    clear hop h4 HOP HF HB3
    go_wp2_with fail
    refine (copyRowsX_any _ ls W.heap.size w4 (HSG.out.keep fun b hb => ⟨hb, H4.out.below.block b hb⟩) H4.out.below.size (by have := HSM.out.1; omega) (fun l hl => by have := HLL.out l hl; omega)).mono ?_
    rintro e w5 ⟨u, us, rfl, hx⟩
    have hrows : RowsAt (fun k => k < w5.heap.size ∧ ¬ F2 k ∧ ¬ G2 k) w5 u ls := hx.toRowed.rows.keep fun b hb => ⟨⟨hb.2, fun hf => by have := H4.out.lt b (.inl hf); omega, fun hg => by have := H4.out.lt b (.inr hg); omega⟩, rfl⟩
    have h5 := H4.out.go (Nat.le_refl _) hx.below
    have hos := hx.ownS (N := fun g => F2 g ∨ G2 g) H4.out.lt
    obtain ⟨Au, cu, hfu⟩ := hx.own.form
    rw [hx.len] at hfu
    have hBW : W.heap.size ≤ w4.heap.size := H4.out.below.size
    have hlay2 : Calls Try.prog 44 #[.pointer (some ⟨pj, 0, none⟩), u] w5 fun e w' => e = .returned (.int .i64 0) ∧ Hid (MemI W w5 w4.heap.size pj p u us ls 0 w') := by
      refine (jlay_any h5.jf u ls hrows (fun l hl => by have := HLL.out l hl; omega) (by have := HSM.out.1; omega) (by omega) (Nat.le_trans (enc_small HSM.out.1 HSM.out.2) (by omega)) (kf := 0) (d := 0) Calm.nil (by omega) (by omega) (by decide)).mono ?_
      rintro e w' ⟨r, hr, rfl, hp⟩
      obtain ⟨fs, hl, hv3⟩ := V3.nil.lay (encR 1 (be4 ls.length :: ls))
      have hcm := lay_calm (b := encR 1 (be4 ls.length :: ls)) (stepsOf (hasF [] nLog)) (st := ⟨-1, []⟩) Calm.nil
      rw [hl] at hcm
      have hr' : r = (⟨-1, fs⟩, 0) := by rw [← hr]; exact hl
      subst hr'
      simp only at hp
      obtain ⟨F', G', h6, hkp, hgF, hgG⟩ := h5.op (Nat.le_refl _) hp
      have hEs := enc_small (g := 1) HSM.out.1 HSM.out.2
      refine ⟨rfl, Lib.hid ⟨fs, F', G', by simpa using h6, hcm.mono (by simp [stepsOf, hasF]) (by simp [stepsOf, hasF]; omega), hos.kept hkp fun j hj => ?_⟩⟩
      rcases hj with hj | hj
      · exact (hgF j hj).imp .inl id
      · exact (hgG j hj).imp .inr id
    have HLAY := Lib.hid hlay2
    have HBW := Lib.hid hBW
    clear hrows h5 hos hlay2 hx H4 hBW
    subst hfu
    have hB0 : W.heap.size ≤ W.heap.size := Nat.le_refl _
    go_wp2_with fail
    refine HLAY.out.mono ?_
    rintro e w6 ⟨rfl, HM6⟩
    clear HLAY
    go_wp2
    go_loopw [7] (fun i wr => ∃ k : Nat, k ≤ ls.length ∧ i = .int .i64 k ∧ Hid (MemI W w5 w4.heap.size pj p (.slice Au ls.length cu) us ls k wr)) (fun i _ => ls.length - (intOf i).toNat)
    case atStart => exact ⟨0, by omega, rfl, HM6⟩
    case round =>
      obtain ⟨k, hk, rfl, HMI⟩ := hrel
      by_cases hlt : k < ls.length
      · obtain ⟨g, Ak, ck, ⟨c', he⟩, he2, hcell, happ⟩ := HMI.out.append hlt HSM.out.1 HSM.out.2 HBW.out
        injection he with he3 he4 he5
        subst he3 he5
        have hL : (ls.getD k []).length ≤ 5000 := by
          rw [List.getD_eq_getElem?_getD, List.getElem?_eq_getElem hlt]
          exact HLL.out _ (List.getElem_mem hlt)
        generalize ls.getD k [] = L at *
        have HAPP := Lib.hid happ
        clear happ he2 he4
        go_wp2_with fail
        refine HAPP.out.mono ?_
        rintro e w7 ⟨rfl, hcell7, hfl7, HX⟩
        clear HAPP HMI hcell
        go_wp2
        go_loopw [8] (fun j wx => ∃ i : Nat, i ≤ L.length ∧ j = .int .i64 i ∧ Flip w7 Ak L.length wx) (fun j _ => L.length - (intOf j).toNat)
        case atStart => exact ⟨0, by omega, rfl, hfl7⟩
        case round =>
          obtain ⟨i, hi, rfl, hfl⟩ := hrel
          have hcx := (HX.out _ hfl).2
          by_cases hil : i < L.length
          · obtain ⟨g2, m2, rfl, hc2, hz2⟩ := hfl.2.2 i hil
            have HFL := Lib.hid hfl
            clear hfl hfl7 hcell7
            go_wp2
            go_roundw
            case rel => exact ⟨i + 1, by omega, by go_num, HFL.out.step i _⟩
            case measure => simp [intOf]; omega
          · have HNX := Lib.hid (HX.out _ hfl).1
            clear hfl hfl7 hcell7
            go_wp2
            go_roundw
            case rel => exact ⟨k + 1, by omega, by go_num, HNX⟩
            case measure => simp [intOf]; omega
      · have hkl : k = ls.length := by omega
        subst hkl
        obtain ⟨fs, F7, G7, h7, hcalm7, hos7⟩ := HMI.out.ex
        rw [List.take_length] at h7
        have H7 := Lib.hid h7
        clear h7 hos7 hcalm7 HMI HM6
        have hl60 : ls.length ≤ 60 := HSM.out.1
        obtain ⟨ms, hms⟩ : ∃ ms, ms = ls ++ ls := ⟨_, rfl⟩
        have HMS := Lib.hid hms
        have HML := Lib.hid (show ms.length = ls.length + ls.length by rw [hms]; exact List.length_append)
        have hml : ms.length ≤ 120 := by have := HML.out; omega
        clear hms
        go_wp2_with fail
        refine (copyRowsX_any _ ls W.heap.size wr (HSG.out.keep fun b hb => ⟨hb, H7.out.below.block b hb⟩) H7.out.below.size (by omega) (fun l hl => by have := HLL.out l hl; omega)).mono ?_
        rintro e w8 ⟨u8, us8, rfl, hx8⟩
        have H8 := Lib.hid (H7.out.go (Nat.le_refl _) hx8.below)
        obtain ⟨A8, c8, hf8⟩ := hx8.own.form
        rw [hx8.len] at hf8
        have HX8 := Lib.hid hx8
        clear hx8
        subst hf8
        go_wp2_with fail
        refine (copyRowsX_any _ ls W.heap.size w8 (HSG.out.keep fun b hb => ⟨hb, H8.out.below.block b hb⟩) H8.out.below.size (by omega) (fun l hl => by have := HLL.out l hl; omega)).mono ?_
        rintro e w9 ⟨u9, us9, rfl, hx9⟩
        have H9 := Lib.hid (H8.out.go (Nat.le_refl _) hx9.below)
        obtain ⟨A9, c9, hf9⟩ := hx9.own.form
        rw [hx9.len] at hf9
        have HX9 := Lib.hid hx9
        have hown8 := HX8.out.own.below hx9.below
        have hsg9 := Own.seg hx9.own
        have hone9 := all_one hx9.len (fun i hi => hx9.cells i hi)
        have hz8 := HX8.out.below.size
        have hz9 := hx9.below.size
        have hl8 := HX8.out.len
        have hl9 := hx9.len
        clear hx9
        subst hf9
        go_wp2_with (at_builtin; refine wpList_app _ rfl _ _ _ rfl wr.heap.size 22 _ rowE _ _ rfl hown8 _ _ _ rfl hsg9 hone9 ?c1 ?c2 ?_)
        case c1 => omega
        case c2 => omega
        intro v10 w10 hown10 hg10 hat10
        have hwant := RowedX.join HX8.out HX9.out hown10 hg10 hat10
        obtain ⟨A10, c10, hf10⟩ := hown10.form
        have hl10 : (us8 ++ us9).length = ms.length := by rw [List.length_append]; have := HML.out; omega
        rw [hl10] at hf10
        have H10 := Lib.hid (H7.out.go (Nat.le_refl _) hwant.below)
        have hwr := hwant.toRowed.rows
        rw [← HMS.out] at hwr
        have HWANT := Lib.hid hwr
        have HWL := Lib.hid hwant.below.size
        clear hown10 hg10 hat10 hwant hwr hown8 hsg9 hone9 hz8 hz9 hl8 hl9 hl10 HX8 HX9 H8 H9
        subst hf10
        go_wp2_with fail
        have hrec := jrecordsX_any H10.out.jf.js (by omega) (by omega) (fun l hl => by have := HLL.out l hl; omega) (fun l hl => by have := HLL.out l hl; omega)
        rw [← HMS.out] at hrec
        refine hrec.mono ?_
        clear hrec
        rintro e w11 ⟨u11, us11, rfl, hx11⟩
        have H11 := Lib.hid (H10.out.go (Nat.le_refl _) hx11.below)
        have hW11 : RowsAt (· < w11.heap.size) w11 (.slice A10 ms.length c10) ms := HWANT.out.keep fun b hb => ⟨by have := hx11.below.size; omega, hx11.below.block b hb.2⟩
        have hG11 : RowsAt (· < w11.heap.size) w11 u11 ms := hx11.toRowed.rows.sub fun b hb => hb.2
        have hsame := sameRows_any _ _ _ _ w11 hG11 hW11
        rw [decide_eq_true rfl] at hsame
        have HSAME := Lib.hid hsame
        obtain ⟨A11, c11, hf11⟩ := hx11.own.form
        rw [hx11.len] at hf11
        have hGI : GotI W w10 w10.heap.size pj p fs ls u11 us11 0 w11 := ⟨⟨F7, G7, H11.out, by rw [← HMS.out]; exact hx11.ownS H10.out.lt⟩, Kept.of_below hx11.below⟩
        have HGI := Lib.hid hGI
        have hBW10 := H10.out.below.size
        have HBW10 := Lib.hid hBW10
        clear hW11 hG11 hsame hx11 hGI H10 H11 hBW10 H7
        subst hf11
        go_wp2_with fail
        refine HSAME.out.mono ?_
        rintro e w12 ⟨rfl, n12, hw12⟩
        have HGI12 : Hid (GotI W w10 w10.heap.size pj p fs ls (.slice A11 ms.length c11) us11 0 w12) := Lib.hid (by
          rw [hw12]
          obtain ⟨F, G, h1, h2⟩ := HGI.out.ex
          exact ⟨⟨F, G, h1.go (Nat.le_refl _) (below_drewN (Below.refl _ _) n12), h2.below (below_drewN (Below.refl _ _) n12)⟩, HGI.out.kept.trans' (Kept.of_below (below_drewN (Below.refl _ _) n12))⟩)
        clear hw12 HSAME HGI
        have HLL2 : Hid (∀ i, i < ms.length → (ms.getD i []).length ≤ 5000) := Lib.hid fun i hi => by
          rw [List.getD_eq_getElem?_getD, List.getElem?_eq_getElem hi]
          have h1 := List.getElem_mem hi
          have h2 : ms[i] ∈ ls ++ ls := by rw [← HMS.out]; exact h1
          rcases List.mem_append.1 h2 with h | h <;> exact HLL.out _ h
        go_wp2
        go_loopw [11] (fun i wx => ∃ k : Nat, k ≤ ms.length ∧ i = .int .i64 k ∧ Hid (GotI W w10 w10.heap.size pj p fs ls (.slice A11 ms.length c11) us11 k wx)) (fun i _ => ms.length - (intOf i).toNat)
        case atStart => exact ⟨0, by omega, rfl, HGI12⟩
        case round =>
          obtain ⟨k, hk, rfl, HGk⟩ := hrel
          by_cases hlt : k < ms.length
          · obtain ⟨g, Ak, ck, ⟨c', he⟩, he2, hfl0, hHX⟩ := HGk.out.flip (by rw [← HMS.out]; exact hlt) HBW10.out
            rw [← HMS.out] at he hfl0 hHX
            injection he with he3 he4 he5
            subst he3 he5
            have hL := HLL2.out k hlt
            generalize ms.getD k [] = L at *
            have HX := Lib.hid hHX.out
            clear hHX he2 he4
            obtain ⟨wo, rfl⟩ : ∃ wo : World, wo = wr := ⟨_, rfl⟩
            go_wp2
            go_loopw [12] (fun j wx => ∃ i : Nat, i ≤ L.length ∧ j = .int .i64 i ∧ Flip wo Ak L.length wx) (fun j _ => L.length - (intOf j).toNat)
            case atStart => exact ⟨0, by omega, rfl, hfl0⟩
            case round =>
              obtain ⟨i, hi, rfl, hfl⟩ := hrel
              have hcx := (HX.out _ hfl).2
              by_cases hil : i < L.length
              · obtain ⟨g2, m2, rfl, hc2, hz2⟩ := hfl.2.2 i hil
                have HFL := Lib.hid hfl
                clear hfl hfl0
                go_wp2
                go_roundw
                case rel => exact ⟨i + 1, by omega, by go_num, HFL.out.step i _⟩
                case measure => simp [intOf]; omega
              · have HNX := Lib.hid (HX.out _ hfl).1
                clear hfl hfl0
                go_wp2
                go_roundw
                case rel => exact ⟨k + 1, by omega, by go_num, HNX⟩
                case measure => simp [intOf]; omega
          · obtain ⟨F, G, h13, -⟩ := HGk.out.ex
            have H13 := Lib.hid h13
            have HW13 : Hid (RowsAt (fun b => b < w10.heap.size) wr (.slice A10 ms.length c10) ms) := Lib.hid (HWANT.out.keep fun b hb => ⟨hb.2, HGk.out.kept.block b hb.2 (by omega)⟩)
            have HZ13 := Lib.hid HGk.out.kept.size
            clear h13
            go_wp2_with fail
            have hrec := jrecordsX_any H13.out.jf.js (by omega) (by omega) (fun l hl => by have := HLL.out l hl; omega) (fun l hl => by have := HLL.out l hl; omega)
            rw [← HMS.out] at hrec
            refine hrec.mono ?_
            clear hrec
            rintro e w14 ⟨u14, us14, rfl, hx14⟩
            have HB14 := Lib.hid (H13.out.go (Nat.le_refl _) hx14.below).below
            have hW14 : RowsAt (· < w14.heap.size) w14 (.slice A10 ms.length c10) ms := HW13.out.keep fun b hb => ⟨by have := hx14.below.size; have := HZ13.out; omega, hx14.below.block b (by have := HZ13.out; omega)⟩
            have hG14 : RowsAt (· < w14.heap.size) w14 u14 ms := hx14.toRowed.rows.sub fun b hb => hb.2
            have hsame := sameRows_any _ _ _ _ w14 hG14 hW14
            rw [decide_eq_true rfl] at hsame
            have HSAME := Lib.hid hsame
            obtain ⟨A14, c14, hf14⟩ := hx14.own.form
            rw [hx14.len] at hf14
            clear hW14 hG14 hsame hx14
            subst hf14
            go_wp2_with fail
            refine HSAME.out.mono ?_
            rintro e w15 ⟨rfl, n15, hw15⟩
            have HB15 : Hid (Below W.heap.size W w15) := Lib.hid (by rw [hw15]; exact below_drewN HB14.out n15)
            clear hw15
            go_wp2
            go_ret
            exact ⟨rfl, HB15.out⟩
end Go.Proofs.Ytpdelgjfamelfaa
