/- JournalSteps, walked. -/
import Derived.Test.YtpdelgjfamelfaaGreatKB
import Derived.Deep.CutBlock
namespace Go.Proofs.YtpdelgjfamelfaaGreat
open Go.RowKit Go.Lib Go.Vfs Go.Par Go.Shelf
set_option linter.unusedVariables false
set_option linter.unusedSimpArgs false

theorem SegJ.more {w : World} {B B' : Nat} {v : Value} {os : List OpJ} (h : SegJ w B v os) (hB : B ≤ B') : SegJ w B' v os := by
  obtain ⟨A, c, h1, h2, h3, h4, h5⟩ := h
  refine ⟨A, c, h1, h2, h3, fun o ho => ⟨(h4 o ho).rows.sub fun b hb => by omega, (h4 o ho).ints.more hB, (h4 o ho).few, (h4 o ho).num⟩, fun i hi => ?_⟩
  obtain ⟨b, off, e, hbb, hc⟩ := h5 i hi
  exact ⟨b, off, e, by omega, hc⟩
theorem open_newP (pw : Int) : openSt ⟨pw, []⟩ = (⟨pw, []⟩, .ok (0, [], [])) := rfl
section
variable {W w w' : World} {p pj : Nat} {j : Jn} {F G : Nat → Prop} {bm : Nat} {m : Jn} {v bv rv : Value} {bo : Nat} {ob : Array Value} {ot : TypeId} {own : Value} {rows : List (List UInt8)}
/-- between two steps: no step's box. -/
abbrev JO0 (W w : World) (p pj : Nat) (j : Jn) (F G : Nat → Prop) (bm : Nat) (m : Jn) (v bv rv : Value) : Prop := JO W w p pj j F G bm m v bv rv bm #[.int .i64 m.st.power, v, .int .i64 (m.g : Nat), bv, rv] 45 (.slice none 0 0) []
theorem JO.head (h : JO W w p pj j F G bm m v bv rv bo ob ot own rows) : JO0 W w p pj j F G bm m v bv rv :=
  ⟨h.jh, h.box, h.box, ⟨h.lo.1, h.lo.1⟩, ⟨h.out.1, h.out.2.1, h.out.1, h.out.2.1⟩, h.ref.keep fun b ⟨b1, b2, b3, b4, b5, b6⟩ => ⟨⟨b1, b2, b3, b4, b5, b5⟩, rfl⟩, RowsAt.nil _ _⟩
/-- a step is loaded into a box, and its rows are copied. -/
theorem JO.step (h : JO0 W w p pj j F G bm m v bv rv) (ob : Array Value) (ot : TypeId) {w' : World} (hb : Below (w.alloc (.cells ob ot)).heap.size (w.alloc (.cells ob ot)) w') (hr : RowsAt (fun b => (w.alloc (.cells ob ot)).heap.size ≤ b ∧ b < w'.heap.size) w' own rows) : JO W w' p pj j F G bm m v bv rv w.heap.size ob ot own rows := by
  have hba := box_below w (.cells ob ot)
  have hbb : Below w.heap.size w w' := hba.trans (hb.mono hba.size)
  have e1 : (w.alloc (.cells ob ot)).heap.size = w.heap.size + 1 := by simp
  have h2 := h.go hbb
  have hl := h.lt
  have hz := h.sz
  have hs := hb.size
  have hjl := h.jh.lt
  refine ⟨h2.jh, h2.box, (hb.block _ (by omega)).trans (heap_alloc_new w _), ⟨h.lo.1, hz⟩, ⟨h.out.1, h.out.2.1, fun hf => by have := hjl _ (.inl hf); omega, fun hg => by have := hjl _ (.inr hg); omega⟩, h.ref.keep fun b ⟨b1, b2, b3, b4, b5, b6⟩ => ⟨⟨b1, by omega, b3, b4, b5, by omega⟩, hbb.block b b2⟩, hr.keep fun b ⟨b1, b2⟩ => ⟨⟨by omega, b2, fun hf => by have := hjl _ (.inl hf); omega, fun hg => by have := hjl _ (.inr hg); omega, by omega, by omega⟩, rfl⟩⟩
end
theorem ROPost.err {w w' : World} {S : Nat → Prop} {st : St} {n : Int} {e : Ending} (h : ROPost w S (st, .error n) e w') : ∃ A m c gen Ab nb cb Ar nr cr, e = .returned (.tuple #[.agg #[.int .i64 st.power, .slice A m c, .int .i64 gen, .slice Ab nb cb, .slice Ar nr cr], .int .i64 n]) ∧ Hid (Below w.heap.size w w') := by
  obtain ⟨A, m, c, gen, Ab, nb, cb, Ar, nr, cr, h1, -, h3, -⟩ := h.both
  exact ⟨A, m, c, gen, Ab, nb, cb, Ar, nr, cr, h1, h3⟩
theorem ROPost.oks {w w' : World} {S : Nat → Prop} {st : St} {g : Nat} {ps ls : List (List UInt8)} {e : Ending} (h : ROPost w S (st, .ok (g, ps, ls)) e w') : ∃ A m c Ab nb cb Ar nr cr, e = .returned (.tuple #[.agg #[.int .i64 st.power, .slice A m c, .int .i64 (g : Nat), .slice Ab nb cb, .slice Ar nr cr], .int .i64 0]) ∧ Hid (RJv (New S w w') w' st.files ps ls (.slice A m c) (.slice Ab nb cb) (.slice Ar nr cr)) ∧ Hid (Below w.heap.size w w') := by
  obtain ⟨A, m, c, gen, Ab, nb, cb, Ar, nr, cr, h1, h2, h3, h4⟩ := h.both
  obtain ⟨e1, e2, e3⟩ := h4.out
  subst e1
  exact ⟨A, m, c, Ab, nb, cb, Ar, nr, cr, h1, Lib.hid ⟨h2.out, e2.sub fun b hb => .inr hb, e3.sub fun b hb => .inr hb⟩, h3⟩
theorem JO.pjNew {W w w' : World} {p pj : Nat} {j : Jn} {F G : Nat → Prop} {bm : Nat} {m : Jn} {v bv rv : Value} {bo : Nat} {ob : Array Value} {ot : TypeId} {own : Value} {rows : List (List UInt8)} (h : JO W w p pj j F G bm m v bv rv bo ob ot own rows) (hb : Below w.heap.size w w') : ∀ b, New (PJ W w F G bm bo) w w' b → PJ W w' F G bm bo b := fun b hb2 => by
  obtain ⟨l1, l2⟩ := h.lt
  have hz := h.sz
  have hs := hb.size
  rcases hb2 with ⟨b1, b2, b3, b4, b5, b6⟩ | ⟨b1, b2⟩
  · exact ⟨b1, by omega, b3, b4, b5, b6⟩
  · exact ⟨by omega, b2, fun hf => by have := h.jh.lt b (.inl hf); omega, fun hg => by have := h.jh.lt b (.inr hg); omega, by omega, by omega⟩
/-- where the law's loop stands. -/
structure StJ (W w : World) (os : List OpJ) (k : Nat) (p pj : Nat) (F G : Nat → Prop) (bm : Nat) (J : Jn) (v bv rv : Value) : Prop where
  jo : JO0 W w p pj J F G bm J v bv rv
  inv : JInv J (6 * k) k (sizeJ (os.take k))
  gi : GI k J.st.files

theorem sizeJ_mono' {os : List OpJ} {k : Nat} (hk : k < os.length) : sizeJ (os.take k) ≤ sizeJ (os.take (k + 1)) := by rw [sizeJ_succ os k hk]; omega
/-- behind the switch. -/
structure SwJ (W w : World) (os : List OpJ) (k : Nat) (p pj : Nat) (F G : Nat → Prop) (bm : Nat) (J : Jn) (v bv rv : Value) (bo : Nat) (what n : Int) (orv okv own : Value) (rows : List (List UInt8)) : Prop where
  jo : JO W w p pj J F G bm J v bv rv bo #[.int .i64 what, .int .i64 n, orv, okv] 59 own rows
  inv : JInv J (6 * k + 4) (k + 1) (sizeJ (os.take (k + 1)))
  gw : GW (k + 1) J.st.files
  gi : what ≠ 4 → GI (k + 1) J.st.files
theorem fstR_le (rows : List (List UInt8)) : (fstR rows).length ≤ sizeR rows := by
  unfold fstR
  cases rows with
  | nil => simp
  | cons x r => exact sizeR_mem (by simp)

set_option maxRecDepth 100000 in
set_option maxHeartbeats 16000000 in
theorem journalSteps_walk (power : Int) (hpw0 : -9223372036854775808 ≤ power ∧ power ≤ 9223372036854775807) (v : Value) (os0 : List OpJ) (hs : sizeJ os0 ≤ 1048576) (W : World) (h : SegJ W W.heap.size v os0) :
    Calls Tryz.prog 4 #[.int .i64 power, v] W fun e W' => e = .returned (.bool true) ∧ Below W.heap.size W W' := by
  have HPW := Lib.hid hpw0.2
  clear hpw0
  obtain ⟨A0, c0, rfl, -, -⟩ := h.form
  have HS := Lib.hid h; clear h
  go_enter Tryz.func4, Tryz.ntmps4
  go_wp2_with fail
  refine (jalive_any W).mono ?_
  rintro e w1 ⟨rfl, hb1⟩
  have HB1 := Lib.hid hb1
  go_wp2_with fail
  refine (cutJ_any _ os0 W.heap.size w1 (HS.out.below hb1)).mono ?_
  rintro e w1' ⟨u, rfl, hu, rfl⟩
  have hs' : sizeJ (os0.take 40) ≤ 1048576 := Nat.le_trans (sizeJ_take os0 40) hs
  have hl40 : (os0.take 40).length ≤ 40 := by simp; omega
  generalize os0.take 40 = os at *
  clear hs HS hb1
  obtain ⟨A, c, rfl, hlc, hcm⟩ := hu.form
  have HU := Lib.hid (hu.more HB1.out.size)
  have HUW := Lib.hid (hu.same fun b hlt => (HB1.out.block b hlt).symm)
  clear hu
  go_wp2_with fail
  refine (greatJ_any _ os w1' HU.out hs').mono ?_
  rintro e w2 ⟨rfl, rfl⟩
  by_cases hg : 5000 < sizeJ os
  · rw [decide_eq_true hg]
    go_wp2
    go_ret
    exact ⟨rfl, HB1.out⟩
  rw [decide_eq_false hg]
  go_wp2_with fail
  refine (new_fs power _).mono ?_
  rintro e w3 ⟨p, F3, rfl, hfs3, hF3, hb3⟩
  have hs1 : W.heap.size ≤ w1'.heap.size := HB1.out.size
  have hb13 : Below W.heap.size W w3 := HB1.out.trans (hb3.mono hs1)
  have hF : ∀ k, F3 k → W.heap.size ≤ k := fun k hk => Nat.le_trans hs1 (hF3 k hk).1
  have hbx := box_below w3 (.cells #[.int .i64 power, .slice none 0 0] 28)
  have hop := jopen_any _ p ⟨power, []⟩ F3 (hfs3.below hbx) Calm.nil (by omega) (by omega) HPW.out
  rw [open_newP] at hop
  have HOP := Lib.hid hop
  have HB13 := Lib.hid hb13; have HF := Lib.hid hF; have HBX := Lib.hid hbx; have HFL := Lib.hid hfs3.lt
  clear hop hfs3 hF3 hb3 hb13 hF hbx HB1 HU
  go_wp2_with fail
  refine HOP.out.mono ?_
  rintro e w4 hop
  obtain ⟨pj, F4, G4, rfl, h4⟩ := hop.held (B := W.heap.size) (w0 := W) (HB13.out.trans (HBX.out.mono HB13.out.size)) (Nat.le_refl _) HF.out
  have hg4 : w4.heap[w3.heap.size]? = some (.cells #[.int .i64 power, .slice none 0 0] 28 (0, 0)) := by
    obtain ⟨F', -, hkp, -, -⟩ := hop
    exact (hkp.block _ (by simp) (fun hf => by have := HFL.out _ hf; omega)).trans (heap_alloc_new w3 _)
  have H4 := Lib.hid h4
  obtain ⟨z0, z1⟩ : w4.cell? ⟨w3.heap.size, 0, none⟩ = some (.int .i64 power) ∧ w4.cell? ⟨w3.heap.size, 1, none⟩ = some (.slice none 0 0) := by simp [World.cell?, hg4]
  clear hop h4 hg4 HOP
  have hro := open_any ⟨power, []⟩ HPW.out none 0 (fun _ => False) w4 (fun b hb => hb.elim) (RefS.nil _ _) (by simp) (by simp)
  rw [open_newP] at hro
  have HRO := Lib.hid hro
  clear hro
  go_wp2_with fail
  refine HRO.out.mono ?_
  rintro e w5 hro
  obtain ⟨A5, n5, c5, Ab, nb, cb, Ar, nr, cr, rfl, HRV5, HB5⟩ := hro.oks
  have hlt4 := H4.out.lt
  have HJ0 : Hid (StJ W (w5.alloc (.cells #[.int .i64 power, .slice A5 n5 c5, .int .i64 ((0 : Nat) : Int), .slice Ab nb cb, .slice Ar nr cr] 45)) os 0 p pj F4 G4 w5.heap.size ⟨⟨power, []⟩, 0, [], []⟩ (.slice A5 n5 c5) (.slice Ab nb cb) (.slice Ar nr cr)) := Lib.hid (by
    have hbx := box_below w5 (.cells #[.int .i64 power, .slice A5 n5 c5, .int .i64 ((0 : Nat) : Int), .slice Ab nb cb, .slice Ar nr cr] 45)
    have hz := H4.out.below.size
    have hz5 := HB5.out.size
    have hzx := hbx.size
    have hp : ∀ b, w4.heap.size ≤ b ∧ b < w5.heap.size → PJ W (w5.alloc (.cells #[.int .i64 power, .slice A5 n5 c5, .int .i64 ((0 : Nat) : Int), .slice Ab nb cb, .slice Ar nr cr] 45)) F4 G4 w5.heap.size w5.heap.size b ∧ (w5.alloc (.cells #[.int .i64 power, .slice A5 n5 c5, .int .i64 ((0 : Nat) : Int), .slice Ab nb cb, .slice Ar nr cr] 45)).heap[b]? = w5.heap[b]? := fun b ⟨b1, b2⟩ => ⟨⟨by omega, by omega, fun hf => by have := hlt4 _ (.inl hf); omega, fun hg => by have := hlt4 _ (.inr hg); omega, by omega, by omega⟩, hbx.block b b2⟩
    have hn := heap_alloc_new w5 (.cells #[.int .i64 power, .slice A5 n5 c5, .int .i64 ((0 : Nat) : Int), .slice Ab nb cb, .slice Ar nr cr] 45)
    refine ⟨⟨(H4.out.go (Nat.le_refl _) HB5.out).go (Nat.le_refl _) hbx, hn, hn, ⟨by omega, by omega⟩, ⟨fun hf => by have := hlt4 _ (.inl hf); omega, fun hg => by have := hlt4 _ (.inr hg); omega, fun hf => by have := hlt4 _ (.inl hf); omega, fun hg => by have := hlt4 _ (.inr hg); omega⟩, HRV5.out.keep (fun b hb => hp b (hb.resolve_left fun h => h)), RowsAt.nil _ _⟩, ⟨Calm.nil.mono (Nat.zero_le _) (Nat.zero_le _), HPW.out, ⟨by simp, by simp⟩, ⟨by simp, by simp⟩, Nat.zero_le _⟩, GI.nil⟩)
  clear hro hlt4 z0 z1 HRO HB5 HRV5 H4 HBX HFL HF
  obtain ⟨bm, hbm⟩ : ∃ bm, bm = w5.heap.size := ⟨_, rfl⟩
  rw [← hbm] at HJ0
  go_wp2_with fail
  rw [← hbm]
  clear hbm
  have hB : ∀ k : Nat, k ≤ os.length → k ≤ 40 := fun k hk => by omega
  have HBK := Lib.hid hB
  clear hB
  go_loopw [5, 7, 11] (fun fv jv i wr => ∃ (k p pj : Nat) (F G : Nat → Prop) (J : Jn) (v bv rv : Value), k ≤ os.length ∧ fv = .pointer (some ⟨p, 0, none⟩) ∧ jv = .pointer (some ⟨pj, 0, none⟩) ∧ i = .int .i64 k ∧ Hid (StJ W wr os k p pj F G bm J v bv rv)) (fun _ _ i _ => os.length - (intOf i).toNat)
  case atStart => exact ⟨0, p, pj, F4, G4, _, _, _, _, by omega, rfl, rfl, rfl, HJ0⟩
  case round =>
    clear HJ0
    obtain ⟨k, p, pj, F, G, J, v, bv, rv, hk, rfl, rfl, rfl, HJ⟩ := hrel
    by_cases hlt : k < os.length
    · have hat := HUW.out.op k hlt
      obtain ⟨b, off, rfl, hb, hfour⟩ := HUW.out.four k hlt
      have hbel := HJ.out.jo.below
      have hbw : b < wr.heap.size := by have := HJ.out.jo.sz; omega
      have e4 : ∀ i, wr.cell? ⟨b, i, none⟩ = W.cell? ⟨b, i, none⟩ := fun i => hbel.cell (p := ⟨b, i, none⟩) hb
      obtain ⟨⟨Ar, cr, hrv⟩, Ak, ck, hkv⟩ := hat.forms
      have hsz := sizeJ_nth os k hlt
      have hsu := sizeJ_succ os k hlt
      unfold Four at hfour
      rw [← e4, ← e4, ← e4, ← e4] at hfour
      generalize os[k] = o at *
      obtain ⟨what, n, orv, okv, rows, keeps⟩ := o
      simp only at hrv hkv hsz hsu hfour hat
      subst hrv hkv
      obtain ⟨d0, d1, d2, d3⟩ := hfour
      have HAT := Lib.hid hat
      have HSZ : Hid (sizeR rows ≤ 5000 ∧ sizeJ (os.take k) ≤ 5000 ∧ sizeJ (os.take (k + 1)) = sizeJ (os.take k) + sizeR rows) := Lib.hid ⟨by omega, by omega, hsu⟩
      have HLT := Lib.hid hlt
      have HK40 : Hid (k < 40) := Lib.hid (by omega)
      have hrows : RowsAt (· < W.heap.size) (wr.alloc (.cells #[.int .i64 what, .int .i64 n, .slice Ar rows.length cr, .slice Ak keeps.length ck] 59)) (.slice Ar rows.length cr) rows := hat.rows.keep fun b hb => ⟨hb, (hbel.trans ((box_below wr _).mono HJ.out.jo.sz)).block b hb⟩
      have hrl : rows.length ≤ 5000 := by have := sizeR_flat rows; omega
      have HCP := Lib.hid (copyRows_any (.slice Ar rows.length cr) rows W.heap.size _ hrows (by have := HJ.out.jo.sz; simp; omega) (by omega) (fun l hl => by have := sizeR_mem hl; omega))
      clear hat hbel e4 hsz hsu hrows
      go_wp2_with fail
      refine HCP.out.mono ?_
      rintro e w7 ⟨ow, rfl, hr7, hb7⟩
      obtain ⟨Ao, co, rfl, -, -, -⟩ := (hr7.sub (S' := (· < w7.heap.size)) fun b hb => hb.2).open_
      have HO7 : Hid (JO W w7 p pj J F G bm J v bv rv wr.heap.size #[.int .i64 what, .int .i64 n, .slice Ar rows.length cr, .slice Ak keeps.length ck] 59 (.slice Ao rows.length co) rows) := Lib.hid (HJ.out.jo.step _ _ hb7 hr7)
      have HINV := Lib.hid HJ.out.inv; have HGI := Lib.hid HJ.out.gi
      have hbo : ∃ bo, bo = wr.heap.size := ⟨_, rfl⟩
      obtain ⟨bo, hbo⟩ := hbo
      have HNE : Hid (bo ≠ bm) := Lib.hid (by have := HJ.out.jo.lt.1; omega)
      rw [← hbo] at HO7
      clear hr7 hb7 HCP HJ d0 d1 d2 d3 hbw
      rw [← hbo]
      clear hbo
      have HRW : Hid (∀ w, Below W.heap.size W w → RowsAt (· < W.heap.size) w (.slice Ar rows.length cr) rows) := Lib.hid fun w hw => HAT.out.rows.keep fun b hb => ⟨hb, hw.block b hb⟩
      have HSM := Lib.hid (HINV.out.small (by have := HK40.out; omega) (by have := HK40.out; omega) HSZ.out.2.1)
      obtain ⟨o0, o1, o2, o3, o4⟩ := four_cells4 HO7.out.obx
      go_upto_region 21 with fail
      go_upto_block 2 with fail
      go_cut [13, 14] from 64 to 111 (fun ev hv wx => ∃ (er what' : Int) (F' G' : Nat → Prop) (J' : Jn) (v' bv' rv' : Value), ev = .int .i64 er ∧ hv = .int .i64 er ∧ Hid (SwJ W wx os k p pj F' G' bm J' v' bv' rv' bo what' n (.slice Ar rows.length cr) (.slice Ak keeps.length ck) (.slice Ao rows.length co) rows))
      case first =>
        by_cases h1 : what = 1
        · subst h1
          --<A
          obtain ⟨L, hL⟩ : ∃ L, L = fstR rows := ⟨_, rfl⟩
          have hLl : L.length ≤ sizeR rows := by rw [hL]; exact fstR_le rows
          have HLL : Hid (L.length ≤ 5000 ∧ L.length ≤ sizeR rows) := Lib.hid ⟨by have := HSZ.out.1; omega, hLl⟩
          have HFST : Hid (∀ w, Below W.heap.size W w → Calls Tryz.prog 25 #[.agg #[.int .i64 1, .int .i64 n, .slice Ar rows.length cr, .slice Ak keeps.length ck]] w fun e w' => ∃ A c, e = .returned (.slice A L.length c) ∧ Hid (Seg W W.heap.size (.slice A L.length c) (byteCells L)) ∧ w' = w.alloc (.cells #[.int .i64 1, .int .i64 n, .slice Ar rows.length cr, .slice Ak keeps.length ck] 59)) := Lib.hid fun w hw => by
            refine (first_any 1 n Ar Ak cr keeps.length ck rows W.heap.size w hw.size (HRW.out w hw)).mono ?_
            rintro e w' ⟨A1, c1, rfl, hsg, rfl⟩
            rw [← hL] at hsg ⊢
            exact ⟨A1, c1, rfl, Lib.hid (hsg.out.keep fun b o hlt => (hw.cell (p := ⟨b, o, none⟩) hlt).symm), rfl⟩
          clear hL hLl
          go_wp2_with fail
          refine (HFST.out w7 HO7.out.below).mono ?_
          rintro e w8 ⟨A8, c8, rfl, HSG8, rfl⟩
          have HO8 := Lib.hid (HO7.out.go (box_below w7 (.cells #[.int .i64 1, .int .i64 n, .slice Ar rows.length cr, .slice Ak keeps.length ck] 59)))
          have HCB := Lib.hid (HO8.out.copyB (HSG8.out.below HO8.out.below) (by have := HLL.out.1; omega))
          clear o0 o1 o2 o3 o4
          go_wp2_with fail
          refine HCB.out.mono ?_
          rintro e w9 ⟨A9, c9, rfl, HS9, HO9⟩
          have HJA := Lib.hid (HO9.out.japp HSM.out HS9.out HLL.out.1)
          clear HCB HO8 HSG8 HO7
          go_wp2_with fail
          refine HJA.out.mono ?_
          rintro e w10 ⟨F10, G10, rfl, HO10⟩
          obtain ⟨o0, o1, o2, o3, o4⟩ := four_cells4 HO10.out.obx
          obtain ⟨x0, x1, x2, x3, x4, x5, x6, x7, x8, x9⟩ := HO10.out.cells
          have hm1 : bm < w10.heap.size := HO10.out.lt.1
          have hm2 : bo < w10.heap.size := HO10.out.lt.2
          have HD10 := Lib.hid (HO10.out.go ((Below.refl _ _).drew))
          have HRA : Hid (∀ (A : Option Addr) (c : Nat), Seg W W.heap.size (.slice A L.length c) (byteCells L) → Calls Tryz.prog 26 #[.agg #[.int .i64 J.st.power, v, .int .i64 (J.g : Nat), bv, rv], .slice A L.length c] (w10.drew.alloc (.cells #[.int .i64 1, .int .i64 n, .slice Ar rows.length cr, .slice Ak keeps.length ck] 59)) (RAns W p pj (jnApp J L) F10 G10 bm J v bv rv bo #[.int .i64 1, .int .i64 n, .slice Ar rows.length cr, .slice Ak keeps.length ck] 59 (.slice Ao rows.length co) rows (jnApp J L) (jAppend J.st J.g J.rest L).2.1)) := Lib.hid fun A c hs => by
            have h11 := HD10.out.go (box_below w10.drew (.cells #[.int .i64 1, .int .i64 n, .slice Ar rows.length cr, .slice Ak keeps.length ck] 59))
            exact h11.rapp HSM.out (hs.below h11.below) HLL.out.1
          have HIV : Hid (JInv (jnApp J L) (6 * k + 4) (k + 1) (sizeJ (os.take (k + 1))) ∧ GI (k + 1) (jnApp J L).st.files) := Lib.hid ⟨(HINV.out.app HLL.out.1).mono (by omega) (Nat.le_refl _) (by have := HLL.out.2; have := HSZ.out.2.2; omega), gi_append (HGI.out.mono (Nat.le_succ k)) _⟩
          clear HJA HS9 HO9
          go_wp2_with fail
          go_upto_region 24 with fail
          go_region_with (first
            | (go_at_call 25; refine (HFST.out _ HD10.out.below).mono ?_; rintro e w11 ⟨A11, c11, rfl, HSG11, rfl⟩)
            | (go_at_call 26; refine (HRA.out _ _ HSG11.out).mono ?_; rintro e w12 ⟨A12, n12, c12, Ab12, nb12, cb12, Ar12, nr12, cr12, rfl, HO12, HR12⟩; obtain ⟨y0, y1, y2, y3, y4, y5, y6, y7, y8, y9⟩ := HO12.out.cells))
          all_goals (
            go_wp2_with fail
            go_meet
            exact ⟨_, 1, F10, G10, _, _, _, _, rfl, rfl, Lib.hid ⟨HO12.out.store HNE.out HR12.out, HIV.out.1, HIV.out.2.2, fun _ => HIV.out.2⟩⟩)
          --A>
        by_cases h2 : what = 2
        · subst h2
          --<C
          have HC1 := Lib.hid (HO7.out.jsync HSM.out)
          go_wp2_with fail
          refine HC1.out.mono ?_
          rintro e w8 ⟨F8, G8, rfl, HO8⟩
          have HC2 := Lib.hid (HO8.out.rsync HSM.out)
          obtain ⟨x0, x1, x2, x3, x4, x5, x6, x7, x8, x9⟩ := HO8.out.cells
          clear o0 o1 o2 o3 o4 HC1 HO7
          go_wp2_with fail
          refine HC2.out.mono ?_
          rintro e w9 ⟨A9, n9, c9, Ab9, nb9, cb9, Ar9, nr9, cr9, rfl, HO9, HR9⟩
          have HSW : Hid (SwJ W _ os k p pj F8 G8 bm (jnSync J) _ _ _ bo 2 n (.slice Ar rows.length cr) (.slice Ak keeps.length ck) (.slice Ao rows.length co) rows) := Lib.hid ⟨HO9.out.store HNE.out HR9.out, HINV.out.sync.mono (by omega) (Nat.le_refl _) (sizeJ_mono' HLT.out), (gi_sync (HGI.out.mono (Nat.le_succ k))).2, fun _ => gi_sync (HGI.out.mono (Nat.le_succ k))⟩
          clear x0 x1 x2 x3 x4 x5 x6 x7 x8 x9 HC2 HO8 HR9
          obtain ⟨x0, x1, x2, x3, x4, x5, x6, x7, x8, x9⟩ := HO9.out.cells
          go_wp2
          go_meet
          exact ⟨_, 2, F8, G8, _, _, _, _, rfl, rfl, HSW⟩
          --C>
        by_cases h3 : what = 3
        · subst h3
          --<D
          have hjl : Calls Tryz.prog 29 #[.pointer (some ⟨pj, 0, none⟩), .slice Ao rows.length co] w7 fun e w' => ∃ T er F' G', Hid (laySteps (encR (J.g + 1) (be4 rows.length :: rows)) (stepsOf (hasF J.st.files nLog)) J.st = (T, er)) ∧ e = .returned (.int .i64 er) ∧ Hid (JO W w' p pj (jnLay J rows (T, er)) F' G' bm J v bv rv bo #[.int .i64 3, .int .i64 n, .slice Ar rows.length cr, .slice Ak keeps.length ck] 59 (.slice Ao rows.length co) rows) :=
            (HO7.out.jlay HSM.out HSZ.out.1).mono fun e w' ⟨r, F', G', e1, e2, e3⟩ => ⟨r.1, r.2, F', G', Lib.hid e1, e2, e3⟩
          have HJL := Lib.hid hjl
          clear hjl
          go_wp2_with fail
          refine HJL.out.mono ?_
          rintro e w8 ⟨T, er, F8, G8, HLR, rfl, HO8⟩
          have hlay := gi_lay (rows := rows) (HGI.out) (HINV.out.gen) (by have := HINV.out.gen; have := HK40.out; omega) (fun l hl => by have := sizeR_mem hl; have := HSZ.out.1; omega) (by omega)
          rw [HLR.out] at hlay
          obtain ⟨hgw, hgi, her⟩ := hlay
          have HIV := Lib.hid (HINV.out.lay HSZ.out.1 HLR.out)
          have HSM8 := Lib.hid (HIV.out.small (by have := HK40.out; omega) (by have := HK40.out; omega) (by have := HSZ.out.2.2; have := sizeJ_take os (k + 1); omega))
          have HGW := Lib.hid hgw; have HGO := Lib.hid hgi
          have HC2 := Lib.hid (HO8.out.rlay HSM.out HSZ.out.1 HAT.out.rows HLR.out)
          obtain ⟨x0, x1, x2, x3, x4, x5, x6, x7, x8, x9⟩ := HO8.out.cells
          obtain ⟨p0, p1, p2, p3, p4⟩ := four_cells4 HO8.out.obx
          clear o0 o1 o2 o3 o4 HJL HO7 hgw hgi
          go_wp2_with fail
          refine HC2.out.mono ?_
          rintro e w9 ⟨A9, n9, c9, Ab9, nb9, cb9, Ar9, nr9, cr9, rfl, HO9, HR9⟩
          have HO10 := Lib.hid (HO9.out.store HNE.out HR9.out)
          clear x0 x1 x2 x3 x4 x5 x6 x7 x8 x9 p0 p1 p2 p3 p4 HC2 HO8
          obtain ⟨x0, x1, x2, x3, x4, x5, x6, x7, x8, x9⟩ := HO9.out.cells
          obtain ⟨p0, p1, p2, p3, p4⟩ := four_cells4 HO9.out.obx
          have hnb1 : ¬ bo = bm := HNE.out
          have hnb2 : ¬ bm = bo := fun e => HNE.out e.symm
          rcases her with her | her
          · replace her : er = 0 := her
            subst her
            have HSW : Hid (SwJ W _ os k p pj F8 G8 bm (jnLay J rows (T, 0)) _ _ _ bo 3 n (.slice Ar rows.length cr) (.slice Ak keeps.length ck) (.slice Ao rows.length co) rows) := Lib.hid ⟨HO10.out, HIV.out.mono (by omega) (Nat.le_refl _) (by rw [HSZ.out.2.2]; exact Nat.le_refl _), HGW.out, fun _ => HGO.out rfl⟩
            go_wp2
            go_meet
            exact ⟨0, 3, F8, G8, _, _, _, _, rfl, rfl, HSW⟩
          · replace her : er = 13 := her
            subst her
            have HSF := Lib.hid (HO10.out.sameF HSM8.out HO10.out.ref.ref)
            go_wp2_with fail
            refine HSF.out.mono ?_
            rintro e w11 ⟨rfl, HO11, HB11⟩
            have HSW : Hid (SwJ W _ os k p pj F8 G8 bm (jnLay J rows (T, 13)) _ _ _ bo 4 n (.slice Ar rows.length cr) (.slice Ak keeps.length ck) (.slice Ao rows.length co) rows) := Lib.hid ⟨HO11.out.setW HNE.out (.int .i64 4), HIV.out.mono (by omega) (Nat.le_refl _) (by rw [HSZ.out.2.2]; exact Nat.le_refl _), HGW.out, fun h => absurd rfl h⟩
            clear x0 x1 x2 x3 x4 x5 x6 x7 x8 x9 p0 p1 p2 p3 p4 HSF
            obtain ⟨p0, p1, p2, p3, p4⟩ := four_cells4 HO11.out.obx
            go_wp2
            go_meet
            exact ⟨13, 4, F8, G8, _, _, _, _, rfl, rfl, HSW⟩
          --D>
        have n1 : (what == 1) = false := by simpa using h1
        have n2 : (what == 2) = false := by simpa using h2
        have n3 : (what == 3) = false := by simpa using h3
        have HSW : Hid (SwJ W w7 os k p pj F G bm J v bv rv bo what n (.slice Ar rows.length cr) (.slice Ak keeps.length ck) (.slice Ao rows.length co) rows) := Lib.hid ⟨HO7.out, HINV.out.mono (by omega) (Nat.le_succ k) (sizeJ_mono' HLT.out), (HGI.out.mono (Nat.le_succ k)).2, fun _ => HGI.out.mono (Nat.le_succ k)⟩
        clear h1 h2 h3
        go_wp2
        go_meet
        exact ⟨0, what, F, G, J, v, bv, rv, rfl, rfl, HSW⟩
      case rest =>
        obtain ⟨er, what', F1, G1, J1, v1, bv1, rv1, rfl, rfl, HSW⟩ := hcut
        obtain ⟨W1, rfl⟩ : ∃ W1, W1 = wc := ⟨_, rfl⟩
        have HSM1 := Lib.hid (HSW.out.inv.small (by have := HK40.out; omega) (by have := HK40.out; omega) (by have := HSZ.out.2.2; have := sizeJ_take os (k + 1); omega))
        have HSO := Lib.hid (HSW.out.jo.sameOwn HAT.out.rows)
        obtain ⟨q0, q1, q2, q3, q4⟩ := four_cells4 HSW.out.jo.obx
        have her : (er != er) = false := by simp
        clear o0 o1 o2 o3 o4 HO7
        go_wp2_with fail
        refine HSO.out.mono ?_
        rintro e w8 ⟨rfl, n8, rfl⟩
        have HJ8 := Lib.hid (HSW.out.jo.go (below_drewN (Below.refl _ W1) n8))
        have HIV := Lib.hid HSW.out.inv; have HGW := Lib.hid HSW.out.gw; have HGI1 := Lib.hid HSW.out.gi
        clear HSO HSW her
        obtain ⟨W2, hW2⟩ : ∃ W2, W2 = W1.drewN n8 := ⟨_, rfl⟩
        rw [← hW2] at HJ8
        go_upto_if 124 with fail
        go_cut [5, 7] from 125 to 169 (fun fv jv wx => ∃ (p2 pj2 : Nat) (F2 G2 : Nat → Prop) (J2 : Jn) (v2 bv2 rv2 : Value), fv = .pointer (some ⟨p2, 0, none⟩) ∧ jv = .pointer (some ⟨pj2, 0, none⟩) ∧ Hid (JO W wx p2 pj2 J2 F2 G2 bm J2 v2 bv2 rv2 bo #[.int .i64 what', .int .i64 n, .slice Ar rows.length cr, .slice Ak keeps.length ck] 59 (.slice Ao rows.length co) rows) ∧ Hid (JInv J2 (6 * k + 5) (k + 1) (sizeJ (os.take (k + 1)))) ∧ Hid (GI (k + 1) J2.st.files))
        case first =>
          by_cases h4 : what' = 4
          case neg =>
            have n4 : (what' == 4) = false := by simpa using h4
            have HG := Lib.hid (HGI1.out h4)
            have HJ9 := Lib.hid HJ8.out
            rw [hW2] at HJ9
            clear h4 hW2
            go_wp2
            go_meet
            exact ⟨p, pj, F1, G1, J1, v1, bv1, rv1, rfl, rfl, HJ9, Lib.hid (HIV.out.mono (by omega) (Nat.le_refl _) (Nat.le_refl _)), HG⟩
          case pos =>
            subst h4
            rw [← hW2]
            clear q0 q1 q2 q3 q4 hW2
            obtain ⟨o0, o1, o2, o3, -⟩ := four_cells4 HJ8.out.obx
            have hl2 : bo < W2.heap.size := HJ8.out.lt.2
            have HCI : Hid (Calls Tryz.prog 31 #[.slice Ak keeps.length ck] W2.drew fun e w' => ∃ A c, e = .returned (.slice A keeps.length c) ∧ Hid (Seg w' w'.heap.size (.slice A keeps.length c) (ints keeps)) ∧ Hid (JO W w' p pj J1 F1 G1 bm J1 v1 bv1 rv1 bo #[.int .i64 4, .int .i64 n, .slice Ar rows.length cr, .slice Ak keeps.length ck] 59 (.slice Ao rows.length co) rows) ∧ w'.cell? ⟨bo, 1, none⟩ = some (.int .i64 n) ∧ bo < w'.heap.size) := Lib.hid (by
              have h0 := HJ8.out.go ((Below.refl _ W2).drew)
              refine (copyInts_big _ keeps W.heap.size W2.drew (HAT.out.ints.below h0.below) h0.sz HAT.out.few).mono ?_
              rintro e w' ⟨u, rfl, hu, hb⟩
              obtain ⟨A, c, rfl⟩ := hu.form
              rw [ints_length] at hu ⊢
              have h1 := h0.go hb
              exact ⟨A, c, rfl, Lib.hid (Own.seg hu), Lib.hid h1, (four_cells4 h1.obx).2.1, h1.lt.2⟩)
            go_upto_region 38 with fail
            go_cut [5] from 125 to 131 (fun fv wx => ∃ (p2 : Nat) (F2 : Nat → Prop), fv = .pointer (some ⟨p2, 0, none⟩) ∧ Hid (JC W wx p2 (stCrash J1.st keeps n) F2 bm J1 v1 bv1 rv1 bo #[.int .i64 4, .int .i64 n, .slice Ar rows.length cr, .slice Ak keeps.length ck] 59 (.slice Ao rows.length co) rows))
            case first =>
              go_region_with (first
                | (go_at_call 31; refine HCI.out.mono ?_; rintro e w10 ⟨A10, c10, rfl, HS10, HJ10, y1, y2⟩)
                | (go_at_call 12; refine (HJ10.out.crash HSM1.out HS10.out n).mono ?_; rintro e w11 ⟨p11, F11, rfl, HJC⟩))
              all_goals (
                go_wp2_with fail
                go_meet
                exact ⟨p11, F11, rfl, HJC⟩)
            case rest =>
              obtain ⟨p2, F2, rfl, HJC⟩ := hcut
              obtain ⟨W3, rfl⟩ : ∃ W3, W3 = wc := ⟨_, rfl⟩
              clear o0 o1 o2 o3 hl2 HCI HJ8
              have HCM : Hid (Calm (stCrash J1.st keeps n).files 300 250000) := Lib.hid (HSM1.out.calm.crash keeps 0)
              have HNN : Hid (n ≤ 9223372036854775807) := Lib.hid HAT.out.num
              have hjo := jopen_any W3 p2 (stCrash J1.st keeps n) F2 HJC.out.held.fs HCM.out (by omega) (by omega) HNN.out
              obtain ⟨st2, res, hr⟩ : ∃ st2 res, openSt (stCrash J1.st keeps n) = (st2, res) := ⟨_, _, rfl⟩
              have HR := Lib.hid hr
              rw [hr] at hjo
              have HJO := Lib.hid hjo
              have HRC : Hid (∀ (S : Nat → Prop) (w : World), (∀ b, S b → b < w.heap.size) → RefS S w v1 J1.st.files → Seg w w.heap.size (.slice Ak keeps.length ck) (ints keeps) → Calls Tryz.prog 15 #[.agg #[.int .i64 J1.st.power, v1], .slice Ak keeps.length ck, .int .i64 n] w fun e w' => ∃ A nn c, e = .returned (.agg #[.int .i64 n, .slice A nn c]) ∧ Hid (RefS (New S w w') w' (.slice A nn c) (stCrash J1.st keeps n).files) ∧ Hid (Below w.heap.size w w')) := Lib.hid fun S w hS hf hk => by
                refine (rcrash_any J1.st.power v1 J1.st.files S w hS hf (by have := HSM1.out.calm.files; omega) (fun f hf => ⟨by have := HSM1.out.calm.data f hf; omega, HSM1.out.calm.safe f hf⟩) _ keeps hk n).mono ?_
                rintro e w' ⟨v', rfl, hr, hb⟩
                obtain ⟨A, c, rfl, -, -⟩ := hr.form
                exact ⟨A, _, c, rfl, Lib.hid hr, Lib.hid hb⟩
              have HRO : Hid (∀ (S : Nat → Prop) (w : World) (A : Option Addr) (nn c : Nat), (∀ b, S b → b < w.heap.size) → RefS S w (.slice A nn c) (stCrash J1.st keeps n).files → Calls Tryz.prog 14 #[.agg #[.int .i64 n, .slice A nn c]] w (ROPost w S (st2, res))) := Lib.hid fun S w A nn c hS hf => by
                obtain ⟨A', c', hff, -, -⟩ := hf.form
                injection hff with _ hn2 _
                subst hn2
                have := open_any (stCrash J1.st keeps n) HNN.out A c S w hS hf (by have := HCM.out.files; omega) (fun f hf => by have := HCM.out.data f hf; omega)
                rw [HR.out] at this
                exact this
              have HKP : Hid (∀ w, Below W.heap.size W w → Seg w w.heap.size (.slice Ak keeps.length ck) (ints keeps)) := Lib.hid fun w hw => (HAT.out.ints.below hw).more hw.size
              clear hjo hr
              cases res with
              | error e2 =>
                have hn0 := open_error HR.out
                have b1 : (e2 != e2) = false := by simp
                have b2 : (e2 == e2) = true := by simp
                have b3 : (e2 != 0) = true := by simpa using hn0
                clear hn0
                go_wp2_with fail
                refine HJO.out.mono ?_
                rintro e w4 hop
                obtain ⟨rfl, F4, hjc4⟩ := HJC.out.failed hop
                have HJ4 := Lib.hid hjc4
                obtain ⟨o0, o1, o2, o3, -⟩ := four_cells4 hjc4.obx
                have hbx := hjc4.box
                obtain ⟨x0, x1⟩ : w4.cell? ⟨bm, 0, none⟩ = some (.int .i64 J1.st.power) ∧ w4.cell? ⟨bm, 1, none⟩ = some v1 := by simp [World.cell?, hbx]
                clear hbx hjc4 hop HJO HJC
                go_wp2_with fail
                refine (HRC.out _ w4 (fun b hb => hb.2.1) HJ4.out.ref.ref (HKP.out w4 HJ4.out.held.below)).mono ?_
                rintro e w5 ⟨A5, n5, c5, rfl, HR5, HB5⟩
                clear o0 o1 o2 o3 x0 x1
                go_wp2_with fail
                refine (HRO.out _ w5 A5 n5 c5 (New.lt (fun b hb => hb.2.1) HB5.out.size) HR5.out).mono ?_
                rintro e w6 hro
                obtain ⟨A6, n6, c6, gen, Ab6, nb6, cb6, Ar6, nr6, cr6, rfl, HB6⟩ := hro.err
                have HBL : Hid (Below W.heap.size W w6) := Lib.hid (by
                  have hz4 := HJ4.out.held.below.size
                  exact HJ4.out.held.below.trans ((HB5.out.trans (HB6.out.mono HB5.out.size)).mono hz4))
                clear hro HRO HRC HR5
                go_wp2
                go_ret
                exact ⟨rfl, HBL.out.trans (((Below.refl _ w6).alloc (Nat.le_refl _) _).mono HBL.out.size)⟩
              | ok x =>
                obtain ⟨g2, ps, ls⟩ := x
                have hgo := gi_open (K := k + 1) (st := stCrash J1.st keeps n) (gw_crash HGW.out keeps) HR.out
                have HIV9 := Lib.hid (HIV.out.opened (by have := HK40.out; omega) (by have := HSZ.out.2.2; have := sizeJ_take os (k + 1); omega) keeps HNN.out HR.out hgo.2)
                have HGI9 := Lib.hid hgo.1
                clear hgo
                go_wp2_with fail
                refine HJO.out.mono ?_
                rintro e w4 hop
                obtain ⟨pj4, F4, G4, rfl, hjo4⟩ := HJC.out.opened hop
                have HJ4 := Lib.hid hjo4
                obtain ⟨o0, o1, o2, o3, -⟩ := four_cells4 hjo4.obx
                obtain ⟨x0, x1, x2, x3, x4, x5, x6, x7, x8, x9⟩ := hjo4.cells
                clear hjo4 hop HJO HJC
                go_wp2_with fail
                refine (HRC.out _ w4 HJ4.out.hS HJ4.out.ref.ref (HKP.out w4 HJ4.out.below)).mono ?_
                rintro e w5 ⟨A5, n5, c5, rfl, HR5, HB5⟩
                have HJ5 := Lib.hid (HJ4.out.go HB5.out)
                have HR5' := Lib.hid (HR5.out.sub (HJ4.out.pjNew HB5.out))
                clear o0 o1 o2 o3 x0 x1 x2 x3 x4 x5 x6 x7 x8 x9 HR5
                go_wp2_with fail
                refine (HRO.out _ w5 A5 n5 c5 HJ5.out.hS HR5'.out).mono ?_
                rintro e w6 hro
                obtain ⟨A6, n6, c6, Ab6, nb6, cb6, Ar6, nr6, cr6, rfl, HR6, HB6⟩ := hro.oks
                have HJ6 := Lib.hid (HJ5.out.go HB6.out)
                have hbx := box_below w6 (.cells #[.int .i64 st2.power, .slice A6 n6 c6, .int .i64 (g2 : Nat), .slice Ab6 nb6 cb6, .slice Ar6 nr6 cr6] 45)
                have hst6 := HJ6.out.store HNE.out (m' := ⟨st2, g2, ps, ls⟩) (HJ5.out.refNew HB6.out HR6.out)
                have HO8 := Lib.hid (hst6.go (box_below _ (.cells #[.int .i64 st2.power, .slice A6 n6 c6, .int .i64 (g2 : Nat), .slice Ab6 nb6 cb6, .slice Ar6 nr6 cr6] 45)))
                clear hst6
                obtain ⟨x0, x1, x2, x3, x4, x5, x6, x7, x8, x9⟩ := HJ6.out.cells
                have hm1 : bm < w6.heap.size := HJ6.out.lt.1
                have hm2 : ¬ bm = w6.heap.size := by omega
                have hm3 : ¬ w6.heap.size = bm := by omega
                clear hro HRO HRC HR5' HR6 hbx
                go_wp2
                go_meet
                exact ⟨p2, pj4, F4, G4, ⟨st2, g2, ps, ls⟩, _, _, _, rfl, rfl, HO8, HIV9, HGI9⟩
        case rest =>
          obtain ⟨p2, pj2, F2, G2, J2, v2, bv2, rv2, rfl, rfl, HJ9, HIV9, HGI9⟩ := hcut
          clear HJ8 HIV HGW HGI1 HSM1 q0 q1 q2 q3 q4 hW2
          obtain ⟨W3, rfl⟩ : ∃ W3, W3 = wc := ⟨_, rfl⟩
          have HSM := Lib.hid (HIV9.out.small (by have := HK40.out; omega) (by have := HK40.out; omega) (by have := HSZ.out.2.2; have := sizeJ_take os (k + 1); omega))
          obtain ⟨A2, c2, hrv2⟩ : ∃ A2 c2, rv2 = .slice A2 J2.rest.length c2 := by
            obtain ⟨A2, c2, e, -⟩ := (HJ9.out.ref.rr.sub (S' := (· < W3.heap.size)) fun b hb => hb.2.1).open_
            exact ⟨A2, c2, e⟩
          subst hrv2
          obtain ⟨M, hM⟩ : ∃ M, M = (J2.base ++ J2.rest).length := ⟨_, rfl⟩
          have HM := Lib.hid hM
          clear hM
          have HC5 : Hid (∀ w', JO W w' p2 pj2 J2 F2 G2 bm J2 v2 bv2 (.slice A2 J2.rest.length c2) bo #[.int .i64 what', .int .i64 n, .slice Ar rows.length cr, .slice Ak keeps.length ck] 59 (.slice Ao rows.length co) rows → (w'.cell? ⟨bm, 0, none⟩ = some (.int .i64 J2.st.power) ∧ w'.cell? ⟨bm, 1, none⟩ = some v2 ∧ w'.cell? ⟨bm, 2, none⟩ = some (.int .i64 (J2.g : Nat)) ∧ w'.cell? ⟨bm, 3, none⟩ = some bv2 ∧ w'.cell? ⟨bm, 4, none⟩ = some (.slice A2 J2.rest.length c2)) ∧ bm < w'.heap.size) := Lib.hid fun w' hw => by
            obtain ⟨x0, x1, x2, x3, x4, -⟩ := hw.cells
            exact ⟨⟨x0, x1, x2, x3, x4⟩, hw.lt.1⟩
          have HJR : Hid (∀ w, JO W w p2 pj2 J2 F2 G2 bm J2 v2 bv2 (.slice A2 J2.rest.length c2) bo #[.int .i64 what', .int .i64 n, .slice Ar rows.length cr, .slice Ak keeps.length ck] 59 (.slice Ao rows.length co) rows → Calls Tryz.prog 18 #[.pointer (some ⟨pj2, 0, none⟩)] w fun e w' => ∃ A c, e = .returned (.slice A M c) ∧ Hid (RowsAt (· < w'.heap.size) w' (.slice A M c) (J2.base ++ J2.rest)) ∧ Hid (JO W w' p2 pj2 J2 F2 G2 bm J2 v2 bv2 (.slice A2 J2.rest.length c2) bo #[.int .i64 what', .int .i64 n, .slice Ar rows.length cr, .slice Ak keeps.length ck] 59 (.slice Ao rows.length co) rows) ∧ Hid (Below w.heap.size w w') ∧ (w'.cell? ⟨bm, 0, none⟩ = some (.int .i64 J2.st.power) ∧ w'.cell? ⟨bm, 1, none⟩ = some v2 ∧ w'.cell? ⟨bm, 2, none⟩ = some (.int .i64 (J2.g : Nat)) ∧ w'.cell? ⟨bm, 3, none⟩ = some bv2 ∧ w'.cell? ⟨bm, 4, none⟩ = some (.slice A2 J2.rest.length c2)) ∧ bm < w'.heap.size) := Lib.hid fun w hw =>
            (hw.jrec HSM.out HM.out).mono fun e w' ⟨A, c, e1, e2, e3, e4⟩ => ⟨A, c, e1, e2, e3, e4, HC5.out _ e3.out⟩
          have HRR : Hid (∀ w, JO W w p2 pj2 J2 F2 G2 bm J2 v2 bv2 (.slice A2 J2.rest.length c2) bo #[.int .i64 what', .int .i64 n, .slice Ar rows.length cr, .slice Ak keeps.length ck] 59 (.slice Ao rows.length co) rows → Calls Tryz.prog 19 #[.agg #[.int .i64 J2.st.power, v2, .int .i64 (J2.g : Nat), bv2, .slice A2 J2.rest.length c2]] w fun e w' => ∃ A c, e = .returned (.slice A M c) ∧ Hid (RowsAt (· < w'.heap.size) w' (.slice A M c) (J2.base ++ J2.rest)) ∧ Hid (JO W w' p2 pj2 J2 F2 G2 bm J2 v2 bv2 (.slice A2 J2.rest.length c2) bo #[.int .i64 what', .int .i64 n, .slice Ar rows.length cr, .slice Ak keeps.length ck] 59 (.slice Ao rows.length co) rows) ∧ Hid (Below w.heap.size w w') ∧ (w'.cell? ⟨bm, 0, none⟩ = some (.int .i64 J2.st.power) ∧ w'.cell? ⟨bm, 1, none⟩ = some v2 ∧ w'.cell? ⟨bm, 2, none⟩ = some (.int .i64 (J2.g : Nat)) ∧ w'.cell? ⟨bm, 3, none⟩ = some bv2 ∧ w'.cell? ⟨bm, 4, none⟩ = some (.slice A2 J2.rest.length c2)) ∧ bm < w'.heap.size) := Lib.hid fun w hw =>
            (hw.rrec HSM.out HM.out).mono fun e w' ⟨A, c, e1, e2, e3, e4⟩ => ⟨A, c, e1, e2, e3, e4, HC5.out _ e3.out⟩
          have HSR : Hid (∀ (w : World) (u1 u2 : Value), RowsAt (· < w.heap.size) w u1 (J2.base ++ J2.rest) → RowsAt (· < w.heap.size) w u2 (J2.base ++ J2.rest) → Calls Tryz.prog 17 #[u1, u2] w fun e w' => e = .returned (.bool true) ∧ ∃ n, w' = w.drewN n) := Lib.hid fun w u1 u2 h1 h2 => by
            have := sameRows_any u1 u2 _ _ w h1 h2
            rw [decide_eq_true rfl] at this
            exact this
          have HLG : Hid (∀ w, JO W w p2 pj2 J2 F2 G2 bm J2 v2 bv2 (.slice A2 J2.rest.length c2) bo #[.int .i64 what', .int .i64 n, .slice Ar rows.length cr, .slice Ak keeps.length ck] 59 (.slice Ao rows.length co) rows → Calls Tryz.prog 20 #[.pointer (some ⟨pj2, 0, none⟩)] w fun e w' => e = .returned (.int .i64 (J2.rest.length : Nat)) ∧ ∃ n, w' = w.drewN n) := Lib.hid fun w hw => jlog_any hw.jh.jf
          have HSF : Hid (∀ w, JO W w p2 pj2 J2 F2 G2 bm J2 v2 bv2 (.slice A2 J2.rest.length c2) bo #[.int .i64 what', .int .i64 n, .slice Ar rows.length cr, .slice Ak keeps.length ck] 59 (.slice Ao rows.length co) rows → Calls Tryz.prog 16 #[.pointer (some ⟨p2, 0, none⟩), .agg #[.int .i64 J2.st.power, v2]] w fun e w' => e = .returned (.bool true) ∧ Hid (JO W w' p2 pj2 J2 F2 G2 bm J2 v2 bv2 (.slice A2 J2.rest.length c2) bo #[.int .i64 what', .int .i64 n, .slice Ar rows.length cr, .slice Ak keeps.length ck] 59 (.slice Ao rows.length co) rows)) := Lib.hid fun w hw =>
            (hw.sameF HSM.out hw.ref.ref).mono fun e w' ⟨e1, e2, e3⟩ => ⟨e1, e2⟩
          obtain ⟨⟨x0, x1, x2, x3, x4⟩, hm1⟩ := HC5.out _ HJ9.out
          have HR0 := Lib.hid (HJ9.out.go ((Below.refl _ W3).drew))
          have hln : ((J2.rest.length : Int) != (J2.rest.length : Int)) = false := by simp
          go_upto_region 47 with fail
          go_cut [190] from 170 to 190 (fun bv wx => bv = .bool false ∧ Hid (JO W wx p2 pj2 J2 F2 G2 bm J2 v2 bv2 (.slice A2 J2.rest.length c2) bo #[.int .i64 what', .int .i64 n, .slice Ar rows.length cr, .slice Ak keeps.length ck] 59 (.slice Ao rows.length co) rows))
          case first =>
            --<B
            go_region_with (first
              | (go_at_call 18; (with_reducible refine (HJR.out _ HR0.out).mono ?_); rintro e w10 ⟨A10, c10, rfl, HSJ, HOJ, HDJ, ⟨z0, z1, z2, z3, z4⟩, z5⟩)
              | (go_at_call 19; (with_reducible refine (HRR.out _ HOJ.out).mono ?_); rintro e w11 ⟨A11, c11, rfl, HSR1, HOR, HDR, ⟨t0, t1, t2, t3, t4⟩, t5⟩)
              | (go_at_call 19; (with_reducible refine (HRR.out _ HR0.out).mono ?_); rintro e w10 ⟨A11, c11, rfl, HSR1, HOR, HDR, ⟨z0, z1, z2, z3, z4⟩, z5⟩)
              | (go_at_call 18; (with_reducible refine (HJR.out _ HOR.out).mono ?_); rintro e w11 ⟨A10, c10, rfl, HSJ, HOJ, HDJ, ⟨t0, t1, t2, t3, t4⟩, t5⟩)
              | (go_at_call 17; refine (HSR.out _ _ _ (HSJ.out.keep fun b hb => ⟨Nat.lt_of_lt_of_le hb HDR.out.size, HDR.out.block b hb⟩) HSR1.out).mono ?_; rintro e w12 ⟨rfl, n12, rfl⟩; have HOL := Lib.hid HOR.out)
              | (go_at_call 17; refine (HSR.out _ _ _ HSJ.out (HSR1.out.keep fun b hb => ⟨Nat.lt_of_lt_of_le hb HDJ.out.size, HDJ.out.block b hb⟩)).mono ?_; rintro e w12 ⟨rfl, n12, rfl⟩; have HOL := Lib.hid HOJ.out)
              | (go_at_call 20; refine (HLG.out _ (HOL.out.go (below_drewN (Below.refl _ _) _))).mono ?_; rintro e w13 ⟨rfl, n13, rfl⟩)
              | (go_at_call 16; refine (HSF.out _ (HOL.out.go (below_drewN (Below.refl _ _) _))).mono ?_; rintro e w14 ⟨rfl, HO14⟩))
            all_goals (
              go_wp2_with fail
              go_meet
              exact ⟨rfl, HO14⟩)
            --B>
          case rest =>
            obtain ⟨rfl, HO14⟩ := hcut
            have HST : Hid (StJ W _ os (k + 1) p2 pj2 F2 G2 bm J2 v2 bv2 (.slice A2 J2.rest.length c2)) := Lib.hid ⟨HO14.out.head, HIV9.out.mono (by omega) (Nat.le_refl _) (Nat.le_refl _), HGI9.out⟩
            clear x0 x1 x2 x3 x4 HR0 HJ9 HO14 hln
            have hlt2 := HLT.out
            go_wp2
            go_roundw
            case rel => exact ⟨k + 1, p2, pj2, F2, G2, J2, v2, bv2, _, by omega, rfl, rfl, by go_num, HST⟩
            case measure => simp [intOf]; omega
    · have hbel := Lib.hid HJ.out.jo.below
      go_wp2
      go_ret
      exact ⟨rfl, hbel.out⟩
end Go.Proofs.YtpdelgjfamelfaaGreat
