/- sameFiles of law 02: its text is that of same of law 01, and so is its walk. -/
import Derived.Test.YtpdelgjfamelfaaGreatK4
import Derived.Test.YtpdelgjfamelfaaGreatM6
namespace Go.Proofs.YtpdelgjfamelfaaGreat
open Go.RowKit Go.Lib Go.Vfs Go.Par Go.Shelf
set_option linter.unusedVariables false
set_option linter.unusedSimpArgs false

set_option maxRecDepth 20000 in
set_option maxHeartbeats 4000000 in
theorem sameFiles_any (st : St) (p : Nat) (F : Nat → Prop) (v : Value) (S : Nat → Prop) (w : World) (hfs : Fsy w p st F) (hS : ∀ b, S b → b < w.heap.size) (h : RefS S w v st.files) (K D : Nat) (hcalm : Calm st.files K D) (hK : K ≤ 100000) (hD : D ≤ 1000000) :
    Calls Tryz.prog 16 #[.pointer (some ⟨p, 0, none⟩), .agg #[.int .i64 st.power, v]] w fun e w' => e = .returned (.bool true) ∧ Below w.heap.size w w' := by
  obtain ⟨A, c, rfl, hc, hm⟩ := h.form
  have H := Lib.hid h; have HS := Lib.hid hS; have HF := Lib.hid hfs; have HC := Lib.hid hcalm
  have b1 := Box1.start w st.power (.slice A st.files.length c)
  have HNF : Hid (∀ W, Box1 w st.power (.slice A st.files.length c) W → Calls Tryz.prog 58 #[.pointer (some ⟨p, 0, none⟩)] W fun e w' => ∃ A1 c1, e = .returned (.slice A1 st.files.length c1) ∧ Hid (Seg w' w'.heap.size (.slice A1 st.files.length c1) (strs (st.files.map File.name))) ∧ Hid (Box1 w st.power (.slice A st.files.length c) w') ∧ (w'.cell? ⟨w.heap.size, 0, none⟩ = some (.int .i64 st.power) ∧ w'.cell? ⟨w.heap.size, 1, none⟩ = some (.slice A st.files.length c)) ∧ Hid (Below W.heap.size W w')) := Lib.hid fun W hW => by
    refine (names_any W p st F (HF.out.keep fun k hk => hW.below.block k (HF.out.lt k hk)) (Nat.le_trans HC.out.files hK) HC.out.short).mono ?_
    rintro e w' ⟨v1, rfl, hv1, hb1⟩
    obtain ⟨A1, c1, rfl⟩ := hv1.form
    rw [strs_length, List.length_map] at hv1 ⊢
    exact ⟨A1, c1, rfl, Lib.hid (Own.seg hv1), Lib.hid (hW.go hb1), (hW.go hb1).cells, Lib.hid hb1⟩
  have HNM : Hid (∀ W, Box1 w st.power (.slice A st.files.length c) W → Calls Tryz.prog 59 #[.agg #[.int .i64 st.power, .slice A st.files.length c]] W fun e w' => ∃ A1 c1, e = .returned (.slice A1 st.files.length c1) ∧ Hid (Seg w' w'.heap.size (.slice A1 st.files.length c1) (strs (st.files.map File.name))) ∧ Hid (Box1 w st.power (.slice A st.files.length c) w') ∧ (w'.cell? ⟨w.heap.size, 0, none⟩ = some (.int .i64 st.power) ∧ w'.cell? ⟨w.heap.size, 1, none⟩ = some (.slice A st.files.length c)) ∧ Hid (Below W.heap.size W w')) := Lib.hid fun W hW => by
    refine (rnames_any st.power _ st.files S W (fun b hb => by have := HS.out b hb; have := hW.size; omega) (hW.old HS.out H.out) (Nat.le_trans HC.out.files (by omega))).mono ?_
    rintro e w' ⟨v1, rfl, hv1, hb1⟩
    obtain ⟨A1, c1, rfl⟩ := hv1.form
    rw [strs_length, List.length_map] at hv1 ⊢
    exact ⟨A1, c1, rfl, Lib.hid (Own.seg hv1), Lib.hid (hW.go hb1), (hW.go hb1).cells, Lib.hid hb1⟩
  have HST : Hid (∀ (W : World) (u1 u2 : Value), Seg W W.heap.size u1 (strs (st.files.map File.name)) → Seg W W.heap.size u2 (strs (st.files.map File.name)) → Calls Tryz.prog 57 #[u1, u2] W fun e w' => e = .returned (.bool true) ∧ ∃ n, w' = W.drewN n) := Lib.hid fun W u1 u2 h1 h2 => by
    have := sameTexts_any u1 u2 _ _ _ W h1 h2
    rw [decide_eq_true rfl] at this
    exact this
  have HB0 := Lib.hid (b1.go ((Below.refl _ _).drew))
  clear h hS hfs hcalm b1
  go_enter Tryz.func16, Tryz.ntmps16
  go_upto_region 1 with fail
  go_cut [13] (fun px wx => px = .bool false ∧ Hid (Box1 w st.power (.slice A st.files.length c) wx))
  case first =>
    go_region_with (first
      | (go_at_call 58; refine (HNF.out _ HB0.out).mono ?_; rintro e w2 ⟨A1, c1, rfl, HSF, HBF, ⟨x0, x1⟩, HDF⟩)
      | (go_at_call 59; refine (HNM.out _ HBF.out).mono ?_; rintro e w3 ⟨A2, c2, rfl, HSM, HBM, ⟨y0, y1⟩, HDM⟩)
      | (go_at_call 59; refine (HNM.out _ HB0.out).mono ?_; rintro e w2 ⟨A2, c2, rfl, HSM, HBM, ⟨x0, x1⟩, HDM⟩)
      | (go_at_call 58; refine (HNF.out _ HBM.out).mono ?_; rintro e w3 ⟨A1, c1, rfl, HSF, HBF, ⟨y0, y1⟩, HDF⟩)
      | (go_at_call 57; refine (HST.out _ _ _ ((HSF.out.below HDM.out).more HDM.out.size) HSM.out).mono ?_; rintro e w4 ⟨rfl, n4, rfl⟩)
      | (go_at_call 57; refine (HST.out _ _ _ HSF.out ((HSM.out.below HDF.out).more HDF.out.size)).mono ?_; rintro e w4 ⟨rfl, n4, rfl⟩))
    all_goals (
      go_wp2_with fail
      go_meet
      first
      | exact ⟨rfl, Lib.hid (HBM.out.go (below_drewN (Below.refl _ _) _))⟩
      | exact ⟨rfl, Lib.hid (HBF.out.go (below_drewN (Below.refl _ _) _))⟩)
  case rest =>
    obtain ⟨rfl, HBX⟩ := hcut
    clear HB0 HNF HNM HST
    go_wp2_with fail
    go_loopw [5] (fun i wr => ∃ k : Nat, k ≤ st.files.length ∧ i = .int .i64 k ∧ Hid (Box1 w st.power (.slice A st.files.length c) wr)) (fun i _ => st.files.length - (intOf i).toNat)
    case atStart => exact ⟨0, by omega, rfl, HBX⟩
    case round =>
      obtain ⟨k, hk, rfl, HB⟩ := hrel
      obtain ⟨x0, x1⟩ := HB.out.cells
      by_cases hlt : k < st.files.length
      · obtain ⟨b, off, Au, nu, cu, rfl, hb, g0, g1, g2, g3⟩ := H.out.there HS.out HB.out.below k hlt
        obtain rfl := seg_len g3
        have hmem := List.getElem_mem hlt
        have hnm := HC.out.names _ hmem
        have hnl := name_len hnm
        have hfind := HF.out.finds hmem hnm
        have hread := read_any wr p st F (HF.out.keep fun k hk => HB.out.below.block k (HF.out.lt k hk)) ⟨st.files[k].name.toArray⟩ (by simp [ByteArray.size]; omega) (fun f hf => by have := HC.out.data f hf; omega)
        rw [show (⟨st.files[k].name.toArray⟩ : ByteArray).data.toList = st.files[k].name by simp, hfind] at hread
        have G3 := Lib.hid g3; have HRD := Lib.hid hread
        clear hmem hnm hnl hfind hread g3
        generalize st.files[k] = f at *
        go_wp2_with fail
        refine HRD.out.mono ?_
        rintro e w2 ⟨hb2, u2, rfl, hu2⟩
        obtain ⟨A2, c2, rfl⟩ := Own.formB hu2
        have HB2 := Lib.hid (HB.out.go hb2)
        have hbb : b < wr.heap.size := by have := HB.out.size; omega
        have g1' : w2.cell? ⟨b, off + k * 3 + 1, none⟩ = some (.slice Au f.data.length cu) := (hb2.cell (p := ⟨b, _, none⟩) hbb).trans g1
        have hsg : Seg w2 w2.heap.size (.slice Au f.data.length cu) (byteCells f.data) := (G3.out.keep (S' := S) (w' := w2) fun b hb => ⟨hb, hb2.block b (by have := HS.out b hb; have := HB.out.size; omega)⟩).seg fun b hb => by have := HS.out b hb; have := HB2.out.size; omega
        have hsb := sameBytes_any _ _ _ _ _ w2 (Own.seg hu2) hsg
        rw [decide_eq_true rfl] at hsb
        have HSB := Lib.hid hsb
        clear x0 x1 g0 g1 g2 hb2 hu2 hsg hsb HRD
        obtain ⟨x0, x1⟩ := HB2.out.cells
        go_wp2_with fail
        refine HSB.out.mono ?_
        rintro e w3 ⟨rfl, n3, rfl⟩
        have HB3 := Lib.hid (HB2.out.go (below_drewN (Below.refl _ w2) n3))
        clear HSB
        go_wp2
        go_roundw
        case rel => exact ⟨k + 1, by omega, by go_num, HB3⟩
        case measure => simp [intOf]; omega
      · go_wp2
        go_ret
        exact ⟨rfl, HB.out.below⟩
end Go.Proofs.YtpdelgjfamelfaaGreat
