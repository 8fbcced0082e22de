/- say: constructors of several arguments. -/
import Derived.Test.YtbhicpjhijondaaDoorT17
namespace Go.Proofs.YtbhicpjhijondaaDoor
open Go.RowKit Go.Lib Go.Vfs Go.Par Go.Typ Go.Shelf
set_option linter.unusedVariables false
set_option linter.unusedSimpArgs false

set_option maxRecDepth 20000 in
set_option maxHeartbeats 2000000 in
theorem say_conN (T : Ty) (ih : ∀ i (hi : i < T.args.length), SayC T.args[i]) (h1 : T.kind = 2) (h0 : 2 ≤ T.args.length) : SayC T := by
  intro B b v l W hT h hB htb hg hl
  have hsay : sayT T = [40] ++ joinW [44, 32] (T.args.map sayT) ++ [41] ++ [32] ++ T.name.data.toList := by
    rw [sayT_con h1, if_neg (by omega), if_neg (by omega), if_neg (by omega)]
  rw [hsay] at hl ⊢
  simp only [List.length_append, List.length_singleton, name_len] at hl
  obtain ⟨A, c, rfl, hc, hm, hn⟩ := hT.form
  have hla : T.args.length ≤ 9223372036854775807 := by simp only [maxLen] at hm; omega
  obtain ⟨W1, hW1⟩ : ∃ W1, W1 = W.alloc (.cells #[.int .i64 T.kind, .int .i64 T.num, .string T.name, .slice A T.args.length c] 24) := ⟨_, rfl⟩
  have hc1 := ConI.start (T := T) A c h hB
  rw [← hW1] at hc1
  obtain ⟨y0, y1, y2, y3⟩ := box4 hc1.box
  have HC1 := Lib.hid hc1; have HTB := Lib.hid htb; have HT := Lib.hid hT; have IH := Lib.hid ih; have HL := Lib.hid hl
  have HTL := Lib.hid (tail_c B b T A c W l)
  have HWB := Lib.hid (writeByte_s B b l 40 40 rfl W1 hc1.sb.bld hc1.sb.le (by omega))
  have g0 : ((T.args.length : Int) == 1) = false := by simp; omega
  have g1 : (1 : Int) < (T.args.length : Int) := by omega
  have H0 := Lib.hid h0
  clear hT hc1 htb h hc hm hn ih hl hsay h0
  unfold tyV
  rw [h1] at hW1 y0 ⊢
  clear h1
  go_enter Tryd.func56, Tryd.ntmps56
  go_wp2_with fail
  rw [← hW1]
  clear hW1
  refine HWB.out.mono ?_
  rintro e wq ⟨rfl, Hq⟩
  have HCq := Lib.hid (HC1.out.t Hq)
  clear y0 y1 y2 y3 Hq
  obtain ⟨y0, y1, y2, y3⟩ := box4 HCq.out.box
  go_wp2
  go_loopw [65] (fun iv wr => ∃ (k : Nat), k ≤ T.args.length ∧ iv = .int .i64 k ∧ Hid (ConI B b T A c W (l ++ [40] ++ joinW [44, 32] ((T.args.map sayT).take k)) wr)) (fun iv _ => T.args.length - (RowKit.intOf iv).toNat)
  case atStart => exact ⟨0, by omega, rfl, Lib.hid (by simpa [joinW] using HCq.out)⟩
  case round =>
    obtain ⟨k, hk, rfl, HRC⟩ := hrel
    clear y0 y1 y2 y3
    have HR := Lib.hid HRC.out.sb
    by_cases hlt : k < T.args.length
    · obtain ⟨bb, off, A', c', rfl, hbb, ht, x0, x1, x2, x3⟩ := (HR.out.ty HT.out).arg hlt
      have HSC := Lib.hid (IH.out k hlt)
      have hlm : k < (T.args.map sayT).length := by rw [List.length_map]; exact hlt
      have htk := joinW_take [44, 32] (T.args.map sayT) hlm
      rw [List.getElem_map] at htk
      have hln := joinW_len_mem (sep := [44, 32]) hlm
      rw [List.getD_eq_getElem?_getD, List.getElem?_eq_getElem hlm, List.getElem_map, Option.getD_some] at hln
      have HT0 := Lib.hid ht
      have HTK := Lib.hid htk; have HLN := Lib.hid hln
      clear ht htk hln
      generalize T.args[k] = U at *
      obtain ⟨l1, hl1⟩ : ∃ l1, l1 = l ++ [40] ++ joinW [44, 32] ((T.args.map sayT).take k) := ⟨_, rfl⟩
      obtain ⟨W2, hW2⟩ : ∃ W2, W2 = wr.alloc (.cells #[.int .i64 U.kind, .int .i64 U.num, .string U.name, .slice A' U.args.length c'] 24) := ⟨_, rfl⟩
      have hb2 : Below wr.heap.size wr W2 := by rw [hW2]; exact (Below.refl _ _).alloc (Nat.le_refl _) _
      have HR2 := Lib.hid (HR.out.new hb2)
      have HCR := Lib.hid (HRC.out.new hb2)
      rw [← hl1] at HR2 HCR
      have hbn : wr.heap.size ≠ b := by have := HR.out.blt; omega
      have HBX : Hid (W2.heap[wr.heap.size]? = some (.cells #[.int .i64 U.kind, .int .i64 U.num, .string U.name, .slice A' U.args.length c'] 24 (0, 0))) := Lib.hid (by rw [hW2]; exact heap_alloc_new _ _)
      have hls : l1.length + (if k = 0 then ([] : List UInt8) else [44, 32]).length + (sayT U).length ≤ 140737488355000 := by
        have h1 := HLN.out; have h2 := HL.out; rw [hl1, List.length_append, List.length_append, List.length_singleton]; omega
      have HBT := Lib.hid (between_s B b k ⟨#[44, 32]⟩ l1 W2 HR2.out.bld HR2.out.le (by show l1.length + 2 ≤ _; omega))
      have HLS := Lib.hid hls; have HB2 := Lib.hid (hb2.mono HR.out.le)
      rw [hW2] at HBT
      clear hls hb2
      clear hlm
      go_wp2_with fail
      refine HBT.out.mono ?_
      rintro e w3 ⟨rfl, H3⟩
      rw [← hW2] at H3
      have HBX3 := Lib.hid (H3.at HBX.out (by decide) hbn)
      obtain ⟨y0, y1, y2, y3⟩ := box4 HBX3.out
      have HC3 := Lib.hid (HCR.out.t H3)
      have HBW := Lib.hid (HB2.out.trans H3.below)
      clear H3
      have e3 : (if k = 0 then ([] : List UInt8) else (⟨#[44, 32]⟩ : ByteArray).data.toList) = (if k = 0 then [] else [44, 32]) := rfl
      have HCS := Lib.hid (HSC.out B b _ _ w3 (HT0.out.keep fun g hg2 => ⟨hg2, HBW.out.block g hg2⟩) HC3.out.sb.bld HC3.out.sb.le (HC3.out.sb.tb HTB.out hg) hg (by have := HLS.out; rw [List.length_append, e3]; omega))
      unfold tyV at HCS
      clear e3
      go_wp2_with fail
      refine HCS.out.mono ?_
      rintro e w4 ⟨rfl, H4⟩
      have H5 : Hid (ConI B b T (some ⟨bb, off, none⟩) c W (l ++ [40] ++ joinW [44, 32] ((T.args.map sayT).take (k + 1))) w4) := Lib.hid (by
        have h := HC3.out.t H4
        rw [HTK.out, ← List.append_assoc, ← hl1, ← List.append_assoc]
        exact h)
      clear H4 y0 y1 y2 y3
      go_wp2
      go_roundw
      case rel => exact ⟨k + 1, by omega, by go_num, H5⟩
      case measure => simp [RowKit.intOf]; omega
    · have hkl : k = T.args.length := by omega
      have HE : Hid (ConI B b T A c W (l ++ [40] ++ joinW [44, 32] (T.args.map sayT)) wr) := Lib.hid (by
        have h := HRC.out
        rw [hkl, ← List.length_map (f := sayT), List.take_length] at h
        exact h)
      clear HRC HR
      obtain ⟨y0, y1, y2, y3⟩ := box4 HE.out.box
      have hll := HL.out
      have HWB2 := Lib.hid (writeByte_s B b _ 41 41 rfl wr HE.out.sb.bld HE.out.sb.le (by simp only [List.length_append, List.length_singleton]; omega))
      go_wp2_with fail
      refine HWB2.out.mono ?_
      rintro e w2 ⟨rfl, H2⟩
      have HC2' := Lib.hid (HE.out.t H2)
      clear y0 y1 y2 y3 H2
      obtain ⟨y0, y1, y2, y3⟩ := box4 HC2'.out.box
      go_wp2_with fail
      refine (HTL.out _ _ HC2'.out (by simp only [List.length_append, List.length_singleton]; omega)).mono ?_
      rintro e w5 ⟨rfl, H5⟩
      have HC5 := Lib.hid H5
      clear y0 y1 y2 y3 H5
      obtain ⟨y0, y1, y2, y3⟩ := box4 HC5.out.box
      have HW5 := Lib.hid (name_c HC5.out (by rw [if_neg (by have := H0.out; omega)]; simp only [List.length_append, List.length_singleton]; omega))
      go_wp2_with fail
      refine HW5.out.mono ?_
      rintro e w6 ⟨⟨v6, rfl⟩, H6⟩
      have HF := Lib.hid H6.sb
      clear H6
      go_wp2
      go_end0
      refine ⟨rfl, ?_⟩
      have h := HF.out
      rw [if_neg (by have := H0.out; omega)] at h
      simpa [List.append_assoc] using h

/-- say writes a type's words. -/
theorem say_any (T : Ty) : FitAll T → SayC T := by
  induction T using Ty.ind with
  | h T ih =>
    intro hf
    have ih' : ∀ i (hi : i < T.args.length), SayC T.args[i] := fun i hi => ih i hi (hf.arg hi)
    rcases fits_kinds hf.self with ⟨h1, h2, h3, -, -⟩ | ⟨h1, -, -⟩ | ⟨h1, -, -, -⟩ | ⟨h1, -, -, h2⟩
    · exact say_var T h1 h2 h3
    · by_cases h0 : T.args.length = 0
      · exact say_con0 T h1 h0
      · by_cases h2 : T.args.length = 1
        · exact say_con1 T ih' h1 h2
        · exact say_conN T ih' h1 (by omega)
    · exact say_pair T ih' h1
    · exact say_arrow T ih' h1 h2
end Go.Proofs.YtbhicpjhijondaaDoor
