/- The walk of FrameEncodes. -/
import Derived.Test.YtffblcefnckacaaDoorLawB
namespace Go.Proofs.YtffblcefnckacaaDoor
open Go.RowKit Go.Lib Go.Vfs Go.Par Go.Frm Go.Shelf
set_option linter.unusedVariables false
set_option linter.unusedSimpArgs false

theorem same_s (u v : Value) (xs : List UInt8) (w : World) (hu : Seg w w.heap.size u (byteCells xs)) (hv : Seg w w.heap.size v (byteCells xs)) : Calls Tryd.prog 14 #[u, v] w fun e w' => e = .returned (.bool true) ∧ ∃ n, w' = w.drewN n := by
  have := sameBytes_any u v xs xs _ w hu hv
  rwa [decide_eq_true rfl] at this

set_option maxRecDepth 100000 in
set_option maxHeartbeats 1000000 in
theorem frameEncodes_walk (v0 : Value) (l0 : List UInt8) (b0 : l0.length ≤ 140737488351232) (w : World) (m : Int) (g0 : Seg w w.heap.size v0 (byteCells l0)) (hG : Gl w m) :
    Calls Tryd.prog 3 #[v0] w fun e w' => e = .returned (.bool true) ∧ Below w.heap.size w w' := by
  obtain ⟨A0, c0, rfl, -, -, -⟩ := g0.open_bytes
  have HAL := Lib.hid (alive_s w m hG)
  have G0 := Lib.hid g0; have HG := Lib.hid hG
  clear g0 hG
  by_cases hbig : 200000 < l0.length
  · have g1 : (200000 : Int) < (l0.length : Int) := by omega
    go_enter Tryd.func3, Tryd.ntmps3
    go_wp2_with (go_at_call 10; refine HAL.out.mono ?_; rintro e wa ⟨rfl, HBA⟩)
    go_ret
    exact ⟨rfl, HBA.out⟩
  have g1 : ¬ (200000 : Int) < (l0.length : Int) := by omega
  go_enter Tryd.func3, Tryd.ntmps3
  go_wp2_with (go_at_call 10; refine HAL.out.mono ?_; rintro e wa ⟨rfl, HBA⟩)
  refine (spare_any _ l0 wa ((G0.out.below HBA.out).more HBA.out.size) (by omega)).mono ?_
  rintro e ws ⟨A1, c1, rfl, HS⟩
  have hc1 : l0.length + 8 ≤ c1 := by
    obtain ⟨A', c', e', h'⟩ := HS.out.1.seg
    injection e' with _ _ e'
    rw [byteCells_length, List.length_append, marks_len] at h'
    omega
  have hbs : Below w.heap.size w ws := HBA.out.trans (HS.out.2.mono HBA.out.size)
  have hsf : Seg ws ws.heap.size (.slice A1 l0.length c1) (byteCells l0) := by
    have := (seg_front (S := (· < ws.heap.size)) (l := l0 ++ marks 8) HS.out.1.seg (by rw [List.length_append, marks_len]) l0.length (by omega)).2
    rwa [List.take_left] at this
  have HBS := Lib.hid hbs; have HSF := Lib.hid hsf
  clear hbs hsf
  have hcl : l0.length ≤ c1 := by omega
  by_cases h6 : 65536 < l0.length
  · have HE := Lib.hid (encode_bad A1 c1 l0 ws h6); have HR := Lib.hid (rencode_bad A0 c0 l0 ws h6)
    go_wp2_with (first
      | (go_at_call 12; refine HE.out.mono ?_; rintro e w2 ⟨rfl, rfl⟩)
      | (go_at_call 13; refine HR.out.mono ?_; rintro e w3 ⟨rfl, rfl⟩)
      | (go_at_call 14; refine (same_s _ _ [] w3 (Seg.nil _ _) (Seg.nil _ _)).mono ?_; rintro e w4 ⟨rfl, q, rfl⟩))
    have hb4 := below_drewN HBS.out q
    refine (spare_any _ l0 (w3.drewN q) ((G0.out.below hb4).more hb4.size) (by omega)).mono ?_
    rintro e w5 ⟨A5, c5, rfl, H5⟩
    have hb5 := hb4.trans (H5.out.2.mono hb4.size)
    have hsa : Seg w5 w5.heap.size (.slice A1 (l0.length + 8) c1) (byteCells (l0 ++ marks 8)) := ((HS.out.1.seg.drewN q).below H5.out.2).more H5.out.2.size
    have HSM := Lib.hid (same_s _ _ (l0 ++ marks 8) w5 hsa H5.out.1.seg)
    have HB5 := Lib.hid hb5
    clear hb4 hb5 hsa
    go_wp2_with (go_at_call 14; refine HSM.out.mono ?_; rintro e w6 ⟨rfl, q2, rfl⟩)
    go_ret
    exact ⟨rfl, below_drewN HB5.out q2⟩
  · have HE := Lib.hid (encode_s _ l0 ws m HSF.out (by omega) (HG.out.below HBS.out))
    obtain ⟨NE, hNE⟩ : ∃ NE, NE = (enc l0).length := ⟨_, rfl⟩
    rw [← hNE] at HE
    have HNE := Lib.hid hNE
    clear hNE
    go_wp2_with (go_at_call 12; refine HE.out.mono ?_; rintro e w2 ⟨A2, c2, rfl, H2⟩)
    have hb2 := HBS.out.trans (H2.out.2.mono HBS.out.size)
    have HR := rencode_any _ l0 w2 ((G0.out.below hb2).more hb2.size) (by omega)
    rw [← HNE.out] at HR
    refine HR.mono ?_
    rintro e w3 ⟨A3, c3, rfl, H3⟩
    have hb3 := hb2.trans (H3.out.2.mono hb2.size)
    have HS1 := Lib.hid (same_s (.slice A2 NE c2) (.slice A3 NE c3) (enc l0) w3 ((H2.out.1.keep (S' := (· < w3.heap.size)) fun g hg => ⟨Nat.lt_of_lt_of_le hg.2 H3.out.2.size, H3.out.2.block g hg.2⟩)) (H3.out.1.seg fun g hg => hg.2))
    have HB3 := Lib.hid hb3
    have HB23 : Hid (Below ws.heap.size ws w3) := Lib.hid (H2.out.2.trans (H3.out.2.mono H2.out.2.size))
    clear hb2 hb3 HR
    go_wp2_with (go_at_call 14; refine HS1.out.mono ?_; rintro e w4 ⟨rfl, q, rfl⟩)
    have hb4 := below_drewN HB3.out q
    refine (spare_any _ l0 (w3.drewN q) ((G0.out.below hb4).more hb4.size) (by omega)).mono ?_
    rintro e w5 ⟨A5, c5, rfl, H5⟩
    have hb5 := hb4.trans (H5.out.2.mono hb4.size)
    have hb45 : Below ws.heap.size ws w5 := (below_drewN HB23.out q).trans (H5.out.2.mono HB23.out.size)
    have hsa : Seg w5 w5.heap.size (.slice A1 (l0.length + 8) c1) (byteCells (l0 ++ marks 8)) := (HS.out.1.seg.below hb45).more hb45.size
    have HSM := Lib.hid (same_s _ _ (l0 ++ marks 8) w5 hsa H5.out.1.seg)
    have HB5 := Lib.hid hb5
    clear hb4 hb5 hsa hb45
    go_wp2_with (go_at_call 14; refine HSM.out.mono ?_; rintro e w6 ⟨rfl, q2, rfl⟩)
    go_ret
    exact ⟨rfl, below_drewN HB5.out q2⟩
end Go.Proofs.YtffblcefnckacaaDoor
