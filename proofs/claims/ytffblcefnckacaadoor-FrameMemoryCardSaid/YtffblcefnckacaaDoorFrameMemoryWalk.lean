/- The walk of FrameMemory. -/
import Derived.Test.YtffblcefnckacaaDoorLawM
namespace Go.Proofs.YtffblcefnckacaaDoor
open Go.RowKit Go.Lib Go.Vfs Go.Par Go.Frm Go.Shelf
set_option linter.unusedVariables false
set_option linter.unusedSimpArgs false

set_option maxRecDepth 100000 in
set_option maxHeartbeats 2000000 in
theorem frameMemory_walk (v0 : Value) (l0 : List UInt8) (b0 : l0.length ≤ 140737488351232) (a1 : Int) (b1 : -9223372036854775808 ≤ a1 ∧ a1 ≤ 9223372036854775807) (w : World) (m : Int) (g0 : Seg w w.heap.size v0 (byteCells l0)) (hG : Gl w m) :
    Calls Tryd.prog 4 #[v0, .int .i64 a1] w fun e w' => e = .returned (.bool true) ∧ Below w.heap.size w w' := by
  obtain ⟨A0, c0, rfl, -, -, -⟩ := g0.open_bytes
  have HAL := Lib.hid (alive_s w m hG)
  have G0 := Lib.hid g0; have HG := Lib.hid hG
  clear g0 hG
  by_cases hbig : 65536 < l0.length
  · have g1 : (65536 : Int) < (l0.length : Int) := by omega
    go_enter Tryd.func4, Tryd.ntmps4
    go_wp2_with (go_at_call 10; refine HAL.out.mono ?_; rintro e wa ⟨rfl, HBA⟩)
    go_ret
    exact ⟨rfl, HBA.out⟩
  have g1 : ¬ (65536 : Int) < (l0.length : Int) := by omega
  obtain ⟨NE, hNE⟩ : ∃ NE, NE = (enc l0).length := ⟨_, rfl⟩
  have hnb : 0 < NE ∧ NE ≤ 70000 := by
    rw [hNE, len_enc, len_clen]
    have := nd_le 5 l0.length (by omega)
    omega
  have HNE := Lib.hid hNE
  clear hNE
  obtain ⟨k, hkl, hkc⟩ : ∃ k : Nat, k < NE ∧ ((0 < a1 ∧ a1 < NE ∧ a1 = k) ∨ (0 < a1 ∧ ¬ a1 < NE ∧ k = 0) ∨ (¬ 0 < a1 ∧ k = 0)) := by
    by_cases h1 : 0 < a1
    · by_cases h2 : a1 < NE
      · exact ⟨a1.toNat, by omega, .inl ⟨h1, h2, by omega⟩⟩
      · exact ⟨0, hnb.1, .inr (.inl ⟨h1, h2, rfl⟩)⟩
    · exact ⟨0, hnb.1, .inr (.inr ⟨h1, rfl⟩)⟩
  obtain ⟨kz, hkz⟩ : ∃ kz : Int, kz = (k : Int) := ⟨_, rfl⟩
  have HKZ := Lib.hid hkz
  have hcs : (0 < a1 ∧ a1 < NE ∧ a1 = kz) ∨ (0 < a1 ∧ ¬ a1 < NE ∧ 0 = kz) ∨ (¬ 0 < a1 ∧ 0 = kz) := by omega
  have hnk : NE - k ≤ 70000 := by omega
  clear hkc hkz
  rcases hcs with ⟨z1, z2, rfl⟩ | ⟨z1, z2, rfl⟩ | ⟨z1, rfl⟩
  --<T
  all_goals
    go_enter Tryd.func4, Tryd.ntmps4
    go_wp2_with (go_at_call 10; refine HAL.out.mono ?_; rintro e wa ⟨rfl, HBA⟩)
    refine (copy_s _ l0 wa ((G0.out.below HBA.out).more HBA.out.size) (by omega)).mono ?_
    rintro e wc ⟨A1, c1, rfl, HC⟩
    have hbc := HBA.out.trans (HC.out.2.mono HBA.out.size)
    have hen := encode_s _ l0 wc m HC.out.1.seg (by omega) (HG.out.below hbc)
    rw [← HNE.out] at hen
    have HEN := Lib.hid hen; have HBC := Lib.hid hbc
    clear hen hbc
    go_wp2_with fail
    refine HEN.out.mono ?_
    rintro e we ⟨Ab, cb, rfl, HE⟩
    have hbe := HBC.out.trans (HE.out.2.mono HBC.out.size)
    have HNW := Lib.hid (new_s we (HG.out.below hbe).size)
    have HBE := Lib.hid hbe
    clear hbe
    have hseg : Seg we we.heap.size (.slice Ab NE cb) (byteCells (enc l0)) := HE.out.1.seg fun k hk => hk.2
    have hcb : NE ≤ cb := by
      obtain ⟨A', c', e', h'⟩ := hseg
      injection e' with _ _ e'
      rw [byteCells_length, ← HNE.out] at h'
      omega
    have hnil : Ab = none → cb = 0 := fun hA => by
      obtain ⟨A', c', e', h1, h2, h3⟩ := hseg
      rw [byteCells_length, ← HNE.out] at h3
      obtain ⟨b, off, e2, -⟩ := h3 hnb.1
      injection e' with e3
      rw [hA, e2] at e3
      cases e3
    obtain ⟨A2, hfv, hsg2, -⟩ := seg_from hseg.toS HNE.out k (by omega) hnil
    have hlt2 : ((enc l0).drop k).length = NE - k := by rw [List.length_drop, HNE.out]
    rw [hlt2] at hfv hsg2
    obtain ⟨c2, hc2⟩ : ∃ c2, c2 = cb - k := ⟨_, rfl⟩
    obtain ⟨N2, hN2⟩ : ∃ N2, N2 = NE - k := ⟨_, rfl⟩
    rw [← hc2, ← hN2] at hfv hsg2
    have hsl1 := fun X => slice_to Ab NE cb k X (by omega)
    have hsl2 := fun X => slice_from Ab NE cb k X (by omega)
    simp only [hfv] at hsl2
    simp only [← HKZ.out] at hsl1 hsl2
    have hsg1 := (seg_front hseg.toS HNE.out k (by omega)).2
    have HS1 : Hid (Seg we we.heap.size (.slice Ab k cb) (byteCells ((enc l0).take k))) := Lib.hid (hsg1.seg fun _ h => h)
    have HS2 : Hid (Seg we we.heap.size (.slice A2 N2 c2) (byteCells ((enc l0).drop k))) := Lib.hid (hsg2.seg fun _ h => h)
    have HSE := Lib.hid hseg
    have HL1 : Hid (((enc l0).take k).length = k) := Lib.hid (by rw [List.length_take, ← HNE.out]; omega)
    have HL2 : Hid (((enc l0).drop k).length = N2) := Lib.hid (by rw [hlt2, hN2])
    have hN2b : N2 ≤ 70000 := by omega
    clear hfv hsg2 hsg1 hlt2 hc2 hN2 hseg hnil
    have hf18 : Fence.wide.fn 18 := trivial
    go_wp2_with (go_at_call 16; refine HNW.out.mono ?_; rintro e wn ⟨rfl, HN⟩)
    have hcp := copy_s _ ((enc l0).take k) wn ((HS1.out.below HN.out.2).more HN.out.2.size) (by rw [HL1.out]; omega)
    rw [HL1.out] at hcp
    refine hcp.mono ?_
    rintro e wk ⟨A3, c3, rfl, HK⟩
    have hmv : MV we ⟨[], 0⟩ (.slice none 0 0) 0 0 wn := ⟨HN.out.1, (fun k hk => by rcases hk with rfl | e; exact Nat.le_refl _; cases e), HN.out.2⟩
    have hf := hmv.feed HL1.out.symm HK.out.1 HK.out.2 (by rw [HL1.out]; omega) (HG.out.below (HBE.out.trans ((hmv.go HK.out.2).below.mono HBE.out.size))) (feed_cut l0 (by omega) k (by rw [← HNE.out]; exact hkl))
    dsimp only [List.length_nil] at hf
    have HF := Lib.hid hf
    clear hf hmv hcp
    go_wp2_with fail
    refine HF.out.mono ?_
    rintro e wf ⟨Ar, cr, us, hv1, hh1, bb1, rfl, hfl, HX⟩
    clear HF
    go_wp2
    go_loopw [10] (fun j wx => ∃ i : Nat, i ≤ k ∧ j = .int .i64 i ∧ Flip wf A3 k wx) (fun j _ => k - (intOf j).toNat)
    case atStart => exact ⟨0, by omega, rfl, hfl⟩
    case round =>
      obtain ⟨i, hi, rfl, hfr⟩ := hrel
      by_cases hil : i < k
      · obtain ⟨g2, m2, rfl, hc2, hz2⟩ := hfr.2.2 i hil
        have HFL := Lib.hid hfr
        clear hfr hfl
        go_wp2
        go_roundw
        case rel => exact ⟨i + 1, by omega, by go_num, HFL.out.step i _⟩
        case measure => simp [intOf]; omega
      · have HY := Lib.hid (HX.out _ hfr)
        clear hfr hfl HX
        have hcp2 := copy_s (.slice A2 N2 c2) ((enc l0).drop k) wr ((HS2.out.below HY.out.1.below).more HY.out.1.below.size) (by rw [HL2.out]; omega)
        rw [HL2.out] at hcp2
        have HCP2 := Lib.hid hcp2
        clear hcp2
        go_wp2_with fail
        refine HCP2.out.mono ?_
        rintro e wk2 ⟨A4, c4, rfl, HK2⟩
        have hf2 := HY.out.1.feed HL2.out.symm HK2.out.1 HK2.out.2 (by rw [HL2.out]; omega) (HG.out.below (HBE.out.trans ((HY.out.1.go HK2.out.2).below.mono HBE.out.size))) (feed_rest l0 (by omega) k)
        simp only [List.length_cons, List.length_nil, Nat.zero_add] at hf2
        have HF2 := Lib.hid hf2
        clear hf2 HCP2
        go_wp2_with fail
        refine HF2.out.mono ?_
        rintro e wf2 ⟨Ar2, cr2, us2, hv2, hh2, bb2, rfl, hfl2, HX2⟩
        clear HF2 HY
        go_wp2
        go_loopw [13] (fun j wx => ∃ i : Nat, i ≤ N2 ∧ j = .int .i64 i ∧ Flip wf2 A4 N2 wx) (fun j _ => N2 - (intOf j).toNat)
        case atStart => exact ⟨0, by omega, rfl, hfl2⟩
        case round =>
          obtain ⟨i2, hi2, rfl, hfr2⟩ := hrel
          by_cases hil2 : i2 < N2
          · obtain ⟨g2, m2, rfl, hc2, hz2⟩ := hfr2.2.2 i2 hil2
            have HFL := Lib.hid hfr2
            clear hfr2 hfl2
            go_wp2
            go_roundw
            case rel => exact ⟨i2 + 1, by omega, by go_num, HFL.out.step i2 _⟩
            case measure => simp [intOf]; omega
          · have HY2 := Lib.hid (HX2.out _ hfr2)
            clear hfr2 hfl2 HX2
            obtain ⟨g, Ax, cx, ⟨c', he⟩, HROW⟩ := HY2.out.1.row HY2.out.2.1 HY2.out.2.2
            injection he with he1 he2 he3
            subst he1 he3
            have HSR := Lib.hid (samerow_s _ (.slice A0 l0.length c0) l0 wr (HY2.out.2.1.rows.sub fun b hb => (HY2.out.2.1.lt b hb).2) ((G0.out.below (HBE.out.trans (HY2.out.1.below.mono HBE.out.size))).more (HBE.out.trans (HY2.out.1.below.mono HBE.out.size)).size))
            clear he2
            go_wp2_with fail
            refine HSR.out.mono ?_
            rintro e w9 ⟨rfl, q, hw9⟩
            have h9 := HROW.out (.cells #[.slice A0 l0.length c0] 22) q
            rw [← hw9] at h9
            obtain ⟨hcell9, hfl9, HX9⟩ := h9
            have HX9 := Lib.hid HX9
            clear hw9 HROW HSR HY2
            go_wp2
            go_loopw [14] (fun j wx => ∃ i : Nat, i ≤ l0.length ∧ j = .int .i64 i ∧ Flip w9 Ax l0.length wx) (fun j _ => l0.length - (intOf j).toNat)
            case atStart => exact ⟨0, by omega, rfl, hfl9⟩
            case round =>
              obtain ⟨i3, hi3, rfl, hfr3⟩ := hrel
              have hcx := (HX9.out _ hfr3).2
              by_cases hil3 : i3 < l0.length
              · obtain ⟨g3, m3, rfl, hc3, hz3⟩ := hfr3.2.2 i3 hil3
                have HFL := Lib.hid hfr3
                clear hfr3 hfl9 hcell9
                go_wp2
                go_roundw
                case rel => exact ⟨i3 + 1, by omega, by go_num, HFL.out.step i3 _⟩
                case measure => simp [intOf]; omega
              · have HZ := Lib.hid (HX9.out _ hfr3).1
                clear hfr3 hfl9 hcell9 HX9
                have hbz := HBE.out.trans (HZ.out.below.mono HBE.out.size)
                have hff := feed_s we.heap.size _ _ _ _ _ wr m (.slice Ab NE cb) (enc l0) HZ.out.dv HZ.out.out HZ.out.below.size ((HSE.out.below HZ.out.below).more HZ.out.below.size) (by rw [← HNE.out]; omega) (HG.out.below hbz) (feed_enc l0 (by omega))
                simp only [List.length_cons, List.length_nil, Nat.zero_add] at hff
                have HFF := Lib.hid hff; have HBZ := Lib.hid hbz
                clear hff hbz
                go_wp2_with fail
                refine HFF.out.mono ?_
                rintro e wf3 ⟨Ar3, cr3, us3, hv3, hh3, bb3, rfl, HF3⟩
                have hb3 := HBZ.out.trans (HF3.out.below.mono HBE.out.size)
                have HSR := Lib.hid (samerow_s _ (.slice A0 l0.length c0) l0 wf3 (HF3.out.rx.rows.sub fun b hb => (HF3.out.rx.lt b hb).2) ((G0.out.below hb3).more hb3.size))
                have HB3 := Lib.hid hb3
                clear hb3 HFF
                go_wp2_with (go_at_call 18; refine HSR.out.mono ?_; rintro e w10 ⟨rfl, q, rfl⟩)
                go_ret
                exact ⟨rfl, below_drewN (HB3.out.alloc HB3.out.size _) q⟩
  --T>
end Go.Proofs.YtffblcefnckacaaDoor
