/- The walk of FrameDead. -/
import Derived.Test.YtffblcefnckacaaDoorLaw
namespace Go.Proofs.YtffblcefnckacaaDoor
open Go.RowKit Go.Lib Go.Vfs Go.Par Go.Frm Go.Shelf
set_option linter.unusedVariables false
set_option linter.unusedSimpArgs false

set_option maxRecDepth 100000 in
set_option maxHeartbeats 1000000 in
theorem frameDead_walk (v0 : Value) (l0 : List UInt8) (b0 : l0.length ≤ 140737488351232) (v1 : Value) (l1 : List UInt8) (b1 : l1.length ≤ 140737488351232) (w : World) (m : Int) (g0 : Seg w w.heap.size v0 (byteCells l0)) (g1 : Seg w w.heap.size v1 (byteCells l1)) (hG : Gl w m) :
    Calls Tryd.prog 9 #[v0, v1] w fun e w' => e = .returned (.bool true) ∧ Below w.heap.size w w' := by
  obtain ⟨A0, c0, rfl, -, -, -⟩ := g0.open_bytes
  obtain ⟨A1, c1, rfl, -, -, -⟩ := g1.open_bytes
  have HAL := Lib.hid (alive_s w m hG)
  have G0 := Lib.hid g0; have G1 := Lib.hid g1; have HG := Lib.hid hG
  clear g0 g1 hG
  by_cases hbig : (200000 : Int) < (l0.length : Int) + (l1.length : Int)
  · go_enter Tryd.func9, Tryd.ntmps9
    go_wp2_with (go_at_call 10; refine HAL.out.mono ?_; rintro e wa ⟨rfl, HBA⟩)
    go_ret
    exact ⟨rfl, HBA.out⟩
  · have HA2 : Hid (∀ W, Below w.heap.size w W → Gl W m ∧ 7 ≤ W.heap.size) := Lib.hid fun W hW => ⟨HG.out.below hW, (HG.out.below hW).size⟩
    obtain ⟨r1, hr1⟩ : ∃ r1, r1 = feed ⟨[], 0⟩ l0 := ⟨_, rfl⟩
    obtain ⟨ls, d1⟩ := r1
    have herr := feed_err (d := ⟨[], 0⟩) rfl l0
    rw [← hr1] at herr
    dsimp only at herr
    have HR1 := Lib.hid hr1
    clear hr1
    have hl0 : l0.length ≤ 200000 := by omega
    have hl1 : l1.length ≤ 200000 := by omega
    go_enter Tryd.func9, Tryd.ntmps9
    go_wp2_with (go_at_call 10; refine HAL.out.mono ?_; rintro e wa ⟨rfl, HBA⟩)
    refine (new_s wa (HA2.out wa HBA.out).2).mono ?_
    rintro e wn ⟨rfl, HN⟩
    go_wp2_with fail
    refine (copy_s _ l0 wn ((G0.out.below (HBA.out.trans (HN.out.2.mono HBA.out.size))).more (Nat.le_trans HBA.out.size HN.out.2.size)) (by omega)).mono ?_
    rintro e wc ⟨A2, c2, rfl, HC⟩
    go_wp2_with fail
    have hB1 := HBA.out.trans (HN.out.2.mono HBA.out.size)
    have hB2 := hB1.trans (HC.out.2.mono hB1.size)
    have hdv := HN.out.1.keep fun k hk => HC.out.2.block k (HN.out.1.lt k hk)
    refine (feed_s w.heap.size _ _ _ _ _ wc m _ l0 hdv (fun k hk => by rcases hk with rfl | e; exact HBA.out.size; cases e) hB2.size HC.out.1.seg (by omega) (HA2.out wc hB2).1 HR1.out.symm).mono ?_
    rintro e wf ⟨Ar, cr, us, hv, hh, bb, rfl, HF⟩
    have HB3 : Hid (Below w.heap.size w wf) := Lib.hid (hB2.trans HF.out.below)
    clear hB1 hB2 hdv HC
    obtain ⟨dr, de⟩ := d1
    dsimp only at herr
    by_cases h0 : de = 0
    · subst h0
      go_wp2_with (go_at_call 23; refine (dead_s wf _ _ _ _ _ HF.out.dv).mono ?_; rintro e wd ⟨rfl, rfl⟩)
      go_ret
      exact ⟨rfl, HB3.out⟩
    · have hdr : dr = [] := HF.out.dv.dead h0
      subst hdr
      have hfe : feed ⟨[], de⟩ l1 = ([], ⟨[], de⟩) := by unfold feed; rw [if_neg h0]
      have HFE := Lib.hid hfe
      clear hfe
      have g2 : (de == 0) = false := by simpa using h0
      have g3 : (de != 0) = true := by simpa using h0
      go_wp2_with fail
      refine (copy_s _ l1 wf ((G1.out.below HB3.out).more HB3.out.size) (by omega)).mono ?_
      rintro e wc2 ⟨A4, c4, rfl, HC2⟩
      go_wp2_with fail
      have hB4 := HB3.out.trans (HC2.out.2.mono HB3.out.size)
      have hdv2 := HF.out.dv.keep fun k hk => HC2.out.2.block k (HF.out.dv.lt k hk)
      refine (feed_s w.heap.size _ _ _ _ _ wc2 m _ l1 hdv2 HF.out.out hB4.size HC2.out.1.seg (by omega) (HA2.out wc2 hB4).1 HFE.out).mono ?_
      rintro e wg ⟨Ar2, cr2, us2, hv2, hh2, bb2, rfl, HF2⟩
      have HB5 : Hid (Below w.heap.size w wg) := Lib.hid (hB4.trans HF2.out.below)
      clear hB4 hdv2
      rcases herr with herr | herr | herr
      · exact absurd herr h0
      · subst herr
        go_wp2_with (first
          | (go_at_call 23; refine (dead_s wg _ _ _ _ _ HF2.out.dv).mono ?_; rintro e wd ⟨rfl, rfl⟩)
          | (go_at_call 24; refine (held_any wd _ _ _ _ _ HF2.out.dv).mono ?_; rintro e we ⟨rfl, rfl⟩))
        go_ret
        exact ⟨rfl, HB5.out⟩
      · subst herr
        go_wp2_with (first
          | (go_at_call 23; refine (dead_s wg _ _ _ _ _ HF2.out.dv).mono ?_; rintro e wd ⟨rfl, rfl⟩)
          | (go_at_call 24; refine (held_any wd _ _ _ _ _ HF2.out.dv).mono ?_; rintro e we ⟨rfl, rfl⟩))
        go_ret
        exact ⟨rfl, HB5.out⟩
end Go.Proofs.YtffblcefnckacaaDoor
