/- law14.SchemePuts: the walk. -/
import Derived.Test.YtbhicpjhijondaaDoorTE
import Derived.Test.YtbhicpjhijondaaDoorX14
namespace Go.Proofs.YtbhicpjhijondaaDoor
open Go.RowKit Go.Lib Go.Vfs Go.Par Go.Typ Go.Shelf
set_option linter.unusedVariables false
set_option linter.unusedSimpArgs false

set_option maxRecDepth 20000 in
set_option maxHeartbeats 8000000 in
theorem schemePuts_walk (lv : Value) (xs : List Ex) (nm : ByteArray) (hnm : nm.size ≤ 140737488351232) (ot : ByteArray) (hot : ot.size ≤ 140737488351232) (v : Value) (T : Ty) (w : World)
    (hX : ExsAt (· < w.heap.size) w lv xs ∧ ∀ x ∈ xs, RowOk x.ty) (hT : TyAt (· < w.heap.size) w v T ∧ RowOk T) (htb : Tb w) :
    Calls Tryd.prog 12 #[lv, .string nm, .string ot, v] w fun e w' => e = .returned (.bool true) ∧ Below w.heap.size w w' := by
  obtain ⟨hX, hXR⟩ := hX
  obtain ⟨hT, hTR⟩ := hT
  obtain ⟨Al, cl, rfl, hcl, hml⟩ := hX.form
  obtain ⟨A, c, rfl, hc, hm, hn⟩ := hT.form
  obtain ⟨W1, hW1⟩ : ∃ W1, W1 = w.alloc (.cells #[.int .i64 T.kind, .int .i64 T.num, .string T.name, .slice A T.args.length c] 24) := ⟨_, rfl⟩
  have hx1 : PS w w.heap.size T A c (.slice Al xs.length cl) xs W1 := by
    rw [hW1]
    exact ⟨BX.new (Below.refl _ _) hT, hX.blw ((Below.refl _ _).alloc (Nat.le_refl _) _)⟩
  have HX1 := Lib.hid hx1
  have HAL := Lib.hid (alive14_any W1 (htb.below hx1.bx.below))
  have HXR := Lib.hid hXR; have HTR := Lib.hid hTR
  clear hX hT hXR hTR hcl hml hc hm hn htb hx1
  unfold tyV
  go_enter Tryd.func12, Tryd.ntmps12
  go_wp2_with fail
  rw [← hW1]
  clear hW1
  refine HAL.out.mono ?_
  rintro e w2 ⟨rfl, hb2⟩
  have hx2 := HX1.out.t hb2
  have HX2 := Lib.hid hx2
  have HGR := Lib.hid (great14_any xs _ w2 hx2.row)
  clear hx2 hb2
  go_wp2_with fail
  refine HGR.out.mono ?_
  rintro e w3 ⟨rfl, hb3⟩
  have hx3 := HX2.out.t hb3
  have HX3 := Lib.hid hx3
  have HB3 := Lib.hid hx3.bx.below
  clear hb3
  by_cases hL : weighX xs 0 = true
  · rw [hL]
    clear hx3 hL
    go_wp2
    go_ret
    exact ⟨rfl, HB3.out⟩
  have hL' : weighX xs 0 = false := by simpa using hL
  rw [hL']
  have hlen := weighX_len xs 0 (Int.le_refl _) (by decide) hL'
  have hxl : xs.length ≤ 5000 := by omega
  obtain ⟨y0, y1, y2, y3⟩ := box4 hx3.bx.box
  obtain ⟨W4, hW4⟩ : ∃ W4, W4 = w3.alloc (.cells #[.string nm, .int .i64 T.kind, .int .i64 T.num, .string T.name, .slice A T.args.length c] 46) := ⟨_, rfl⟩
  have hb4 : Below w3.heap.size w3 W4 := by rw [hW4]; exact (Below.refl _ _).alloc (Nat.le_refl _) _
  have hex4 : ExsAt (· < W4.heap.size) W4 (.slice (some ⟨w3.heap.size, 0, none⟩) 1 1) [⟨nm, T⟩] := by
    rw [hW4]
    exact ExsAt.one (x := ⟨nm, T⟩) (by show nm.size ≤ _; omega) hx3.bx.ty _
  have HGR2 := Lib.hid (great14_any _ _ W4 hex4)
  have HX4 := Lib.hid (hx3.t hb4)
  clear hx3 hL hL' hlen hb4 hex4
  go_wp2_with fail
  rw [← hW4]
  clear hW4 y0 y1 y2 y3
  refine HGR2.out.mono ?_
  rintro e w5 ⟨rfl, hb5⟩
  have hx5 := HX4.out.t hb5
  have HX5 := Lib.hid hx5
  have HB5 := Lib.hid hx5.bx.below
  clear hb5
  by_cases hL2 : weighX [⟨nm, T⟩] 0 = true
  · rw [hL2]
    clear hx5 hL2
    go_wp2
    go_ret
    exact ⟨rfl, HB5.out⟩
  have hL2' : weighX [⟨nm, T⟩] 0 = false := by simpa using hL2
  rw [hL2']
  have hd : Below w5.heap.size w5 w5.drew := (Below.refl w5.heap.size _).drew
  have HBD := Lib.hid hd
  obtain ⟨y0, y1, y2, y3⟩ := box4 hx5.bx.box
  have hlb := lt_blk hx5.bx.box
  have HSK : Hid (∀ W', Below w5.heap.size w5 W' → W'.cell? ⟨w.heap.size, 0, none⟩ = some (.int .i64 T.kind) ∧ W'.cell? ⟨w.heap.size, 1, none⟩ = some (.int .i64 T.num) ∧ W'.cell? ⟨w.heap.size, 2, none⟩ = some (.string T.name) ∧ W'.cell? ⟨w.heap.size, 3, none⟩ = some (.slice A T.args.length c)) :=
    Lib.hid fun W' h => ⟨(h.cell (p := ⟨_, _, none⟩) hlb).trans y0, (h.cell (p := ⟨_, _, none⟩) hlb).trans y1, (h.cell (p := ⟨_, _, none⟩) hlb).trans y2, (h.cell (p := ⟨_, _, none⟩) hlb).trans y3⟩
  have hce : ∀ W, Below w5.heap.size w5 W → _ := fun W h => copyExports_any xs HXR.out _ W (hx5.t h).row (by omega)
  have hct : ∀ W, Below w5.heap.size w5 W → _ := fun W h => copyTypeR_any T _ W (hx5.t h).bx.ty HTR.out
  have hpt : ∀ W vE A' c', ExsAt (· < W.heap.size) W vE xs → TyAt (· < W.heap.size) W (tyV T.kind T.num T.name A' T.args.length c') T → _ := fun W vE A' c' h1 h2 =>
    put_any xs HXR.out nm (by omega) T HTR.out vE _ W h1 h2 (by omega)
  unfold tyV at hct hpt
  have HCE := Lib.hid hce; have HCT := Lib.hid hct
  have HXL := Lib.hid hxl
  clear hd y0 y1 y2 y3 hlb hce hct hL2 hL2'
  by_cases hr : rightX (putX xs ⟨nm, T⟩) = true
  rotate_left
  · have hr' : rightX (putX xs ⟨nm, T⟩) = false := by simpa using hr
    have hpw : ∀ W vE A' c', ExsAt (· < W.heap.size) W vE xs → TyAt (· < W.heap.size) W (.agg #[.int .i64 T.kind, .int .i64 T.num, .string T.name, .slice A' T.args.length c']) T → Calls Tryd.prog 43 #[vE, .string nm, .agg #[.int .i64 T.kind, .int .i64 T.num, .string T.name, .slice A' T.args.length c']] W fun e W' => e = .returned (.tuple #[.slice none 0 0, .int .i64 140]) ∧ Below W.heap.size W W' :=
      fun W vE A' c' h1 h2 => (hpt W vE A' c' h1 h2).mono fun e w' h => put_wrong hr' h
    have HPT := Lib.hid hpw
    clear hpt hr hr' hpw hx5
    go_wp2_with fail
    go_region_held (fun W' => W'.cell? ⟨w.heap.size, 0, none⟩ = some (.int .i64 T.kind) ∧ W'.cell? ⟨w.heap.size, 1, none⟩ = some (.int .i64 T.num) ∧ W'.cell? ⟨w.heap.size, 2, none⟩ = some (.string T.name) ∧ W'.cell? ⟨w.heap.size, 3, none⟩ = some (.slice A T.args.length c))
      (first | exact HSK.out _ HBD.out | exact HSK.out _ (by assumption)) (first
      | (go_at_call 43; refine (HPT.out w11 vE A11 c11 HEX HTY).mono ?_; rintro e w12 ⟨rfl, hb12⟩; have HB12 := HB11.trans (hb12.mono HB11.size))
      | (go_at_call 34; first | (refine (HCE.out w10 HB10).mono ?_; rintro e w11 ⟨vE, rfl, hE11, hb11⟩; have HEX := hE11.sub (S' := (· < w11.heap.size)) (fun g hg => hg.2); have HTY := hT10.blw hb11; have HB11 := HB10.trans (hb11.mono HB10.size)) | (refine (HCE.out _ HBD.out).mono ?_; rintro e w10 ⟨vE, rfl, hE10, hb10⟩; have HB10 := HBD.out.trans (hb10.mono HBD.out.size)))
      | (go_at_call 17; first | (refine (HCT.out w10 HB10).mono ?_; rintro e w11 ⟨A11, c11, rfl, hT11, hb11⟩; have HTY := hT11.sub (S' := (· < w11.heap.size)) (fun g hg => hg.2); have HEX := (hE10.sub (S' := (· < w10.heap.size)) (fun g hg => hg.2)).blw hb11; have HB11 := HB10.trans (hb11.mono HB10.size)) | (refine (HCT.out _ HBD.out).mono ?_; rintro e w10 ⟨A11, c11, rfl, hT10', hb10⟩; have hT10 := hT10'.sub (S' := (· < w10.heap.size)) (fun g hg => hg.2); have HB10 := HBD.out.trans (hb10.mono HBD.out.size))))
    all_goals
      have HBE : Hid (Below w.heap.size w w12) := Lib.hid (HB5.out.trans (HB12.mono HB5.out.size))
      go_wp2
      go_ret
      exact ⟨rfl, HBE.out⟩
  have hpw : ∀ W vE A' c', ExsAt (· < W.heap.size) W vE xs → TyAt (· < W.heap.size) W (.agg #[.int .i64 T.kind, .int .i64 T.num, .string T.name, .slice A' T.args.length c']) T → Calls Tryd.prog 43 #[vE, .string nm, .agg #[.int .i64 T.kind, .int .i64 T.num, .string T.name, .slice A' T.args.length c']] W fun e W' => ∃ v', e = .returned (.tuple #[v', .int .i64 0]) ∧ Below W.heap.size W W' ∧ ExsAt (· < W'.heap.size) W' v' (putX xs ⟨nm, T⟩) :=
    fun W vE A' c' h1 h2 => (hpt W vE A' c' h1 h2).mono fun e w' h => put_right hr h
  have HPT := Lib.hid hpw
  have hpf := puts_find xs ⟨nm, T⟩
  have hprow : ∀ x ∈ putX xs ⟨nm, T⟩, RowOk x.ty := fun x hx => by
    rcases putX_mem x hx with h | h
    · exact HXR.out x h
    · rw [h]; exact HTR.out
  have hpl := rightX_len hr
  have HR := Lib.hid hr; have HPF := Lib.hid hpf; have HPR := Lib.hid hprow; have HPL := Lib.hid hpl
  generalize putX xs ⟨nm, T⟩ = ps at *
  clear hpt hr hpw hpf hprow
  go_wp2_with fail
  go_region_held (fun W' => W'.cell? ⟨w.heap.size, 0, none⟩ = some (.int .i64 T.kind) ∧ W'.cell? ⟨w.heap.size, 1, none⟩ = some (.int .i64 T.num) ∧ W'.cell? ⟨w.heap.size, 2, none⟩ = some (.string T.name) ∧ W'.cell? ⟨w.heap.size, 3, none⟩ = some (.slice A T.args.length c))
    (first | exact HSK.out _ HBD.out | exact HSK.out _ (by assumption)) (first
      | (go_at_call 43; refine (HPT.out w11 vE A11 c11 HEX HTY).mono ?_; rintro e w12 ⟨v12, rfl, hb12, hps⟩; have HB12 := HB11.trans (hb12.mono HB11.size))
      | (go_at_call 34; first | (refine (HCE.out w10 HB10).mono ?_; rintro e w11 ⟨vE, rfl, hE11, hb11⟩; have HEX := hE11.sub (S' := (· < w11.heap.size)) (fun g hg => hg.2); have HTY := hT10.blw hb11; have HB11 := HB10.trans (hb11.mono HB10.size)) | (refine (HCE.out _ HBD.out).mono ?_; rintro e w10 ⟨vE, rfl, hE10, hb10⟩; have HB10 := HBD.out.trans (hb10.mono HBD.out.size)))
      | (go_at_call 17; first | (refine (HCT.out w10 HB10).mono ?_; rintro e w11 ⟨A11, c11, rfl, hT11, hb11⟩; have HTY := hT11.sub (S' := (· < w11.heap.size)) (fun g hg => hg.2); have HEX := (hE10.sub (S' := (· < w10.heap.size)) (fun g hg => hg.2)).blw hb11; have HB11 := HB10.trans (hb11.mono HB10.size)) | (refine (HCT.out _ HBD.out).mono ?_; rintro e w10 ⟨A11, c11, rfl, hT10', hb10⟩; have hT10 := hT10'.sub (S' := (· < w10.heap.size)) (fun g hg => hg.2); have HB10 := HBD.out.trans (hb10.mono HBD.out.size))))
  all_goals
    have hx12 := hx5.t HB12
    clear HEX HTY HB11 hb12 hb11 HB10 hb10
    obtain ⟨Ap, cp, rfl, hcp, hmp⟩ := hps.form
    have HX12 := Lib.hid hx12; have HPS := Lib.hid hps
    have HF1 := Lib.hid (find_any ps HPR.out nm _ w12 hps)
    clear hx12 hps HB12 hcp hmp
    go_wp2_with fail
    refine HF1.out.mono ?_
    intro e w13 hp13
    obtain ⟨A13, c13, rfl, hT13, hb13⟩ := find_some HPF.out.1 hp13
    obtain ⟨W13, hW13⟩ : ∃ W13, W13 = w13.alloc (.cells #[.int .i64 T.kind, .int .i64 T.num, .string T.name, .slice A13 T.args.length c13] 24) := ⟨_, rfl⟩
    have hb14 : Below w13.heap.size w13 W13 := by rw [hW13]; exact (Below.refl _ _).alloc (Nat.le_refl _) _
    have hx13 := (HX12.out.t hb13).t hb14
    have hps13 := (HPS.out.blw hb13).blw hb14
    have hy13 : BX w w13.heap.size T A13 c13 W13 := by rw [hW13]; exact BX.new (HX12.out.t hb13).bx.below hT13
    have HX13 := Lib.hid hx13; have HPS13 := Lib.hid hps13
    have hsm := sameType_any T T _ _ W13 hy13.ty hx13.bx.ty
    rw [same_refl] at hsm
    unfold tyV at hsm
    have HSM := Lib.hid hsm
    obtain ⟨y0, y1, y2, y3⟩ := box4 hx13.bx.box
    obtain ⟨z0, z1, z2, z3⟩ := box4 hy13.box
    rw [hW13] at y0 y1 y2 y3 z0 z1 z2 z3
    clear hp13 hT13 hb13 hb14 hx13 hps13 hy13 hsm
    try unfold tyV
    go_wp2_with fail
    rw [← hW13]
    clear hW13 y0 y1 y2 y3 z0 z1 z2 z3
    refine HSM.out.mono ?_
    rintro e w14 ⟨rfl, hb14⟩
    have HX14 := Lib.hid (HX13.out.t hb14); have hps14 := HPS13.out.blw hb14
    have HPS14 := Lib.hid hps14
    have hri := right14_any ps _ w14 hps14
    rw [HR.out] at hri
    have HRI := Lib.hid hri
    clear hb14 hps14 hri
    go_wp2_with fail
    refine HRI.out.mono ?_
    rintro e w15 ⟨rfl, hb15⟩
    have HX15 := Lib.hid (HX14.out.t hb15); have hps15 := HPS14.out.blw hb15
    have HPS15 := Lib.hid hps15
    have HDR := Lib.hid (drop_any ps HPR.out nm _ w15 hps15 (by omega))
    clear hb15 hps15
    go_wp2_with fail
    refine HDR.out.mono ?_
    rintro e w16 ⟨v16, rfl, hd16, hb16⟩
    have HX16 := Lib.hid (HX15.out.t hb16); have HPS16 := Lib.hid (HPS15.out.blw hb16)
    have hd16' := hd16.sub (S' := (· < w16.heap.size)) fun g hg => hg.2
    obtain ⟨Ad, cd, rfl, hcd, hmd⟩ := hd16'.form
    have HF2 := Lib.hid (find_any (dropX ps nm) (fun x hx => HPR.out x (dropX_mem.1 hx).1) nm _ w16 hd16')
    have hdl := HPF.out.2.2.2
    have HDL : Hid ((dropX ps nm).length + 1 = ps.length) := Lib.hid hdl
    obtain ⟨dl, hdl2⟩ : ∃ dl, dl = (dropX ps nm).length := ⟨_, rfl⟩
    rw [← hdl2] at HF2 HDL ⊢
    clear hb16 hd16 hd16' hcd hmd hdl hdl2
    go_wp2_with fail
    refine HF2.out.mono ?_
    intro e w17 hp17
    obtain ⟨A17, c17, rfl, hb17⟩ := find_none HPF.out.2.2.1 hp17
    have HX17 := Lib.hid (HX16.out.t hb17); have hps17 := HPS16.out.blw hb17
    have HPS17 := Lib.hid hps17
    have HF3 := Lib.hid (find_any ps HPR.out ot _ w17 hps17)
    have hdne : ((dl : Int) != (ps.length : Int) - 1) = false := by have := HDL.out; simp; omega
    clear hp17 hb17 hps17
    try unfold tyV
    go_wp2_with fail
    refine HF3.out.mono ?_
    intro e w18 hp18
    obtain ⟨R1, q1, A18, c18, rfl, hT18, hb18, HQ1⟩ := find_gen hp18
    obtain ⟨W18, hW18⟩ : ∃ W18, W18 = w18.alloc (.cells #[.int .i64 R1.kind, .int .i64 R1.num, .string R1.name, .slice A18 R1.args.length c18] 24) := ⟨_, rfl⟩
    have hb19 : Below w18.heap.size w18 W18 := by rw [hW18]; exact (Below.refl _ _).alloc (Nat.le_refl _) _
    have hx18 := (HX17.out.t hb18).t hb19
    have hy18 : BX w w18.heap.size R1 A18 c18 W18 := by rw [hW18]; exact BX.new (HX17.out.t hb18).bx.below hT18
    have HX18 := Lib.hid hx18; have HY18 := Lib.hid hy18
    have HF4 := Lib.hid (find_any xs HXR.out ot _ W18 hx18.row)
    clear hp18 hT18 hb18 hb19 hx18 hy18 hdne
    try unfold tyV
    go_wp2_with fail
    rw [← hW18]
    clear hW18
    refine HF4.out.mono ?_
    intro e w19 hp19
    obtain ⟨R2, q2, A19, c19, rfl, hT19, hb19, HQ2⟩ := find_gen hp19
    obtain ⟨W19, hW19⟩ : ∃ W19, W19 = w19.alloc (.cells #[.int .i64 R2.kind, .int .i64 R2.num, .string R2.name, .slice A19 R2.args.length c19] 24) := ⟨_, rfl⟩
    have hb20 : Below w19.heap.size w19 W19 := by rw [hW19]; exact (Below.refl _ _).alloc (Nat.le_refl _) _
    have hy19 := (HY18.out.t hb19).t hb20
    have hz19 : BX w w19.heap.size R2 A19 c19 W19 := by rw [hW19]; exact BX.new (HX18.out.t hb19).bx.below hT19
    have HB19 := Lib.hid hy19.below
    clear hp19 hb19 hb20 hT19
    by_cases ho : ot = nm
    · have hoo : (ot.toList == nm.toList) = true := (beqS _ _).2 ho
      clear ho hy19 hz19
      try unfold tyV
      go_wp2
      go_ret
      rw [← hW19]
      exact ⟨rfl, HB19.out⟩
    · have hoo : (ot.toList == nm.toList) = false := beqS_ne ho
      have hff := HPF.out.2.1 ot ho
      have hq1 := HQ1.out
      have hq2 := HQ2.out
      rw [hff, ← hq2.1, ← hq2.2] at hq1
      obtain ⟨rfl, rfl⟩ := hq1
      have hsm := sameType_any R1 R1 _ _ W19 hy19.ty hz19.ty
      rw [same_refl] at hsm
      unfold tyV at hsm
      have HSM2 := Lib.hid hsm
      obtain ⟨y0, y1, y2, y3⟩ := box4 hy19.box
      obtain ⟨z0, z1, z2, z3⟩ := box4 hz19.box
      rw [hW19] at y0 y1 y2 y3 z0 z1 z2 z3
      clear ho hff hq2 hy19 hz19 hsm
      try unfold tyV
      go_wp2_with fail
      rw [← hW19]
      clear hW19 y0 y1 y2 y3 z0 z1 z2 z3
      refine HSM2.out.mono ?_
      rintro e w20 ⟨rfl, hb20⟩
      have HB20 : Hid (Below w.heap.size w w20) := Lib.hid (HB19.out.trans (hb20.mono HB19.out.size))
      clear hb20
      go_wp2
      go_ret
      exact ⟨rfl, HB20.out⟩
end Go.Proofs.YtbhicpjhijondaaDoor
