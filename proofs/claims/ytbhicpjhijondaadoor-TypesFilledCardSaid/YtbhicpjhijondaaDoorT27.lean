/- The reader's pair. -/
import Derived.Test.YtbhicpjhijondaaDoorT26
namespace Go.Proofs.YtbhicpjhijondaaDoor
open Go.RowKit Go.Lib Go.Vfs Go.Par Go.Typ Go.Shelf
set_option linter.unusedVariables false
set_option linter.unusedSimpArgs false

/-- what stands behind types with stars between. -/
def starP : Option (List Ty × Nat × Nat) → Option (Ty × Nat × Nat)
  | none => none
  | some (ts, a, c) => if ts.length = 1 then some (ts.getD 0 (.mk 0 0 ⟨#[]⟩ []), a, c) else partP (.mk 3 0 ⟨#[]⟩ ts) a c
theorem starP_some (ts : List Ty) (a c : Nat) : starP (some (ts, a, c)) = if ts.length = 1 then some (ts.getD 0 (.mk 0 0 ⟨#[]⟩ []), a, c) else partP (.mk 3 0 ⟨#[]⟩ ts) a c := rfl
/-- types with stars between. -/
def pairP (arr : Nat → Nat → Option (Ty × Nat × Nat)) (s : ByteArray) (a c : Nat) : Option (Ty × Nat × Nat) := starP (manyP (namedP arr s) s [32, 42, 32] a c)

set_option maxRecDepth 20000 in
set_option maxHeartbeats 2000000 in
theorem pair_any (p : Nat) (s : ByteArray) (d : Int) (arr : Nat → Nat → Option (Ty × Nat × Nat)) (N : Nat) (hN : 400 ≤ N) (hN2 : N ≤ 1000000) (HA : RdC 100 N p s d (namedP arr s)) (hs : s.size ≤ 1000000000) : RdC 88 (N + 1) p s d (pairP arr s) := by
  intro a c w h ha hc
  have hlt := lt_blk h
  obtain ⟨W1, hW1⟩ : ∃ W1, W1 = w.alloc zero4 := ⟨_, rfl⟩
  have hi1 := RdI.start h
  rw [← hW1] at hi1
  have HI3 := Lib.hid hi1
  have HAR := Lib.hid HA
  obtain ⟨D, hD⟩ : ∃ D, D = manyP (namedP arr s) s [32, 42, 32] a c := ⟨_, rfl⟩
  have HF : Hid (pairP arr s a c = starP D) := Lib.hid (by unfold pairP; rw [hD])
  have HD := Lib.hid hD
  have HA3 := Lib.hid (HA a c W1 hi1.rd ha hc)
  clear h hi1 HA hD
  go_enter Tryd.func88, Tryd.ntmps88
  go_wp2_with fail
  rw [show w.alloc (.cells #[.int .i64 0, .int .i64 0, .string ⟨#[]⟩, .slice none 0 0] 24) = W1 from hW1.symm]
  clear hW1
  refine HA3.out.mono ?_
  rintro e w4 ⟨T0, A0, cc0, o0, rfl, hT0, hk4, ho4, hm4⟩
  have hi4 := HI3.out.t hlt hk4 ho4
  have hz3 := HI3.out.size
  have hz4 := hk4.size
  obtain ⟨W5, hW5⟩ : ∃ W5, W5 = w4.alloc (.cells #[.int .i64 T0.kind, .int .i64 T0.num, .string T0.name, .slice A0 T0.args.length cc0] 24) := ⟨_, rfl⟩
  have hr5 : RowK 24 4 TyAt (w.heap.size + 1) (w.heap.size + 1) W5 [T0] (.slice (some ⟨w4.heap.size, 0, none⟩) 1 1) [tyV T0.kind T0.num T0.name A0 T0.args.length cc0] := by
    rw [hW5]
    exact RowK.one (R := TyAt) TyAt.keep hT0 (fun g hg => ⟨by omega, hg.2⟩) (by omega) rfl
  have hi5 : RdI w p o0 W5 := hi4.new (by rw [hW5]; exact (Below.refl _ _).alloc (Nat.le_refl _) _)
  have hst5 : LSt (namedP arr s) N s [32, 42, 32] a D [T0] o0 := by
    rw [HD.out]; exact LSt.start hm4 (Nat.le_refl _)
  have HR5 := Lib.hid hr5; have HI5 := Lib.hid hi5; have HST5 := Lib.hid hst5
  clear hr5 hi5 hst5 hT0 hk4 ho4 hm4 hi4 hz3 hz4
  unfold tyV
  go_wp2_with fail
  rw [← hW5]
  clear hW5
  go_loopw [5] (fun sv wr => ∃ (ts : List Ty) (us : List Value) (o : Obj), Hid (RowK 24 4 TyAt (w.heap.size + 1) (w.heap.size + 1) wr ts sv us) ∧ Hid (RdI w p o wr) ∧ Hid (LSt (namedP arr s) N s [32, 42, 32] a D ts o)) (fun _ wr => leftOf wr p s.size)
  case atStart => exact ⟨_, _, _, HR5, HI5, HST5⟩
  case round =>
    obtain ⟨ts, us, o, HR, HI, HL⟩ := hrel
    clear HR5 HI5 HST5 HI3 HA3
    rcases HL.out with ⟨a', c', f, rfl, ha0, has, hc', hf, htl, hD⟩ | ⟨a', z, rfl, has, hz, htl, hD⟩
    · have hsk := skip_ok p s ⟨#[32, 42, 32]⟩ a' c' wr HI.out.rd has (by omega) (by decide)
      obtain ⟨q, hq⟩ : ∃ q, q = preB s [32, 42, 32] a' := ⟨_, rfl⟩
      rw [show ((⟨#[32, 42, 32]⟩ : ByteArray).data.toList.isPrefixOf (s.data.toList.drop a')) = q from hq.symm] at hsk
      have HSK := Lib.hid hsk; have HQ := Lib.hid hq; have HDD := Lib.hid hD
      have HM := Lib.hid (leftOf_ok (n := s.size) HI.out.rd)
      clear hsk hq hD
      cases q
      · have HDE : Hid (D = some (ts, a', c')) := Lib.hid (by rw [HDD.out]; exact listP_end HQ.out.symm)
        go_wp2_with fail
        refine HSK.out.mono ?_
        rintro e w3 ⟨rfl, H3, K3⟩
        have HI3 := Lib.hid (HI.out.t hlt K3 H3)
        have HR3 := Lib.hid (RowK.above (R := TyAt) TyAt.keep HR.out (Nat.le_refl _) (Nat.le_refl _) (fun g h1 h2 => K3.block g h2 (by omega)) K3.size)
        clear H3 K3
        by_cases hl1 : ts.length = 1
        · have hp0 : 0 < ts.length := by omega
          obtain ⟨gg, ccr, hg1, hg2, hg3, hcells⟩ := HR3.out.cells hp0
          have hty := HR3.out.each 0 hp0
          obtain ⟨A1, c1, hv1, -, -, -⟩ := hty.form
          have hrow := hcells 0 hp0
          rw [hv1] at hty hrow
          have e0 := hrow 0 (by omega)
          have e1 := hrow 1 (by omega)
          have e2 := hrow 2 (by omega)
          have e3 := hrow 3 (by omega)
          simp only [Nat.zero_mul, Nat.add_zero, Nat.zero_add, flatC, tyV] at e0 e1 e2 e3
          have hT1 : ts.getD 0 (.mk 0 0 ⟨#[]⟩ []) = ts[0] := by rw [List.getD_eq_getElem?_getD, List.getElem?_eq_getElem hp0]; rfl
          have HT1 := Lib.hid hT1; have HTY := Lib.hid hty
          clear hT1 hty hrow hcells hv1
          generalize ts[0] = X at *
          have x0 : w3.cell? ⟨gg, 0, none⟩ = some (.int .i64 X.kind) := e0
          have x1 : w3.cell? ⟨gg, 1, none⟩ = some (.int .i64 X.num) := e1
          have x2 : w3.cell? ⟨gg, 2, none⟩ = some (.string X.name) := e2
          have x3 : w3.cell? ⟨gg, 3, none⟩ = some (.slice A1 X.args.length c1) := e3
          clear e0 e1 e2 e3
          have hx := HI3.out.fin hlt (N + 1) s a X A1 c1 (HTY.out.sub fun g hg => ⟨by omega, hg.2.1⟩)
          obtain ⟨Wf, hWf, hbx, hpost⟩ := hx
          obtain ⟨r0, r1, r2, r3⟩ := box4 HI3.out.res
          obtain ⟨s0, s1, s2, s3⟩ := box4_frozen HI3.out.res
          have HW := Lib.hid hWf; have HBXF := Lib.hid hbx; have HPO := Lib.hid (hpost (pairP arr s a c) (by rw [HF.out, HDE.out, starP_some, if_pos hl1]; exact ⟨HT1.out.symm, ha0, has, hc', rfl⟩))
          have g0 : ((ts.length : Int) == 1) = true := by simp; omega
          have HL1 := Lib.hid hl1
          clear hWf hbx hpost hl1
          subst hg1
          go_wp2
          rw [← HW.out]
          obtain ⟨f0, f1, f2, f3⟩ := box4 HBXF.out
          refine bodyPost_ret (v := .agg #[.int .i64 X.kind, .int .i64 X.num, .string X.name, .slice A1 X.args.length c1]) (by simp [results, Tryd.results88, go_sem, f0, f1, f2, f3]) rfl ?_
          exact HPO.out
        · obtain ⟨Ar, cr, hur, hcr, hmr⟩ := HR3.out.form
          have g0 : ((ts.length : Int) == 1) = false := by simp; omega
          have HL1 := Lib.hid hl1
          clear hl1
          have HPT := Lib.hid (part_any p s a' c' false 3 0 ⟨#[]⟩ Ar ts.length cr w3 HI3.out.rd (by omega) (by omega))
          unfold tyV at HPT
          subst hur
          go_wp2_with fail
          refine HPT.out.mono ?_
          rintro e w6 ⟨rfl, H6, K6⟩
          have hi6 := HI3.out.t hlt K6 H6
          have hr6 := RowK.above (R := TyAt) TyAt.keep HR3.out (Nat.le_refl _) (Nat.le_refl _) (fun g h1 h2 => K6.block g h2 (by omega)) K6.size
          obtain ⟨A7, c7, he7, hty7⟩ := hr6.ty 3 0 ⟨#[]⟩ (by show 0 ≤ _; omega)
          obtain ⟨rfl, -, rfl⟩ := Value.slice.inj he7
          have hx := hi6.fin hlt (N + 1) s a (.mk 3 0 ⟨#[]⟩ ts) Ar cr (hty7.sub fun g hg => ⟨by omega, hg.2⟩)
          simp only [Ty.kind, Ty.num, Ty.name, Ty.args] at hx
          obtain ⟨Wf, hWf, hbx, hpost⟩ := hx
          obtain ⟨r0, r1, r2, r3⟩ := box4 hi6.res
          obtain ⟨s0, s1, s2, s3⟩ := box4_frozen hi6.res
          have hok : OkM (N + 1) s a (pairP arr s a c) (.mk 3 0 ⟨#[]⟩ ts) (rdr s a' ((c' : Int) + 1) (false || decide (300 < (c' : Int) + 1))) := by
            rw [HF.out, HDE.out, starP_some, if_neg HL1.out]
            unfold OkM partP
            by_cases h3 : c' + 1 ≤ 300
            · rw [if_pos h3]
              refine ⟨rfl, ha0, has, h3, ?_⟩
              rw [Bool.false_or, decide_eq_false (by omega), show ((c' + 1 : Nat) : Int) = (c' : Int) + 1 by omega]
            · rw [if_neg h3]
              refine ⟨a', c' + 1, has, by omega, ?_⟩
              rw [Bool.false_or, decide_eq_true (by omega), show ((c' + 1 : Nat) : Int) = (c' : Int) + 1 by omega]
          have HW := Lib.hid hWf; have HBXF := Lib.hid hbx; have HPO := Lib.hid (hpost _ hok)
          clear hWf hbx hpost hok hi6 hr6 hty7 he7 H6 K6
          go_wp2
          rw [← HW.out]
          obtain ⟨f0, f1, f2, f3⟩ := box4 HBXF.out
          refine bodyPost_ret (v := .agg #[.int .i64 3, .int .i64 0, .string ⟨#[]⟩, .slice Ar ts.length cr]) (by simp [results, Tryd.results88, go_sem, f0, f1, f2, f3]) rfl ?_
          exact HPO.out
      · have hle := preB_le HQ.out.symm (by decide)
        have hle2 : a' + 3 ≤ s.size := hle
        go_wp2_with fail
        refine HSK.out.mono ?_
        rintro e w2 ⟨rfl, H2, K2⟩
        have HI2 := Lib.hid (HI.out.t hlt K2 H2)
        have HA2 := Lib.hid (HAR.out (a' + 3) c' w2 H2 (by omega) hc')
        have hr2 := RowK.above (R := TyAt) TyAt.keep HR.out (Nat.le_refl _) (Nat.le_refl _) (fun g h1 h2 => K2.block g h2 (by omega)) K2.size
        have HR2 := Lib.hid hr2
        clear H2 K2 hr2
        go_wp2_with fail
        refine HA2.out.mono ?_
        rintro e w3 ⟨T, A, cc, o3, rfl, hT, hk3, ho3, hm3⟩
        have HI3 := Lib.hid (HI2.out.t hlt hk3 ho3)
        have hz2 := HI2.out.size
        have hr3 := RowK.above (R := TyAt) TyAt.keep HR2.out (Nat.le_refl _) (Nat.le_refl _) (fun g h1 h2 => hk3.block g h2 (by omega)) hk3.size
        have hst3 : LSt (namedP arr s) N s [32, 42, 32] (a' + 3) D (ts ++ [T]) o3 := LSt.next (by decide) HQ.out.symm hle ha0 hf htl HDD.out hm3
        have HR3 := Lib.hid hr3; have HST3 := Lib.hid hst3; have HT3 := Lib.hid hT
        have hown := hr3.own
        obtain ⟨us', hus⟩ : ∃ us', us' = us.flatMap flatC := ⟨_, rfl⟩
        rw [← hus] at hown
        have hz3 := hk3.size
        have hlr : ∀ g, u5.ownBlock = some g → g < w2.heap.size := fun g e => (HR2.out.lt g e).2
        have HLR := Lib.hid hlr
        clear hr3 hst3 hT hk3 ho3 hm3 hlr
        have hnext : Hid (∀ (v' : Value) (W4 : World), W4.ownsRow (w.heap.size + 1) 24 4 v' (ts.length + 1) (us' ++ [.int .i64 T.kind, .int .i64 T.num, .string T.name, .slice A T.args.length cc]) → (w3.alloc (.cells #[.int .i64 T.kind, .int .i64 T.num, .string T.name, .slice A T.args.length cc] 24)).grownBy W4 u5.ownBlock →
            (v'.ownBlock = u5.ownBlock ∨ v'.ownBlock = some (w3.alloc (.cells #[.int .i64 T.kind, .int .i64 T.num, .string T.name, .slice A T.args.length cc] 24)).heap.size) →
            RowK 24 4 TyAt (w.heap.size + 1) (w.heap.size + 1) W4 (ts ++ [T]) v' (us ++ [tyV T.kind T.num T.name A T.args.length cc]) ∧ RdI w p o3 W4) := Lib.hid fun v' W4 h1 h2 h3 => by
          refine ⟨RowK.next (R := TyAt) TyAt.keep HR3.out HT3.out (fun g hg => ⟨by omega, hg.2, fun e => ?_⟩) rfl _ (by rw [← hus]; exact h1) h2 h3, ?_⟩
          · have := HLR.out g e; omega
          · have hal : (w3.alloc (.cells #[.int .i64 T.kind, .int .i64 T.num, .string T.name, .slice A T.args.length cc] 24)).heap.size = w3.heap.size + 1 := by simp
            have hI := HI3.out
            have hsz := hI.size
            have hlp := lt_blk hI.rd
            have hown3 := fun g e => HR3.out.lt g e
            have key : ∀ g, g < w3.heap.size → g ≤ w.heap.size → W4.heap[g]? = w3.heap[g]? := fun g hg hle2 => by
              rw [h2.block g (by omega) (fun e => by have := (hown3 g e.symm).1; omega), Below.heap_alloc _ _ _ hg]
            refine ⟨(key p hlp (by omega)).trans hI.rd, (key _ hsz (Nat.le_refl _)).trans hI.res, h2.os.trans hI.kept.os, h2.tape.trans hI.kept.tape, h2.output.trans hI.kept.output, by have := h2.size; omega, fun g hg hp => ?_⟩
            exact (key g (by omega) (by omega)).trans (hI.kept.block g hg hp)
        unfold tyV
        go_wp2_with (at_builtin; refine wpList_appK _ rfl _ _ _ rfl (w.heap.size + 1) _ 4 tyE _ ts.length us' rfl (World.ownsRow.alloc hown _) ⟨w3.heap.size, 0, none⟩ 1 1 [.int .i64 T.kind, .int .i64 T.num, .string T.name, .slice A T.args.length cc] rfl rfl (cells_new _ _ _) (one4 _ _ _ _ _ _) (by omega) (by simp; omega) ?_; intro v9 w9 hown9 hg9 hat9)
        obtain ⟨hr9, hi9⟩ := hnext.out v9 w9 hown9 hg9 hat9
        go_roundw
        case rel => exact ⟨ts ++ [T], _, o3, Lib.hid hr9, Lib.hid hi9, Lib.hid (HST3.out.weak (by omega))⟩
        case measure =>
          rw [HM.out]
          rcases HST3.out with ⟨b', e', f', rfl, h1, h2, -⟩ | ⟨b', z', rfl, -⟩
          · rw [leftOf_ok hi9.rd]; omega
          · rw [leftOf_bad hi9.rd]; omega
    · have HNONE : Hid (pairP arr s a c = none) := Lib.hid (by rw [HF.out, hD]; rfl)
      have HSK := Lib.hid (skip_bad p s ⟨#[32, 42, 32]⟩ a' z wr HI.out.rd)
      clear hD
      go_wp2_with fail
      refine HSK.out.mono ?_
      rintro e w3 ⟨rfl, H3, K3⟩
      have HI3 := Lib.hid (HI.out.t hlt K3 H3)
      have HR3 := Lib.hid (RowK.above (R := TyAt) TyAt.keep HR.out (Nat.le_refl _) (Nat.le_refl _) (fun g h1 h2 => K3.block g h2 (by omega)) K3.size)
      clear H3 K3
      by_cases hl1 : ts.length = 1
      · have hp0 : 0 < ts.length := by omega
        obtain ⟨gg, ccr, hg1, hg2, hg3, hcells⟩ := HR3.out.cells hp0
        have hty := HR3.out.each 0 hp0
        obtain ⟨A1, c1, hv1, -, -, -⟩ := hty.form
        have hrow := hcells 0 hp0
        rw [hv1] at hty hrow
        have e0 := hrow 0 (by omega)
        have e1 := hrow 1 (by omega)
        have e2 := hrow 2 (by omega)
        have e3 := hrow 3 (by omega)
        simp only [Nat.zero_mul, Nat.add_zero, Nat.zero_add, flatC, tyV] at e0 e1 e2 e3
        have hT1 : ts.getD 0 (.mk 0 0 ⟨#[]⟩ []) = ts[0] := by rw [List.getD_eq_getElem?_getD, List.getElem?_eq_getElem hp0]; rfl
        have HT1 := Lib.hid hT1; have HTY := Lib.hid hty
        clear hT1 hty hrow hcells hv1
        generalize ts[0] = X at *
        have x0 : w3.cell? ⟨gg, 0, none⟩ = some (.int .i64 X.kind) := e0
        have x1 : w3.cell? ⟨gg, 1, none⟩ = some (.int .i64 X.num) := e1
        have x2 : w3.cell? ⟨gg, 2, none⟩ = some (.string X.name) := e2
        have x3 : w3.cell? ⟨gg, 3, none⟩ = some (.slice A1 X.args.length c1) := e3
        clear e0 e1 e2 e3
        have hx := HI3.out.fin hlt (N + 1) s a X A1 c1 (HTY.out.sub fun g hg => ⟨by omega, hg.2.1⟩)
        obtain ⟨Wf, hWf, hbx, hpost⟩ := hx
        obtain ⟨r0, r1, r2, r3⟩ := box4 HI3.out.res
        obtain ⟨s0, s1, s2, s3⟩ := box4_frozen HI3.out.res
        have HW := Lib.hid hWf; have HBXF := Lib.hid hbx; have HPO := Lib.hid (hpost (pairP arr s a c) (by rw [HNONE.out]; exact ⟨a', z, has, by omega, rfl⟩))
        have g0 : ((ts.length : Int) == 1) = true := by simp; omega
        have HL1 := Lib.hid hl1
        clear hWf hbx hpost hl1
        subst hg1
        go_wp2
        rw [← HW.out]
        obtain ⟨f0, f1, f2, f3⟩ := box4 HBXF.out
        refine bodyPost_ret (v := .agg #[.int .i64 X.kind, .int .i64 X.num, .string X.name, .slice A1 X.args.length c1]) (by simp [results, Tryd.results88, go_sem, f0, f1, f2, f3]) rfl ?_
        exact HPO.out
      · obtain ⟨Ar, cr, hur, hcr, hmr⟩ := HR3.out.form
        have g0 : ((ts.length : Int) == 1) = false := by simp; omega
        have HL1 := Lib.hid hl1
        clear hl1
        have HPT := Lib.hid (part_any p s a' z true 3 0 ⟨#[]⟩ Ar ts.length cr w3 HI3.out.rd (by omega) (by omega))
        unfold tyV at HPT
        subst hur
        go_wp2_with fail
        refine HPT.out.mono ?_
        rintro e w6 ⟨rfl, H6, K6⟩
        have hi6 := HI3.out.t hlt K6 H6
        have hr6 := RowK.above (R := TyAt) TyAt.keep HR3.out (Nat.le_refl _) (Nat.le_refl _) (fun g h1 h2 => K6.block g h2 (by omega)) K6.size
        obtain ⟨A7, c7, he7, hty7⟩ := hr6.ty 3 0 ⟨#[]⟩ (by show 0 ≤ _; omega)
        obtain ⟨rfl, -, rfl⟩ := Value.slice.inj he7
        have hx := hi6.fin hlt (N + 1) s a (.mk 3 0 ⟨#[]⟩ ts) Ar cr (hty7.sub fun g hg => ⟨by omega, hg.2⟩)
        simp only [Ty.kind, Ty.num, Ty.name, Ty.args] at hx
        obtain ⟨Wf, hWf, hbx, hpost⟩ := hx
        obtain ⟨r0, r1, r2, r3⟩ := box4 hi6.res
        obtain ⟨s0, s1, s2, s3⟩ := box4_frozen hi6.res
        have hok : OkM (N + 1) s a (pairP arr s a c) (.mk 3 0 ⟨#[]⟩ ts) (rdr s a' ((z : Int) + 1) (true || decide (300 < (z : Int) + 1))) := by
          rw [HNONE.out]
          refine ⟨a', z + 1, has, by omega, ?_⟩
          rw [Bool.true_or, show ((z + 1 : Nat) : Int) = (z : Int) + 1 by omega]
        have HW := Lib.hid hWf; have HBXF := Lib.hid hbx; have HPO := Lib.hid (hpost _ hok)
        clear hWf hbx hpost hok hi6 hr6 hty7 he7 H6 K6
        go_wp2
        rw [← HW.out]
        obtain ⟨f0, f1, f2, f3⟩ := box4 HBXF.out
        refine bodyPost_ret (v := .agg #[.int .i64 3, .int .i64 0, .string ⟨#[]⟩, .slice Ar ts.length cr]) (by simp [results, Tryd.results88, go_sem, f0, f1, f2, f3]) rfl ?_
        exact HPO.out
end Go.Proofs.YtbhicpjhijondaaDoor
