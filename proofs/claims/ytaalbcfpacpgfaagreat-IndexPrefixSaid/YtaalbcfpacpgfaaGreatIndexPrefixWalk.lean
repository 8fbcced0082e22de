/- The walk of IndexPrefix. -/
import Derived.Test.YtaalbcfpacpgfaaGreatI21
namespace Go.Proofs.YtaalbcfpacpgfaaGreat
open Go.RowKit Go.Lib Go.Vfs Go.Par Go.Typ Go.Shelf Go.Ix
set_option linter.unusedVariables false
set_option linter.unusedSimpArgs false

set_option maxRecDepth 100000 in
set_option maxHeartbeats 8000000 in
theorem indexPrefix_walk (va : Value) (la : List En) (hla : la.length ≤ 140737488355328) (vb : Value) (lb : List En) (hlb : lb.length ≤ 140737488355328) (cm : Bool) (kv : Value) (ks : List Int) (hks : ks.length ≤ 17592186043904) (pw : Int) (hpw : -9223372036854775808 ≤ pw ∧ pw ≤ 9223372036854775807) (W : World)
    (hA : EntsAt (· < W.heap.size) W va la) (hoa : ∀ e ∈ la, (∀ x ∈ e.exs, RowOk x.ty) ∧ e.uri.size ≤ 140737488355328) (hB : EntsAt (· < W.heap.size) W vb lb) (hob : ∀ e ∈ lb, (∀ x ∈ e.exs, RowOk x.ty) ∧ e.uri.size ≤ 140737488355328) (gk : Seg W W.heap.size kv (ints ks)) :
    Calls Tryz.prog 5 #[va, vb, .bool cm, kv, .int .i64 pw] W fun e w' => e = .returned (.bool true) ∧ Below W.heap.size W w' := by
  obtain ⟨Aa, ca, rfl, hca, hcm⟩ := hA.form
  obtain ⟨Ab, cb, rfl, hcb, hcbm⟩ := hB.form
  obtain ⟨K, kc, rfl, hkc, hkm, -⟩ := gk.open_ints
  have HA := Lib.hid hA; have HOA := Lib.hid hoa; have HB := Lib.hid hB; have HOB := Lib.hid hob; have GK := Lib.hid gk; have HKS := Lib.hid hks
  clear hA hoa hB hob gk hks hpw hca hcm hcb hcbm hkc hkm
  go_enter Tryz.func5, Tryz.ntmps5
  go_wp2_with fail
  refine (ixalive_any W).mono ?_
  rintro e w1 ⟨rfl, hb1⟩
  have HB1 := Lib.hid hb1
  have HGA := Lib.hid (great20_any la (fun e he => (HOA.out e he).2) (.slice Aa la.length ca) w1 (HA.out.blw hb1))
  clear hb1
  go_wp2_with fail
  refine HGA.out.mono ?_
  rintro e w2 ⟨qa, rfl, hqa, hb2⟩
  have HB2 : Hid (Below W.heap.size W w2) := Lib.hid (HB1.out.trans (hb2.mono HB1.out.size))
  have HQA := Lib.hid hqa
  clear hb2 HGA hqa HB1
  cases qa with
  | true =>
    go_wp2
    go_ret
    exact ⟨rfl, HB2.out⟩
  | false =>
  have HGB := Lib.hid (great20_any lb (fun e he => (HOB.out e he).2) (.slice Ab lb.length cb) w2 (HB.out.blw HB2.out))
  go_wp2_with fail
  refine HGB.out.mono ?_
  rintro e w3 ⟨qb, rfl, hqb, hb3⟩
  have HB3 : Hid (Below W.heap.size W w3) := Lib.hid (HB2.out.trans (hb3.mono HB2.out.size))
  have HQB := Lib.hid hqb
  clear hb3 HGB hqb HB2
  cases qb with
  | true =>
    go_wp2
    go_ret
    exact ⟨rfl, HB3.out⟩
  | false =>
  have h1 : RowKit.wrap64 ((la.length : Int) + (lb.length : Int)) = (la.length : Int) + (lb.length : Int) := wrap64I _ (by omega) (by omega)
  by_cases h30 : (30 : Int) < (la.length : Int) + (lb.length : Int)
  · go_wp2
    go_ret
    exact ⟨rfl, HB3.out⟩
  have hl30 : la.length + lb.length ≤ 30 := by omega
  have HWA := Lib.hid (HQA.out (by omega) (by simp))
  have HWB := Lib.hid (HQB.out (by omega) (by simp))
  clear hla hlb
  go_wp2_with fail
  refine (new_fs (-1) w3).mono ?_
  rintro e w4 ⟨p, F, rfl, hfs, hF, hb4⟩
  have hz3 := HB3.out.size
  have hz4 := hb4.size
  have HOP := Lib.hid (ixopen_any w4 p ⟨-1, []⟩ F hfs Calm.nil (by omega) (by omega) (by decide) (fun x hx => by rw [open_new] at hx; injection hx with hx; subst hx; exact ⟨by decide, fun l hl => (by cases hl)⟩))
  have HB4 : Hid (Below W.heap.size W w4) := Lib.hid (HB3.out.trans (hb4.mono hz3))
  have HF := Lib.hid (fun k hk => Nat.le_trans hz3 (hF k hk).1 : ∀ k, F k → W.heap.size ≤ k)
  clear hfs hF hb4
  go_wp2_with fail
  refine HOP.out.mono ?_
  rintro e w5 hop
  rw [open_new] at hop
  obtain ⟨px, F5, H5, S5, rfl, hx5, -⟩ := hop.held (es := []) rfl HB4.out (Nat.le_refl _) HF.out
  obtain ⟨W6, hW6⟩ : ∃ W6, W6 = w5.alloc (.cells #[] 55) := ⟨_, rfl⟩
  have hp6 := PX.new hx5
  rw [← hW6] at hp6
  have HP6 := Lib.hid hp6
  clear hop hx5 hp6 HOP HF HB4 h30 h1 HB3 hz3 hz4 HQA HQB
  go_wp2
  rw [← hW6]
  clear hW6
  go_loopw [14, 15] (fun av iv W' => ∃ (k A : Nat) (us : List Value), k ≤ la.length ∧ iv = .int .i64 k ∧ Hid (PX W W' px p 0 [] ((accL (la.take k)).map recE) (mkN (accL (la.take k))) 0 k (12 * k + A) A (accL (la.take k)) av us) ∧ Hid ((A : Int) ≤ 90 * wtEs (la.take k))) (fun _ iv _ => la.length - (RowKit.intOf iv).toNat)
  case atStart => exact ⟨0, 0, [], by omega, rfl, HP6, Lib.hid (by simp [wtEs])⟩
  case round =>
    clear HP6
    obtain ⟨k, A, us, hk, rfl, HP, HAW⟩ := hrel
    have HAL : Hid (A ≤ 270000) := Lib.hid (by have := HAW.out; have := wtEs_take_le la k; have := HWA.out; omega)
    have hzw := HP.out.below.size
    by_cases hlt : k < la.length
    · obtain ⟨b, off, A', c', rfl, hb, hns, ht, x0, x1, x2⟩ := HA.out.arg hlt
      have hexl := light_exs HWA.out (List.getElem_mem hlt)
      have HSA := Lib.hid (sumA_next hlt HAW.out)
      have HPL : Hid (pubL ((accL (la.take k)).map recE) la[k] = (accL (la.take (k + 1))).map recE) := Lib.hid (by have := pubL_acc hlt []; simpa using this)
      have HPE : Hid (pubE (mkN (accL (la.take k))) la[k] = mkN (accL (la.take (k + 1)))) := Lib.hid (by have := pubE_acc hlt []; simpa using this)
      have HNX : Hid (accB la[k] = true → accL (la.take (k + 1)) = accL (la.take k) ++ [la[k]]) := Lib.hid (accL_next hlt)
      have HSK : Hid (accB la[k] = false → accL (la.take (k + 1)) = accL (la.take k)) := Lib.hid (accL_skip hlt)
      have HOK1 := Lib.hid (HOA.out la[k] (List.getElem_mem hlt))
      have hml : (accL (la.take k)).length ≤ 30 := by have := accL_len (la.take k); rw [List.length_take] at this; omega
      obtain ⟨la2, hla2⟩ : ∃ l, l = accL (la.take (k + 1)) := ⟨_, rfl⟩
      have HLA2 := Lib.hid hla2
      rw [← hla2] at HPL HPE HNX HSK
      generalize la[k] = E at *
      generalize accL (la.take k) = la1 at *
      have HAE : Hid (∀ W', Below W.heap.size W W' → EntAt (· < W.heap.size) W' (enV E A' c') E ∧ W'.cell? ⟨b, off + k * 3, none⟩ = some (.string E.uri) ∧ W'.cell? ⟨b, off + k * 3 + 1, none⟩ = some (.int .i64 E.ver) ∧ W'.cell? ⟨b, off + k * 3 + 2, none⟩ = some (.slice A' E.exs.length c')) := Lib.hid fun W' h =>
        ⟨⟨A', c', rfl, hns, ht.keep fun g hg => ⟨hg, h.block g hg⟩⟩, (h.cell (p := ⟨_, _, none⟩) hb).trans x0, (h.cell (p := ⟨_, _, none⟩) hb).trans x1, (h.cell (p := ⟨_, _, none⟩) hb).trans x2⟩
      clear ht x0 x1 x2 hla2
      obtain ⟨hEE, x0, x1, x2⟩ := HAE.out wr HP.out.below
      have HCP := Lib.hid (copied_any20 E ⟨HOK1.out.1, by omega⟩ (.agg #[.string E.uri, .int .i64 E.ver, .slice A' E.exs.length c']) wr (EntAt.keep hEE fun g (hg : g < W.heap.size) => ⟨by show g < wr.heap.size; omega, rfl⟩))
      clear hEE
      go_wp2_with fail
      refine HCP.out.mono ?_
      rintro e w7 ⟨A7, c7, rfl, hx7, hb7⟩
      have hpu := HP.out.publish hb7 (.agg #[.string E.uri, .int .i64 E.ver, .slice A7 E.exs.length c7]) E ⟨A7, c7, rfl, hns, hx7⟩ (by omega) (by have := HAL.out; omega)
      have HPU := Lib.hid hpu
      clear hpu hx7 hb7 hns x0 x1 x2 HCP
      go_wp2_with fail
      refine HPU.out.mono ?_
      rintro e w8 ⟨r, rfl, hr, HN⟩
      clear HPU
      rw [HPL.out, HPE.out] at HN
      obtain ⟨-, x0, x1, x2⟩ := HAE.out w8 HN.out.below
      cases hac : accB E with
      | true =>
        have hr0 : r = 0 := hr.2 hac
        subst hr0
        have hnx := HNX.out hac
        have hown := HN.out.row.own
        obtain ⟨us', hus⟩ : ∃ us', us' = us.flatMap flatC := ⟨_, rfl⟩
        obtain ⟨m, hm⟩ : ∃ m, m = la1.length := ⟨_, rfl⟩
        rw [← hus, ← hm] at hown
        have HUS := Lib.hid hus
        have HM := Lib.hid hm
        have HNX2 := Lib.hid hnx
        rw [← hm] at hml
        have hz8 := HN.out.below.size
        clear hus hm hr hac hnx
        go_wp2_with (at_builtin; refine wpList_appK _ rfl _ _ _ rfl W.heap.size _ 3 enE _ m us' rfl (World.ownsRow.alloc hown _) ⟨w8.heap.size, 0, none⟩ 1 1 [.string E.uri, .int .i64 E.ver, .slice A' E.exs.length c'] rfl rfl (cells_new _ _ _) (one3 _ _ _ _ _) (by omega) (by simp; omega) ?_; intro v9 w9 hown9 hg9 hat9)
        have hp9 := HN.out.app (HAE.out w8 HN.out.below).1 (by rw [← HM.out, ← HUS.out]; exact hown9) hg9 hat9
        rw [← HNX2.out, HLA2.out] at hp9
        have HP9 := Lib.hid hp9
        clear hp9 hown9 hg9 hat9 hown x0 x1 x2
        go_wp2
        go_roundw
        case rel => exact ⟨k + 1, A + lenA E, _, by omega, by go_num, Lib.hid (HP9.out.mono (by omega) (by omega) (by omega)), HSA⟩
        case measure => simp [RowKit.intOf]; omega
      | false =>
        have hr0 : ¬ r = 0 := fun e => by have := hr.1 e; rw [hac] at this; cases this
        have hsk := HSK.out hac
        have HP9 : Hid (PX W w8 px p 0 [] ((accL (la.take (k + 1))).map recE) (mkN (accL (la.take (k + 1)))) 0 (k + 1) (12 * k + A + 12 + lenA E) (A + lenA E) (accL (la.take (k + 1))) u14 us) := Lib.hid (by
          have h := HN.out
          rw [← HLA2.out]
          rw [← hsk] at h
          exact h)
        clear hsk hr hac x0 x1 x2 HN
        go_wp2
        go_roundw
        case rel => exact ⟨k + 1, A + lenA E, us, by omega, by go_num, Lib.hid (HP9.out.mono (by omega) (by omega) (by omega)), HSA⟩
        case measure => simp [RowKit.intOf]; omega
    · have hkl : k = la.length := by omega
      obtain ⟨xa, hxa⟩ : ∃ xa, xa = accL la := ⟨_, rfl⟩
      have hpA : PX W wr px p 0 [] (xa.map recE) (mkN xa) 0 30 271000 270000 xa u14 us := by
        have h := HP.out
        rw [hkl, List.take_length, ← hxa] at h
        exact h.mono (by omega) (by have := HAL.out; omega) (by have := HAL.out; omega)
      have hxl : xa.length ≤ 30 := by have := accL_len la; rw [hxa]; omega
      have HPA := Lib.hid hpA
      clear hpA HP HAW HAL hkl hxa hzw
      have hcm : cm = false ∨ cm = true := by cases cm <;> simp
      rcases hcm with rfl | rfl
      focus
        go_wp2_with fail
        refine (HPA.out.sync (by omega)).mono ?_
        rintro e w5 ⟨rfl, HN⟩
        obtain ⟨g, base, lga, HPB, HG⟩ : ∃ (g : Nat) (base lga : List (List UInt8)), Hid (PX W w5 px p g base lga (mkN xa) (encR g lga).length 40 1400000 270000 xa u14 us) ∧ Hid (g ≤ 1 ∧ (g = 0 → base = []) ∧ base.length ≤ 30 ∧ lga.length ≤ 30) := ⟨0, [], xa.map recE, Lib.hid (HN.out.mono (by omega) (by omega) (by omega)), Lib.hid ⟨by omega, fun _ => rfl, by simp, by rw [List.length_map]; omega⟩⟩
        clear HN HPA
      rotate_left
      focus
        go_wp2_with fail
        refine (HPA.out.compact (by omega) (by omega) (by omega) (by omega)).mono ?_
        rintro e w4 ⟨rfl, HC⟩
        go_wp2_with fail
        refine (HC.out.sync (by omega)).mono ?_
        rintro e w5 ⟨rfl, HN⟩
        obtain ⟨g, base, lga, HPB, HG⟩ : ∃ (g : Nat) (base lga : List (List UInt8)), Hid (PX W w5 px p g base lga (mkN xa) (encR g lga).length 40 1400000 270000 xa u14 us) ∧ Hid (g ≤ 1 ∧ (g = 0 → base = []) ∧ base.length ≤ 30 ∧ lga.length ≤ 30) := ⟨1, (mkN xa).map recE, [], Lib.hid (HN.out.mono (by omega) (by omega) (by omega)), Lib.hid ⟨by omega, fun h => by omega, by rw [List.length_map]; have := mkN_len xa; omega, by simp⟩⟩
        clear HN HPA HC
      all_goals
        have HRP : Hid (replay [] (base ++ lga) = some (mkN xa)) := Lib.hid HPB.out.good.rep
        obtain ⟨Al, cl, hfl, -, -⟩ := HPB.out.row.form
        subst hfl
        go_wp2
        go_loopw [14, 17] (fun av iv W' => ∃ (k A : Nat) (us : List Value), k ≤ lb.length ∧ iv = .int .i64 k ∧ Hid (PX W W' px p g base (lga ++ (accL (lb.take k)).map recE) (mkN (xa ++ accL (lb.take k))) (encR g lga).length (40 + k) (1400000 + 12 * k + A) (270000 + A) (xa ++ accL (lb.take k)) av us) ∧ Hid ((A : Int) ≤ 90 * wtEs (lb.take k))) (fun _ iv _ => lb.length - (RowKit.intOf iv).toNat)
        case atStart => exact ⟨0, 0, us, by omega, rfl, Lib.hid (by
          have h := HPB.out
          rw [List.take_zero, show accL ([] : List En) = [] from rfl, List.map_nil, List.append_nil, List.append_nil]
          exact h.mono (by omega) (by omega) (by omega)), Lib.hid (by simp [wtEs])⟩
        case round =>
          clear HPB
          obtain ⟨k, A, us, hk, rfl, HP, HAW⟩ := hrel
          have HAL : Hid (A ≤ 270000) := Lib.hid (by have := HAW.out; have := wtEs_take_le lb k; have := HWB.out; omega)
          have hzw := HP.out.below.size
          by_cases hlt : k < lb.length
          · obtain ⟨b, off, A', c', rfl, hb, hns, ht, x0, x1, x2⟩ := HB.out.arg hlt
            have hexl := light_exs HWB.out (List.getElem_mem hlt)
            have HSA := Lib.hid (sumA_next hlt HAW.out)
            have HPL : Hid (pubL (lga ++ (accL (lb.take k)).map recE) lb[k] = lga ++ (accL (lb.take (k + 1))).map recE) := Lib.hid (pubL_acc hlt lga)
            have HPE : Hid (pubE (mkN (xa ++ accL (lb.take k))) lb[k] = mkN (xa ++ accL (lb.take (k + 1)))) := Lib.hid (pubE_acc hlt xa)
            have HNX : Hid (accB lb[k] = true → accL (lb.take (k + 1)) = accL (lb.take k) ++ [lb[k]]) := Lib.hid (accL_next hlt)
            have HSK : Hid (accB lb[k] = false → accL (lb.take (k + 1)) = accL (lb.take k)) := Lib.hid (accL_skip hlt)
            have HOK1 := Lib.hid (HOB.out lb[k] (List.getElem_mem hlt))
            have hml : (xa ++ accL (lb.take k)).length ≤ 60 := by have := accL_len (lb.take k); rw [List.length_take] at this; rw [List.length_append]; omega
            obtain ⟨lb2, hlb2⟩ : ∃ l, l = accL (lb.take (k + 1)) := ⟨_, rfl⟩
            have HLB2 := Lib.hid hlb2
            rw [← hlb2] at HPL HPE HNX HSK
            generalize lb[k] = E at *
            generalize accL (lb.take k) = lb1 at *
            have HAE : Hid (∀ W', Below W.heap.size W W' → EntAt (· < W.heap.size) W' (enV E A' c') E ∧ W'.cell? ⟨b, off + k * 3, none⟩ = some (.string E.uri) ∧ W'.cell? ⟨b, off + k * 3 + 1, none⟩ = some (.int .i64 E.ver) ∧ W'.cell? ⟨b, off + k * 3 + 2, none⟩ = some (.slice A' E.exs.length c')) := Lib.hid fun W' h =>
              ⟨⟨A', c', rfl, hns, ht.keep fun g hg => ⟨hg, h.block g hg⟩⟩, (h.cell (p := ⟨_, _, none⟩) hb).trans x0, (h.cell (p := ⟨_, _, none⟩) hb).trans x1, (h.cell (p := ⟨_, _, none⟩) hb).trans x2⟩
            clear ht x0 x1 x2 hlb2
            obtain ⟨hEE, x0, x1, x2⟩ := HAE.out wr HP.out.below
            have HCP := Lib.hid (copied_any20 E ⟨HOK1.out.1, by omega⟩ (.agg #[.string E.uri, .int .i64 E.ver, .slice A' E.exs.length c']) wr (EntAt.keep hEE fun g (hg : g < W.heap.size) => ⟨by show g < wr.heap.size; omega, rfl⟩))
            clear hEE
            go_wp2_with fail
            refine HCP.out.mono ?_
            rintro e w7 ⟨A7, c7, rfl, hx7, hb7⟩
            have hpu := HP.out.publish hb7 (.agg #[.string E.uri, .int .i64 E.ver, .slice A7 E.exs.length c7]) E ⟨A7, c7, rfl, hns, hx7⟩ (by omega) (by have := HAL.out; omega)
            have HPU := Lib.hid hpu
            clear hpu hx7 hb7 hns x0 x1 x2 HCP
            go_wp2_with fail
            refine HPU.out.mono ?_
            rintro e w8 ⟨r, rfl, hr, HN⟩
            clear HPU
            rw [HPL.out, HPE.out] at HN
            obtain ⟨-, x0, x1, x2⟩ := HAE.out w8 HN.out.below
            cases hac : accB E with
            | true =>
              have hr0 : r = 0 := hr.2 hac
              subst hr0
              have hnx := HNX.out hac
              have hown := HN.out.row.own
              obtain ⟨us', hus⟩ : ∃ us', us' = us.flatMap flatC := ⟨_, rfl⟩
              obtain ⟨m, hm⟩ : ∃ m, m = (xa ++ lb1).length := ⟨_, rfl⟩
              rw [← hus, ← hm] at hown
              have HUS := Lib.hid hus
              have HM := Lib.hid hm
              have HNX2 := Lib.hid hnx
              rw [← hm] at hml
              have hz8 := HN.out.below.size
              clear hus hm hr hac hnx
              go_wp2_with (at_builtin; refine wpList_appK _ rfl _ _ _ rfl W.heap.size _ 3 enE _ m us' rfl (World.ownsRow.alloc hown _) ⟨w8.heap.size, 0, none⟩ 1 1 [.string E.uri, .int .i64 E.ver, .slice A' E.exs.length c'] rfl rfl (cells_new _ _ _) (one3 _ _ _ _ _) (by omega) (by simp; omega) ?_; intro v9 w9 hown9 hg9 hat9)
              have hp9 := HN.out.app (HAE.out w8 HN.out.below).1 (by rw [← HM.out, ← HUS.out]; exact hown9) hg9 hat9
              rw [List.append_assoc, ← HNX2.out, HLB2.out] at hp9
              have HP9 := Lib.hid hp9
              clear hp9 hown9 hg9 hat9 hown x0 x1 x2
              go_wp2
              go_roundw
              case rel => exact ⟨k + 1, A + lenA E, _, by omega, by go_num, Lib.hid (HP9.out.mono (by omega) (by omega) (by omega)), HSA⟩
              case measure => simp [RowKit.intOf]; omega
            | false =>
              have hr0 : ¬ r = 0 := fun e => by have := hr.1 e; rw [hac] at this; cases this
              have hsk := HSK.out hac
              have HP9 : Hid (PX W w8 px p g base (lga ++ (accL (lb.take (k + 1))).map recE) (mkN (xa ++ accL (lb.take (k + 1)))) (encR g lga).length (40 + k + 1) (1400000 + 12 * k + A + 12 + lenA E) (270000 + A + lenA E) (xa ++ accL (lb.take (k + 1))) u14 us) := Lib.hid (by
                have h := HN.out
                rw [← HLB2.out]
                rw [← hsk] at h
                exact h)
              clear hsk hr hac x0 x1 x2 HN
              go_wp2
              go_roundw
              case rel => exact ⟨k + 1, A + lenA E, us, by omega, by go_num, Lib.hid (HP9.out.mono (by omega) (by omega) (by omega)), HSA⟩
              case measure => simp [RowKit.intOf]; omega
          · have hkl : k = lb.length := by omega
            obtain ⟨xb, hxb⟩ : ∃ xb, xb = accL lb := ⟨_, rfl⟩
            have hpB : PX W wr px p g base (lga ++ xb.map recE) (mkN (xa ++ xb)) (encR g lga).length 80 1700000 540000 (xa ++ xb) u14 us := by
              have h := HP.out
              rw [hkl, List.take_length, ← hxb] at h
              exact h.mono (by omega) (by have := HAL.out; omega) (by have := HAL.out; omega)
            have hxbl : xb.length ≤ 30 := by have := accL_len lb; rw [hxb]; omega
            have HXBO : Hid (∀ e ∈ xb, okE e = true) := Lib.hid (by rw [hxb]; exact accL_ok)
            obtain ⟨XS, hXS⟩ : ∃ XS, XS = xa ++ xb := ⟨_, rfl⟩
            rw [← hXS] at hpB
            obtain ⟨F, H, S, fs, lg, hx, hr, hv⟩ := hpB
            have HX := Lib.hid hx; have HR := Lib.hid hr
            obtain ⟨Am, cm', hfm, -, -⟩ := hr.form
            subst hfm
            have HBW := Lib.hid hx.xh.below
            clear hx hr hv HP HAW HAL hkl hxb
            go_wp2_with fail
            refine (copyInts_big _ ks W.heap.size wr (GK.out.below HBW.out) HBW.out.size HKS.out).mono ?_
            rintro e w7 ⟨u7, rfl, hu7, hb7⟩
            obtain ⟨q, hq, hqe⟩ := and1 pw
            have hx7 := HX.out.go hb7
            obtain ⟨pj9, mb9, xs9, G9, hj9, -⟩ := hx7.xh.xf
            have HCR := Lib.hid (crash_any w7 p ⟨-1, fs⟩ F hj9.fs (by have := hx7.calm.files; simp only; omega) hx7.calm.short (fun f hf => by have := hx7.calm.data f hf; omega) u7 ks (Own.seg hu7) (q : Int))
            obtain ⟨m, lg', hm1, hm2, hv3, hrec, hnil⟩ := prefixX hx7 (by have := HG.out.1; omega) ks
            obtain ⟨RS, hRS⟩ : ∃ RS, RS = (lga ++ xb.map recE).take m := ⟨_, rfl⟩
            obtain ⟨N0, hN0⟩ : ∃ N0, N0 = xa.length + (m - lga.length) := ⟨_, rfl⟩
            have hrep := replay_front HRP.out HXBO.out hm1
            rw [← hRS, ← hN0, ← hXS] at hrep
            have hXl : XS.length = xa.length + xb.length := by rw [hXS, List.length_append]
            have hN1 : N0 ≤ XS.length := by rw [List.length_append, List.length_map] at hm2; omega
            have hN2 : xa.length ≤ N0 := by omega
            have hlen : ∀ l ∈ base ++ RS, l.length ≤ 65536 := fun l hl => by
              rcases List.mem_append.1 hl with h | h
              · exact hx7.xk.len l (List.mem_append_left _ h)
              · rw [hRS] at h; exact hx7.xk.len l (List.mem_append_right _ (List.mem_of_mem_take h))
            have hRSl : RS.length ≤ 60 := by
              rw [hRS, List.length_take, List.length_append, List.length_map]
              have := HG.out.2.2.2; omega
            have hbase : baseOk (bsOf g base) = some (g, base) := bsOf_ok (by have := HG.out.1; omega) (fun q hq => hx7.xk.len q (List.mem_append_left _ hq)) (by have := HG.out.2.2.1; omega) HG.out.2.1
            rw [← hRS] at hrec
            have ho : (q = 0 ∧ openSt ⟨(q : Int), crashL ks 0 fs⟩ = (⟨0, crashL ks 0 fs⟩, .error 13)) ∨ ∃ st', openSt ⟨(q : Int), crashL ks 0 fs⟩ = (st', .ok (g, base, RS)) := by
              cases hbad : logBad lg' g with
              | false => exact .inr ⟨_, by rw [hv3.opn0 hbase hbad, hrec]⟩
              | true =>
                by_cases hq0 : q = 0
                · exact .inl ⟨hq0, by rw [hq0]; exact hv3.opnD hbase hbad⟩
                · obtain ⟨fs5, e5, -⟩ := hv3.opnC (pw := (q : Int)) (by omega) hbase hbad
                  exact .inr ⟨_, by rw [e5, hrec]⟩
            have ho2 : ∃ st', openSt ⟨-1, crashL [] 0 (crashL ks 0 fs)⟩ = (st', .ok (g, base, RS)) := by
              obtain ⟨i1, i2, i3, hv4⟩ := hv3.crash []
              simp only [Option.map_none] at hv4
              rw [hnil, bsOf_crash] at hv4
              obtain ⟨fs5, e5, -⟩ := hv4.opn hbase
              exact ⟨_, by rw [e5, hrec]⟩
            have hfit : ∀ x : Nat × List (List UInt8) × List (List UInt8), x = (g, base, RS) → x.2.1.length + x.2.2.length ≤ 100000 ∧ ∀ l ∈ x.2.1 ++ x.2.2, l.length ≤ 1000000 := by
              rintro x rfl
              exact ⟨by have := HG.out.2.2.1; simp only; omega, fun l hl => by have := hlen l hl; omega⟩
            have hcalm := hx7.calm.crash ks 0
            have HB7 := Lib.hid hx7.xh.below
            have HR7 := Lib.hid (RowK.below (R := EntZ W.heap.size) EntZ.keep HR.out hb7)
            have HREP := Lib.hid hrep; have HO := Lib.hid ho; have HO2 := Lib.hid ho2; have HFIT := Lib.hid hfit; have HCALM := Lib.hid hcalm; have HN := Lib.hid (And.intro hN1 hN2)
            obtain ⟨A7, c7, hf7⟩ := hu7.form
            have hsl60 : XS.length ≤ 60 := by omega
            have HXS := Lib.hid hXS
            have hxae : xa.length ≤ XS.length := by omega
            clear hu7 hb7 hx7 hj9 hm1 hm2 hv3 hrec hnil hrep hXl hlen hRSl hbase ho ho2 hfit hcalm hRS hN0 hXS HX HR HRP HXBO HBW
            subst hf7
            go_wp2_with fail
            refine HCR.out.mono ?_
            rintro e w8 ⟨p2, F8, rfl, hfs8, hF8, hb8⟩
            have HB8 : Hid (Below W.heap.size W w8) := Lib.hid (HB7.out.trans (hb8.mono HB7.out.size))
            have HF8 : Hid (∀ k, F8 k → W.heap.size ≤ k) := Lib.hid fun k hk => by have := (hF8 k hk).1; have := HB7.out.size; omega
            have HR8 := Lib.hid (RowK.below (R := EntZ W.heap.size) EntZ.keep HR7.out hb8)
            have HV8 : Hid (∀ k, (Value.slice Am XS.length cm').ownBlock = some k → ¬ F8 k) := Lib.hid fun k e hk => by have := (HR7.out.lt k e).2; have := (hF8 k hk).1; omega
            have HOP8 := Lib.hid (ixopen_any w8 p2 ⟨(q : Int), crashL ks 0 fs⟩ F8 hfs8 HCALM.out (by omega) (by omega) (by simp only; omega) (fun x hx => by
              rcases HO.out with ⟨-, h⟩ | ⟨st', h⟩
              · rw [h] at hx; cases hx
              · rw [h] at hx; injection hx with hx; exact HFIT.out x hx.symm))
            clear hfs8 hF8 hb8 HCR HB7 HR7
            rcases HO.out with ⟨hq0, ho⟩ | ⟨st', ho⟩
            focus
              have HOF : Hid (Calls Tryz.prog 15 #[.pointer (some ⟨p2, 0, none⟩)] w8 fun e w' => e = .returned (.tuple #[.pointer none, .int .i64 13]) ∧ Hid (∃ F', Fsy w' p2 ⟨0, crashL ks 0 fs⟩ F' ∧ Kept F8 w8 w' ∧ Grows w8 F8 F')) := Lib.hid (HOP8.out.mono (by
                intro e w' hpost
                rw [ho] at hpost
                obtain ⟨h1, h2⟩ := hpost.failed
                exact ⟨h1, Lib.hid h2⟩))
              clear ho HO HOP8 hq0 hqe
              go_wp2_with fail
              refine HOF.out.mono ?_
              rintro e w9 ⟨rfl, HH9⟩
              obtain ⟨F9, hfs9, hk9, hg9⟩ := HH9.out
              have HCR2 := Lib.hid (crash_any w9 p2 ⟨0, crashL ks 0 fs⟩ F9 hfs9 (by have := HCALM.out.files; simp only; omega) HCALM.out.short (fun f hf => by have := HCALM.out.data f hf; omega) (.slice none 0 0) [] (Seg.nil _ _) (-1))
              have HB9 : Hid (Below W.heap.size W w9) := Lib.hid (HB8.out.trans (hk9.below HB8.out.size HF8.out))
              have HR9 := Lib.hid (RowK.kept HR8.out hk9 HF8.out HV8.out)
              clear hfs9 hk9 hg9 HH9 HOF HR8 HV8 HF8 HB8
              go_wp2_with fail
              refine HCR2.out.mono ?_
              rintro e w10 ⟨p3, F10, rfl, hfs10, hF10, hb10⟩
              have HB10 : Hid (Below W.heap.size W w10) := Lib.hid (HB9.out.trans (hb10.mono HB9.out.size))
              have HF10 : Hid (∀ k, F10 k → W.heap.size ≤ k) := Lib.hid fun k hk => by have := (hF10 k hk).1; have := HB9.out.size; omega
              have HR10 := Lib.hid (RowK.below (R := EntZ W.heap.size) EntZ.keep HR9.out hb10)
              have HV10 : Hid (∀ k, (Value.slice Am XS.length cm').ownBlock = some k → ¬ F10 k) := Lib.hid fun k e hk => by have := (HR9.out.lt k e).2; have := (hF10 k hk).1; omega
              obtain ⟨st2, ho2⟩ := HO2.out
              have HK10 : Hid (Calls Tryz.prog 15 #[.pointer (some ⟨p3, 0, none⟩)] w10 fun e w' => ∃ px', e = .returned (.tuple #[.pointer (some ⟨px', 0, none⟩), .int .i64 0]) ∧ Hid (∃ st' pp F' H' S', XH W.heap.size W w' px' pp st' g base RS (mkN (XS.take N0)) F' H' S' ∧ RowK 55 3 (EntZ W.heap.size) 0 W.heap.size w' XS (.slice Am XS.length cm') us)) := Lib.hid (by
                refine (ixopen_any w10 p3 ⟨-1, crashL [] 0 (crashL ks 0 fs)⟩ F10 hfs10 (HCALM.out.crash [] 0) (by omega) (by omega) (show (-1 : Int) ≤ 9223372036854775807 by decide) (fun x hx => by rw [ho2] at hx; injection hx with hx; exact HFIT.out x hx.symm)).mono ?_
                intro e w' hop
                rw [ho2] at hop
                exact open_row hop HREP.out HB10.out HF10.out HR10.out HV10.out)
              clear hfs10 hF10 hb10 ho2 HB9 HR9 HB10 HF10 HR10 HV10 HCR2
              go_wp2_with fail
              refine HK10.out.mono ?_
              rintro e wX ⟨pX, rfl, HK⟩
              clear HK10
            rotate_left
            focus
              have HK8 : Hid (Calls Tryz.prog 15 #[.pointer (some ⟨p2, 0, none⟩)] w8 fun e w' => ∃ px', e = .returned (.tuple #[.pointer (some ⟨px', 0, none⟩), .int .i64 0]) ∧ Hid (∃ st' pp F' H' S', XH W.heap.size W w' px' pp st' g base RS (mkN (XS.take N0)) F' H' S' ∧ RowK 55 3 (EntZ W.heap.size) 0 W.heap.size w' XS (.slice Am XS.length cm') us)) := Lib.hid (by
                refine HOP8.out.mono ?_
                intro e w' hop
                rw [ho] at hop
                exact open_row hop HREP.out HB8.out HF8.out HR8.out HV8.out)
              clear ho HO HOP8 hqe HR8 HV8 HF8 HB8
              go_wp2_with fail
              refine HK8.out.mono ?_
              rintro e wX ⟨pX, rfl, HK⟩
              clear HK8
            all_goals
              obtain ⟨stX, pp, FX, HX', SX, hxX, hrX⟩ := HK.out
              have hesl : (mkN (XS.take N0)).length ≤ 60 := by have := mkN_len (XS.take N0); rw [List.length_take] at this; omega
              have HENX := Lib.hid (hxX.entries (Good.replay Good.nil HREP.out) (by omega))
              have HRX := Lib.hid hrX
              have HBX := Lib.hid hxX.below
              clear hxX hrX HK HO2 HFIT HCALM
              go_wp2_with fail
              refine HENX.out.mono ?_
              rintro e w12 ⟨A12, c12, rfl, hen12, hb12⟩
              have HEN12 : Hid (EntsAt (· < w12.heap.size) w12 (.slice A12 (mkN (XS.take N0)).length c12) (mkN (XS.take N0))) := Lib.hid (hen12.keep fun g hg => ⟨hg.2, rfl⟩)
              have HALL := Lib.hid (RowK.entsZ (RowK.below (R := EntZ W.heap.size) EntZ.keep HRX.out hb12))
              have HB12 : Hid (Below W.heap.size W w12) := Lib.hid (HBX.out.trans (hb12.mono HBX.out.size))
              clear hen12 hb12 HENX HRX HBX
              go_wp2
              go_loopw [21] (fun nv W' => ∃ (n : Nat), xa.length ≤ n ∧ n ≤ N0 ∧ nv = .int .i64 n ∧ Hid (Below w12.heap.size w12 W')) (fun nv _ => N0 + 1 - (RowKit.intOf nv).toNat)
              case atStart => exact ⟨xa.length, Nat.le_refl _, HN.out.2, rfl, Lib.hid (Below.refl _ _)⟩
              case round =>
                obtain ⟨n, hn1, hn2, rfl, HBN⟩ := hrel
                have hnx : n ≤ XS.length := by have := HN.out.1; omega
                obtain ⟨hmc, hfr⟩ := EntsAt.front (HALL.out.blw HBN.out) hnx
                have hsl : ∀ w', (Instr.slice 45 (.slice Am XS.length cm') none (some (.int .i64 (n : Int))) none).run Tryz.prog w' = .ok (.slice Am n cm') w' := fun w' => slice_frontE Am XS.length cm' n w' hmc
                have HMO := Lib.hid (model_any (XS.take n) (.slice Am n cm') wr hfr (by rw [List.length_take]; omega))
                have hnl : (n : Int) ≤ (XS.length : Int) := by omega
                clear hfr hmc
                go_wp2_with fail
                refine HMO.out.mono ?_
                rintro e w13 ⟨A13, c13, rfl, hen13, hb13⟩
                have HB13 : Hid (Below w12.heap.size w12 w13) := Lib.hid (HBN.out.trans (hb13.mono HBN.out.size))
                obtain ⟨qs, hqs⟩ : ∃ qs, qs = sameN (mkN (XS.take N0)) (mkN (XS.take n)) := ⟨_, rfl⟩
                have hse := sameEntries_any (mkN (XS.take N0)) (mkN (XS.take n)) _ _ w13 (HEN12.out.blw HB13.out) hen13
                rw [← hqs] at hse
                have HSE := Lib.hid hse
                have HQS : Hid (qs = false → n ≠ N0) := Lib.hid fun h e => by rw [hqs, e, sameN_true rfl] at h; cases h
                clear hen13 hb13 hse hqs HMO
                go_wp2_with fail
                refine HSE.out.mono ?_
                rintro e w14 ⟨rfl, hb14⟩
                have HB14 : Hid (Below w12.heap.size w12 w14) := Lib.hid (HB13.out.trans (hb14.mono HB13.out.size))
                clear hb14 HSE HB13
                cases qs with
                | true =>
                  go_wp2
                  go_ret
                  exact ⟨rfl, HB12.out.trans (HB14.out.mono HB12.out.size)⟩
                | false =>
                  have hne := HQS.out rfl
                  go_wp2
                  go_roundw
                  case rel => exact ⟨n + 1, by omega, by omega, by go_num, HB14⟩
                  case measure => simp [RowKit.intOf]; omega
end Go.Proofs.YtaalbcfpacpgfaaGreat
