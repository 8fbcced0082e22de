/- The walk of IndexCompacts. -/
import Derived.Test.YtaalbcfpacpgfaaGreatI17
namespace Go.Proofs.YtaalbcfpacpgfaaGreat
open Go.RowKit Go.Lib Go.Vfs Go.Par Go.Typ Go.Shelf Go.Ix
set_option linter.unusedVariables false
set_option linter.unusedSimpArgs false

theorem sumA_step {list : List En} {k A : Nat} (hk : k < list.length) (h : (A : Int) ≤ 90 * wtEs (list.take k)) : ((A + lenA list[k] : Nat) : Int) ≤ 90 * wtEs (list.take (k + 1)) := by
  have := lenA_wt list[k]
  rw [wtEs_take hk]
  omega
theorem findL_rmvE (es : List En) (u : ByteArray) : findL keyE u.data.toList (rmvE es u) = none := by
  unfold rmvE
  cases hf : findL keyE u.data.toList es with
  | none => simpa using hf
  | some e => simp only [Option.isSome_some, if_true]; exact findL_dropL_self _ _
/-- opened behind a crash, where all is synced. -/
theorem XI.reopen {W wr : World} {px p g s c d m : Nat} {base log : List (List UInt8)} {es : List En} {F H S : Nat → Prop} {fs : List File} {lg : Option File} (h : XI W wr px p g base log es s c d m F H S fs lg) (hs : s = (encR g log).length) (hg : g < 4294967296) (h0 : g = 0 → base = []) (hb : base.length < 4294967296) (ks : List Int) :
    ∃ st', openSt ⟨-1, crashL ks 0 fs⟩ = (st', .ok (g, base, log)) := by
  have hl := h.lok
  rw [hs] at hl
  have hpb : ∀ q ∈ base, q.length ≤ 65536 := fun q hq => h.xk.len q (List.mem_append_left _ hq)
  have hpl : ∀ q ∈ log, q.length ≤ 65536 := fun q hq => h.xk.len q (List.mem_append_right _ hq)
  exact h.v3.again ks (bsOf_ok hg hpb hb h0) (fun j => bsOf_crash ks j g base) (fun j => hl.crash ks j) (hl.recs hg hpl).1
/-- a string of a row of strings. -/
theorem str_arg {W : World} {B : Nat} {v : Value} {gs : List ByteArray} (h : Seg W B v (gs.map Value.string)) : ∃ A c, v = .slice A gs.length c ∧ gs.length ≤ c ∧ c ≤ maxLen ∧ ∀ i (hi : i < gs.length), ∃ b off, A = some ⟨b, off, none⟩ ∧ b < B ∧ W.cell? ⟨b, off + i, none⟩ = some (.string gs[i]) := by
  obtain ⟨A, c, e, h1, h2, h3⟩ := h
  rw [List.length_map] at e h1 h3
  refine ⟨A, c, e, h1, h2, fun i hi => ?_⟩
  obtain ⟨b, off, eA, hb, hat⟩ := h3 (by omega)
  refine ⟨b, off, eA, hb, ?_⟩
  rw [hat i hi, List.getElem?_map, List.getElem?_eq_getElem hi]
  rfl

set_option maxRecDepth 20000 in
set_option maxHeartbeats 8000000 in
theorem indexCompacts_walk (va : Value) (list : List En) (vb : Value) (gs : List ByteArray) (W : World) (hA : EntsAt (· < W.heap.size) W va list) (hok : ∀ e ∈ list, (∀ x ∈ e.exs, RowOk x.ty) ∧ e.uri.size ≤ 140737488355328)
    (hB : Seg W W.heap.size vb (gs.map Value.string)) (hgs : ∀ u ∈ gs, u.size ≤ 9223372036854775807) :
    Calls Tryz.prog 6 #[va, vb] W fun e w' => e = .returned (.bool true) ∧ Below W.heap.size W w' := by
  obtain ⟨Aa, ca, rfl, hca, hcm⟩ := hA.form
  obtain ⟨Ab, cb, rfl, hcb, hcbm, hstr⟩ := str_arg hB
  have hla : list.length ≤ 9223372036854775807 := by simp only [maxLen] at hcm; omega
  have hlb : gs.length ≤ 9223372036854775807 := by simp only [maxLen] at hcbm; omega
  have HA := Lib.hid hA; have HOK := Lib.hid hok; have HSTR := Lib.hid hstr; have HGS := Lib.hid hgs
  clear hA hok hB hgs hca hcm hcb hcbm hstr
  go_enter Tryz.func6, Tryz.ntmps6
  go_wp2_with fail
  refine (ixalive_any W).mono ?_
  rintro e w1 ⟨rfl, hb1⟩
  have HB1 := Lib.hid hb1
  have HGR := Lib.hid (great20_any list (fun e he => (HOK.out e he).2) (.slice Aa list.length ca) w1 (HA.out.blw hb1))
  clear hb1
  go_wp2_with fail
  refine HGR.out.mono ?_
  rintro e w2 ⟨q, rfl, hq, hb2⟩
  have HB2 : Hid (Below W.heap.size W w2) := Lib.hid (HB1.out.trans (hb2.mono HB1.out.size))
  clear hb2 HGR
  by_cases hst : q = true ∨ 30 < list.length ∨ 30 < gs.length
  · clear hq
    cases q with
    | true =>
      go_wp2
      go_ret
      exact ⟨rfl, HB2.out⟩
    | false =>
      by_cases h30 : 30 < list.length
      · have g30 : (30 : Int) < (list.length : Int) := by omega
        clear hst
        go_wp2
        go_ret
        exact ⟨rfl, HB2.out⟩
      · have g30 : ¬ (30 : Int) < (list.length : Int) := by omega
        have g31 : (30 : Int) < (gs.length : Int) := by
          rcases hst with h | h | h
          · cases h
          · omega
          · omega
        clear hst
        go_wp2
        go_ret
        exact ⟨rfl, HB2.out⟩
  have hq0 : q = false := by cases q with
    | true => exact absurd (.inl rfl) hst
    | false => rfl
  subst hq0
  have hl30 : list.length ≤ 30 := Nat.le_of_not_lt fun h => hst (.inr (.inl h))
  have hg30 : gs.length ≤ 30 := Nat.le_of_not_lt fun h => hst (.inr (.inr h))
  have HWT := Lib.hid (hq (by omega) rfl)
  have g30 : ¬ (30 : Int) < (list.length : Int) := by omega
  have g31 : ¬ (30 : Int) < (gs.length : Int) := by omega
  clear hq hst
  go_wp2_with fail
  refine (new_fs (-1) w2).mono ?_
  rintro e w3 ⟨p, F, rfl, hfs, hF, hb3⟩
  have hz2 := HB2.out.size
  have hz3 := hb3.size
  have HOP := Lib.hid (ixopen_any w3 p ⟨-1, []⟩ F hfs Calm.nil (by omega) (by omega) (by decide) (fun x hx => by rw [open_new] at hx; injection hx with hx; subst hx; exact ⟨by decide, fun l hl => (by cases hl)⟩))
  have HB3 : Hid (Below W.heap.size W w3) := Lib.hid (HB2.out.trans (hb3.mono hz2))
  have HF := Lib.hid (fun k hk => Nat.le_trans hz2 (hF k hk).1 : ∀ k, F k → W.heap.size ≤ k)
  clear hfs hF hb3
  go_wp2_with fail
  refine HOP.out.mono ?_
  rintro e w4 hop
  rw [open_new] at hop
  obtain ⟨px, F4, H4, S4, rfl, hx4, -⟩ := hop.held (es := []) rfl HB3.out (Nat.le_refl _) HF.out
  have HX4 := Lib.hid hx4.xi
  clear hop hx4 HOP HF HB3 g30 g31 HB1 HB2 hz2 hz3
  go_wp2
  go_loopw [8] (fun iv W' => ∃ (k A : Nat) (log : List (List UInt8)) (es : List En) (F H S : Nat → Prop) (fs : List File) (lg : Option File), k ≤ list.length ∧ iv = .int .i64 k ∧ Hid (XI W W' px p 0 [] log es 0 k (12 * k + A) A F H S fs lg) ∧ Hid ((A : Int) ≤ 90 * wtEs (list.take k))) (fun iv _ => list.length - (RowKit.intOf iv).toNat)
  case atStart => exact ⟨0, 0, [], [], F4, H4, S4, [], none, by omega, rfl, Lib.hid (HX4.out.mono (by omega) (by omega) (by omega)), Lib.hid (by simp [wtEs])⟩
  case round =>
    obtain ⟨k, A, log, es, F, H, S, fs, lg, hk, rfl, HX, HAW⟩ := hrel
    have hzw := HX.out.xh.below.size
    by_cases hlt : k < list.length
    · obtain ⟨b, off, A', c', rfl, hb, hns, ht, x0, x1, x2⟩ := (HA.out.keep (S' := (· < wr.heap.size)) fun g (hg : g < W.heap.size) => ⟨by show g < wr.heap.size; omega, HX.out.xh.below.block g hg⟩).arg hlt
      have hexl := light_exs HWT.out (List.getElem_mem hlt)
      have HCP := Lib.hid (copied_any20 list[k] ⟨(HOK.out _ (List.getElem_mem hlt)).1, by omega⟩ (.agg #[.string list[k].uri, .int .i64 list[k].ver, .slice A' list[k].exs.length c']) wr ⟨A', c', rfl, hns, ht⟩)
      have HSA := Lib.hid (sumA_step hlt HAW.out)
      have HAL : Hid (A ≤ 270000) := Lib.hid (by have := HAW.out; have := wtEs_take_le list k; have := HWT.out; omega)
      generalize list[k] = E at *
      clear ht hexl
      go_wp2_with fail
      refine HCP.out.mono ?_
      rintro e w5 ⟨A5, c5, rfl, hx5, hb5⟩
      have hpu := HX.out.publish hb5 (.agg #[.string E.uri, .int .i64 E.ver, .slice A5 E.exs.length c5]) E ⟨A5, c5, rfl, hns, hx5⟩ (by omega) (by have := HAL.out; omega)
      have HPU := Lib.hid hpu
      clear hpu hx5 hb5 hns x0 x1 x2 HCP
      go_wp2_with fail
      refine HPU.out.mono ?_
      rintro e w6 ⟨r, rfl, -, HN⟩
      clear HPU
      go_wp2
      go_roundw
      case rel =>
        obtain ⟨F', H', S', fs', lg', hx', -⟩ := HN.out
        exact ⟨k + 1, A + lenA E, pubL log E, pubE es E, F', H', S', fs', lg', by omega, by go_num, Lib.hid (hx'.mono (by omega) (by omega) (by omega)), HSA⟩
      case measure => simp [RowKit.intOf]; omega
    · have hkl : k = list.length := by omega
      have HAL : Hid (A ≤ 270000) := Lib.hid (by have := HAW.out; have := wtEs_take_le list k; have := HWT.out; omega)
      have HX0 := Lib.hid (HX.out.mono (c' := 30) (d' := 300000) (m' := 270000) (by omega) (by have := HAL.out; omega) (by have := HAL.out; omega))
      clear HX HAW
      subst hkl
      go_wp2
      go_loopw [9] (fun iv W' => ∃ (k : Nat) (log : List (List UInt8)) (es : List En) (F H S : Nat → Prop) (fs : List File) (lg : Option File), k ≤ gs.length ∧ iv = .int .i64 k ∧ Hid (XI W W' px p 0 [] log es 0 (30 + k) (300000 + 100 * k) 270000 F H S fs lg)) (fun iv _ => gs.length - (RowKit.intOf iv).toNat)
      case atStart => exact ⟨0, log, es, F, H, S, fs, lg, by omega, rfl, HX0⟩
      case round =>
        clear HX0 HAL
        obtain ⟨k, log, es, F, H, S, fs, lg, hk, rfl, HX⟩ := hrel
        have hzw := HX.out.xh.below.size
        by_cases hlt : k < gs.length
        · obtain ⟨b, off, rfl, hb, hcell⟩ := HSTR.out k hlt
          have hu := HGS.out gs[k] (List.getElem_mem hlt)
          have hcw := (HX.out.xh.below.cell (p := ⟨b, off + k, none⟩) hb).trans hcell
          have HRM := Lib.hid (HX.out.remove gs[k] hu (by omega) (by omega))
          generalize gs[k] = u at *
          clear hcell
          go_wp2_with fail
          refine HRM.out.mono ?_
          rintro e w5 ⟨r, rfl, HN⟩
          obtain ⟨F', H', S', fs', lg', hx'⟩ := HN.out
          have hcw5 := (hx'.xh.below.cell (p := ⟨b, off + k, none⟩) hb).trans ((HX.out.xh.below.cell (p := ⟨b, off + k, none⟩) hb).symm.trans hcw)
          have HX5 := Lib.hid hx'
          have HFI := Lib.hid (hx'.xh.find hx'.xk.good u hu)
          have HNF : Hid (findL keyE u.data.toList (rmvE es u) = none) := Lib.hid (findL_rmvE es u)
          clear hx' HN HRM hcw
          go_wp2_with fail
          refine HFI.out.mono ?_
          rintro e w6 ⟨A6, c6, he6, -, hb6⟩
          have he6' : e = .returned (.tuple #[.agg #[.string ⟨#[]⟩, .int .i64 0, .slice A6 0 c6], .bool false]) := by
            rw [he6]
            unfold foundE enV
            rw [HNF.out]
            rfl
          subst he6'
          have HX6 := Lib.hid (HX5.out.go hb6)
          obtain ⟨o, ho⟩ : ∃ o : Obj, o = .cells #[.string ⟨#[]⟩, .int .i64 0, .slice A6 0 c6] 55 := ⟨_, rfl⟩
          have HX7 : Hid (XI W (w6.alloc o) px p 0 [] (rmvL log es u) (rmvE es u) 0 (30 + k + 1) (300000 + 100 * k + 100) 270000 F' H' S' fs' lg') := Lib.hid (HX6.out.go ((Below.refl _ _).alloc (Nat.le_refl _) _))
          rw [ho] at HX7
          clear he6 hb6 HFI HX5 hcw5 ho
          go_wp2
          go_roundw
          case rel =>
            exact ⟨k + 1, rmvL log es u, rmvE es u, F', H', S', fs', lg', by omega, by go_num, HX7⟩
          case measure => simp [RowKit.intOf]; omega
        · have hkl : k = gs.length := by omega
          have HX0 := Lib.hid (HX.out.mono (c' := 60) (d' := 400000) (m' := 270000) (by omega) (by omega) (by omega))
          have HES := Lib.hid (HX0.out.xh.entries HX0.out.xk.good (by have := HX0.out.esc; omega))
          clear HX hkl
          go_wp2_with fail
          refine HES.out.mono ?_
          rintro e w5 ⟨A5, c5, rfl, hbe, hb5⟩
          have hx5 := HX0.out.go hb5
          have HLT := Lib.hid HX0.out.xh.xf.lt
          have HBE := Lib.hid hbe
          have hz5 := hb5.size
          have HCO := Lib.hid (hx5.compact (by omega) (by omega) (by omega) (by omega))
          have hell : es.length ≤ 60 := HX0.out.esc
          clear hbe hb5 HES hx5
          go_wp2_with fail
          refine HCO.out.mono ?_
          rintro e w6 ⟨rfl, HN⟩
          obtain ⟨F6, H6, S6, fs6, lg6, hx6, hk6, -⟩ := HN.out
          have HX6 := Lib.hid hx6
          have hbe6 : EntsAt (fun g => wr.heap.size ≤ g ∧ g < w5.heap.size) w6 (.slice A5 es.length c5) es := HBE.out.keep fun g hg => ⟨hg, hk6.block g hg.2 (fun h => by
            rcases h with h | h
            · have := HLT.out g (.inl h); omega
            · have := HLT.out g (.inr (.inl h)); omega)⟩
          have HBE6 := Lib.hid hbe6
          have HZ6 := Lib.hid hk6.size
          clear hx6 hk6 hbe6 HN HCO HBE HLT
          go_wp2_with fail
          refine (ixlog_any _ _ _ _ _ _ _ _ _ _ _ HX6.out.xh.xf).mono ?_
          rintro e w7 ⟨he, n7, rfl⟩
          replace he : e = .returned (.int .i64 0) := he
          subst he
          have HX7 := Lib.hid (HX6.out.go (below_drewN (Below.refl _ w6) n7))
          have HES2 := Lib.hid (HX7.out.xh.entries HX7.out.xk.good (by omega))
          clear HX6
          go_wp2_with fail
          refine HES2.out.mono ?_
          rintro e w8 ⟨A8, c8, rfl, hen8, hb8⟩
          have hz8 := hb8.size
          have hz6 := HZ6.out
          have hz7 : w6.heap.size ≤ w8.heap.size := hz8
          have hb8' : Below w6.heap.size w6 w8 := (below_drewN (Below.refl _ w6) n7).trans hb8
          have HBE8 : Hid (EntsAt (· < w8.heap.size) w8 (.slice A5 es.length c5) es) := Lib.hid (HBE6.out.keep fun g hg => ⟨by show g < w8.heap.size; omega, hb8'.block g (by omega)⟩)
          have HSE := Lib.hid (sameEntries_any es es (.slice A8 es.length c8) (.slice A5 es.length c5) w8 (hen8.keep fun g hg => ⟨hg.2, rfl⟩) HBE8.out)
          have HX8 := Lib.hid (HX7.out.go hb8)
          clear hen8 hb8 hb8' HES2 HX7 HBE6
          go_wp2_with fail
          refine HSE.out.mono ?_
          rintro e w9 ⟨he9, hb9⟩
          rw [sameN_true rfl] at he9
          subst he9
          have hx9 := HX8.out.go hb9
          have hz9 := hb9.size
          have HBE9 : Hid (EntsAt (· < w9.heap.size) w9 (.slice A5 es.length c5) es) := Lib.hid (HBE8.out.blw hb9)
          have HX9 := Lib.hid hx9
          obtain ⟨pj9, mb9, xs9, G9, hj9, -⟩ := hx9.xh.xf
          have HCR := Lib.hid (crash_any w9 p ⟨-1, fs6⟩ F6 hj9.fs (by have := hx9.calm.files; simp only; omega) hx9.calm.short (fun f hf => by have := hx9.calm.data f hf; omega) (.slice none 0 0) [] (Seg.nil _ _) (-1))
          clear hx9 hj9 hb9 HSE HX8 HBE8
          go_wp2_with fail
          refine HCR.out.mono ?_
          rintro e w10 ⟨p2, F10, rfl, hfs10, hF10, hb10⟩
          have hz10 := hb10.size
          have HBE10 : Hid (EntsAt (fun g => g < w10.heap.size ∧ ¬ F10 g) w10 (.slice A5 es.length c5) es) := Lib.hid (HBE9.out.keep fun g (hg : g < w9.heap.size) => ⟨⟨by omega, fun h => by have := (hF10 g h).1; omega⟩, hb10.block g hg⟩)
          obtain ⟨st', hst'⟩ := HX9.out.reopen rfl (by omega) (fun h => by omega) (by rw [List.length_map]; omega) []
          have hbl9 := HX9.out.xh.below
          have HB10 : Hid (Below W.heap.size W w10) := Lib.hid (hbl9.trans (hb10.mono hbl9.size))
          have hF10' : ∀ k, F10 k → W.heap.size ≤ k := fun k hk => by have := (hF10 k hk).1; have := hbl9.size; omega
          have HXK := Lib.hid HX9.out.xk
          have HOP2 := Lib.hid (ixopen_any w10 p2 (stCrash ⟨-1, fs6⟩ [] (-1)) F10 hfs10 (HX9.out.calm.crash [] 0) (by omega) (by omega) (show (-1 : Int) ≤ 9223372036854775807 by decide) (fun x hx => by
            unfold stCrash at hx
            rw [hst'] at hx
            injection hx with hx
            subst hx
            refine ⟨by simp only [List.length_map, List.length_nil]; omega, fun l hl => by have := HXK.out.len l hl; omega⟩))
          have HST : Hid (openSt (stCrash ⟨-1, fs6⟩ [] (-1)) = (st', .ok (0 + 1, es.map recE, []))) := Lib.hid hst'
          have HF10 := Lib.hid hF10'
          clear hfs10 hF10 hF10' hb10 HCR HX9 HBE9 hst' hbl9
          go_wp2_with fail
          refine HOP2.out.mono ?_
          rintro e w11 hop
          rw [HST.out] at hop
          obtain ⟨px2, F11, H11, S11, rfl, hx11, -, hk11, -⟩ := hop.held HXK.out.rep HB10.out (Nat.le_refl _) HF10.out
          have hz11 := hk11.size
          have HX11 := Lib.hid hx11
          have HBE11 : Hid (EntsAt (· < w11.heap.size) w11 (.slice A5 es.length c5) es) := Lib.hid (HBE10.out.keep fun g (hg : g < w10.heap.size ∧ ¬ F10 g) => ⟨by show g < w11.heap.size; omega, hk11.block g hg.1 hg.2⟩)
          have HES11 := Lib.hid (hx11.entries HXK.out.good (by omega))
          clear hop hx11 hk11 HBE10 HOP2 HB10 HF10 HST
          go_wp2_with fail
          refine HES11.out.mono ?_
          rintro e w12 ⟨A12, c12, rfl, hen12, hb12⟩
          have hz12 := hb12.size
          have HSE2 := Lib.hid (sameEntries_any es es (.slice A12 es.length c12) (.slice A5 es.length c5) w12 (hen12.keep fun g hg => ⟨hg.2, rfl⟩) (HBE11.out.blw hb12))
          have HX12 := Lib.hid (HX11.out.below.trans (hb12.mono HX11.out.below.size))
          clear hen12 hb12 HES11 HBE11 HX11
          go_wp2_with fail
          refine HSE2.out.mono ?_
          rintro e w13 ⟨he13, hb13⟩
          rw [sameN_true rfl] at he13
          subst he13
          have HB13 := Lib.hid (HX12.out.trans (hb13.mono HX12.out.size))
          clear hb13 HSE2 HX12
          go_wp2
          go_ret
          exact ⟨rfl, HB13.out⟩
end Go.Proofs.YtaalbcfpacpgfaaGreat

