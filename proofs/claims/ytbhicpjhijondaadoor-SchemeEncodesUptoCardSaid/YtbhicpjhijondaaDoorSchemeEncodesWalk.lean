/- law14.SchemeEncodes: the walk. -/
import Derived.Test.YtbhicpjhijondaaDoorX14
import Derived.Test.YtbhicpjhijondaaDoorY4
namespace Go.Proofs.YtbhicpjhijondaaDoor
open Go.RowKit Go.Lib Go.Vfs Go.Par Go.Typ Go.Shelf
set_option linter.unusedVariables false
set_option linter.unusedSimpArgs false

theorem segNil (w : World) (B : Nat) : Seg w B (.slice none 0 0) [] := ⟨none, 0, rfl, by simp, by simp [maxLen], fun h => by simp at h⟩
theorem ExOk.row {x : Ex} (h : ExOk x) : RowOk x.ty := RowOk.of_parts (by have := h.1; omega)

set_option maxRecDepth 20000 in
set_option maxHeartbeats 4000000 in
theorem schemeEncodes_walk (lv : Value) (xs : List Ex) (w : World) (hX : ExsAt (· < w.heap.size) w lv xs ∧ ∀ x ∈ xs, ExOk x) (htb : Tb w) :
    Calls Tryd.prog 9 #[lv] w fun e w' => e = .returned (.bool true) ∧ Below w.heap.size w w' := by
  obtain ⟨hX, hok⟩ := hX
  obtain ⟨Al, cl, rfl, hcl, hml⟩ := hX.form
  have HX := Lib.hid hX; have HOK := Lib.hid hok
  have HXR : Hid (∀ x ∈ xs, RowOk x.ty) := Lib.hid fun x hx => (hok x hx).row
  have HAL := Lib.hid (alive14_any w htb)
  clear hX hok hcl hml htb
  go_enter Tryd.func9, Tryd.ntmps9
  go_wp2_with fail
  refine HAL.out.mono ?_
  rintro e w1 ⟨rfl, hb1⟩
  have HB1 := Lib.hid hb1
  have HGR := Lib.hid (great14_any xs _ w1 (HX.out.blw hb1))
  clear hb1 HAL
  go_wp2_with fail
  refine HGR.out.mono ?_
  rintro e w2 ⟨rfl, hb2⟩
  have HB2 : Hid (Below w.heap.size w w2) := Lib.hid (HB1.out.trans (hb2.mono HB1.out.size))
  clear hb2 HGR
  by_cases hL : weighX xs 0 = true
  · rw [hL]
    clear hL
    go_wp2
    go_ret
    exact ⟨rfl, HB2.out⟩
  have hL' : weighX xs 0 = false := by simpa using hL
  rw [hL']
  have hlen := weighX_len xs 0 (Int.le_refl _) (by decide) hL'
  have hxl : xs.length ≤ 5000 := by omega
  clear hL hL' hlen
  have HCE := Lib.hid (copyExports_any xs HXR.out _ w2 (HX.out.blw HB2.out) (by omega))
  go_wp2_with fail
  refine HCE.out.mono ?_
  rintro e w3 ⟨v3, rfl, hx3, hb3⟩
  have HB3 : Hid (Below w.heap.size w w3) := Lib.hid (HB2.out.trans (hb3.mono HB2.out.size))
  have HX3 : Hid (ExsAt (· < w3.heap.size) w3 v3 xs) := Lib.hid (hx3.sub fun g hg => hg.2)
  obtain ⟨A3, c3, rfl, hc3, hm3⟩ := hx3.form
  have HL3 : Hid (ExsAt (· < w3.heap.size) w3 (.slice Al xs.length cl) xs) := Lib.hid (HX.out.blw HB3.out)
  clear hx3 hb3 HCE hc3 hm3
  go_wp2_with fail
  go_loopw [4] (fun iv W => ∃ (k : Nat), k ≤ xs.length ∧ iv = .int .i64 k ∧ Hid (Below w3.heap.size w3 W)) (fun iv _ => xs.length - (RowKit.intOf iv).toNat)
  case atStart => exact ⟨0, by omega, rfl, Lib.hid (Below.refl _ _)⟩
  case round =>
    obtain ⟨k, hk, rfl, HB⟩ := hrel
    by_cases hlt : k < xs.length
    · obtain ⟨b, off, A', c', rfl, hb, hns, ht, x0, x1, x2, x3, x4⟩ := (HX3.out.blw HB.out).arg hlt
      obtain ⟨b', off', A2', c2', rfl, hb', hns', ht', y0, y1, y2, y3, y4⟩ := (HL3.out.blw HB.out).arg hlt
      have hd : Below wr.heap.size wr wr.drew := (Below.refl wr.heap.size _).drew
      have hxk := HOK.out _ (List.getElem_mem hlt)
      have HBD : Hid (Below w3.heap.size w3 wr.drew) := Lib.hid (HB.out.trans (hd.mono HB.out.size))
      have HD := Lib.hid hd
      have HT := Lib.hid ht; have HT' := Lib.hid ht'
      have HXK := Lib.hid hxk
      clear ht ht' hns hns' hd hxk
      generalize xs[k] = X at *
      have HCS : Hid (∀ W, Below wr.heap.size wr W → Calls Tryd.prog 35 #[.agg #[.int .i64 X.ty.kind, .int .i64 X.ty.num, .string X.ty.name, .slice A' X.ty.args.length c']] W fun e w' => e = .returned (.bool (closedT X.ty)) ∧ Below W.heap.size W w') := Lib.hid fun W h => closed_any X.ty _ W (HT.out.blw h)
      have HCR : Hid (∀ W, Below wr.heap.size wr W → Calls Tryd.prog 36 #[.agg #[.int .i64 X.ty.kind, .int .i64 X.ty.num, .string X.ty.name, .slice A2' X.ty.args.length c2']] W fun e w' => e = .returned (.bool (closedT X.ty)) ∧ Below W.heap.size W w') := Lib.hid fun W h => rclosed_any X.ty _ W (HT'.out.blw h) (by have := HXK.out.1; omega) HXK.out.2.1
      have HSK : Hid (∀ W', Below wr.heap.size wr W' → W'.cell? ⟨b, off + k * 5, none⟩ = some (.string X.name) ∧ W'.cell? ⟨b, off + k * 5 + 1, none⟩ = some (.int .i64 X.ty.kind) ∧ W'.cell? ⟨b, off + k * 5 + 2, none⟩ = some (.int .i64 X.ty.num) ∧ W'.cell? ⟨b, off + k * 5 + 3, none⟩ = some (.string X.ty.name) ∧ W'.cell? ⟨b, off + k * 5 + 4, none⟩ = some (.slice A' X.ty.args.length c') ∧
          W'.cell? ⟨b', off' + k * 5, none⟩ = some (.string X.name) ∧ W'.cell? ⟨b', off' + k * 5 + 1, none⟩ = some (.int .i64 X.ty.kind) ∧ W'.cell? ⟨b', off' + k * 5 + 2, none⟩ = some (.int .i64 X.ty.num) ∧ W'.cell? ⟨b', off' + k * 5 + 3, none⟩ = some (.string X.ty.name) ∧ W'.cell? ⟨b', off' + k * 5 + 4, none⟩ = some (.slice A2' X.ty.args.length c2')) :=
        Lib.hid fun W' h => ⟨(h.cell (p := ⟨_, _, none⟩) hb).trans x0, (h.cell (p := ⟨_, _, none⟩) hb).trans x1, (h.cell (p := ⟨_, _, none⟩) hb).trans x2, (h.cell (p := ⟨_, _, none⟩) hb).trans x3, (h.cell (p := ⟨_, _, none⟩) hb).trans x4,
          (h.cell (p := ⟨_, _, none⟩) hb').trans y0, (h.cell (p := ⟨_, _, none⟩) hb').trans y1, (h.cell (p := ⟨_, _, none⟩) hb').trans y2, (h.cell (p := ⟨_, _, none⟩) hb').trans y3, (h.cell (p := ⟨_, _, none⟩) hb').trans y4⟩
      have HZ := Lib.hid HB.out.size
      generalize closedT X.ty = q at *
      clear x0 x1 x2 x3 x4 y0 y1 y2 y3 y4
      go_wp2_with fail
      go_region_held (fun W' : World => W'.cell? ⟨b, off + k * 5, none⟩ = some (.string X.name) ∧ W'.cell? ⟨b, off + k * 5 + 1, none⟩ = some (.int .i64 X.ty.kind) ∧ W'.cell? ⟨b, off + k * 5 + 2, none⟩ = some (.int .i64 X.ty.num) ∧ W'.cell? ⟨b, off + k * 5 + 3, none⟩ = some (.string X.ty.name) ∧ W'.cell? ⟨b, off + k * 5 + 4, none⟩ = some (.slice A' X.ty.args.length c') ∧
          W'.cell? ⟨b', off' + k * 5, none⟩ = some (.string X.name) ∧ W'.cell? ⟨b', off' + k * 5 + 1, none⟩ = some (.int .i64 X.ty.kind) ∧ W'.cell? ⟨b', off' + k * 5 + 2, none⟩ = some (.int .i64 X.ty.num) ∧ W'.cell? ⟨b', off' + k * 5 + 3, none⟩ = some (.string X.ty.name) ∧ W'.cell? ⟨b', off' + k * 5 + 4, none⟩ = some (.slice A2' X.ty.args.length c2'))
        (first | exact HSK.out _ HD.out | exact HSK.out _ HB7.out | exact HSK.out _ HB6.out) (first
          | (go_at_call 35; refine (HCS.out _ HB6.out).mono ?_; rintro e w7 ⟨rfl, hb7⟩; have HB7 := Lib.hid (HB6.out.trans (hb7.mono HB6.out.size)))
          | (go_at_call 36; refine (HCR.out _ HB6.out).mono ?_; rintro e w7 ⟨rfl, hb7⟩; have HB7 := Lib.hid (HB6.out.trans (hb7.mono HB6.out.size)))
          | (go_at_call 35; refine (HCS.out _ HD.out).mono ?_; rintro e w6 ⟨rfl, hb6⟩; have HB6 := Lib.hid (HD.out.trans (hb6.mono HD.out.size)))
          | (go_at_call 36; refine (HCR.out _ HD.out).mono ?_; rintro e w6 ⟨rfl, hb6⟩; have HB6 := Lib.hid (HD.out.trans (hb6.mono HD.out.size))))
      all_goals
        have HB8 : Hid (Below w3.heap.size w3 w7) := Lib.hid (HB.out.trans (HB7.out.mono HZ.out))
        have hqq : (q != q) = false := by cases q <;> rfl
        clear hb6 hb7
        go_wp2
        go_roundw
        case rel => exact ⟨k + 1, by omega, by go_num, HB8⟩
        case measure => simp [RowKit.intOf]; omega
    · obtain ⟨z, hz⟩ : ∃ z : Int, z = if rightX xs = true then 0 else 140 := ⟨_, rfl⟩
      obtain ⟨E, hE⟩ : ∃ E : List UInt8, E = if rightX xs = true then encX xs else [] := ⟨_, rfl⟩
      have HPO : Hid (∀ (W : World) (e : Ending) (w' : World), EncPost xs W e w' → ∃ v', e = .returned (.tuple #[v', .int .i64 z]) ∧ Below W.heap.size W w' ∧ Seg w' w'.heap.size v' (byteCells E)) := Lib.hid (by
        rintro W e w' ⟨v', h1, h2, h3, h4⟩
        refine ⟨v', by rw [h1, hz], h2, ?_⟩
        rw [hE]
        cases hr : rightX xs with
        | true => exact (h3 hr).seg
        | false => rw [h4 hr]; exact segNil _ _)
      have HEN := Lib.hid ((encode_any xs _ wr (HX3.out.blw HB.out)).mono (HPO.out wr))
      have hge : ¬ ((k : Int) < (xs.length : Int)) := by omega
      have HZ3 := HB3.out.size
      have HZ := HB.out.size
      clear hlt hz hE
      go_wp2_with fail
      refine HEN.out.mono ?_
      rintro e w4 ⟨v4, rfl, hb4, hs4⟩
      have HB4 : Hid (Below w3.heap.size w3 w4) := Lib.hid (HB.out.trans (hb4.mono HB.out.size))
      have HSG4 := Lib.hid hs4
      have hz4 := hb4.size
      clear hb4 hs4 HEN
      have HEN := Lib.hid ((rencode14_any xs HOK.out _ w4 (HL3.out.blw HB4.out)).mono (HPO.out w4))
      clear HPO
      go_wp2_with fail
      refine HEN.out.mono ?_
      rintro e w5 ⟨v5, rfl, hb5, hs5⟩
      have HB5 : Hid (Below w3.heap.size w3 w5) := Lib.hid (HB4.out.trans (hb5.mono HB4.out.size))
      have HSG5 := Lib.hid hs5
      have HSG4' : Hid (Seg w5 w5.heap.size v4 (byteCells E)) := Lib.hid ((HSG4.out.below hb5).more hb5.size)
      have hz5 := hb5.size
      clear hb5 hs5 HEN HSG4
      have HD : Hid (Below w5.heap.size w5 w5.drew) := Lib.hid (Below.refl w5.heap.size _).drew
      have HSR : Hid (∀ W, Below w5.heap.size w5 W → Calls Tryd.prog 39 #[.slice A3 xs.length c3] W fun e w' => e = .returned (.bool (rightX xs)) ∧ Below W.heap.size W w') := Lib.hid fun W h => right14_any xs _ W ((HX3.out.blw HB5.out).blw h)
      have HRR : Hid (∀ W, Below w5.heap.size w5 W → Calls Tryd.prog 40 #[.slice Al xs.length cl] W fun e w' => e = .returned (.bool (rightX xs)) ∧ Below W.heap.size W w') := Lib.hid fun W h => rright14_any xs HOK.out _ W ((HL3.out.blw HB5.out).blw h)
      have HSB : Hid (∀ W, Below w5.heap.size w5 W → Calls Tryd.prog 41 #[v4, v5] W fun e w' => e = .returned (.bool true) ∧ Below W.heap.size W w') := Lib.hid fun W h => by
        refine (sameBytes_any _ _ E E w5.heap.size W (HSG4'.out.below h) (HSG5.out.below h)).mono ?_
        rintro e w' ⟨rfl, n, rfl⟩
        exact ⟨by rw [decide_eq_true rfl], below_drewN (Below.refl _ _) _⟩
      have HSX : Hid (∀ W, Below w5.heap.size w5 W → Calls Tryd.prog 42 #[.slice A3 xs.length c3, .slice Al xs.length cl] W fun e w' => e = .returned (.bool true) ∧ Below W.heap.size W w') := Lib.hid fun W h => by
        rw [← sameX_true (rfl : xs = xs)]
        exact sameExports_any xs xs _ _ W ((HX3.out.blw HB5.out).blw h) ((HL3.out.blw HB5.out).blw h)
      generalize rightX xs = q at *
      have hqq : (q == q) = true := by cases q <;> rfl
      have hzz : (z == z) = true := by simp
      have HB6 := Lib.hid (Below.refl w5.heap.size w5)
      clear HD
      go_wp2_with fail
      refine (HSR.out _ HB6.out).mono ?_
      rintro e w6 ⟨rfl, hb6⟩
      have HB7 := Lib.hid (HB6.out.trans (hb6.mono HB6.out.size))
      clear hb6 HSR HB6
      go_wp2_with fail
      refine (HRR.out _ HB7.out).mono ?_
      rintro e w7 ⟨rfl, hb7⟩
      have HB8 := Lib.hid (HB7.out.trans (hb7.mono HB7.out.size))
      clear hb7 HRR HB7
      go_wp2_with fail
      refine (HSB.out _ HB8.out).mono ?_
      rintro e w8 ⟨rfl, hb8⟩
      have HB9 := Lib.hid (HB8.out.trans (hb8.mono HB8.out.size))
      clear hb8 HSB HB8
      go_wp2_with fail
      refine (HSX.out _ HB9.out).mono ?_
      rintro e w9 ⟨rfl, hb9⟩
      have HBA := Lib.hid (HB9.out.trans (hb9.mono HB9.out.size))
      clear hb9 HSX HB9
      have HBF : Hid (Below w.heap.size w w9) := Lib.hid (HB3.out.trans ((HB5.out.trans (HBA.out.mono (Nat.le_trans HZ (Nat.le_trans hz4 hz5)))).mono HZ3))
      go_wp2
      go_ret
      exact ⟨rfl, HBF.out⟩
end Go.Proofs.YtbhicpjhijondaaDoor
