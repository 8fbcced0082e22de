/- SameExports; law14.great. -/
import Derived.Test.YtbhicpjhijondaaDoorX4
namespace Go.Typ
open Classical in
/-- are two lists of exports the same? -/
noncomputable def sameX (xs ys : List Ex) : Bool := decide (xs = ys)
theorem sameX_true {xs ys : List Ex} (h : xs = ys) : sameX xs ys = true := by simp [sameX, h]
theorem sameX_false {xs ys : List Ex} (h : ¬ xs = ys) : sameX xs ys = false := by simp [sameX, h]
theorem sameX_iff {xs ys : List Ex} : sameX xs ys = true ↔ xs = ys := by simp [sameX]
theorem getElem_ne {xs ys : List Ex} {k : Nat} (h1 : k < xs.length) (h2 : k < ys.length) (h : ¬ xs[k] = ys[k]) : ¬ xs = ys := fun e => h (by subst e; rfl)
end Go.Typ
namespace Go.Proofs.YtbhicpjhijondaaDoor
open Go.RowKit Go.Lib Go.Vfs Go.Par Go.Typ Go.Shelf
set_option linter.unusedVariables false
set_option linter.unusedSimpArgs false

set_option maxRecDepth 20000 in
set_option maxHeartbeats 4000000 in
theorem sameExports_any (xs ys : List Ex) (u v : Value) (w : World) (hX : ExsAt (· < w.heap.size) w u xs) (hY : ExsAt (· < w.heap.size) w v ys) :
    Calls Tryd.prog 42 #[u, v] w fun e w' => e = .returned (.bool (sameX xs ys)) ∧ Below w.heap.size w w' := by
  obtain ⟨A, c, rfl, hc, hm⟩ := hX.form
  obtain ⟨A2, c2, rfl, hc2, hm2⟩ := hY.form
  have HX := Lib.hid hX; have HY := Lib.hid hY
  have hla : xs.length ≤ 9223372036854775807 := by simp only [maxLen] at hm; omega
  have hlb : ys.length ≤ 9223372036854775807 := by simp only [maxLen] at hm2; omega
  clear hX hc hm hY hc2 hm2
  by_cases hl : xs.length = ys.length
  rotate_left
  · have HR : Hid (sameX xs ys = false) := Lib.hid (sameX_false fun e => hl (by rw [e]))
    have h4 : ((xs.length : Int) != (ys.length : Int)) = true := by simp; omega
    clear hl
    go_enter Tryd.func42, Tryd.ntmps42
    go_wp2
    go_ret
    rw [HR.out]
    exact ⟨rfl, Below.refl _ _⟩
  have h4 : ((xs.length : Int) != (ys.length : Int)) = false := by simp [hl]
  have HL := Lib.hid hl
  clear hl
  go_enter Tryd.func42, Tryd.ntmps42
  go_wp2
  clear h4
  go_loopw [5] (fun iv W => ∃ (k : Nat), k ≤ xs.length ∧ iv = .int .i64 k ∧ Hid (xs.take k = ys.take k) ∧ Hid (Below w.heap.size w W)) (fun iv _ => xs.length - (RowKit.intOf iv).toNat)
  case atStart => exact ⟨0, by omega, rfl, Lib.hid (by simp), Lib.hid (Below.refl _ _)⟩
  case round =>
    obtain ⟨k, hk, rfl, HA, HB⟩ := hrel
    by_cases hlt : k < xs.length
    · have hlt' : k < ys.length := by have := HL.out; omega
      obtain ⟨b, off, A', c', rfl, hb, hns, ht, x0, x1, x2, x3, x4⟩ := (HX.out.blw HB.out).arg hlt
      obtain ⟨b', off', A2', c2', rfl, hb', hns', ht', y0, y1, y2, y3, y4⟩ := (HY.out.blw HB.out).arg hlt'
      have hd : Below wr.heap.size wr wr.drew := (Below.refl wr.heap.size _).drew
      have hca := sameType_any xs[k].ty ys[k].ty _ _ wr.drew (ht.blw hd) (ht'.blw hd)
      have HNE : Hid (¬ xs[k] = ys[k] → sameX xs ys = false) := Lib.hid fun h => sameX_false (getElem_ne hlt hlt' h)
      have HTK : Hid (xs[k] = ys[k] → xs.take (k + 1) = ys.take (k + 1)) := Lib.hid fun h => by rw [List.take_succ_eq_append_getElem hlt, List.take_succ_eq_append_getElem hlt', HA.out, h]
      have HBD : Hid (Below w.heap.size w wr.drew) := Lib.hid (HB.out.trans (hd.mono HB.out.size))
      have HD := Lib.hid hd
      clear ht ht' hns hns' hd
      generalize xs[k] = X at *
      generalize ys[k] = Y at *
      obtain ⟨q, hq⟩ : ∃ q, q = same X.ty Y.ty := ⟨_, rfl⟩
      rw [← hq] at hca
      have HQ := Lib.hid hq
      unfold tyV at hca
      have HCA := Lib.hid hca
      have HSK : Hid (∀ W', Below wr.heap.size wr W' → W'.cell? ⟨b, off + k * 5, none⟩ = some (.string X.name) ∧ W'.cell? ⟨b, off + k * 5 + 1, none⟩ = some (.int .i64 X.ty.kind) ∧ W'.cell? ⟨b, off + k * 5 + 2, none⟩ = some (.int .i64 X.ty.num) ∧ W'.cell? ⟨b, off + k * 5 + 3, none⟩ = some (.string X.ty.name) ∧ W'.cell? ⟨b, off + k * 5 + 4, none⟩ = some (.slice A' X.ty.args.length c') ∧
          W'.cell? ⟨b', off' + k * 5, none⟩ = some (.string Y.name) ∧ W'.cell? ⟨b', off' + k * 5 + 1, none⟩ = some (.int .i64 Y.ty.kind) ∧ W'.cell? ⟨b', off' + k * 5 + 2, none⟩ = some (.int .i64 Y.ty.num) ∧ W'.cell? ⟨b', off' + k * 5 + 3, none⟩ = some (.string Y.ty.name) ∧ W'.cell? ⟨b', off' + k * 5 + 4, none⟩ = some (.slice A2' Y.ty.args.length c2')) :=
        Lib.hid fun W' h => ⟨(h.cell (p := ⟨_, _, none⟩) hb).trans x0, (h.cell (p := ⟨_, _, none⟩) hb).trans x1, (h.cell (p := ⟨_, _, none⟩) hb).trans x2, (h.cell (p := ⟨_, _, none⟩) hb).trans x3, (h.cell (p := ⟨_, _, none⟩) hb).trans x4,
          (h.cell (p := ⟨_, _, none⟩) hb').trans y0, (h.cell (p := ⟨_, _, none⟩) hb').trans y1, (h.cell (p := ⟨_, _, none⟩) hb').trans y2, (h.cell (p := ⟨_, _, none⟩) hb').trans y3, (h.cell (p := ⟨_, _, none⟩) hb').trans y4⟩
      clear hca hq
      by_cases hn : X.name = Y.name
      rotate_left
      · have HR : Hid (sameX xs ys = false) := Lib.hid (HNE.out fun e => hn (by rw [e]))
        have hne : (X.name.toList == Y.name.toList) = false := beqS_ne hn
        clear hn
        go_wp2_with fail
        go_quiet (fail)
        go_wp2
        go_ret
        rw [HR.out]
        exact ⟨rfl, below_drewN HB.out _⟩
      have hne : (X.name.toList == Y.name.toList) = true := (beqS _ _).2 hn
      have HN := Lib.hid hn
      clear hn
      go_wp2_with fail
      go_region_held (fun W' => W'.cell? ⟨b, off + k * 5, none⟩ = some (.string X.name) ∧ W'.cell? ⟨b, off + k * 5 + 1, none⟩ = some (.int .i64 X.ty.kind) ∧ W'.cell? ⟨b, off + k * 5 + 2, none⟩ = some (.int .i64 X.ty.num) ∧ W'.cell? ⟨b, off + k * 5 + 3, none⟩ = some (.string X.ty.name) ∧ W'.cell? ⟨b, off + k * 5 + 4, none⟩ = some (.slice A' X.ty.args.length c') ∧
          W'.cell? ⟨b', off' + k * 5, none⟩ = some (.string Y.name) ∧ W'.cell? ⟨b', off' + k * 5 + 1, none⟩ = some (.int .i64 Y.ty.kind) ∧ W'.cell? ⟨b', off' + k * 5 + 2, none⟩ = some (.int .i64 Y.ty.num) ∧ W'.cell? ⟨b', off' + k * 5 + 3, none⟩ = some (.string Y.ty.name) ∧ W'.cell? ⟨b', off' + k * 5 + 4, none⟩ = some (.slice A2' Y.ty.args.length c2'))
        (first | exact HSK.out _ HD.out | exact HSK.out _ (by assumption)) ((go_at_call 21; refine HCA.out.mono ?_; rintro e w2 ⟨rfl, hb2⟩; have HB2 := HD.out.trans (hb2.mono HD.out.size)))
      have HB3 : Hid (Below w.heap.size w w2) := Lib.hid (HB.out.trans (HB2.mono HB.out.size))
      cases q
      · have HR : Hid (sameX xs ys = false) := Lib.hid (HNE.out fun e => by have h := HQ.out; rw [e, same_true rfl] at h; cases h)
        go_wp2
        go_ret
        rw [HR.out]
        exact ⟨rfl, HB3.out⟩
      · have HXY := Lib.hid (HTK.out (Ex.ext' HN.out (same_iff.1 HQ.out.symm)))
        go_wp2
        go_roundw
        case rel => exact ⟨k + 1, by omega, by go_num, HXY, HB3⟩
        case measure => simp [RowKit.intOf]; omega
    · have hkl : k = xs.length := by omega
      have HR : Hid (sameX xs ys = true) := Lib.hid (sameX_true (by
        have h := HA.out
        rw [hkl, List.take_length] at h
        rw [h, HL.out, List.take_length]))
      go_wp2
      go_ret
      rw [HR.out]
      exact ⟨rfl, HB.out⟩

/-- are exports too many, or too heavy? -/
def weighX : List Ex → Int → Bool
  | [], _ => false
  | x :: xs, n => if 5000 < n + (1 + (x.name.size : Int) / 8 + weightT x.ty 1000) then true else weighX xs (n + (1 + (x.name.size : Int) / 8 + weightT x.ty 1000))
theorem weighX_step {xs : List Ex} {k : Nat} (hk : k < xs.length) (n : Int) : weighX (xs.drop k) n = if 5000 < n + (1 + (xs[k].name.size : Int) / 8 + weightT xs[k].ty 1000) then true else weighX (xs.drop (k + 1)) (n + (1 + (xs[k].name.size : Int) / 8 + weightT xs[k].ty 1000)) := by
  rw [List.drop_eq_getElem_cons hk, weighX]

theorem wrapI (x : Int) (h0 : -9223372036854775808 ≤ x) (h1 : x ≤ 9223372036854775807) : IntKind.i64.wrap x = x := by
  unfold IntKind.wrap
  simp [IntKind.signed, IntKind.bits]
  omega

set_option maxRecDepth 20000 in
set_option maxHeartbeats 4000000 in
theorem great14_any (xs : List Ex) (v : Value) (w : World) (hX : ExsAt (· < w.heap.size) w v xs) : Calls Tryd.prog 33 #[v] w fun e w' => e = .returned (.bool (weighX xs 0)) ∧ Below w.heap.size w w' := by
  obtain ⟨A, c, rfl, hc, hm⟩ := hX.form
  have HX := Lib.hid hX
  have hla : xs.length ≤ 9223372036854775807 := by simp only [maxLen] at hm; omega
  clear hX hc hm
  go_enter Tryd.func33, Tryd.ntmps33
  go_wp2
  go_loopw [3, 4] (fun nv iv W => ∃ (k : Nat) (n : Int), k ≤ xs.length ∧ nv = .int .i64 n ∧ iv = .int .i64 k ∧ (0 ≤ n ∧ n ≤ 5000) ∧ Hid (weighX (xs.drop k) n = weighX xs 0) ∧ Hid (Below w.heap.size w W)) (fun _ iv _ => xs.length - (RowKit.intOf iv).toNat)
  case atStart => exact ⟨0, 0, by omega, rfl, rfl, ⟨by omega, by omega⟩, Lib.hid (by rw [List.drop_zero]), Lib.hid (Below.refl _ _)⟩
  case round =>
    obtain ⟨k, n, hk, rfl, rfl, hn, HW, HB⟩ := hrel
    by_cases hlt : k < xs.length
    · obtain ⟨b, off, A', c', rfl, hb, hns, ht, x0, x1, x2, x3, x4⟩ := (HX.out.blw HB.out).arg hlt
      have hd : Below wr.heap.size wr wr.drew := (Below.refl wr.heap.size _).drew
      have hca := weight_any xs[k].ty _ 1000 wr.drew (ht.blw hd) (by decide) (by decide)
      have hbd := weightT_bound ht.fit 1000 (by decide)
      have hst := HW.out
      rw [weighX_step hlt] at hst
      have HD := Lib.hid hd
      clear ht hd
      generalize xs[k] = X at *
      obtain ⟨q, hq⟩ : ∃ q : Int, q = (X.name.size : Int) / 8 := ⟨_, rfl⟩
      obtain ⟨z, hz⟩ : ∃ z : Int, z = weightT X.ty 1000 := ⟨_, rfl⟩
      rw [← hz] at hca hbd hst
      rw [← hq] at hst
      have hqb : 0 ≤ q ∧ q ≤ 1152921504606846976 := by omega
      have hquo : (X.name.size : Int).tdiv 8 = q := by rw [hq, Int.tdiv_eq_ediv_of_nonneg (by omega)]
      have HST := Lib.hid hst
      unfold tyV at hca
      have HCA := Lib.hid hca
      have HSK : Hid (∀ W', Below wr.heap.size wr W' → W'.cell? ⟨b, off + k * 5, none⟩ = some (.string X.name) ∧ W'.cell? ⟨b, off + k * 5 + 1, none⟩ = some (.int .i64 X.ty.kind) ∧ W'.cell? ⟨b, off + k * 5 + 2, none⟩ = some (.int .i64 X.ty.num) ∧ W'.cell? ⟨b, off + k * 5 + 3, none⟩ = some (.string X.ty.name) ∧ W'.cell? ⟨b, off + k * 5 + 4, none⟩ = some (.slice A' X.ty.args.length c')) :=
        Lib.hid fun W' h => ⟨(h.cell (p := ⟨_, _, none⟩) hb).trans x0, (h.cell (p := ⟨_, _, none⟩) hb).trans x1, (h.cell (p := ⟨_, _, none⟩) hb).trans x2, (h.cell (p := ⟨_, _, none⟩) hb).trans x3, (h.cell (p := ⟨_, _, none⟩) hb).trans x4⟩
      have hw1 : IntKind.i64.wrap q = q := wrapI _ (by omega) (by omega)
      have hw2 : IntKind.i64.wrap (1 + q) = 1 + q := wrapI _ (by omega) (by omega)
      have hw3 : IntKind.i64.wrap (1 + q + z) = 1 + q + z := wrapI _ (by omega) (by omega)
      have hw4 : IntKind.i64.wrap (n + (1 + q + z)) = n + (1 + q + z) := wrapI _ (by omega) (by omega)
      clear hca hst hq hz hns
      go_wp2_with fail
      go_region_held (fun W' => W'.cell? ⟨b, off + k * 5, none⟩ = some (.string X.name) ∧ W'.cell? ⟨b, off + k * 5 + 1, none⟩ = some (.int .i64 X.ty.kind) ∧ W'.cell? ⟨b, off + k * 5 + 2, none⟩ = some (.int .i64 X.ty.num) ∧ W'.cell? ⟨b, off + k * 5 + 3, none⟩ = some (.string X.ty.name) ∧ W'.cell? ⟨b, off + k * 5 + 4, none⟩ = some (.slice A' X.ty.args.length c'))
        (first | exact HSK.out _ HD.out | exact HSK.out _ (by assumption)) ((go_at_call 25; refine HCA.out.mono ?_; rintro e w2 ⟨rfl, hb2⟩; have HB2 := HD.out.trans (hb2.mono HD.out.size)))
      have HB3 : Hid (Below w.heap.size w w2) := Lib.hid (HB.out.trans (HB2.mono HB.out.size))
      obtain ⟨n2, hn2⟩ : ∃ n2, n2 = n + (1 + q + z) := ⟨_, rfl⟩
      have hst := HST.out
      rw [← hn2] at hst ⊢
      have hn3 : 0 ≤ n2 := by omega
      by_cases hg : 5000 < n2
      · rw [if_pos hg] at hst
        have HE := Lib.hid hst
        clear hst hn2 hw1 hw2 hw3 hw4 hquo
        go_wp2
        go_ret
        rw [← HE.out]
        exact ⟨rfl, HB3.out⟩
      · rw [if_neg hg] at hst
        have HE := Lib.hid hst
        clear hst hn2 hw1 hw2 hw3 hw4 hquo
        go_wp2
        go_roundw
        case rel => exact ⟨k + 1, n2, by omega, rfl, by go_num, ⟨hn3, by omega⟩, HE, HB3⟩
        case measure => simp [RowKit.intOf]; omega
    · have hkl : k = xs.length := by omega
      have hst := HW.out
      rw [hkl, List.drop_length, weighX] at hst
      have HE := Lib.hid hst
      clear hst
      go_wp2
      go_ret
      rw [← HE.out]
      exact ⟨rfl, HB.out⟩
end Go.Proofs.YtbhicpjhijondaaDoor
