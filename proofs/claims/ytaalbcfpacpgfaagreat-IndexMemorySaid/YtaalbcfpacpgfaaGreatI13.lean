/- SameEntries. -/
import Derived.Test.YtaalbcfpacpgfaaGreatI12
namespace Go.Ix
open Go.RowKit Go.Lib Go.Vfs Go.Par Go.Typ
open Classical in
/-- are two lists of entries the same? -/
noncomputable def sameN (xs ys : List En) : Bool := decide (xs = ys)
theorem sameN_true {xs ys : List En} (h : xs = ys) : sameN xs ys = true := by simp [sameN, h]
theorem sameN_false {xs ys : List En} (h : ¬ xs = ys) : sameN xs ys = false := by simp [sameN, h]
theorem sameN_iff {xs ys : List En} : sameN xs ys = true ↔ xs = ys := by simp [sameN]
theorem getEn_ne {xs ys : List En} {k : Nat} (h1 : k < xs.length) (h2 : k < ys.length) (h : ¬ xs[k] = ys[k]) : ¬ xs = ys := fun e => h (by subst e; rfl)
end Go.Ix
namespace Go.Proofs.YtaalbcfpacpgfaaGreat
open Go.RowKit Go.Lib Go.Vfs Go.Par Go.Typ Go.Shelf Go.Ix
set_option linter.unusedVariables false
set_option linter.unusedSimpArgs false

set_option maxRecDepth 20000 in
set_option maxHeartbeats 4000000 in
theorem sameEntries_any (xs ys : List En) (u v : Value) (w : World) (hX : EntsAt (· < w.heap.size) w u xs) (hY : EntsAt (· < w.heap.size) w v ys) :
    Calls Tryz.prog 17 #[u, v] w fun e w' => e = .returned (.bool (sameN xs ys)) ∧ Below w.heap.size w w' := by
  obtain ⟨A, c, rfl, hc, hm⟩ := hX.form
  obtain ⟨A2, c2, rfl, hc2, hm2⟩ := hY.form
  have HX := Lib.hid hX; have HY := Lib.hid hY
  have hla : xs.length ≤ 9223372036854775807 := by simp only [maxLen] at hm; omega
  have hlb : ys.length ≤ 9223372036854775807 := by simp only [maxLen] at hm2; omega
  clear hX hc hm hY hc2 hm2
  by_cases hl : xs.length = ys.length
  rotate_left
  · have HR : Hid (sameN xs ys = false) := Lib.hid (sameN_false fun e => hl (by rw [e]))
    have h4 : ((xs.length : Int) != (ys.length : Int)) = true := by simp; omega
    clear hl
    go_enter Tryz.func17, Tryz.ntmps17
    go_wp2
    go_ret
    rw [HR.out]
    exact ⟨rfl, Below.refl _ _⟩
  have h4 : ((xs.length : Int) != (ys.length : Int)) = false := by simp [hl]
  have HL := Lib.hid hl
  clear hl
  go_enter Tryz.func17, Tryz.ntmps17
  go_wp2
  clear h4
  go_loopw [5] (fun iv W => ∃ (k : Nat), k ≤ xs.length ∧ iv = .int .i64 k ∧ Hid (xs.take k = ys.take k) ∧ Hid (Below w.heap.size w W)) (fun iv _ => xs.length - (RowKit.intOf iv).toNat)
  case atStart => exact ⟨0, by omega, rfl, Lib.hid (by simp), Lib.hid (Below.refl _ _)⟩
  case round =>
    obtain ⟨k, hk, rfl, HA, HB⟩ := hrel
    by_cases hlt : k < xs.length
    · have hlt' : k < ys.length := by have := HL.out; omega
      obtain ⟨b, off, A', c', rfl, hb, hns, ht, x0, x1, x2⟩ := (HX.out.blw HB.out).arg hlt
      obtain ⟨b', off', A2', c2', rfl, hb', hns', ht', y0, y1, y2⟩ := (HY.out.blw HB.out).arg hlt'
      have hd : Below wr.heap.size wr wr.drew := (Below.refl wr.heap.size _).drew
      have hca := sameExports_any xs[k].exs ys[k].exs _ _ wr.drew (ht.blw hd) (ht'.blw hd)
      have HNE : Hid (¬ xs[k] = ys[k] → sameN xs ys = false) := Lib.hid fun h => sameN_false (getEn_ne hlt hlt' h)
      have HTK : Hid (xs[k] = ys[k] → xs.take (k + 1) = ys.take (k + 1)) := Lib.hid fun h => by rw [List.take_succ_eq_append_getElem hlt, List.take_succ_eq_append_getElem hlt', HA.out, h]
      have HBD : Hid (Below w.heap.size w wr.drew) := Lib.hid (HB.out.trans (hd.mono HB.out.size))
      have HD := Lib.hid hd
      clear ht ht' hns hns' hd
      generalize xs[k] = X at *
      generalize ys[k] = Y at *
      obtain ⟨q, hq⟩ : ∃ q, q = sameX X.exs Y.exs := ⟨_, rfl⟩
      rw [← hq] at hca
      have HQ := Lib.hid hq
      have HCA := Lib.hid hca
      have HSK : Hid (∀ W' : World, Below wr.heap.size wr W' → W'.cell? ⟨b, off + k * 3, none⟩ = some (.string X.uri) ∧ W'.cell? ⟨b, off + k * 3 + 1, none⟩ = some (.int .i64 X.ver) ∧ W'.cell? ⟨b, off + k * 3 + 2, none⟩ = some (.slice A' X.exs.length c') ∧ W'.cell? ⟨b', off' + k * 3, none⟩ = some (.string Y.uri) ∧ W'.cell? ⟨b', off' + k * 3 + 1, none⟩ = some (.int .i64 Y.ver) ∧ W'.cell? ⟨b', off' + k * 3 + 2, none⟩ = some (.slice A2' Y.exs.length c2')) :=
        Lib.hid fun W' h => ⟨(h.cell (p := ⟨_, _, none⟩) hb).trans x0, (h.cell (p := ⟨_, _, none⟩) hb).trans x1, (h.cell (p := ⟨_, _, none⟩) hb).trans x2,
          (h.cell (p := ⟨_, _, none⟩) hb').trans y0, (h.cell (p := ⟨_, _, none⟩) hb').trans y1, (h.cell (p := ⟨_, _, none⟩) hb').trans y2⟩
      clear hca hq
      by_cases hn : X.uri = Y.uri
      rotate_left
      · have HR : Hid (sameN xs ys = false) := Lib.hid (HNE.out fun e => hn (by rw [e]))
        have hne : (X.uri.toList == Y.uri.toList) = false := beqS_ne hn
        clear hn
        go_wp2_with fail
        go_quiet (fail)
        go_wp2
        go_ret
        rw [HR.out]
        exact ⟨rfl, below_drewN HB.out _⟩
      have hne : (X.uri.toList == Y.uri.toList) = true := (beqS _ _).2 hn
      have HN := Lib.hid hn
      clear hn
      by_cases hv : X.ver = Y.ver
      rotate_left
      · have HR : Hid (sameN xs ys = false) := Lib.hid (HNE.out fun e => hv (by rw [e]))
        have hve : (X.ver != Y.ver) = true := by simpa using hv
        clear hv
        go_wp2_with fail
        go_quiet (fail)
        go_wp2
        go_ret
        rw [HR.out]
        exact ⟨rfl, below_drewN HB.out _⟩
      have hve : (X.ver != Y.ver) = false := by simpa using hv
      have HV := Lib.hid hv
      clear hv
      go_wp2_with fail
      go_region_held (fun W' => W'.cell? ⟨b, off + k * 3, none⟩ = some (.string X.uri) ∧ W'.cell? ⟨b, off + k * 3 + 1, none⟩ = some (.int .i64 X.ver) ∧ W'.cell? ⟨b, off + k * 3 + 2, none⟩ = some (.slice A' X.exs.length c') ∧ W'.cell? ⟨b', off' + k * 3, none⟩ = some (.string Y.uri) ∧ W'.cell? ⟨b', off' + k * 3 + 1, none⟩ = some (.int .i64 Y.ver) ∧ W'.cell? ⟨b', off' + k * 3 + 2, none⟩ = some (.slice A2' Y.exs.length c2'))
        (first | exact HSK.out _ HD.out | exact HSK.out _ (by assumption)) ((go_at_call 59; refine HCA.out.mono ?_; rintro e w2 ⟨rfl, hb2⟩; have HB2 := HD.out.trans (hb2.mono HD.out.size)))
      have HB3 : Hid (Below w.heap.size w w2) := Lib.hid (HB.out.trans (HB2.mono HB.out.size))
      cases q
      · have HR : Hid (sameN xs ys = false) := Lib.hid (HNE.out fun e => by have h := HQ.out; rw [e, sameX_true rfl] at h; cases h)
        go_wp2
        go_ret
        rw [HR.out]
        exact ⟨rfl, HB3.out⟩
      · have HXY := Lib.hid (HTK.out (En.ext' HN.out HV.out (sameX_iff.1 HQ.out.symm)))
        go_wp2
        go_roundw
        case rel => exact ⟨k + 1, by omega, by go_num, HXY, HB3⟩
        case measure => simp [RowKit.intOf]; omega
    · have hkl : k = xs.length := by omega
      have HR : Hid (sameN xs ys = true) := Lib.hid (sameN_true (by
        have h := HA.out
        rw [hkl, List.take_length] at h
        rw [h, HL.out, List.take_length]))
      go_wp2
      go_ret
      rw [HR.out]
      exact ⟨rfl, HB.out⟩
end Go.Proofs.YtaalbcfpacpgfaaGreat
