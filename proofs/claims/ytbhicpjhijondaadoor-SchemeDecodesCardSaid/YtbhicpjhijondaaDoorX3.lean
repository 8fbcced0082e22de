/- scheme.Right. -/
import Derived.Test.YtbhicpjhijondaaDoorX2
namespace Go.Typ
open Go.RowKit Go.Lib Go.Vfs Go.Par
/-- does a stand before b? -/
def ltB (a b : ByteArray) : Bool := Op.bytesLess a.toList b.toList
end Go.Typ
namespace Go.Proofs.YtbhicpjhijondaaDoor
open Go.RowKit Go.Lib Go.Vfs Go.Par Go.Typ Go.Shelf
set_option linter.unusedVariables false
set_option linter.unusedSimpArgs false

def okX (x : Ex) : Bool := decide (x.name.size ≤ 255) && nameOk x.name.data.toList
def typX (x : Ex) : Bool := closedT x.ty && shortT x.ty
/-- is the export at k as it has to be? -/
def goodX (xs : List Ex) (k : Nat) : Bool := match xs[k]? with
  | none => true
  | some x => okX x && ((decide (k = 0) || ltB (xs.getD (k - 1) x).name x.name) && typX x)
/-- are they right exports? -/
def rightX (xs : List Ex) : Bool := decide (xs.length ≤ 1000) && (List.range xs.length).all (goodX xs)
theorem rightX_true {xs : List Ex} (h : xs.length ≤ 1000) (hg : ∀ i, i < xs.length → goodX xs i = true) : rightX xs = true := by
  unfold rightX
  rw [decide_eq_true h, Bool.true_and, List.all_eq_true]
  exact fun i hi => hg i (List.mem_range.1 hi)
theorem rightX_false {xs : List Ex} {k : Nat} (hk : k < xs.length) (hg : goodX xs k = false) : rightX xs = false := by
  unfold rightX
  have : (List.range xs.length).all (goodX xs) = false := List.all_eq_false.2 ⟨k, List.mem_range.2 hk, by rw [hg]; decide⟩
  rw [this, Bool.and_false]
theorem goodX_at {xs : List Ex} {k : Nat} (hk : k < xs.length) : goodX xs k = (okX xs[k] && ((decide (k = 0) || ltB (xs.getD (k - 1) xs[k]).name xs[k].name) && typX xs[k])) := by
  unfold goodX; rw [List.getElem?_eq_getElem hk]

set_option maxRecDepth 20000 in
set_option maxHeartbeats 4000000 in
theorem right14_any (xs : List Ex) (v : Value) (w : World) (hX : ExsAt (· < w.heap.size) w v xs) : Calls Tryd.prog 39 #[v] w fun e w' => e = .returned (.bool (rightX xs)) ∧ Below w.heap.size w w' := by
  obtain ⟨A, c, rfl, hc, hm⟩ := hX.form
  have hla : xs.length ≤ 9223372036854775807 := by simp only [maxLen] at hm; omega
  have HX := Lib.hid hX
  clear hX hc hm
  by_cases hl : xs.length ≤ 1000
  rotate_left
  · have HR : Hid (rightX xs = false) := Lib.hid (by unfold rightX; rw [decide_eq_false hl, Bool.false_and])
    have g : (1000 : Int) < (xs.length : Int) := by omega
    clear hl
    go_enter Tryd.func39, Tryd.ntmps39
    go_wp2
    go_ret
    rw [HR.out]
    exact ⟨rfl, Below.refl _ _⟩
  have g : ¬ (1000 : Int) < (xs.length : Int) := by omega
  go_enter Tryd.func39, Tryd.ntmps39
  go_wp2
  clear g
  go_loopw [10] (fun iv W => ∃ (k : Nat), k ≤ xs.length ∧ iv = .int .i64 k ∧ Hid (∀ i, i < k → goodX xs i = true) ∧ Hid (Below w.heap.size w W)) (fun iv _ => xs.length - (RowKit.intOf iv).toNat)
  case atStart => exact ⟨0, by omega, rfl, Lib.hid fun i hi => by omega, Lib.hid (Below.refl _ _)⟩
  case round =>
    obtain ⟨k, hk, rfl, HA, HB⟩ := hrel
    by_cases hlt : k < xs.length
    · have hxr := HX.out.blw HB.out
      obtain ⟨b, off, A', c', rfl, hb, hns, ht, x0, x1, x2, x3, x4⟩ := hxr.arg hlt
      have HPREV : Hid (0 < k → wr.cell? ⟨b, off + (k - 1) * 5, none⟩ = some (.string (xs.getD (k - 1) xs[k]).name)) := Lib.hid fun h0 => by
        have hl2 : k - 1 < xs.length := by omega
        obtain ⟨b2, off2, _, _, e2, _, _, _, p0, _⟩ := hxr.arg hl2
        injection e2 with e2
        injection e2 with eb eo
        subst eb eo
        rw [List.getD_eq_getElem?_getD, List.getElem?_eq_getElem hl2]
        exact p0
      have hgd := goodX_at hlt
      have HF : Hid (goodX xs k = false → rightX xs = false) := Lib.hid (rightX_false hlt)
      have HNX : Hid (goodX xs k = true → ∀ i, i < k + 1 → goodX xs i = true) := Lib.hid fun h i hi => by
        by_cases e : i = k
        · rw [e]; exact h
        · exact HA.out i (by omega)
      generalize xs.getD (k - 1) xs[k] = P at *
      generalize xs[k] = X at *
      have HGD := Lib.hid hgd
      obtain ⟨W2, hW2⟩ : ∃ W2, W2 = wr.alloc (.cells #[.string X.name, .int .i64 X.ty.kind, .int .i64 X.ty.num, .string X.ty.name, .slice A' X.ty.args.length c'] 46) := ⟨_, rfl⟩
      have hb2 : Below wr.heap.size wr W2 := by rw [hW2]; exact (Below.refl _ _).alloc (Nat.le_refl _) _
      have hbx : W2.heap[wr.heap.size]? = some (.cells #[.string X.name, .int .i64 X.ty.kind, .int .i64 X.ty.num, .string X.ty.name, .slice A' X.ty.args.length c'] 46 (0, 0)) := by rw [hW2]; exact heap_alloc_new _ _
      have HB2 : Hid (Below w.heap.size w W2) := Lib.hid (HB.out.trans (hb2.mono HB.out.size))
      have HT2 := Lib.hid (ht.blw hb2)
      have HKN := Lib.hid (kind_any X.name W2 hns)
      have HP2 : Hid (0 < k → W2.cell? ⟨b, off + (k - 1) * 5, none⟩ = some (.string P.name)) := Lib.hid fun h => (hb2.cell (p := ⟨b, off + (k - 1) * 5, none⟩) hb).trans (HPREV.out h)
      have HBX := Lib.hid hbx
      obtain ⟨z0, z1, z2, z3, z4⟩ := box5 hbx
      rw [hW2] at z0 z1 z2 z3 z4
      clear ht hxr hgd hb2 hbx
      by_cases h1 : X.name.size ≤ 255
      rotate_left
      · have HR : Hid (rightX xs = false) := Lib.hid (HF.out (by rw [HGD.out]; unfold okX; rw [decide_eq_false h1, Bool.false_and, Bool.false_and]))
        have g1 : (255 : Int) < (X.name.size : Int) := by omega
        clear h1
        go_wp2
        go_ret
        rw [HR.out, ← hW2]
        exact ⟨rfl, HB2.out⟩
      have g1 : ¬ (255 : Int) < (X.name.size : Int) := by omega
      go_wp2_with fail
      rw [← hW2]
      clear hW2 g1 z0 z1 z2 z3 z4
      refine HKN.out.mono ?_
      rintro e w3 ⟨z, rfl, hz, rfl⟩
      obtain ⟨z0, z1, z2, z3, z4⟩ := box5 HBX.out
      by_cases h2 : z = 1
      rotate_left
      · have HR : Hid (rightX xs = false) := Lib.hid (HF.out (by
          have hno : nameOk X.name.data.toList = false := by
            cases h : nameOk X.name.data.toList with
            | false => rfl
            | true => exact absurd (hz.2 h) h2
          rw [HGD.out]; unfold okX; rw [hno, Bool.and_false, Bool.false_and]))
        have g1 : (z != 1) = true := by simp [h2]
        clear hz h2
        go_wp2
        go_ret
        rw [HR.out]
        exact ⟨rfl, HB2.out⟩
      have HOK : Hid (okX X = true) := Lib.hid (by unfold okX; rw [decide_eq_true h1, hz.1 h2, Bool.true_and])
      have g1 : (z != 1) = false := by simp [h2]
      clear hz h2 h1
      by_cases hk0 : k = 0
      focus
        have HGX : Hid (goodX xs k = typX X) := Lib.hid (by rw [HGD.out, HOK.out, decide_eq_true hk0]; rfl)
        subst hk0
        go_wp2_with fail
        go_quiet (fail)
        clear g1
      rotate_left
      focus
        obtain ⟨j, hj⟩ : ∃ j, j = k - 1 := ⟨_, rfl⟩
        have hp := HP2.out (by omega)
        rw [← hj] at hp
        have hgd0 : decide ((0 : Int) < (k : Int)) = true := decide_eq_true (by omega)
        have hgd1 : decide (0 < k) = true := decide_eq_true (by omega)
        have hsub : (k : Int) - 1 = (j : Int) := by omega
        have hjl : j < xs.length := by omega
        have hjn : ((j : Nat) : Int) < (xs.length : Int) := by omega
        clear hj
        have HGX0 : Hid (goodX xs k = (ltB P.name X.name && typX X)) := Lib.hid (by rw [HGD.out, HOK.out, decide_eq_false hk0]; rfl)
        clear hk0
        go_wp2_with fail
        go_quiet (fail)
        clear hgd0 hgd1 hsub hp g1 hjl hjn
        by_cases hq : Op.bytesLess P.name.toList X.name.toList = true
        rotate_left
        · have hq' : Op.bytesLess P.name.toList X.name.toList = false := by simpa using hq
          have HR : Hid (rightX xs = false) := Lib.hid (HF.out (by rw [HGX0.out]; unfold ltB; rw [hq', Bool.false_and]))
          rw [hq']
          clear hq
          go_wp2
          go_ret
          rw [HR.out]
          exact ⟨rfl, below_drewN HB2.out _⟩
        have HGX : Hid (goodX xs k = typX X) := Lib.hid (by rw [HGX0.out]; unfold ltB; rw [hq, Bool.true_and])
        rw [hq]
        clear HGX0 hq
      all_goals
        obtain ⟨W4, hW4⟩ : ∃ W4, W4 = w3.drewN nq := ⟨_, rfl⟩
        have hb4 : Below w3.heap.size w3 W4 := by rw [hW4]; exact below_drewN (Below.refl _ _) _
        have HB4 : Hid (Below w.heap.size w W4) := Lib.hid (HB2.out.trans (hb4.mono HB2.out.size))
        have HCL := Lib.hid (closed_any X.ty _ W4 (HT2.out.blw hb4))
        have HT4 := Lib.hid (HT2.out.blw hb4)
        have HBX4 := Lib.hid ((hb4.block _ (lt_blk HBX.out)).trans HBX.out)
        rw [← hW4]
        clear hb4 hW4
        unfold tyV at HCL
        obtain ⟨u0, u1, u2, u3, u4⟩ := box5 HBX4.out
        go_wp2_with fail
        refine HCL.out.mono ?_
        rintro e w5 ⟨rfl, hb5⟩
        have HB5 : Hid (Below w.heap.size w w5) := Lib.hid (HB4.out.trans (hb5.mono HB4.out.size))
        have HSH := Lib.hid (short_any X.ty _ w5 (HT4.out.blw hb5))
        obtain ⟨q0, q1, q2, q3, q4⟩ := box5 ((hb5.block _ (lt_blk HBX4.out)).trans HBX4.out)
        unfold tyV at HSH
        clear hb5 u0 u1 u2 u3 u4
        cases hc : closedT X.ty with
        | false =>
          have HR : Hid (rightX xs = false) := Lib.hid (HF.out (by rw [HGX.out]; unfold typX; rw [hc, Bool.false_and]))
          clear hc
          go_wp2
          go_ret
          rw [HR.out]
          exact ⟨rfl, HB5.out⟩
        | true =>
          have HCT := Lib.hid hc
          clear hc
          go_wp2_with fail
          refine HSH.out.mono ?_
          rintro e w6 ⟨rfl, hb6⟩
          have HB6 : Hid (Below w.heap.size w w6) := Lib.hid (HB5.out.trans (hb6.mono HB5.out.size))
          clear hb6 q0 q1 q2 q3 q4
          cases hs : shortT X.ty with
          | false =>
            have HR : Hid (rightX xs = false) := Lib.hid (HF.out (by rw [HGX.out]; unfold typX; rw [hs, Bool.and_false]))
            clear hs
            go_wp2
            go_ret
            rw [HR.out]
            exact ⟨rfl, HB6.out⟩
          | true =>
            have HN := Lib.hid (HNX.out (by rw [HGX.out]; unfold typX; rw [hs, HCT.out]; rfl))
            clear hs
            go_wp2
            go_roundw
            case rel => exact ⟨_, by omega, by go_num, HN, HB6⟩
            case measure => simp [RowKit.intOf]; omega
    · have hkl : k = xs.length := by omega
      have HR : Hid (rightX xs = true) := Lib.hid (rightX_true hl fun i hi => HA.out i (by omega))
      go_wp2
      go_ret
      rw [HR.out]
      exact ⟨rfl, HB.out⟩
end Go.Proofs.YtbhicpjhijondaaDoor
