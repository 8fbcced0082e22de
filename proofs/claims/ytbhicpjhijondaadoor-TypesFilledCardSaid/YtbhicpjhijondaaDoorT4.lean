/- Equality of types. -/
import Derived.Test.YtbhicpjhijondaaDoorT3
namespace Go.Typ
open Classical in
/-- are two types the same? -/
noncomputable def same (T U : Ty) : Bool := decide (T = U)
theorem same_true {T U : Ty} (h : T = U) : same T U = true := by simp [same, h]
theorem same_false {T U : Ty} (h : ¬ T = U) : same T U = false := by simp [same, h]
theorem same_iff {T U : Ty} : same T U = true ↔ T = U := by simp [same]
theorem lt_cell {W : World} {b o : Nat} {v : Value} (h : W.cell? ⟨b, o, none⟩ = some v) : b < W.heap.size := World.block_lt_of_cell? W ⟨b, o, none⟩ h
theorem beqS (x y : ByteArray) : (x.toList == y.toList) = true ↔ x = y := by
  rw [beq_iff_eq, ByteArray.toList_eq, ByteArray.toList_eq]
  exact ⟨fun h => ByteArray.ext (Array.toList_inj.mp h), fun h => by rw [h]⟩
theorem beqS_ne {x y : ByteArray} (h : ¬ x = y) : (x.toList == y.toList) = false := by
  cases hb : x.toList == y.toList
  · rfl
  · exact absurd ((beqS x y).1 hb) h
theorem same_refl (T : Ty) : same T T = true := same_true rfl
end Go.Typ
namespace Go.Proofs.YtbhicpjhijondaaDoor
open Go.RowKit Go.Lib Go.Vfs Go.Par Go.Typ
set_option linter.unusedVariables false
set_option linter.unusedSimpArgs false

set_option maxRecDepth 20000 in
set_option maxHeartbeats 1000000 in
theorem sameType_any (T : Ty) : ∀ (U : Ty) (u v : Value) (w : World), TyAt (· < w.heap.size) w u T → TyAt (· < w.heap.size) w v U →
    Calls Tryd.prog 21 #[u, v] w fun e w' => e = .returned (.bool (same T U)) ∧ Below w.heap.size w w' := by
  induction T using Ty.ind with
  | h T ih =>
    intro U u v w hT hU
    have IH := Lib.hid ih
    clear ih
    obtain ⟨A, c, rfl, hc, hm, hn⟩ := hT.form
    obtain ⟨A', c', rfl, hc', hm', hn'⟩ := hU.form
    obtain ⟨W1, hW1⟩ : ∃ W1, W1 = (w.alloc (.cells #[.int .i64 T.kind, .int .i64 T.num, .string T.name, .slice A T.args.length c] 24)).alloc (.cells #[.int .i64 U.kind, .int .i64 U.num, .string U.name, .slice A' U.args.length c'] 24) := ⟨_, rfl⟩
    have hb1 : Below w.heap.size w W1 := by rw [hW1]; exact ((Below.refl _ _).alloc (Nat.le_refl _) _).alloc (by simp) _
    have hL : Loop4 w W1 w.heap.size T A c := by
      refine ⟨?_, by rw [hW1]; simp; omega, Nat.le_refl _, hb1, hT⟩
      rw [hW1, Below.heap_alloc _ _ _ (by simp)]
      exact heap_alloc_new _ _
    have hM : Loop4 w W1 (w.heap.size + 1) U A' c' := by
      refine ⟨?_, by rw [hW1]; simp, by omega, hb1, hU⟩
      rw [hW1]
      have := heap_alloc_new (w.alloc (.cells #[.int .i64 T.kind, .int .i64 T.num, .string T.name, .slice A T.args.length c] 24)) (.cells #[.int .i64 U.kind, .int .i64 U.num, .string U.name, .slice A' U.args.length c'] 24)
      simpa using this
    have hla : T.args.length ≤ 9223372036854775807 := by simp only [maxLen] at hm; omega
    have hla' : U.args.length ≤ 9223372036854775807 := by simp only [maxLen] at hm'; omega
    have HL := Lib.hid hL; have HM := Lib.hid hM; have HB1 := Lib.hid hb1
    clear hT hU hL hM hb1 hc hm hn hc' hm' hn'
    unfold tyV
    by_cases e1 : T.kind = U.kind
    · by_cases e2 : T.num = U.num
      · by_cases e3 : T.name = U.name
        · by_cases e4 : T.args.length = U.args.length
          · have h1 : (T.kind != U.kind) = false := by simp [e1]
            have h2 : (T.num != U.num) = false := by simp [e2]
            have h3 : (T.name.toList == U.name.toList) = true := (beqS _ _).2 e3
            have h4 : ((T.args.length : Int) != (U.args.length : Int)) = false := by simp [e4]
            have E1 := Lib.hid e1; have E2 := Lib.hid e2; have E3 := Lib.hid e3; have E4 := Lib.hid e4
            clear e1 e2 e3 e4
            go_enter Tryd.func21, Tryd.ntmps21
            go_wp2
            rw [← hW1]
            go_loopw [5] (fun iv W => ∃ (k : Nat), k ≤ T.args.length ∧ iv = .int .i64 k ∧ Hid (T.args.take k = U.args.take k) ∧ Hid (Below W1.heap.size W1 W)) (fun iv _ => T.args.length - (intOf iv).toNat)
            case atStart => exact ⟨0, by omega, rfl, Lib.hid (by simp), Lib.hid (Below.refl _ _)⟩
            case round =>
              obtain ⟨k, hk, rfl, HA, HB⟩ := hrel
              clear h1 h2 h3 h4
              obtain ⟨y0, y1, y2, y3⟩ := box4 (HL.out.in_ HB.out)
              by_cases hlt : k < T.args.length
              · have hlt' : k < U.args.length := by have := E4.out; omega
                obtain ⟨b, off, A2, c2, rfl, hb, ht, x0, x1, x2, x3⟩ := (HL.out.ty' HB.out).arg hlt
                obtain ⟨b', off', A2', c2', rfl, hb', ht', x0', x1', x2', x3'⟩ := (HM.out.ty' HB.out).arg hlt'
                obtain ⟨z0, z1, z2, z3⟩ := box4 (HM.out.in_ HB.out)
                have hca : ∀ W2, Below wr.heap.size wr W2 → _ := fun W2 hw2 => IH.out k hlt U.args[k] _ _ W2 (ht.blw hw2) (ht'.blw hw2)
                have HNE : Hid (¬ T.args[k] = U.args[k] → same T U = false) := Lib.hid fun h => same_false fun e => h (by subst e; rfl)
                have HTK : Hid (T.args[k] = U.args[k] → T.args.take (k + 1) = U.args.take (k + 1)) := Lib.hid fun h => by rw [List.take_succ_eq_append_getElem hlt, List.take_succ_eq_append_getElem hlt', HA.out, h]
                clear ht ht' y0 y1 y2 z0 z1 z2
                generalize T.args[k] = X at *
                generalize U.args[k] = Y at *
                unfold tyV at hca
                have HCA := Lib.hid hca
                have HBW : Hid (Below wr.heap.size wr wr.drew) := Lib.hid (Below.refl _ _).drew
                clear hca
                obtain ⟨q, hq⟩ : ∃ q, q = same X Y := ⟨_, rfl⟩
                rw [← hq] at HCA
                have HSK : Hid (∀ W2, Below wr.heap.size wr W2 → W2.cell? ⟨w.heap.size, 3, none⟩ = some (.slice (some ⟨b, off, none⟩) T.args.length c) ∧ W2.cell? ⟨w.heap.size + 1, 3, none⟩ = some (.slice (some ⟨b', off', none⟩) U.args.length c') ∧
                    W2.cell? ⟨b, off + k * 4, none⟩ = some (.int .i64 X.kind) ∧ W2.cell? ⟨b, off + k * 4 + 1, none⟩ = some (.int .i64 X.num) ∧ W2.cell? ⟨b, off + k * 4 + 2, none⟩ = some (.string X.name) ∧ W2.cell? ⟨b, off + k * 4 + 3, none⟩ = some (.slice A2 X.args.length c2) ∧
                    W2.cell? ⟨b', off' + k * 4, none⟩ = some (.int .i64 Y.kind) ∧ W2.cell? ⟨b', off' + k * 4 + 1, none⟩ = some (.int .i64 Y.num) ∧ W2.cell? ⟨b', off' + k * 4 + 2, none⟩ = some (.string Y.name) ∧ W2.cell? ⟨b', off' + k * 4 + 3, none⟩ = some (.slice A2' Y.args.length c2')) :=
                  Lib.hid fun W2 h => ⟨(h.cell (p := ⟨_, _, none⟩) (lt_cell y3)).trans y3, (h.cell (p := ⟨_, _, none⟩) (lt_cell z3)).trans z3, (h.cell (p := ⟨_, _, none⟩) hb).trans x0, (h.cell (p := ⟨_, _, none⟩) hb).trans x1, (h.cell (p := ⟨_, _, none⟩) hb).trans x2, (h.cell (p := ⟨_, _, none⟩) hb).trans x3,
                    (h.cell (p := ⟨_, _, none⟩) hb').trans x0', (h.cell (p := ⟨_, _, none⟩) hb').trans x1', (h.cell (p := ⟨_, _, none⟩) hb').trans x2', (h.cell (p := ⟨_, _, none⟩) hb').trans x3'⟩
                have HQ := Lib.hid hq
                clear hq x0 x1 x2 x3 x0' x1' x2' x3'
                go_wp2_with fail
                go_region_held (fun W2 => W2.cell? ⟨w.heap.size, 3, none⟩ = some (.slice (some ⟨b, off, none⟩) T.args.length c) ∧ W2.cell? ⟨w.heap.size + 1, 3, none⟩ = some (.slice (some ⟨b', off', none⟩) U.args.length c') ∧
                    W2.cell? ⟨b, off + k * 4, none⟩ = some (.int .i64 X.kind) ∧ W2.cell? ⟨b, off + k * 4 + 1, none⟩ = some (.int .i64 X.num) ∧ W2.cell? ⟨b, off + k * 4 + 2, none⟩ = some (.string X.name) ∧ W2.cell? ⟨b, off + k * 4 + 3, none⟩ = some (.slice A2 X.args.length c2) ∧
                    W2.cell? ⟨b', off' + k * 4, none⟩ = some (.int .i64 Y.kind) ∧ W2.cell? ⟨b', off' + k * 4 + 1, none⟩ = some (.int .i64 Y.num) ∧ W2.cell? ⟨b', off' + k * 4 + 2, none⟩ = some (.string Y.name) ∧ W2.cell? ⟨b', off' + k * 4 + 3, none⟩ = some (.slice A2' Y.args.length c2'))
                    (first | exact HSK.out _ HBW.out | exact HSK.out _ (by assumption)) ((go_at_call 21; refine (HCA.out _ HBW.out).mono ?_; rintro e w2 ⟨rfl, HB2⟩; have HB3 := HBW.out.trans (HB2.mono HBW.out.size)))
                cases q
                · have HR : Hid (same T U = false) := Lib.hid (HNE.out fun e => by have h := HQ.out; rw [same_true e] at h; cases h)
                  go_wp2
                  go_ret
                  exact ⟨by rw [HR.out]; rfl, HL.out.all (HB.out.trans (HB3.mono HB.out.size))⟩
                · have HX := same_iff.1 HQ.out.symm
                  go_wp2
                  go_roundw
                  case rel => exact ⟨k + 1, by omega, by go_num, Lib.hid (HTK.out HX), Lib.hid (HB.out.trans (HB3.mono HB.out.size))⟩
                  case measure => simp [intOf]; omega
              · have hkl : k = T.args.length := by omega
                have HR : Hid (same T U = true) := Lib.hid (same_true (Ty.ext' E1.out E2.out E3.out (by
                  have h := HA.out
                  rw [hkl, List.take_length] at h
                  rw [h, E4.out, List.take_length])))
                go_wp2
                go_ret
                exact ⟨by rw [HR.out]; rfl, HL.out.all HB.out⟩
          · have HR : Hid (same T U = false) := Lib.hid (same_false fun e => e4 (by rw [e]))
            have h1 : (T.kind != U.kind) = false := by simp [e1]
            have h2 : (T.num != U.num) = false := by simp [e2]
            have h3 : (T.name.toList == U.name.toList) = true := (beqS _ _).2 e3
            have h4 : ((T.args.length : Int) != (U.args.length : Int)) = true := by simp; omega
            clear e1 e2 e3 e4
            go_enter Tryd.func21, Tryd.ntmps21
            go_wp2
            go_ret
            rw [HR.out, ← hW1]
            exact ⟨rfl, HB1.out⟩
        · have HR : Hid (same T U = false) := Lib.hid (same_false fun e => e3 (by rw [e]))
          have h1 : (T.kind != U.kind) = false := by simp [e1]
          have h2 : (T.num != U.num) = false := by simp [e2]
          have h3 : (T.name.toList == U.name.toList) = false := beqS_ne e3
          clear e1 e2 e3
          go_enter Tryd.func21, Tryd.ntmps21
          go_wp2
          go_ret
          rw [HR.out, ← hW1]
          exact ⟨rfl, HB1.out⟩
      · have HR : Hid (same T U = false) := Lib.hid (same_false fun e => e2 (by rw [e]))
        have h1 : (T.kind != U.kind) = false := by simp [e1]
        have h2 : (T.num != U.num) = true := by simp [e2]
        clear e1 e2
        go_enter Tryd.func21, Tryd.ntmps21
        go_wp2
        go_ret
        rw [HR.out, ← hW1]
        exact ⟨rfl, HB1.out⟩
    · have HR : Hid (same T U = false) := Lib.hid (same_false fun e => e1 (by rw [e]))
      have h1 : (T.kind != U.kind) = true := by simp [e1]
      clear e1
      go_enter Tryd.func21, Tryd.ntmps21
      go_wp2
      go_ret
      rw [HR.out, ← hW1]
      exact ⟨rfl, HB1.out⟩
end Go.Proofs.YtbhicpjhijondaaDoor
