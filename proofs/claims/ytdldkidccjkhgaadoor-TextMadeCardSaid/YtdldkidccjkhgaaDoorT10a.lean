import Derived.Test.YtdldkidccjkhgaaDoorT10
import Derived.Deep.QuietTactic
import Derived.BigQuiet
import Derived.Outline
import Derived.IntWalk
import Derived.Deep.DeepCutAuto
namespace Go.Proofs.YtdldkidccjkhgaaDoor
open Go.RowKit Go.Par
set_option linter.unusedVariables false

def BetwPost (w : World) (a b : List Int) (n m : Nat) (e : Ending) (w' : World) : Prop :=
  ∃ X : ByteArray, X.data.toList = txt (midN b n m) ∧ e = .returned (.tuple #[.agg #[.int .i64 (posT a n).1, .int .i64 (posT a n).2, .int .i64 (posT a (a.length - m)).1, .int .i64 (posT a (a.length - m)).2, .string X], .int .i64 0]) ∧ Below w.heap.size w w'

theorem startB_eq (c : UInt8) : Lib.runeStart (c.toNat : Int) = startB c := by
  unfold Lib.runeStart startB
  rw [Bool.eq_iff_iff]
  simp
  omega
theorem str_get (s : ByteArray) (l : List UInt8) (h : s.data.toList = l) (k : Nat) (hlt : k < s.size) : s[k] = l.getD k 0 := by
  have hk' : k < s.data.size := hlt
  rw [← h]
  simp only [List.getD_eq_getElem?_getD, Array.getElem?_toList, Array.getElem?_eq_getElem hk']
  rfl

theorem clone_any (s : ByteArray) (w : World) (hs : s.size ≤ 281474976710656) : Calls Tryd.prog 68 #[.string s] w fun e w' => e = .returned (.string s) ∧ Below w.heap.size w w' := by
  go_enter Tryd.func68, Tryd.ntmps68
  go_wp2_with fail
  refine (Tryd.stringslite_Clone s w hs).mono ?_
  rintro e w1 ⟨rfl, hb1⟩
  go_wp2
  go_ret
  exact ⟨rfl, hb1⟩
theorem bcell {W w1 : World} (hb : Below W.heap.size W w1) : (∀ b o, b < W.heap.size → w1.cell? ⟨b, o, none⟩ = W.cell? ⟨b, o, none⟩) ∧ (∀ b o, b < W.heap.size → w1.frozen? ⟨b, o, none⟩ = W.frozen? ⟨b, o, none⟩) :=
  ⟨fun b o h => hb.cell (p := ⟨b, o, none⟩) h, fun b o h => hb.frozen (p := ⟨b, o, none⟩) h⟩
theorem setOther {w : World} {a b : Addr} {v : Value} (h : a ≠ b) : (w.setCell a v).cell? b = w.cell? b := World.cell?_setCell_other _ _ _ _ h
theorem setSame {w : World} {a : Addr} {v u : Value} (h : w.cell? a = some u) : (w.setCell a v).cell? a = some v := World.cell?_setCell_same _ _ _ h
/-- the five cells of an edit's block, to be written. -/
def Box5 (w : World) (g : Nat) (a b c d x : Value) : Prop :=
  w.cell? ⟨g, 0, none⟩ = some a ∧ w.cell? ⟨g, 1, none⟩ = some b ∧ w.cell? ⟨g, 2, none⟩ = some c ∧ w.cell? ⟨g, 3, none⟩ = some d ∧ w.cell? ⟨g, 4, none⟩ = some x ∧
  w.frozen? ⟨g, 0, none⟩ = false ∧ w.frozen? ⟨g, 1, none⟩ = false ∧ w.frozen? ⟨g, 2, none⟩ = false ∧ w.frozen? ⟨g, 3, none⟩ = false ∧ w.frozen? ⟨g, 4, none⟩ = false
theorem Box5.new (w : World) (a b c d x : Value) : Box5 (w.alloc (.cells #[a, b, c, d, x] 52)) w.heap.size a b c d x := by
  refine ⟨?_, ?_, ?_, ?_, ?_, ?_, ?_, ?_, ?_, ?_⟩
  all_goals first | (rw [World.cell?_alloc_new]; simp) | exact World.frozen?_alloc_new _ _ _ _
theorem Box5.below {w w' : World} {g : Nat} {a b c d x : Value} (h : Box5 w g a b c d x) (hg : g < w.heap.size) (hb : Below w.heap.size w w') : Box5 w' g a b c d x := by
  obtain ⟨h0, h1, h2, h3, h4, f0, f1, f2, f3, f4⟩ := h
  exact ⟨(hb.cell (p := ⟨g, 0, none⟩) hg).trans h0, (hb.cell (p := ⟨g, 1, none⟩) hg).trans h1, (hb.cell (p := ⟨g, 2, none⟩) hg).trans h2, (hb.cell (p := ⟨g, 3, none⟩) hg).trans h3, (hb.cell (p := ⟨g, 4, none⟩) hg).trans h4,
    (hb.frozen (p := ⟨g, 0, none⟩) hg).trans f0, (hb.frozen (p := ⟨g, 1, none⟩) hg).trans f1, (hb.frozen (p := ⟨g, 2, none⟩) hg).trans f2, (hb.frozen (p := ⟨g, 3, none⟩) hg).trans f3, (hb.frozen (p := ⟨g, 4, none⟩) hg).trans f4⟩
theorem Box5.set01 {w : World} {g : Nat} {a b c d x : Value} (h : Box5 w g a b c d x) (a' b' : Value) : Box5 ((w.setCell ⟨g, 0, none⟩ a').setCell ⟨g, 1, none⟩ b') g a' b' c d x := by
  obtain ⟨h0, h1, h2, h3, h4, f0, f1, f2, f3, f4⟩ := h
  refine ⟨?_, ?_, ?_, ?_, ?_, by simpa using f0, by simpa using f1, by simpa using f2, by simpa using f3, by simpa using f4⟩
  · rw [setOther (by simp), setSame h0]
  · exact setSame (by rw [setOther (by simp)]; exact h1)
  · rw [setOther (by simp), setOther (by simp)]; exact h2
  · rw [setOther (by simp), setOther (by simp)]; exact h3
  · rw [setOther (by simp), setOther (by simp)]; exact h4
theorem Box5.other {w : World} {g : Nat} {a b c d x : Value} (h : Box5 w g a b c d x) {p : Addr} (hp : p.block ≠ g) (v : Value) : Box5 (w.setCell p v) g a b c d x := by
  obtain ⟨h0, h1, h2, h3, h4, f0, f1, f2, f3, f4⟩ := h
  have hne : ∀ j, p ≠ (⟨g, j, none⟩ : Addr) := fun j e => hp (by rw [e])
  exact ⟨(setOther (hne 0)).trans h0, (setOther (hne 1)).trans h1, (setOther (hne 2)).trans h2, (setOther (hne 3)).trans h3, (setOther (hne 4)).trans h4,
    by simpa using f0, by simpa using f1, by simpa using f2, by simpa using f3, by simpa using f4⟩
theorem drewN2 (w : World) (a b : Nat) : (w.drewN a).drewN b = w.drewN (a + b) := by
  unfold World.drewN
  simp [Nat.add_assoc]

set_option maxRecDepth 100000 in
set_option maxHeartbeats 2000000 in
theorem between_ok (s t : ByteArray) (a b : List Int) (hs : s.data.toList = txt a) (ht : t.data.toList = txt b) (ha : AllR a) (hb : AllR b) (hl : s.size ≤ 100000) (hl2 : t.size ≤ 100000)
    (n m : Nat) (HN : Hid (IsN a b n)) (HM : Hid (IsM a b n m)) (w : World) (hT : Tabs w) : Calls Tryd.prog 50 #[.string s, .string t] w (BetwPost w a b n m) := by
  have hv : Lib.validD s.data.toList = true := by rw [hs]; exact validD_of ha
  have hv2 : Lib.validD t.data.toList = true := by rw [ht]; exact validD_of hb
  have HSZ := Lib.hid (txt_size s a hs)
  have HTZ := Lib.hid (txt_size t b ht)
  have HS := Lib.hid hs; clear hs
  have HT := Lib.hid ht; clear ht
  have HV := Lib.hid hv; clear hv
  have HV2 := Lib.hid hv2; clear hv2
  go_enter Tryd.func50, Tryd.ntmps50
  go_wp2_with fail
  refine (valid_any s _ (by omega) (hT.below ((Below.refl _ _).alloc (Nat.le_refl _) _))).mono ?_
  rintro e w1 ⟨rfl, hb1⟩
  rw [HV.out]
  have hbw1 : Below w.heap.size w w1 := ((Below.refl _ _).alloc (Nat.le_refl _) _).trans (hb1.mono (by simp))
  have hT1 := hT.below hbw1
  go_wp2_with fail
  refine (valid_any t _ (by omega) hT1).mono ?_
  rintro e w2 ⟨rfl, hb2⟩
  rw [HV2.out]
  have hT2 := hT1.below hb2
  have hbw2 : Below w.heap.size w w2 := hbw1.trans (hb2.mono hbw1.size)
  go_upto_block 0 with (fail)
  have hMe : min (s.size : Int) (t.size : Int) = ((min s.size t.size : Nat) : Int) := by omega
  have hMs : min s.size t.size ≤ s.size := Nat.min_le_left _ _
  have hMt : min s.size t.size ≤ t.size := Nat.min_le_right _ _
  have HMM := Lib.hid (show min s.size t.size = s.size ∨ min s.size t.size = t.size by omega)
  rw [hMe]
  clear hMe
  generalize min s.size t.size = M at *
  have hz2 := hbw2.size
  have hz1 : w.heap.size < w1.heap.size := by have := hb1.size; simp at this; omega
  have hz21 := hb2.size
  go_cut [7] (fun i wx => ∃ k : Nat, k ≤ M ∧ i = .int .i64 k ∧ Hid ((txt a).take k = (txt b).take k) ∧ Hid (k < (txt a).length → k < (txt b).length → (txt a).getD k 0 ≠ (txt b).getD k 0) ∧ ∃ n, wx = w2.drewN n)
  case first =>
    go_wp2_with fail
    go_loopw [7] (fun i wr => ∃ k : Nat, k ≤ M ∧ i = .int .i64 k ∧ Hid ((txt a).take k = (txt b).take k) ∧ ∃ n, wr = w2.drewN n) (fun i _ => M - (intOf i).toNat)
    case atStart => exact ⟨0, by omega, rfl, Lib.hid (by simp), 0, rfl⟩
    case round =>
      obtain ⟨k, hk, rfl, HA, nd, rfl⟩ := hrel
      by_cases hlt : k < M
      · have hks : k < s.size := by omega
        have hkt : k < t.size := by omega
        have hgs := str_get s _ HS.out k hks
        have hgt := str_get t _ HT.out k hkt
        have hd : decide (k < M) = true := by simpa using hlt
        by_cases he : s[k] = t[k]
        · have hq : ((s[k].toNat : Int) == (t[k].toNat : Int)) = true := by rw [he]; simp
          have HA2 : Hid ((txt a).take (k + 1) = (txt b).take (k + 1)) := Lib.hid (by
            have h1 : k < (txt a).length := by rw [← HSZ.out]; exact hks
            have h2 : k < (txt b).length := by rw [← HTZ.out]; exact hkt
            rw [List.take_succ_eq_append_getElem h1, List.take_succ_eq_append_getElem h2, HA.out]
            rw [List.getD_eq_getElem?_getD, List.getElem?_eq_getElem h1] at hgs
            rw [List.getD_eq_getElem?_getD, List.getElem?_eq_getElem h2] at hgt
            have h3 : (txt a)[k] = (txt b)[k] := by
              have h4 : s[k] = (txt a)[k] := hgs
              have h5 : t[k] = (txt b)[k] := hgt
              rw [← h4, ← h5, he]
            rw [h3])
          clear hgs hgt he HA
          go_wp2_with fail
          go_quiet (fail)
          go_wp2
          go_roundw
          case rel => exact ⟨k + 1, by omega, by go_num, HA2, _, rfl⟩
          case measure => simp [intOf]; omega
        · have hq : ((s[k].toNat : Int) == (t[k].toNat : Int)) = false := by
            refine beq_eq_false_iff_ne.2 fun e => he ?_
            apply UInt8.toNat.inj; omega
          have HST : Hid (k < (txt a).length → k < (txt b).length → (txt a).getD k 0 ≠ (txt b).getD k 0) := Lib.hid (by
            intro _ _ e
            rw [← hgs, ← hgt] at e
            exact he e)
          clear hgs hgt he
          go_wp2_with fail
          go_quiet (fail)
          go_wp2
          go_meet
          exact ⟨k, hk, rfl, HA, HST, _, drewN2 _ _ _⟩
      · have hd : decide (k < M) = false := by simpa using hlt
        have HST : Hid (k < (txt a).length → k < (txt b).length → (txt a).getD k 0 ≠ (txt b).getD k 0) := Lib.hid (by
          intro h1 h2
          rw [← HSZ.out] at h1
          rw [← HTZ.out] at h2
          have := HMM.out
          omega)
        go_wp2_with fail
        go_quiet (fail)
        go_wp2
        go_meet
        exact ⟨k, hk, rfl, HA, HST, _, drewN2 _ _ _⟩
  case rest =>
    obtain ⟨k, hk, rfl, HA, HST, nd, rfl⟩ := hcut
    go_upto_block 2 with (fail)
    have hfb : (plc a n).1 ≤ k := front_le HN.out HST.out
    obtain ⟨FB, hFB⟩ : ∃ f, f = (plc a n).1 := ⟨_, rfl⟩
    rw [← hFB] at hfb
    have HFB := Lib.hid hFB; clear hFB
    have hks : k ≤ s.size := by omega
    have hkt : k ≤ t.size := by omega
    have HSTOP : ∀ f, FB ≤ f → f ≤ k → (f < s.size → startB ((txt a).getD f 0) = true) → f = FB := fun f h1 h2 h3 => by
      rw [HFB.out]
      exact front_eq ha hb HN.out HA.out (by rw [← HSZ.out]; exact hks) (by rw [← HTZ.out]; exact hkt) (by rw [← HFB.out]; exact h1) h2 (fun h => h3 (by rw [HSZ.out]; exact h))
    have HST2 := Lib.hid HSTOP; clear HSTOP
    have HGO : ∀ f, FB = f → f < s.size → startB ((txt a).getD f 0) = true := fun f h1 h2 => by
      subst h1
      rw [HFB.out]
      exact front_start ha HN.out.la (by rw [← HFB.out, ← HSZ.out]; exact h2)
    have HGO2 := Lib.hid HGO; clear HGO
    have hbw3 : Below w.heap.size w (w2.drewN nd) := below_drewN hbw2 nd
    have hT3 : Tabs (w2.drewN nd) := hT2
    have hfv : Box5 w2 w.heap.size (.int .i64 0) (.int .i64 0) (.int .i64 0) (.int .i64 0) (.string ⟨#[]⟩) := ((Box5.new w (.int .i64 0) (.int .i64 0) (.int .i64 0) (.int .i64 0) (.string ⟨#[]⟩)).below (by simp) hb1).below (by omega) hb2
    have HFV := Lib.hid (show Box5 (w2.drewN nd) w.heap.size (.int .i64 0) (.int .i64 0) (.int .i64 0) (.int .i64 0) (.string ⟨#[]⟩) from hfv)
    clear hfv
    have hz3 : w.heap.size < (w2.drewN nd).heap.size := by show w.heap.size < w2.heap.size; omega
    clear hT2 hT1 hb1 hb2 hbw1 hbw2 hz1 hz21 hz2
    generalize w2.drewN nd = w3 at *
    go_cut [7] (fun i wx => i = .int .i64 FB ∧ w3 = wx)
    case first =>
      go_wp2_with fail
      go_loop [7] (fun i => ∃ f : Nat, FB ≤ f ∧ f ≤ k ∧ i = .int .i64 f) (fun i => (intOf i).toNat)
      case atStart => exact ⟨k, hfb, Nat.le_refl _, rfl⟩
      case round =>
        obtain ⟨f, h1, h2, rfl⟩ := hrel
        by_cases hlt : f < s.size
        · have hgs := str_get s _ HS.out f hlt
          have hcall := fun wx => Tryd.utf8_RuneStart (s[f].toNat : Int) wx (by omega) (by have := s[f].toNat_lt; omega)
          rw [startB_eq] at hcall
          cases hst : startB s[f] with
          | true =>
            rw [hst] at hcall
            have hfe : f = FB := HST2.out f h1 h2 (fun _ => by rw [← hgs]; exact hst)
            have HFE := Lib.hid hfe; clear hfe hgs hst
            go_wp2_with (go_at_call 67; refine (hcall _).mono ?_; rintro e w4 ⟨rfl, rfl⟩)
            go_meet
            exact ⟨by rw [HFE.out], rfl⟩
          | false =>
            rw [hst] at hcall
            have hne : FB < f := by
              rcases Nat.eq_or_lt_of_le h1 with e | e
              · exfalso
                have := HGO2.out f e hlt
                rw [← hgs, hst] at this
                cases this
              · exact e
            clear hgs hst
            go_wp2_with (go_at_call 67; refine (hcall _).mono ?_; rintro e w4 ⟨rfl, rfl⟩)
            go_round
            case rel => exact ⟨f - 1, by omega, by omega, by go_num⟩
            case measure => simp [intOf]; omega
        · have hfe : f = FB := HST2.out f h1 h2 (fun h => absurd h hlt)
          have HFE := Lib.hid hfe; clear hfe
          go_wp2_with fail
          go_meet
          exact ⟨by rw [HFE.out], rfl⟩
    case rest =>
      obtain ⟨rfl, rfl⟩ := hcut
      go_upto_block 4 with (fail)
      clear HST2 HGO2 HST HA hfb
      have hfbs : FB ≤ s.size := by have := plc_le a n; rw [HFB.out, HSZ.out]; exact this
      have hfbt : FB ≤ t.size := by have := plc_le b n; rw [plc_n HN.out] at this; rw [HFB.out, HTZ.out]; exact this
      have hfbM : FB ≤ M := by have := HMM.out; omega
      clear hk hks hkt
      go_cut [8] (fun i wx => ∃ k : Nat, k ≤ M - FB ∧ i = .int .i64 k ∧ Hid ((txt a).drop ((txt a).length - k) = (txt b).drop ((txt b).length - k)) ∧ Hid (k < (txt a).length - FB → k < (txt b).length - FB → (txt a).getD ((txt a).length - 1 - k) 0 ≠ (txt b).getD ((txt b).length - 1 - k) 0) ∧ ∃ n, wx = w3.drewN n)
      case first =>
        go_wp2_with fail
        go_loopw [8] (fun i wr => ∃ k : Nat, k ≤ M - FB ∧ i = .int .i64 k ∧ Hid ((txt a).drop ((txt a).length - k) = (txt b).drop ((txt b).length - k)) ∧ ∃ n, wr = w3.drewN n) (fun i _ => M - FB - (intOf i).toNat)
        case atStart => exact ⟨0, by omega, rfl, Lib.hid (by simp), 0, rfl⟩
        case round =>
          obtain ⟨k, hk, rfl, HA, nd, rfl⟩ := hrel
          have q1 : IntKind.i64.wrap ((M : Int) - FB) = ((M - FB : Nat) : Int) := by rw [IntWalk.i64_in _ (by omega)]; omega
          by_cases hlt : k < M - FB
          · obtain ⟨i, hi⟩ : ∃ i, i = s.size - 1 - k := ⟨_, rfl⟩
            obtain ⟨j, hj⟩ : ∃ j, j = t.size - 1 - k := ⟨_, rfl⟩
            have his : i < s.size := by omega
            have hjt : j < t.size := by omega
            have q2 : IntKind.i64.wrap ((s.size : Int) - 1) = (s.size : Int) - 1 := by rw [IntWalk.i64_in _ (by omega)]
            have q3 : IntKind.i64.wrap ((s.size : Int) - 1 - k) = (i : Int) := by rw [IntWalk.i64_in _ (by omega)]; omega
            have q4 : IntKind.i64.wrap ((t.size : Int) - 1) = (t.size : Int) - 1 := by rw [IntWalk.i64_in _ (by omega)]
            have q5 : IntKind.i64.wrap ((t.size : Int) - 1 - k) = (j : Int) := by rw [IntWalk.i64_in _ (by omega)]; omega
            have hgs := str_get s _ HS.out i his
            have hgt := str_get t _ HT.out j hjt
            have HI : Hid (i = (txt a).length - 1 - k) := Lib.hid (by rw [hi, HSZ.out])
            have HJ : Hid (j = (txt b).length - 1 - k) := Lib.hid (by rw [hj, HTZ.out])
            clear hi hj
            have hd : decide (k < M - FB) = true := by simpa using hlt
            by_cases he : s[i] = t[j]
            · have hq : ((s[i].toNat : Int) == (t[j].toNat : Int)) = true := by rw [he]; simp
              have HA2 : Hid ((txt a).drop ((txt a).length - (k + 1)) = (txt b).drop ((txt b).length - (k + 1))) := Lib.hid (by
                have h1 : i < (txt a).length := by rw [← HSZ.out]; exact his
                have h2 : j < (txt b).length := by rw [← HTZ.out]; exact hjt
                have h6 := HI.out
                have h7 := HJ.out
                have h8 := HSZ.out
                have h9 := HTZ.out
                clear q1 q2 q3 q4 q5
                rw [show (txt a).length - (k + 1) = i by omega, show (txt b).length - (k + 1) = j by omega]
                rw [List.drop_eq_getElem_cons h1, List.drop_eq_getElem_cons h2]
                rw [List.getD_eq_getElem?_getD, List.getElem?_eq_getElem h1] at hgs
                rw [List.getD_eq_getElem?_getD, List.getElem?_eq_getElem h2] at hgt
                have h3 : (txt a)[i] = (txt b)[j] := by
                  have h4 : s[i] = (txt a)[i] := hgs
                  have h5 : t[j] = (txt b)[j] := hgt
                  rw [← h4, ← h5, he]
                rw [h3, show i + 1 = (txt a).length - k by omega, show j + 1 = (txt b).length - k by omega, HA.out])
              clear hgs hgt he HA
              go_wp2_with fail
              go_quiet (fail)
              clear q1 q2 q3 q4 q5
              go_wp2
              go_roundw
              case rel => exact ⟨k + 1, by omega, by go_num, HA2, _, rfl⟩
              case measure => simp [intOf]; omega
            · have hq : ((s[i].toNat : Int) == (t[j].toNat : Int)) = false := by
                refine beq_eq_false_iff_ne.2 fun e => he ?_
                apply UInt8.toNat.inj; omega
              have HST : Hid (k < (txt a).length - FB → k < (txt b).length - FB → (txt a).getD ((txt a).length - 1 - k) 0 ≠ (txt b).getD ((txt b).length - 1 - k) 0) := Lib.hid (by
                intro _ _ e
                rw [← HI.out, ← HJ.out, ← hgs, ← hgt] at e
                exact he e)
              clear hgs hgt he
              go_wp2_with fail
              go_quiet (fail)
              clear q1 q2 q3 q4 q5
              go_wp2
              go_meet
              exact ⟨k, hk, rfl, HA, HST, _, drewN2 _ _ _⟩
          · have hd : decide (k < M - FB) = false := by simpa using hlt
            have HST : Hid (k < (txt a).length - FB → k < (txt b).length - FB → (txt a).getD ((txt a).length - 1 - k) 0 ≠ (txt b).getD ((txt b).length - 1 - k) 0) := Lib.hid (by
              intro h1 h2
              rw [← HSZ.out] at h1
              rw [← HTZ.out] at h2
              have := HMM.out
              omega)
            go_wp2_with fail
            go_quiet (fail)
            clear q1
            go_wp2
            go_meet
            exact ⟨k, hk, rfl, HA, HST, _, drewN2 _ _ _⟩
      case rest =>
        obtain ⟨k, hk, rfl, HA, HST, nd, rfl⟩ := hcut
        go_upto_block 6 with (fail)
        have heb : eb a m ≤ k := back_le ha hb HN.out HM.out (by rw [← HFB.out]; exact HST.out)
        obtain ⟨EB, hEB⟩ : ∃ f, f = eb a m := ⟨_, rfl⟩
        rw [← hEB] at heb
        have HEB := Lib.hid hEB; clear hEB
        have hks : k ≤ s.size - FB := by omega
        have hkt : k ≤ t.size - FB := by omega
        have HSTOP : ∀ f, EB ≤ f → f ≤ k → (0 < f → startB ((txt a).getD (s.size - f) 0) = true) → f = EB := fun f h1 h2 h3 => by
          rw [HEB.out]
          exact back_eq ha hb HN.out HM.out HA.out (by rw [← HFB.out, ← HSZ.out]; exact hks) (by rw [← HFB.out, ← HTZ.out]; exact hkt) (by rw [← HEB.out]; exact h1) h2 (fun h => by rw [← HSZ.out]; exact h3 h)
        have HST2 := Lib.hid HSTOP; clear HSTOP
        have HGO : ∀ f, EB = f → 0 < f → startB ((txt a).getD (s.size - f) 0) = true := fun f h1 h2 => by
          subst h1
          rw [HEB.out, HSZ.out]
          exact back_start ha (by rw [← HEB.out]; exact h2)
        have HGO2 := Lib.hid HGO; clear HGO
        have hbw4 : Below w.heap.size w (w3.drewN nd) := below_drewN hbw3 nd
        have hT4 : Tabs (w3.drewN nd) := hT3
        have HFV4 := Lib.hid (show Box5 (w3.drewN nd) w.heap.size (.int .i64 0) (.int .i64 0) (.int .i64 0) (.int .i64 0) (.string ⟨#[]⟩) from HFV.out)
        have hz4 : w.heap.size < (w3.drewN nd).heap.size := hz3
        clear hbw3 hT3 HFV hz3
        generalize w3.drewN nd = w4 at *
        go_cut [8] (fun i wx => i = .int .i64 EB ∧ w4 = wx)
        case first =>
          go_wp2_with fail
          go_loop [8] (fun i => ∃ f : Nat, EB ≤ f ∧ f ≤ k ∧ i = .int .i64 f) (fun i => (intOf i).toNat)
          case atStart => exact ⟨k, heb, Nat.le_refl _, rfl⟩
          case round =>
            obtain ⟨f, h1, h2, rfl⟩ := hrel
            by_cases hlt : 0 < f
            · obtain ⟨i, hi⟩ : ∃ i, i = s.size - f := ⟨_, rfl⟩
              have his : i < s.size := by omega
              have q1 : (s.size : Int) - (f : Int) = (i : Int) := by omega
              have hgs := str_get s _ HS.out i his
              have hcall := fun wx => Tryd.utf8_RuneStart (s[i].toNat : Int) wx (by omega) (by have := s[i].toNat_lt; omega)
              rw [startB_eq] at hcall
              cases hst : startB s[i] with
              | true =>
                rw [hst] at hcall
                have hfe : f = EB := HST2.out f h1 h2 (fun _ => by rw [← hi, ← hgs]; exact hst)
                have HFE := Lib.hid hfe; clear hfe hgs hst hi
                go_wp2_with (go_at_call 67; refine (hcall _).mono ?_; rintro e w5 ⟨rfl, rfl⟩)
                go_meet
                exact ⟨by rw [HFE.out], rfl⟩
              | false =>
                rw [hst] at hcall
                have hne : EB < f := by
                  rcases Nat.eq_or_lt_of_le h1 with e | e
                  · exfalso
                    have := HGO2.out f e hlt
                    rw [← hi, ← hgs, hst] at this
                    cases this
                  · exact e
                clear hgs hst hi
                go_wp2_with (go_at_call 67; refine (hcall _).mono ?_; rintro e w5 ⟨rfl, rfl⟩)
                clear q1
                go_round
                case rel => exact ⟨f - 1, by omega, by omega, by go_num⟩
                case measure => simp [intOf]; omega
            · have hfe : f = EB := HST2.out f h1 h2 (fun h => absurd h hlt)
              have HFE := Lib.hid hfe; clear hfe
              go_wp2_with fail
              go_meet
              exact ⟨by rw [HFE.out], rfl⟩
        case rest =>
          obtain ⟨rfl, rfl⟩ := hcut
          clear HST2 HGO2 HST HA hks hkt hk heb k
          have hebs : EB ≤ s.size - FB := by have := (eb_most ha hb HN.out HM.out).1; rw [← HEB.out, ← HFB.out, ← HSZ.out] at this; exact this
          have hebt : EB ≤ t.size - FB := by have := (eb_most ha hb HN.out HM.out).2; rw [← HEB.out, ← HFB.out, ← HTZ.out] at this; exact this
          have q1 : (t.size : Int) - (EB : Int) = ((t.size - EB : Nat) : Int) := by omega
          have HX : Hid ((t.extract FB (t.size - EB)).data.toList = txt (midN b n m)) := Lib.hid (by
            rw [extract_l t _ _ _ HT.out, HTZ.out, HEB.out, HFB.out]
            exact mid_txt ha hb HN.out HM.out)
          go_wp2_with fail
          refine (clone_any _ _ (by simp; omega)).mono ?_
          rintro e w5 ⟨rfl, hb5⟩
          have hbw5 := hbw4.trans (hb5.mono hbw4.size)
          have hT5 := hT4.below hb5
          have HFV5 := Lib.hid (HFV4.out.below hz4 hb5)
          have hz5 := hb5.size
          clear q1 HFV4 hT4 hb5 hbw4
          generalize t.extract FB (t.size - EB) = X at *
          have hp1 : IsO a (FB : Int) (some n) := ⟨HN.out.la, by rw [HFB.out]⟩
          have hp2 : IsO a ((s.size - EB : Nat) : Int) (some (a.length - m)) := ⟨by omega, by
            have h1 := plc_le a (a.length - m)
            rw [HEB.out, HSZ.out]; unfold eb; omega⟩
          have HP1 := Lib.hid hp1; clear hp1
          have HP2 := Lib.hid hp2; clear hp2
          have hbw6 : Below w.heap.size w (w5.alloc (.cells #[.int .i64 0, .int .i64 0, .int .i64 0, .int .i64 0, .string X] 52)) := hbw5.alloc (by omega) _
          have hT6 : Tabs (w5.alloc (.cells #[.int .i64 0, .int .i64 0, .int .i64 0, .int .i64 0, .string X] 52)) := hT.below hbw6
          go_wp2_with fail
          refine (tplace_ok s a HS.out ha (by omega) _ (some n) HP1 _ hT6).mono ?_
          rintro e w7 ⟨rfl, hb7⟩
          have hz7 : w5.heap.size + 1 ≤ w7.heap.size := by have := hb7.size; simpa using this
          have HFV7 := Lib.hid ((HFV5.out.below (w' := w5.alloc (.cells #[.int .i64 0, .int .i64 0, .int .i64 0, .int .i64 0, .string X] 52)) (by omega) ((Below.refl _ _).alloc (Nat.le_refl _) _)).below (by simp; omega) hb7)
          have hx7 := (Box5.new w5 (.int .i64 0) (.int .i64 0) (.int .i64 0) (.int .i64 0) (.string X)).below (by simp) hb7
          have q2 : (s.size : Int) - (EB : Int) = ((s.size - EB : Nat) : Int) := by omega
          obtain ⟨c0, c1, c2, c3, c4, f0, f1, f2, f3, f4⟩ := hx7
          go_wp2_with fail
          have hbw7 : Below w.heap.size w w7 := hbw6.trans (hb7.mono (by simp; omega))
          have hbw8 : Below w.heap.size w ((w7.setCell ⟨w5.heap.size, 0, none⟩ (.int .i64 (posT a n).1)).setCell ⟨w5.heap.size, 1, none⟩ (.int .i64 (posT a n).2)) := (hbw7.setCell (p := ⟨w5.heap.size, 0, none⟩) hbw5.size _).setCell (p := ⟨w5.heap.size, 1, none⟩) hbw5.size _
          have hx8 := (Box5.set01 ⟨c0, c1, c2, c3, c4, f0, f1, f2, f3, f4⟩ (.int .i64 (posT a n).1) (.int .i64 (posT a n).2))
          refine (tplace_ok s a HS.out ha (by omega) _ (some (a.length - m)) HP2 _ (hT.below hbw8)).mono ?_
          rintro e w9 ⟨rfl, hb9⟩
          have hx9 := hx8.below (by simp; omega) hb9
          have hy9 : Box5 w9 w.heap.size (.int .i64 0) (.int .i64 0) (.int .i64 0) (.int .i64 0) (.string ⟨#[]⟩) := ((HFV7.out.other (p := ⟨w5.heap.size, 0, none⟩) (by simp; omega) _).other (p := ⟨w5.heap.size, 1, none⟩) (by simp; omega) _).below (by simp; omega) hb9
          have hbw9 := hbw8.trans (hb9.mono hbw8.size)
          clear c0 c1 c2 c3 c4 f0 f1 f2 f3 f4 hx8 q2
          obtain ⟨c0, c1, c2, c3, c4, f0, f1, f2, f3, f4⟩ := hx9
          obtain ⟨d0, d1, d2, d3, d4, g0, g1, g2, g3, g4⟩ := hy9
          have hne : w.heap.size ≠ w5.heap.size := by omega
          have hne' : w5.heap.size ≠ w.heap.size := by omega
          go_wp2_with fail
          refine bodyPost_ret (v := .tuple #[.agg #[.int .i64 (posT a n).1, .int .i64 (posT a n).2, .int .i64 (posT a (a.length - m)).1, .int .i64 (posT a (a.length - m)).2, .string X], .int .i64 0]) (by simp [results, Tryd.results50, go_sem, d0, d1, d2, d3, d4]) rfl ⟨X, HX.out, rfl, ?_⟩
          have e1 := hbw5.size
          exact ((((((hbw9.setCell (p := ⟨w5.heap.size, 2, none⟩) e1 _).setCell (p := ⟨w5.heap.size, 3, none⟩) e1 _).setCell (p := ⟨w.heap.size, 0, none⟩) (Nat.le_refl _) _).setCell (p := ⟨w.heap.size, 1, none⟩) (Nat.le_refl _) _).setCell (p := ⟨w.heap.size, 2, none⟩) (Nat.le_refl _) _).setCell (p := ⟨w.heap.size, 3, none⟩) (Nat.le_refl _) _).setCell (p := ⟨w.heap.size, 4, none⟩) (Nat.le_refl _) _
end Go.Proofs.YtdldkidccjkhgaaDoor
