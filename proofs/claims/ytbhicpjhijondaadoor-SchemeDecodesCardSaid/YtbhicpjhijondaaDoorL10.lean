/- The reference's right and Right. -/
import Derived.Test.YtbhicpjhijondaaDoorL9
import Derived.Deep.CutBlock
import Derived.Deep.DeepCutAuto
namespace Go.Proofs.YtbhicpjhijondaaDoor
open Go.RowKit Go.Lib Go.Vfs Go.Par Go.Typ
set_option linter.unusedVariables false
set_option linter.unusedSimpArgs false

set_option maxRecDepth 20000 in
set_option maxHeartbeats 2000000 in
theorem r12right_any (T : Ty) : ∀ (v : Value) (w : World), TyAt (· < w.heap.size) w v T → NmB 1000000000 T →
    Calls Tryd.prog 65 #[v] w fun e w' => e = .returned (.bool (fitsA T)) ∧ Below w.heap.size w w' := by
  induction T using Ty.ind with
  | h T ih =>
    intro v w hT hnb
    have IH := Lib.hid ih
    clear ih
    obtain ⟨A, c, rfl, hc, hm, hn⟩ := hT.form
    have HT := Lib.hid hT
    have HNB := Lib.hid hnb
    have hla : T.args.length ≤ 9223372036854775807 := by simp only [maxLen] at hm; omega
    have HK : Hid (∀ W, Calls Tryd.prog 73 #[.string T.name] W fun e w' => ∃ z, e = .returned (.int .i64 z) ∧ (z = 1 ↔ nameOk T.name.data.toList = true) ∧ Below W.heap.size W w') := Lib.hid fun W => r8kind_any T.name (hnb T (by rw [T.list_eq]; exact List.mem_cons_self)) W
    obtain ⟨r, hr⟩ : ∃ r, r = fitsT T := ⟨_, rfl⟩
    have HRA : Hid (fitsA T = (r && T.args.all fitsA)) := Lib.hid (by rw [hr]; exact fitsA_eq T)
    unfold fitsT at hr
    have HR := Lib.hid hr
    obtain ⟨W1, hW1⟩ : ∃ W1, W1 = w.alloc (.cells #[.int .i64 T.kind, .int .i64 T.num, .string T.name, .slice A T.args.length c] 24) := ⟨_, rfl⟩
    have hbx : W1.heap[w.heap.size]? = some (.cells #[.int .i64 T.kind, .int .i64 T.num, .string T.name, .slice A T.args.length c] 24 (0, 0)) := by rw [hW1]; exact heap_alloc_new _ _
    have HB1 : Hid (Below w.heap.size w W1) := Lib.hid (by rw [hW1]; exact (Below.refl _ _).alloc (Nat.le_refl _) _)
    have HZ1 : Hid (W1.heap.size = w.heap.size + 1) := Lib.hid (by rw [hW1]; simp)
    have HBX := Lib.hid hbx
    obtain ⟨y0, y1, y2, y3⟩ := box4 hbx
    rw [hW1] at y0 y1 y2 y3
    clear hr hT hc hm hn hnb hbx
    unfold tyV
    go_enter Tryd.func65, Tryd.ntmps65
    go_upto_block 0 with fail
    rw [← hW1]
    rw [← hW1] at y0 y1 y2 y3
    clear hW1
    go_cut [3] (fun v W => v = .bool r ∧ Hid (Below W1.heap.size W1 W))
    case first =>
      by_cases k1 : T.kind = 1
      · have g1 : (T.kind == 1) = true := by simp [k1]
        have K1 := Lib.hid k1
        clear k1
        go_wp2
        all_goals (go_meet; refine ⟨congrArg Value.bool ?_, Lib.hid (Below.refl _ _)⟩; rw [HR.out])
        all_goals first | (simp [*, K1.out, beq_zero, beq_two]; done) | (simp [*, K1.out, beq_zero, beq_two]; omega)
      by_cases k2 : T.kind = 2
      · have g1 : (T.kind == 1) = false := by simp [k1]
        have g2 : (T.kind == 2) = true := by simp [k2]
        have K1 := Lib.hid k2
        clear k1 k2
        cases hzb : (T.num == 0) with
        | true =>
          have hz0 : T.num = 0 := by simpa using hzb
          have HZ0 := Lib.hid hz0
          clear hz0
          go_wp2_with (go_at_call 73; refine (HK.out _).mono ?_; rintro e w2 ⟨z, rfl, hz, HB2⟩; have hz1 : (z == 1) = nameOk T.name.data.toList := by (rw [Bool.eq_iff_iff, ← hz]; simp))
          go_meet
          refine ⟨congrArg Value.bool ?_, Lib.hid (by assumption)⟩
          rw [HR.out]
          simp [K1.out, HZ0.out]
        | false =>
          have hz0 : ¬ T.num = 0 := by simpa using hzb
          have HZ0 := Lib.hid hz0
          clear hz0
          go_wp2
          go_meet
          refine ⟨congrArg Value.bool ?_, Lib.hid (Below.refl _ _)⟩
          rw [HR.out]
          simp [K1.out, HZ0.out]
      by_cases k3 : T.kind = 3
      · have g1 : (T.kind == 1) = false := by simp [k1]
        have g2 : (T.kind == 2) = false := by simp [k2]
        have g3 : (T.kind == 3) = true := by simp [k3]
        have K1 := Lib.hid k3
        clear k1 k2 k3
        cases hzb : (T.num == 0) with
        | true =>
          have hz0 : T.num = 0 := by simpa using hzb
          have HZ0 := Lib.hid hz0
          clear hz0
          go_wp2
          all_goals (go_meet; refine ⟨congrArg Value.bool ?_, Lib.hid (Below.refl _ _)⟩; rw [HR.out])
          all_goals first | (simp [*, K1.out, HZ0.out, beq_zero, beq_two]; done) | (simp [*, K1.out, HZ0.out, beq_zero, beq_two]; omega)
        | false =>
          have hz0 : ¬ T.num = 0 := by simpa using hzb
          have HZ0 := Lib.hid hz0
          clear hz0
          go_wp2
          go_meet
          refine ⟨congrArg Value.bool ?_, Lib.hid (Below.refl _ _)⟩
          rw [HR.out]
          simp [K1.out, HZ0.out]
      by_cases k4 : T.kind = 4
      · have g1 : (T.kind == 1) = false := by simp [k1]
        have g2 : (T.kind == 2) = false := by simp [k2]
        have g3 : (T.kind == 3) = false := by simp [k3]
        have g4 : (T.kind == 4) = true := by simp [k4]
        have K1 := Lib.hid k4
        clear k1 k2 k3 k4
        cases hzb : (T.num == 0) with
        | true =>
          have hz0 : T.num = 0 := by simpa using hzb
          have HZ0 := Lib.hid hz0
          clear hz0
          go_wp2
          all_goals (go_meet; refine ⟨congrArg Value.bool ?_, Lib.hid (Below.refl _ _)⟩; rw [HR.out])
          all_goals first | (simp [*, K1.out, HZ0.out, beq_zero, beq_two]; done) | (simp [*, K1.out, HZ0.out, beq_zero, beq_two]; omega)
        | false =>
          have hz0 : ¬ T.num = 0 := by simpa using hzb
          have HZ0 := Lib.hid hz0
          clear hz0
          go_wp2
          go_meet
          refine ⟨congrArg Value.bool ?_, Lib.hid (Below.refl _ _)⟩
          rw [HR.out]
          simp [K1.out, HZ0.out]
      have g1 : (T.kind == 1) = false := by simpa using k1
      have g2 : (T.kind == 2) = false := by simpa using k2
      have g3 : (T.kind == 3) = false := by simpa using k3
      have g4 : (T.kind == 4) = false := by simpa using k4
      have HR2 : Hid (r = false) := Lib.hid (by rw [HR.out]; simp [k1, k2, k3, k4])
      clear k1 k2 k3 k4
      go_wp2
      go_meet
      exact ⟨by rw [HR2.out], Lib.hid (Below.refl _ _)⟩
    case rest =>
      obtain ⟨rfl, HBC⟩ := hcut
      clear HK HR y0 y1 y2 y3
      go_wp2_with fail
      go_loopw [3, 4] (fun ov iv W => ∃ (k : Nat) (ok : Bool), k ≤ T.args.length ∧ ov = .bool ok ∧ iv = .int .i64 k ∧ Hid (fitsA T = (ok && (T.args.drop k).all fitsA)) ∧ Hid (Below W1.heap.size W1 W)) (fun _ iv _ => T.args.length - (RowKit.intOf iv).toNat)
      case atStart => exact ⟨0, r, by omega, rfl, rfl, HRA, HBC⟩
      case round =>
        obtain ⟨k, ok, hk, rfl, rfl, HW, HB⟩ := hrel
        have hbox : wr.heap[w.heap.size]? = some (.cells #[.int .i64 T.kind, .int .i64 T.num, .string T.name, .slice A T.args.length c] 24 (0, 0)) := by
          rw [HB.out.block _ (by have := HZ1.out; omega)]; exact HBX.out
        obtain ⟨y0, y1, y2, y3⟩ := box4 hbox
        by_cases hlt : k < T.args.length
        · cases ok with
          | true =>
            obtain ⟨b, off, A', c', rfl, hb, ht, z0, z1, z2, z3⟩ := HT.out.arg hlt
            have hbw : Below w.heap.size w wr := HB1.out.trans (HB.out.mono HB1.out.size)
            have x0 := (hbw.cell (p := ⟨b, off + k * 4, none⟩) hb).trans z0
            have x1 := (hbw.cell (p := ⟨b, off + k * 4 + 1, none⟩) hb).trans z1
            have x2 := (hbw.cell (p := ⟨b, off + k * 4 + 2, none⟩) hb).trans z2
            have x3 := (hbw.cell (p := ⟨b, off + k * 4 + 3, none⟩) hb).trans z3
            have hca := IH.out k hlt _ wr (ht.keep fun g hg => ⟨Nat.lt_of_lt_of_le hg hbw.size, hbw.block g hg⟩) (fun x hx => HNB.out x (by
              rw [T.list_eq]
              exact List.mem_cons_of_mem _ (mem_listL (List.getElem_mem hlt) hx)))
            have HS : Hid (fitsA T = (fitsA T.args[k] && (T.args.drop (k + 1)).all fitsA)) := Lib.hid (by
              rw [HW.out, List.drop_eq_getElem_cons hlt, List.all_cons, Bool.true_and])
            clear z0 z1 z2 z3 ht hbox
            generalize T.args[k] = U at *
            obtain ⟨q, hq⟩ : ∃ q, q = fitsA U := ⟨_, rfl⟩
            rw [← hq] at hca HS
            unfold tyV at hca
            have HCA := Lib.hid hca
            clear hca hq
            go_wp2_with (go_at_call 65; refine HCA.out.mono ?_; rintro e w2 ⟨rfl, HB2⟩)
            go_roundw
            case rel => exact ⟨k + 1, q, by omega, rfl, by go_num, HS, Lib.hid (HB.out.trans (HB2.mono HB.out.size))⟩
            case measure => simp [RowKit.intOf]; omega
          | false =>
            have HRES : Hid (fitsA T = false) := Lib.hid (by rw [HW.out, Bool.false_and])
            go_wp2
            go_ret
            exact ⟨by rw [HRES.out]; rfl, HB1.out.trans (HB.out.mono HB1.out.size)⟩
        · have HRES : Hid (fitsA T = ok) := Lib.hid (by rw [HW.out, List.drop_of_length_le (by omega)]; simp)
          go_wp2
          go_ret
          exact ⟨by rw [HRES.out]; rfl, HB1.out.trans (HB.out.mono HB1.out.size)⟩
set_option maxRecDepth 20000 in
set_option maxHeartbeats 1000000 in
theorem r12Right_any (T : Ty) (v : Value) (w : World) (hT : TyAt (· < w.heap.size) w v T) (hp : T.parts ≤ 1099511627776) (hn : NmB 1000000000 T) :
    Calls Tryd.prog 29 #[v] w fun e w' => e = .returned (.bool (rightT T)) ∧ Below w.heap.size w w' := by
  obtain ⟨A, c, rfl, -⟩ := hT.form
  obtain ⟨W1, hW1⟩ : ∃ W1, W1 = w.alloc (.cells #[.int .i64 T.kind, .int .i64 T.num, .string T.name, .slice A T.args.length c] 24) := ⟨_, rfl⟩
  have hbx : W1.heap[w.heap.size]? = some (.cells #[.int .i64 T.kind, .int .i64 T.num, .string T.name, .slice A T.args.length c] 24 (0, 0)) := by rw [hW1]; exact heap_alloc_new _ _
  have hb1 : Below w.heap.size w W1 := by rw [hW1]; exact (Below.refl _ _).alloc (Nat.le_refl _) _
  have HB1 := Lib.hid hb1
  have HBX := Lib.hid hbx
  have hT1 := hT.blw hb1
  have hc1 := count_any T _ W1 hT1 hp
  have HC2 : Hid (∀ W, Below W1.heap.size W1 W → Calls Tryd.prog 65 #[tyV T.kind T.num T.name A T.args.length c] W fun e w' => e = .returned (.bool (fitsA T)) ∧ Below W.heap.size W w') := Lib.hid fun W hW => r12right_any T _ W (hT1.blw hW) hn
  have HCT := Lib.hid (countT_ok T)
  have HRT : Hid (rightT T = (decide (T.parts ≤ 300) && fitsA T)) := Lib.hid rfl
  obtain ⟨y0, y1, y2, y3⟩ := box4 hbx
  rw [hW1] at y0 y1 y2 y3
  unfold tyV at hc1 HC2 ⊢
  have HC1 := Lib.hid hc1
  clear hT hbx hb1 hT1 hc1
  go_enter Tryd.func29, Tryd.ntmps29
  go_wp2_with fail
  rw [← hW1]
  clear hW1 y0 y1 y2 y3
  refine HC1.out.mono ?_
  rintro e w2 ⟨rfl, hb2⟩
  have HB2 : Hid (Below W1.heap.size W1 w2) := Lib.hid hb2
  obtain ⟨y0, y1, y2, y3⟩ := box4 ((hb2.block _ (lt_blk HBX.out)).trans HBX.out)
  clear hb2
  by_cases h3 : T.parts ≤ 300
  · have hle : countT T ≤ 300 := by have := HCT.out; rcases this with ⟨_, h1, _⟩; omega
    have HRR : Hid (rightT T = fitsA T) := Lib.hid (by rw [HRT.out, decide_eq_true h3, Bool.true_and])
    clear HCT
    generalize countT T = ct at *
    go_wp2_with fail
    refine (HC2.out _ HB2.out).mono ?_
    rintro e w3 ⟨rfl, hb3⟩
    have HB3 := Lib.hid (HB1.out.trans ((HB2.out.trans (hb3.mono HB2.out.size)).mono HB1.out.size))
    clear hb3
    go_wp2
    go_ret
    exact ⟨by rw [HRR.out]; rfl, HB3.out⟩
  · have hle : ¬ countT T ≤ 300 := by have := HCT.out; rcases this with ⟨_, h1, h2⟩; omega
    have HRR : Hid (rightT T = false) := Lib.hid (by rw [HRT.out, decide_eq_false h3, Bool.false_and])
    clear HCT
    generalize countT T = ct at *
    go_wp2
    go_ret
    exact ⟨by rw [HRR.out]; rfl, HB1.out.trans (HB2.out.mono HB1.out.size)⟩
end Go.Proofs.YtbhicpjhijondaaDoor
