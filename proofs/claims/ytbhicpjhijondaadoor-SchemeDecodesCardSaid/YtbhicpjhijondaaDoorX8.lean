/- scheme.Put: the walk. -/
import Derived.Test.YtbhicpjhijondaaDoorX7
import Derived.Deep.CutBlock
namespace Go.Typ
theorem putS_pos (one : Ex) (xs : List Ex) : (putS xs one).2 = true → (putS xs one).1 ≠ [] := by
  have key : ∀ (ys : List Ex) (s : List Ex × Bool), (s.2 = true → s.1 ≠ []) → ((ys.foldl (putStep one) s).2 = true → (ys.foldl (putStep one) s).1 ≠ []) := by
    intro ys
    induction ys with
    | nil => intro s h; exact h
    | cons y ys ih =>
      intro s h
      rw [List.foldl_cons]
      refine ih _ ?_
      unfold putStep
      split
      · exact h
      · split
        · intro _; simp
        · intro _; simp
  exact key xs ([], false) (fun h => by cases h)
theorem putX_pos (one : Ex) (xs : List Ex) : 0 < (putX xs one).length := by
  unfold putX
  split
  · rename_i h
    have := putS_pos one xs h
    cases hl : (putS xs one).1 with
    | nil => exact absurd hl this
    | cons a l => simp
  · simp
end Go.Typ
namespace Go.Proofs.YtbhicpjhijondaaDoor
open Go.RowKit Go.Lib Go.Vfs Go.Par Go.Typ Go.Shelf
set_option linter.unusedVariables false
set_option linter.unusedSimpArgs false

theorem row_app5 {B Z : Nat} {w w3 : World} {xs : List Ex} {v v' : Value} {us : List Value} (h : RowK 46 5 ExAt 0 B w xs v us) {x : Ex} {A : Option Addr} {c : Nat} (hx : ExAt (· < Z) w (exV x A c) x) (hZ : Z ≤ B) (hzw : B ≤ w.heap.size) {o : Obj}
    (hown : w3.ownsRow B 46 5 v' (xs.length + 1) (us.flatMap flatC ++ flatC (exV x A c))) (hg : (w.alloc o).grownBy w3 v.ownBlock) (hat : v'.ownBlock = v.ownBlock ∨ v'.ownBlock = some (w.alloc o).heap.size) :
    RowK 46 5 ExAt 0 B w3 (xs ++ [x]) v' (us ++ [exV x A c]) :=
  RowK.next (R := ExAt) ExAt.keep h hx (fun g (hg : g < Z) => ⟨Nat.zero_le _, by omega, fun e => by have := h.lt g e; omega⟩) rfl o hown hg hat
def PutPost (xs : List Ex) (one : Ex) (w : World) (e : Ending) (w' : World) : Prop :=
  ∃ v', e = .returned (.tuple #[v', .int .i64 (if rightX (putX xs one) then 0 else 140)]) ∧ Below w.heap.size w w' ∧ (rightX (putX xs one) = true → ExsAt (· < w'.heap.size) w' v' (putX xs one)) ∧ (rightX (putX xs one) = false → v' = .slice none 0 0)

set_option maxRecDepth 20000 in
set_option maxHeartbeats 4000000 in
theorem put_any (xs : List Ex) (hp : ∀ x ∈ xs, RowOk x.ty) (nm : ByteArray) (hnm : nm.size ≤ 9223372036854775807) (T : Ty) (hpT : RowOk T) (v u : Value) (w : World) (hX : ExsAt (· < w.heap.size) w v xs) (hT : TyAt (· < w.heap.size) w u T) (hl : xs.length ≤ 1000000) :
    Calls Tryd.prog 43 #[v, .string nm, u] w (PutPost xs ⟨nm, T⟩ w) := by
  obtain ⟨P, hP⟩ : ∃ P, P = PutPost xs ⟨nm, T⟩ w := ⟨_, rfl⟩
  have HPO := Lib.hid hP
  rw [← hP]
  clear hP
  obtain ⟨A, c, rfl, hc, hm⟩ := hX.form
  obtain ⟨At, ct, rfl, hct, hmt, hnt⟩ := hT.form
  obtain ⟨W1, hW1⟩ : ∃ W1, W1 = (w.alloc (.cells #[.int .i64 T.kind, .int .i64 T.num, .string T.name, .slice At T.args.length ct] 24)).alloc (.cells #[.string nm, .int .i64 T.kind, .int .i64 T.num, .string T.name, .slice At T.args.length ct] 46) := ⟨_, rfl⟩
  have hb1 : Below w.heap.size w W1 := by rw [hW1]; exact ((Below.refl _ _).alloc (Nat.le_refl _) _).alloc (by simp) _
  have hbo : W1.heap[w.heap.size + 1]? = some (.cells #[.string nm, .int .i64 T.kind, .int .i64 T.num, .string T.name, .slice At T.args.length ct] 46 (0, 0)) := by
    rw [hW1]
    have := heap_alloc_new (w.alloc (.cells #[.int .i64 T.kind, .int .i64 T.num, .string T.name, .slice At T.args.length ct] 24)) (.cells #[.string nm, .int .i64 T.kind, .int .i64 T.num, .string T.name, .slice At T.args.length ct] 46)
    simpa using this
  obtain ⟨y0, y1, y2, y3⟩ := box4 (show (w.alloc (.cells #[.int .i64 T.kind, .int .i64 T.num, .string T.name, .slice At T.args.length ct] 24)).heap[w.heap.size]? = some (.cells #[.int .i64 T.kind, .int .i64 T.num, .string T.name, .slice At T.args.length ct] 24 (0, 0)) from heap_alloc_new _ _)
  have HZ1 : Hid (W1.heap.size = w.heap.size + 2) := Lib.hid (by rw [hW1]; simp)
  have HX := Lib.hid hX; have HB1 := Lib.hid hb1; have HBO := Lib.hid hbo; have HP := Lib.hid hp; have HPT := Lib.hid hpT
  have HONE : Hid (ExAt (· < w.heap.size) w (exV ⟨nm, T⟩ At ct) ⟨nm, T⟩) := Lib.hid ⟨At, ct, rfl, hnm, hT⟩
  have hla : xs.length ≤ 9223372036854775807 := by omega
  clear hX hc hm hT hct hmt hnt hb1 hbo hp hpT
  unfold tyV
  go_enter Tryd.func43, Tryd.ntmps43
  go_wp2
  rw [← hW1]
  clear hW1 y0 y1 y2 y3
  go_loopw [8, 10, 19] (fun sv pv iv W => ∃ (k : Nat) (us : List Value), k ≤ xs.length ∧ pv = .bool (putS (xs.take k) ⟨nm, T⟩).2 ∧ iv = .int .i64 k ∧ Hid (RowK 46 5 ExAt 0 W1.heap.size W (putS (xs.take k) ⟨nm, T⟩).1 sv us) ∧ Hid (Below W1.heap.size W1 W)) (fun _ _ iv _ => xs.length - (RowKit.intOf iv).toNat)
  case atStart => exact ⟨0, [], by omega, rfl, rfl, Lib.hid (by rw [List.take_zero, putS_nil]; exact ⟨rfl, World.ownsRow_nil _ _ _ _, by simp, fun i h => by simp at h⟩), Lib.hid (Below.refl _ _)⟩
  case round =>
    obtain ⟨k, us, hk, rfl, rfl, HR, HB⟩ := hrel
    have hz1 := HZ1.out
    have hzb := HB.out.size
    have hbw : Below w.heap.size w wr := HB1.out.trans (HB.out.mono (by omega))
    have HBW := Lib.hid hbw
    have hbo := (HB.out.block _ (lt_blk HBO.out)).trans HBO.out
    by_cases hlt : k < xs.length
    · obtain ⟨b, off, A', c', rfl, hb, hns, ht, x0, x1, x2, x3, x4⟩ := (HX.out.keep (S' := (· < w.heap.size)) fun g hg => ⟨hg, hbw.block g hg⟩).arg hlt
      have hst := putS_step (one := ⟨nm, T⟩) hlt
      have hac : (putS (xs.take k) ⟨nm, T⟩).1.length ≤ 2 * k := by
        have := putS_len ⟨nm, T⟩ (xs.take k)
        rw [List.length_take] at this; omega
      obtain ⟨W2, hW2⟩ : ∃ W2, W2 = wr.alloc (.cells #[.string xs[k].name, .int .i64 xs[k].ty.kind, .int .i64 xs[k].ty.num, .string xs[k].ty.name, .slice A' xs[k].ty.args.length c'] 46) := ⟨_, rfl⟩
      have hb2 : Below wr.heap.size wr W2 := by rw [hW2]; exact (Below.refl _ _).alloc (Nat.le_refl _) _
      have hbx : W2.heap[wr.heap.size]? = some (.cells #[.string xs[k].name, .int .i64 xs[k].ty.kind, .int .i64 xs[k].ty.num, .string xs[k].ty.name, .slice A' xs[k].ty.args.length c'] 46 (0, 0)) := by rw [hW2]; exact heap_alloc_new _ _
      have hz2 : W2.heap.size = wr.heap.size + 1 := by rw [hW2]; simp
      have HEX : Hid (∀ W, Below w.heap.size wr W → ExAt (· < w.heap.size) W (exV xs[k] A' c') xs[k]) := Lib.hid fun W h => ⟨A', c', rfl, hns, ht.keep fun g hg => ⟨hg, h.block g hg⟩⟩
      have hr2 := RowK.below (R := ExAt) ExAt.keep HR.out hb2
      have HB2 : Hid (Below W1.heap.size W1 W2) := Lib.hid (HB.out.trans (hb2.mono hzb))
      obtain ⟨z0, z1, z2, z3, z4⟩ := box5 hbx
      rw [hW2] at z0 z1 z2 z3 z4
      generalize putS (xs.take k) ⟨nm, T⟩ = st at *
      obtain ⟨acc, pl⟩ := st
      simp only at hac hst hr2 ⊢
      have HZ2 := Lib.hid hz2
      have hz2' : W1.heap.size ≤ W2.heap.size ∧ wr.heap.size < W2.heap.size := by omega
      clear hz2
      have HOL : Hid (∀ g, u8.ownBlock = some g → W1.heap.size ≤ g ∧ g < wr.heap.size) := Lib.hid fun g e => HR.out.lt g e
      by_cases hn : xs[k].name = nm
      · have hsk : putS (xs.take (k + 1)) ⟨nm, T⟩ = (acc, pl) := by rw [hst]; unfold putStep; rw [if_pos hn]
        have hnn : (xs[k].name.toList == nm.toList) = true := (beqS _ _).2 hn
        have HSK := Lib.hid hsk
        have HR2 := Lib.hid hr2
        clear hn hst hac hns ht hbx hb2 hr2 hsk
        generalize xs[k] = X at *
        go_wp2
        rw [← hW2]
        go_roundw
        case rel => exact ⟨k + 1, us, by omega, by rw [HSK.out], by go_num, Lib.hid (by rw [HSK.out]; exact HR2.out), HB2⟩
        case measure => simp [RowKit.intOf]; omega
      · have hnn : (xs[k].name.toList == nm.toList) = false := beqS_ne hn
        have HBX := Lib.hid hbx
        have HBON := Lib.hid ((hb2.block _ (by omega)).trans hbo)
        by_cases hins : pl = false ∧ gtB xs[k].name nm = true
        focus
          have hsk : putS (xs.take (k + 1)) ⟨nm, T⟩ = ((acc ++ [⟨nm, T⟩]) ++ [xs[k]], true) := by rw [hst]; unfold putStep; rw [if_neg hn, if_pos hins]
          obtain ⟨rfl, hgt⟩ := hins
          have hbl : Op.bytesLess xs[k].name.toList nm.toList = false := by
            unfold gtB at hgt
            rw [hnn, Bool.or_false] at hgt
            simpa using hgt
          obtain ⟨acc2, hacc2⟩ : ∃ acc2, acc2 = acc ++ [(⟨nm, T⟩ : Ex)] := ⟨_, rfl⟩
          rw [← hacc2] at hsk
          have HSK := Lib.hid hsk
          have HACC2 := Lib.hid hacc2
          have hown := hr2.own
          obtain ⟨us', hus⟩ : ∃ us', us' = us.flatMap flatC := ⟨_, rfl⟩
          obtain ⟨m, hm⟩ : ∃ m, m = acc.length := ⟨_, rfl⟩
          rw [← hus, ← hm] at hown
          rw [← hm] at hac
          have HUS := Lib.hid hus
          have HM := Lib.hid hm
          have HR2 := Lib.hid hr2
          have hal2 : acc2.length ≤ 2 * k + 1 := by rw [hacc2, List.length_append, ← hm]; simp; omega
          obtain ⟨q0, q1, q2, q3, q4⟩ := box5 HBON.out
          have hn4 : ((w.heap.size + 1 + 1 : Nat)) ≤ wr.heap.size := by omega
          clear hn hst hns ht hbx hb2 hr2 hsk hacc2 hus hm hgt hbo
          generalize xs[k] = X at *
          go_upto_region 9 with fail
          rw [← hW2]
          clear hW2 z0 z1 z2 z3 z4
          go_upto_region 11 with (at_builtin; refine wpList_appK _ rfl _ _ _ rfl W1.heap.size _ 5 exE _ m us' rfl (World.ownsRow.alloc hown _) ⟨W2.heap.size, 0, none⟩ 1 1 [.string nm, .int .i64 T.kind, .int .i64 T.num, .string T.name, .slice At T.args.length ct] rfl rfl (cells_new _ _ _) (one5 _ _ _ _ _ _ _) (by omega) (by simp; omega) ?_; intro v3 w3 hown3 hg3 hat3)
          have hR4 : RowK 46 5 ExAt 0 W1.heap.size w3 acc2 v3 (us ++ [exV ⟨nm, T⟩ At ct]) := by
            rw [HACC2.out]
            refine row_app5 (Z := w.heap.size) HR2.out (HONE.out.keep fun g hg => ⟨hg, ?_⟩) (by omega) (by omega) ?_ hg3 hat3
            · exact ((HB1.out.trans (HB2.out.mono HB1.out.size)).block g hg)
            · rw [← HM.out, ← HUS.out]; exact hown3
          have hgr : Gr W2 w3 u8 v3 := Gr.app hg3 hat3
          have hb4 : Below W1.heap.size W1 w3 := HB2.out.trans (hgr.below (by omega) fun g e => (HOL.out g e).1)
          have hbx4 := (hgr.block hz2'.2 (fun e => by have := (HOL.out _ e).2; omega)).trans HBX.out
          obtain ⟨us2, hus2⟩ : ∃ us2, us2 = us ++ [exV ⟨nm, T⟩ At ct] := ⟨_, rfl⟩
          obtain ⟨W4, hW4⟩ : ∃ W4, W4 = w3 := ⟨_, rfl⟩
          obtain ⟨sv2, hsv2⟩ : ∃ sv2, sv2 = v3 := ⟨_, rfl⟩
          rw [← hus2, ← hW4, ← hsv2] at hR4
          rw [← hW4] at hb4 hbx4
          rw [← hsv2, ← hW4]
          have hzw4 : w.heap.size ≤ W1.heap.size := by omega
          clear hown3 hg3 hat3 hgr hown HACC2 HUS HM HR2 HBON HBX q0 q1 q2 q3 q4 hW4 hsv2 hus2 hbl hac
        rotate_left
        focus
          have hsk : putS (xs.take (k + 1)) ⟨nm, T⟩ = (acc ++ [xs[k]], pl) := by rw [hst]; unfold putStep; rw [if_neg hn, if_neg hins]
          have hcase : pl = true ∨ (pl = false ∧ Op.bytesLess xs[k].name.toList nm.toList = true) := by
            cases pl with
            | true => exact .inl rfl
            | false =>
              refine .inr ⟨rfl, ?_⟩
              cases hb : Op.bytesLess xs[k].name.toList nm.toList with
              | true => rfl
              | false => exact absurd ⟨rfl, by unfold gtB; rw [hnn, hb]; rfl⟩ hins
          obtain ⟨acc2, hacc2⟩ : ∃ acc2, acc2 = acc := ⟨_, rfl⟩
          rw [← hacc2] at hsk
          have hal2 : acc2.length ≤ 2 * k + 1 := by rw [hacc2]; omega
          rw [← hacc2] at hr2
          have hR4 := hr2
          clear hn hst hns ht hbx hb2 hr2 hacc2 hbo hins
          generalize xs[k] = X at *
          rcases hcase with rfl | ⟨rfl, hbl⟩
          all_goals
            have HSK := Lib.hid hsk
            clear hsk
            go_upto_region 11 with fail
            rw [← hW2]
            clear hW2 z0 z1 z2 z3 z4
            obtain ⟨us2, hus2⟩ : ∃ us2, us2 = us := ⟨_, rfl⟩
            obtain ⟨W4, hW4⟩ : ∃ W4, W4 = W2 := ⟨_, rfl⟩
            obtain ⟨sv2, hsv2⟩ : ∃ sv2, sv2 = u8 := ⟨_, rfl⟩
            rw [← hus2, ← hW4, ← hsv2] at hR4
            have hb4 := HB2.out
            have hbx4 := HBX.out
            rw [← hW4] at hb4 hbx4
            rw [← hsv2, ← hW4]
            have hzw4 : w.heap.size ≤ W1.heap.size := by omega
            clear HBON HBX hW4 hsv2 hus2 hac
        all_goals
          have hown := hR4.own
          obtain ⟨us', hus⟩ : ∃ us', us' = us2.flatMap flatC := ⟨_, rfl⟩
          obtain ⟨m, hm⟩ : ∃ m, m = acc2.length := ⟨_, rfl⟩
          rw [← hus, ← hm] at hown
          rw [← hm] at hal2
          have HUS := Lib.hid hus
          have HM := Lib.hid hm
          have HR4 := Lib.hid hR4
          have HB4 := Lib.hid hb4
          have HBX4 := Lib.hid hbx4
          have HEX4 : Hid (ExAt (· < w.heap.size) W4 (exV X A' c') X) := Lib.hid (by
            obtain ⟨A0, c0, e0, hn0, ht0⟩ := HEX.out wr (Below.refl _ _)
            refine ⟨A0, c0, e0, hn0, ht0.keep fun g hg => ⟨hg, ?_⟩⟩
            rw [(HB1.out.trans (hb4.mono HB1.out.size)).block g hg, HBW.out.block g hg])
          obtain ⟨q0, q1, q2, q3, q4⟩ := box5 hbx4
          have hz4 : W1.heap.size ≤ W4.heap.size := hb4.size
          clear hus hm hR4 hb4 hbx4
          go_wp2_with (at_builtin; refine wpList_appK _ rfl _ _ _ rfl W1.heap.size _ 5 exE _ m us' rfl (World.ownsRow.alloc hown _) ⟨W4.heap.size, 0, none⟩ 1 1 [.string X.name, .int .i64 X.ty.kind, .int .i64 X.ty.num, .string X.ty.name, .slice A' X.ty.args.length c'] rfl rfl (cells_new _ _ _) (one5 _ _ _ _ _ _ _) (by omega) (by simp; omega) ?_; intro v5 w5 hown5 hg5 hat5)
          have hR5 : RowK 46 5 ExAt 0 W1.heap.size w5 (acc2 ++ [X]) v5 (us2 ++ [exV X A' c']) := by
            refine row_app5 (Z := w.heap.size) HR4.out HEX4.out hzw4 hz4 ?_ hg5 hat5
            rw [← HM.out, ← HUS.out]; exact hown5
          have HR5 := Lib.hid hR5
          have HB5 : Hid (Below W1.heap.size W1 w5) := Lib.hid (below_grow HB4.out hz4 _ hg5 (fun g e => (hown.lt g e).1))
          clear hR5 hown5 hg5 hat5 hown q0 q1 q2 q3 q4
          go_wp2
          go_roundw
          case rel => exact ⟨k + 1, _, by omega, by rw [HSK.out], by go_num, Lib.hid (by rw [HSK.out]; exact HR5.out), HB5⟩
          case measure => simp [RowKit.intOf]; omega
    · have hkl : k = xs.length := by omega
      have hr := HR.out
      rw [hkl, List.take_length] at hr ⊢
      have hfin : putX xs ⟨nm, T⟩ = if (putS xs ⟨nm, T⟩).2 then (putS xs ⟨nm, T⟩).1 else (putS xs ⟨nm, T⟩).1 ++ [⟨nm, T⟩] := rfl
      have hac := putS_len ⟨nm, T⟩ xs
      have hlx : (putX xs ⟨nm, T⟩).length ≤ 2000001 := by
        rw [hfin]; split
        · omega
        · rw [List.length_append]; simp; omega
      have HPOS := Lib.hid (putX_pos ⟨nm, T⟩ xs)
      have HROW : Hid (∀ x ∈ putX xs ⟨nm, T⟩, RowOk x.ty) := Lib.hid fun x hx => by
        rcases putX_mem x hx with h | h
        · exact HP.out x h
        · rw [h]; exact HPT.out
      have HLX := Lib.hid hlx
      clear hlx
      generalize hfi : putX xs ⟨nm, T⟩ = fin at *
      have HFI := Lib.hid hfi
      clear hfi
      generalize putS xs ⟨nm, T⟩ = st at *
      obtain ⟨acc, pl⟩ := st
      simp only at hac hr hfin ⊢
      have HOL : Hid (∀ g, u8.ownBlock = some g → W1.heap.size ≤ g ∧ g < wr.heap.size) := Lib.hid fun g e => HR.out.lt g e
      cases pl with
      | false => ?_
      | true => ?_
      focus
        have hf : fin = acc ++ [(⟨nm, T⟩ : Ex)] := hfin
        have hown := hr.own
        obtain ⟨us', hus⟩ : ∃ us', us' = us.flatMap flatC := ⟨_, rfl⟩
        obtain ⟨m, hm⟩ : ∃ m, m = acc.length := ⟨_, rfl⟩
        rw [← hus, ← hm] at hown
        rw [← hm] at hac
        have HUS := Lib.hid hus
        have HM := Lib.hid hm
        have HF := Lib.hid hf
        have HR2 := Lib.hid hr
        obtain ⟨q0, q1, q2, q3, q4⟩ := box5 hbo
        clear hus hm hf hfin hr hbo
        go_upto_region 15 with (at_builtin; refine wpList_appK _ rfl _ _ _ rfl W1.heap.size _ 5 exE _ m us' rfl (World.ownsRow.alloc hown _) ⟨wr.heap.size, 0, none⟩ 1 1 [.string nm, .int .i64 T.kind, .int .i64 T.num, .string T.name, .slice At T.args.length ct] rfl rfl (cells_new _ _ _) (one5 _ _ _ _ _ _ _) (by omega) (by simp; omega) ?_; intro v5 w5 hown5 hg5 hat5)
        have hR5 : RowK 46 5 ExAt 0 W1.heap.size w5 fin v5 (us ++ [exV ⟨nm, T⟩ At ct]) := by
          rw [HF.out]
          refine row_app5 (Z := w.heap.size) HR2.out (HONE.out.keep fun g hg => ⟨hg, HBW.out.block g hg⟩) (by omega) hzb ?_ hg5 hat5
          rw [← HM.out, ← HUS.out]; exact hown5
        have hb5 : Below W1.heap.size W1 w5 := below_grow HB.out hzb _ hg5 (fun g e => (hown.lt g e).1)
        obtain ⟨us5, hus5⟩ : ∃ us5, us5 = us ++ [exV ⟨nm, T⟩ At ct] := ⟨_, rfl⟩
        rw [← hus5] at hR5
        have HR5 := Lib.hid hR5
        have HB5 := Lib.hid hb5
        obtain ⟨A5, c5, hf5, hc5, hm5⟩ := hR5.form
        clear hown5 hg5 hat5 hown q0 q1 q2 q3 q4 HUS HM HF HR2 hR5 hb5 hus5 hac
      rotate_left
      focus
        have hf : fin = acc := hfin
        rw [← hf] at hr
        obtain ⟨v5, hv5⟩ : ∃ v5, v5 = u8 := ⟨_, rfl⟩
        obtain ⟨w5, hw5⟩ : ∃ w5, w5 = wr := ⟨_, rfl⟩
        obtain ⟨us5, hus5⟩ : ∃ us5, us5 = us := ⟨_, rfl⟩
        rw [← hus5, ← hv5, ← hw5] at hr
        have hb5 := HB.out
        rw [← hw5] at hb5
        have HR5 := Lib.hid hr
        have HB5 := Lib.hid hb5
        obtain ⟨A5, c5, hf5, hc5, hm5⟩ := hr.form
        go_upto_region 15 with fail
        rw [← hv5, ← hw5]
        clear hf hr hb5 hv5 hw5 hus5 hfin hac hbo
      all_goals
        subst hf5
        have hex : ExsAt (· < w5.heap.size) w5 (.slice A5 fin.length c5) fin := HR5.out.exs.sub fun g hg => hg.2
        have HRI := Lib.hid (right14_any fin _ w5 hex)
        have hz5 := HB5.out.size
        have HBW5 : Hid (Below w.heap.size w w5) := Lib.hid (HB1.out.trans (HB5.out.mono (by omega)))
        have HC5 := Lib.hid (show fin.length ≤ c5 ∧ c5 ≤ maxLen from ⟨hc5, hm5⟩)
        have hcl : c5 ≤ 9223372036854775807 := by simp only [maxLen] at hm5; omega
        have hll := HLX.out
        clear hex hc5 hm5
        go_wp2_with fail
        refine HRI.out.mono ?_
        rintro e w6 ⟨rfl, hb6⟩
        have hz6 := hb6.size
        have HBW6 : Hid (Below w.heap.size w w6) := Lib.hid (HBW5.out.trans (hb6.mono HBW5.out.size))
        cases hrx : rightX fin with
        | false =>
          have HE : Hid (P (.returned (.tuple #[.slice none 0 0, .int .i64 140])) w6) := Lib.hid (by
            rw [HPO.out]
            refine ⟨_, ?_, HBW6.out, fun h => ?_, fun _ => rfl⟩
            · rw [HFI.out, hrx]; rfl
            · rw [HFI.out, hrx] at h; cases h)
          clear hrx hb6
          go_wp2
          exact HE.out
        | true =>
          have HRX := Lib.hid hrx
          obtain ⟨g, c7, e7, hg1, hg2, -⟩ := HR5.out.cells HPOS.out
          injection e7 with e1 e2 e3
          subst e1 e3
          have HM6 : Hid (RowM w6 g fin) := Lib.hid (RowM.below (RowM.of_row HR5.out) hb6)
          have HG : Hid (w.heap.size ≤ g ∧ g < w6.heap.size) := Lib.hid ⟨by omega, by omega⟩
          clear hrx hb6 e2 hg1 hg2
          go_wp2
          go_loopw [55] (fun iv W => ∃ (k : Nat), k ≤ fin.length ∧ iv = .int .i64 k ∧ Hid (RowM W g fin) ∧ Hid (Kept (· = g) w6 W)) (fun iv _ => fin.length - (RowKit.intOf iv).toNat)
          case atStart => exact ⟨0, by omega, rfl, HM6, Lib.hid (Kept.refl _ _)⟩
          case round =>
            obtain ⟨k, hk, rfl, HMR, HKR⟩ := hrel
            by_cases hlt : k < fin.length
            · obtain ⟨A', c', ht, x0, x1, x2, x3, x4⟩ := HMR.out.arg hlt
              have hca := copied_any fin[k].ty _ wr (ht.sub fun b hb => hb.1) (HROW.out _ (List.getElem_mem hlt))
              have HPUT : Hid (∀ w8 A8 c8, Below wr.heap.size wr w8 → TyAt (fun b => wr.heap.size ≤ b ∧ b < w8.heap.size) w8 (tyV fin[k].ty.kind fin[k].ty.num fin[k].ty.name A8 fin[k].ty.args.length c8) fin[k].ty → _) := Lib.hid fun w8 A8 c8 hb8 ht8 =>
                RowM.put (HMR.out.below hb8) hlt A8 c8 (ht8.sub fun b hb => ⟨hb.2, by have := HMR.out; obtain ⟨_, _, _, _, hgl⟩ := this; omega⟩)
              have HFZ : Hid (∀ W', Below wr.heap.size wr W' → (∀ o, W'.frozen? ⟨g, o, none⟩ = false) ∧ W'.cell? ⟨g, k * 5 + 1, none⟩ = some (.int .i64 fin[k].ty.kind) ∧ W'.cell? ⟨g, k * 5 + 2, none⟩ = some (.int .i64 fin[k].ty.num) ∧ W'.cell? ⟨g, k * 5 + 3, none⟩ = some (.string fin[k].ty.name) ∧ W'.cell? ⟨g, k * 5 + 4, none⟩ = some (.slice A' fin[k].ty.args.length c')) := Lib.hid fun W' h => by
                obtain ⟨us8, _, _, h3, h4⟩ := HMR.out.below h
                obtain ⟨_, _, _, _, hgl⟩ := HMR.out
                exact ⟨h3, (h.cell (p := ⟨g, _, none⟩) hgl).trans x1, (h.cell (p := ⟨g, _, none⟩) hgl).trans x2, (h.cell (p := ⟨g, _, none⟩) hgl).trans x3, (h.cell (p := ⟨g, _, none⟩) hgl).trans x4⟩
              clear ht
              generalize fin[k] = X at *
              unfold tyV at hca HPUT
              have HCA := Lib.hid hca
              clear hca
              go_wp2_with fail
              refine HCA.out.mono ?_
              rintro e w8 ⟨A8, c8, rfl, hu8, hb8⟩
              obtain ⟨W9, hW9, hm9, hk9⟩ := HPUT.out w8 A8 c8 hb8 hu8
              obtain ⟨hfz, u1, u2, u3, u4⟩ := HFZ.out w8 hb8
              have fz1 := hfz (k * 5 + 1)
              have fz2 := hfz (k * 5 + 2)
              have fz3 := hfz (k * 5 + 3)
              have fz4 := hfz (k * 5 + 4)
              have HM9 := Lib.hid hm9
              have HK9 : Hid (Kept (· = g) w6 W9) := Lib.hid ((HKR.out.trans' (Kept.of_below hb8)).trans' hk9)
              have HW9 := Lib.hid hW9
              clear hW9 hm9 hk9 hb8 hu8 hfz x0 x1 x2 x3 x4
              go_wp2
              go_roundw
              case rel => exact ⟨k + 1, by omega, by go_num, by rw [← HW9.out]; exact HM9, by rw [← HW9.out]; exact HK9⟩
              case measure => simp [RowKit.intOf]; omega
            · have HE : Hid (P (.returned (.tuple #[.slice (some ⟨g, 0, none⟩) fin.length c5, .int .i64 0])) wr) := Lib.hid (by
                rw [HPO.out]
                have hbe : Below w.heap.size w wr := HBW6.out.trans (below_of_kept HKR.out HG.out.1 (by have := HG.out; omega))
                unfold PutPost
                refine ⟨.slice (some ⟨g, 0, none⟩) fin.length c5, ?_, hbe, fun _ => ?_, fun h => ?_⟩
                · rw [HFI.out, HRX.out]; rfl
                · rw [HFI.out]; exact HMR.out.exs HC5.out.1 HC5.out.2
                · rw [HFI.out, HRX.out] at h; cases h)
              go_wp2
              exact HE.out
end Go.Proofs.YtbhicpjhijondaaDoor
