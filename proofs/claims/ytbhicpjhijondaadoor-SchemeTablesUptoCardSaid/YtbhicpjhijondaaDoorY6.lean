/- The reference's Put. -/
import Derived.Test.YtbhicpjhijondaaDoorY5
namespace Go.Typ
open Go.RowKit Go.Lib Go.Vfs Go.Par
theorem putX_drop (xs : List Ex) (one : Ex) : putX (dropX xs one.name) one = putX xs one := by
  have key : ∀ (xs : List Ex) (s : List Ex × Bool), (dropX xs one.name).foldl (putStep one) s = xs.foldl (putStep one) s := by
    intro xs
    induction xs with
    | nil => intro s; rfl
    | cons x xs ih =>
      intro s
      by_cases h : x.name = one.name
      · have h1 : dropX (x :: xs) one.name = dropX xs one.name := by unfold dropX; simp [h]
        have h2 : putStep one s x = s := by obtain ⟨a, b⟩ := s; unfold putStep; rw [if_pos h]
        rw [h1, ih, List.foldl_cons, h2]
      · have h1 : dropX (x :: xs) one.name = x :: dropX xs one.name := by unfold dropX; simp [h]
        rw [h1, List.foldl_cons, List.foldl_cons, ih]
  unfold putX putS
  rw [key]
theorem dropX_ne {xs : List Ex} {nm : ByteArray} {k : Nat} (hk : k < (dropX xs nm).length) : ¬ (dropX xs nm)[k].name = nm := by
  have := List.getElem_mem hk
  unfold dropX at this
  have h := of_decide_eq_true (List.mem_filter.1 this).2
  exact h
end Go.Typ
namespace Go.Proofs.YtbhicpjhijondaaDoor
open Go.RowKit Go.Lib Go.Vfs Go.Par Go.Typ Go.Shelf
set_option linter.unusedVariables false
set_option linter.unusedSimpArgs false

set_option maxRecDepth 20000 in
set_option maxHeartbeats 4000000 in
theorem rput_any (xs : List Ex) (hok : ∀ x ∈ xs, ExOk x) (nm : ByteArray) (T : Ty) (hone : ExOk ⟨nm, T⟩) (v u : Value) (w : World) (hX : ExsAt (· < w.heap.size) w v xs) (hT : TyAt (· < w.heap.size) w u T) (hl : xs.length ≤ 1000000) :
    Calls Tryd.prog 46 #[v, .string nm, u] w (PutPost xs ⟨nm, T⟩ w) := by
  obtain ⟨P, hP⟩ : ∃ P, P = PutPost xs ⟨nm, T⟩ w := ⟨_, rfl⟩
  have HPO := Lib.hid hP
  rw [← hP]
  clear hP
  obtain ⟨A, c, rfl, hc, hm⟩ := hX.form
  obtain ⟨At, ct, rfl, hct, hmt, hnt⟩ := hT.form
  obtain ⟨W1, hW1⟩ : ∃ W1, W1 = w.alloc (.cells #[.int .i64 T.kind, .int .i64 T.num, .string T.name, .slice At T.args.length ct] 24) := ⟨_, rfl⟩
  have hb1 : Below w.heap.size w W1 := by rw [hW1]; exact (Below.refl _ _).alloc (Nat.le_refl _) _
  have hbo : W1.heap[w.heap.size]? = some (.cells #[.int .i64 T.kind, .int .i64 T.num, .string T.name, .slice At T.args.length ct] 24 (0, 0)) := by rw [hW1]; exact heap_alloc_new _ _
  have hnm : nm.size ≤ 1000000000 := hone.2.2
  have HX := Lib.hid hX; have HB1 := Lib.hid hb1; have HBO := Lib.hid hbo
  have HONE : Hid (ExAt (· < w.heap.size) w (exV ⟨nm, T⟩ At ct) ⟨nm, T⟩) := Lib.hid ⟨At, ct, rfl, by show nm.size ≤ _; omega, hT⟩
  have HFO : Hid (∀ x ∈ putX xs ⟨nm, T⟩, ExOk x) := Lib.hid fun x hx => by
    rcases putX_mem x hx with h | h
    · exact hok x h
    · rw [h]; exact hone
  have HDR := Lib.hid (rdrop_any xs nm _ W1 (hX.blw hb1) hl)
  have hdl := dropX_len xs nm
  have HEQ := Lib.hid (putX_drop xs ⟨nm, T⟩)
  have HNE : Hid (∀ k (h : k < (dropX xs nm).length), ¬ (dropX xs nm)[k].name = nm) := Lib.hid fun k h => dropX_ne h
  obtain ⟨y0, y1, y2, y3⟩ := box4 hbo
  rw [hW1] at y0 y1 y2 y3
  clear hX hc hm hT hct hmt hnt hb1 hbo hok hone
  unfold tyV
  go_enter Tryd.func46, Tryd.ntmps46
  go_wp2_with fail
  rw [← hW1]
  clear hW1 y0 y1 y2 y3
  refine HDR.out.mono ?_
  rintro e w2 ⟨v2, rfl, hx2, hb2⟩
  have HEQ' : Hid (putX (dropX xs nm) ⟨nm, T⟩ = putX xs ⟨nm, T⟩) := HEQ
  clear HEQ HDR
  obtain ⟨A2, c2, rfl, hc2, hm2⟩ := hx2.form
  have hbo2 := (hb2.block _ (lt_blk HBO.out)).trans HBO.out
  have HB2 : Hid (Below w.heap.size w w2) := Lib.hid (HB1.out.trans (hb2.mono HB1.out.size))
  obtain ⟨W3, hW3⟩ : ∃ W3, W3 = w2.alloc (.cells #[] 46) := ⟨_, rfl⟩
  have hb3 : Below w2.heap.size w2 W3 := by rw [hW3]; exact (Below.refl _ _).alloc (Nat.le_refl _) _
  have HMK : Hid (RowK 46 5 ExAt 0 w2.heap.size W3 [] (.slice (some ⟨w2.heap.size, 0, none⟩) 0 0) []) := Lib.hid (by rw [hW3]; exact RowK.made w2 (Nat.le_refl _))
  have HX2 := Lib.hid hx2; have HBO2 := Lib.hid hbo2; have HB3 := Lib.hid hb3
  have hlb := lt_blk hbo2
  have HON2 : Hid (ExAt (· < w2.heap.size) w2 (exV ⟨nm, T⟩ At ct) ⟨nm, T⟩) := Lib.hid (HONE.out.keep fun g (hg : g < w.heap.size) => ⟨Nat.lt_of_lt_of_le hg HB2.out.size, HB2.out.block g hg⟩)
  have hla : (dropX xs nm).length ≤ 9223372036854775807 := by omega
  have hdl' : (dropX xs nm).length ≤ 1000000 := by omega
  clear hx2 hb2 hc2 hm2 hbo2 hb3 HX HB1 HBO HONE hl
  generalize dropX xs nm = ds at *
  clear hdl
  have hbo := HBO2.out
  go_wp2_with fail
  rw [← hW3]
  clear hW3 hbo
  go_loopw [9, 10, 11] (fun sv pv iv W => ∃ (k : Nat) (us : List Value), k ≤ ds.length ∧ pv = .bool (putS (ds.take k) ⟨nm, T⟩).2 ∧ iv = .int .i64 k ∧ Hid (RowK 46 5 ExAt 0 w2.heap.size W (putS (ds.take k) ⟨nm, T⟩).1 sv us) ∧ Hid (Below w2.heap.size w2 W)) (fun _ _ iv _ => ds.length - (RowKit.intOf iv).toNat)
  case atStart => exact ⟨0, [], by omega, rfl, rfl, Lib.hid (by rw [List.take_zero, putS_nil]; exact HMK.out), HB3⟩
  case round =>
    obtain ⟨k, us, hk, rfl, rfl, HR, HB⟩ := hrel
    have hzb := HB.out.size
    have hbo := (HB.out.block _ hlb).trans HBO2.out
    by_cases hlt : k < ds.length
    · obtain ⟨b, off, A', c', rfl, hb, hns, ht, x0, x1, x2, x3, x4⟩ := (HX2.out.keep (S' := (· < w2.heap.size)) fun g hg => ⟨hg, HB.out.block g hg⟩).arg hlt
      have hst := putS_step (one := ⟨nm, T⟩) hlt
      have hac : (putS (ds.take k) ⟨nm, T⟩).1.length ≤ 2 * k := by
        have := putS_len ⟨nm, T⟩ (ds.take k)
        rw [List.length_take] at this; omega
      have HEX : Hid (∀ W, Below w2.heap.size wr W → ExAt (· < w2.heap.size) W (exV ds[k] A' c') ds[k]) := Lib.hid fun W h => ⟨A', c', rfl, hns, ht.keep fun g hg => ⟨hg, h.block g hg⟩⟩
      have HSK5 : Hid (∀ W, Below w2.heap.size wr W → W.cell? ⟨b, off + k * 5, none⟩ = some (.string ds[k].name) ∧ W.cell? ⟨b, off + k * 5 + 1, none⟩ = some (.int .i64 ds[k].ty.kind) ∧ W.cell? ⟨b, off + k * 5 + 2, none⟩ = some (.int .i64 ds[k].ty.num) ∧ W.cell? ⟨b, off + k * 5 + 3, none⟩ = some (.string ds[k].ty.name) ∧ W.cell? ⟨b, off + k * 5 + 4, none⟩ = some (.slice A' ds[k].ty.args.length c')) :=
        Lib.hid fun W' h => ⟨(h.cell (p := ⟨_, _, none⟩) hb).trans x0, (h.cell (p := ⟨_, _, none⟩) hb).trans x1, (h.cell (p := ⟨_, _, none⟩) hb).trans x2, (h.cell (p := ⟨_, _, none⟩) hb).trans x3, (h.cell (p := ⟨_, _, none⟩) hb).trans x4⟩
      have hn := HNE.out k hlt
      have hnn : (ds[k].name.toList == nm.toList) = false := beqS_ne hn
      generalize putS (ds.take k) ⟨nm, T⟩ = st at *
      obtain ⟨acc, pl⟩ := st
      have hr2 := HR.out
      simp only at hac hst hr2 ⊢
      have HOL : Hid (∀ g, u9.ownBlock = some g → w2.heap.size ≤ g ∧ g < wr.heap.size) := Lib.hid fun g e => HR.out.lt g e
      by_cases hins : pl = false ∧ gtB ds[k].name nm = true
      focus
        have hsk : putS (ds.take (k + 1)) ⟨nm, T⟩ = ((acc ++ [⟨nm, T⟩]) ++ [ds[k]], true) := by rw [hst]; unfold putStep; rw [if_neg hn, if_pos hins]
        obtain ⟨rfl, hgt⟩ := hins
        have hbl : Op.bytesLess ds[k].name.toList nm.toList = false := by
          unfold gtB at hgt
          rw [hnn, Bool.or_false] at hgt
          simpa using hgt
        obtain ⟨acc2, hacc2⟩ : ∃ acc2, acc2 = acc ++ [(⟨nm, T⟩ : Ex)] := ⟨_, rfl⟩
        rw [← hacc2] at hsk
        have HSK := Lib.hid hsk
        have HACC2 := Lib.hid hacc2
        have hown := hr2.own
        obtain ⟨us', hus⟩ : ∃ us', us' = us.flatMap flatC := ⟨_, rfl⟩
        obtain ⟨m, hm⟩ : ∃ m, m = acc.length := ⟨_, rfl⟩
        rw [← hus, ← hm] at hown
        rw [← hm] at hac
        have HUS := Lib.hid hus
        have HM := Lib.hid hm
        have HR2 := Lib.hid hr2
        have hal2 : acc2.length ≤ 2 * k + 1 := by rw [hacc2, List.length_append, ← hm]; simp; omega
        obtain ⟨q0, q1, q2, q3⟩ := box4 hbo
        clear hn hst hns ht hr2 hsk hacc2 hus hm hgt hbo
        generalize ds[k] = X at *
        go_upto_region 10 with (at_builtin; refine wpList_appK _ rfl _ _ _ rfl w2.heap.size _ 5 exE _ m us' rfl (World.ownsRow.alloc hown _) ⟨wr.heap.size, 0, none⟩ 1 1 [.string nm, .int .i64 T.kind, .int .i64 T.num, .string T.name, .slice At T.args.length ct] rfl rfl (cells_new _ _ _) (one5 _ _ _ _ _ _ _) (by omega) (by simp; omega) ?_; intro v3 w3 hown3 hg3 hat3)
        have hR4 : RowK 46 5 ExAt 0 w2.heap.size w3 acc2 v3 (us ++ [exV ⟨nm, T⟩ At ct]) := by
          rw [HACC2.out]
          refine row_app5 (Z := w2.heap.size) HR2.out (HON2.out.keep fun g hg => ⟨hg, HB.out.block g hg⟩) (Nat.le_refl _) hzb ?_ hg3 hat3
          rw [← HM.out, ← HUS.out]; exact hown3
        have hb4 : Below w2.heap.size wr w3 := below_grow (Below.refl _ _) hzb _ hg3 (fun g e => (hown.lt g e).1)
        obtain ⟨us2, hus2⟩ : ∃ us2, us2 = us ++ [exV ⟨nm, T⟩ At ct] := ⟨_, rfl⟩
        obtain ⟨W4, hW4⟩ : ∃ W4, W4 = w3 := ⟨_, rfl⟩
        obtain ⟨sv2, hsv2⟩ : ∃ sv2, sv2 = v3 := ⟨_, rfl⟩
        rw [← hus2, ← hW4, ← hsv2] at hR4
        rw [← hW4] at hb4
        rw [← hsv2, ← hW4]
        clear hown3 hg3 hat3 hown HACC2 HUS HM HR2 q0 q1 q2 q3 hW4 hsv2 hus2 hbl hac x0 x1 x2 x3 x4
      rotate_left
      focus
        have hsk : putS (ds.take (k + 1)) ⟨nm, T⟩ = (acc ++ [ds[k]], pl) := by rw [hst]; unfold putStep; rw [if_neg hn, if_neg hins]
        have hcase : pl = true ∨ (pl = false ∧ Op.bytesLess ds[k].name.toList nm.toList = true) := by
          cases pl with
          | true => exact .inl rfl
          | false =>
            refine .inr ⟨rfl, ?_⟩
            cases hb : Op.bytesLess ds[k].name.toList nm.toList with
            | true => rfl
            | false => exact absurd ⟨rfl, by unfold gtB; rw [hnn, hb]; rfl⟩ hins
        obtain ⟨acc2, hacc2⟩ : ∃ acc2, acc2 = acc := ⟨_, rfl⟩
        rw [← hacc2] at hsk
        have hal2 : acc2.length ≤ 2 * k + 1 := by rw [hacc2]; omega
        rw [← hacc2] at hr2
        have hR4 := hr2
        clear hn hst hns ht hr2 hacc2 hbo hins
        generalize ds[k] = X at *
        rcases hcase with rfl | ⟨rfl, hbl⟩
        all_goals
          have HSK := Lib.hid hsk
          clear hsk
          go_upto_region 10 with fail
          obtain ⟨us2, hus2⟩ : ∃ us2, us2 = us := ⟨_, rfl⟩
          obtain ⟨W4, hW4⟩ : ∃ W4, W4 = wr := ⟨_, rfl⟩
          obtain ⟨sv2, hsv2⟩ : ∃ sv2, sv2 = u9 := ⟨_, rfl⟩
          rw [← hus2, ← hW4, ← hsv2] at hR4
          have hb4 : Below w2.heap.size wr wr := Below.refl _ _
          rw [show Below w2.heap.size wr wr = Below w2.heap.size wr W4 by rw [hW4]] at hb4
          rw [← hsv2, ← hW4]
          clear hW4 hsv2 hus2 hac x0 x1 x2 x3 x4
      all_goals
        have hown := hR4.own
        obtain ⟨us', hus⟩ : ∃ us', us' = us2.flatMap flatC := ⟨_, rfl⟩
        obtain ⟨m, hm⟩ : ∃ m, m = acc2.length := ⟨_, rfl⟩
        rw [← hus, ← hm] at hown
        rw [← hm] at hal2
        have HUS := Lib.hid hus
        have HM := Lib.hid hm
        have HR4 := Lib.hid hR4
        have HB4 : Hid (Below w2.heap.size w2 W4) := Lib.hid (HB.out.trans hb4)
        have HEX4 := Lib.hid (HEX.out W4 hb4)
        obtain ⟨q0, q1, q2, q3, q4⟩ := HSK5.out W4 hb4
        have hz4 : w2.heap.size ≤ W4.heap.size := HB4.out.size
        clear hus hm hR4 hb4
        go_wp2_with (at_builtin; refine wpList_appK _ rfl _ _ _ rfl w2.heap.size _ 5 exE _ m us' rfl (World.ownsRow.alloc hown _) ⟨W4.heap.size, 0, none⟩ 1 1 [.string X.name, .int .i64 X.ty.kind, .int .i64 X.ty.num, .string X.ty.name, .slice A' X.ty.args.length c'] rfl rfl (cells_new _ _ _) (one5 _ _ _ _ _ _ _) (by omega) (by simp; omega) ?_; intro v5 w5 hown5 hg5 hat5)
        have hR5 : RowK 46 5 ExAt 0 w2.heap.size w5 (acc2 ++ [X]) v5 (us2 ++ [exV X A' c']) := by
          refine row_app5 (Z := w2.heap.size) HR4.out HEX4.out (Nat.le_refl _) hz4 ?_ hg5 hat5
          rw [← HM.out, ← HUS.out]; exact hown5
        have HR5 := Lib.hid hR5
        have HB5 : Hid (Below w2.heap.size w2 w5) := Lib.hid (below_grow HB4.out hz4 _ hg5 (fun g e => (hown.lt g e).1))
        clear hR5 hown5 hg5 hat5 hown q0 q1 q2 q3 q4
        go_wp2
        go_roundw
        case rel => exact ⟨k + 1, _, by omega, by rw [HSK.out], by go_num, Lib.hid (by rw [HSK.out]; exact HR5.out), HB5⟩
        case measure => simp [RowKit.intOf]; omega
    · have hkl : k = ds.length := by omega
      have hr := HR.out
      rw [hkl, List.take_length] at hr ⊢
      have hfin : putX ds ⟨nm, T⟩ = if (putS ds ⟨nm, T⟩).2 then (putS ds ⟨nm, T⟩).1 else (putS ds ⟨nm, T⟩).1 ++ [⟨nm, T⟩] := rfl
      have hac := putS_len ⟨nm, T⟩ ds
      have hlx : (putX ds ⟨nm, T⟩).length ≤ 2000001 := by
        rw [hfin]; split
        · omega
        · rw [List.length_append]; simp; omega
      have HLX := Lib.hid hlx
      have HFI : Hid (putX xs ⟨nm, T⟩ = putX ds ⟨nm, T⟩) := Lib.hid HEQ'.out.symm
      have HOKF : Hid (∀ x ∈ putX ds ⟨nm, T⟩, ExOk x) := Lib.hid (by rw [HEQ'.out]; exact HFO.out)
      clear hlx HEQ' HFO
      generalize putX ds ⟨nm, T⟩ = fin at *
      generalize putS ds ⟨nm, T⟩ = st at *
      obtain ⟨acc, pl⟩ := st
      simp only at hac hr hfin ⊢
      cases pl with
      | false => ?_
      | true => ?_
      focus
        have hf : fin = acc ++ [(⟨nm, T⟩ : Ex)] := hfin
        have hown := hr.own
        obtain ⟨us', hus⟩ : ∃ us', us' = us.flatMap flatC := ⟨_, rfl⟩
        obtain ⟨m, hm⟩ : ∃ m, m = acc.length := ⟨_, rfl⟩
        rw [← hus, ← hm] at hown
        rw [← hm] at hac
        have HUS := Lib.hid hus
        have HM := Lib.hid hm
        have HF := Lib.hid hf
        have HR2 := Lib.hid hr
        obtain ⟨q0, q1, q2, q3⟩ := box4 hbo
        clear hus hm hf hfin hr hbo
        go_upto_region 13 with (at_builtin; refine wpList_appK _ rfl _ _ _ rfl w2.heap.size _ 5 exE _ m us' rfl (World.ownsRow.alloc hown _) ⟨wr.heap.size, 0, none⟩ 1 1 [.string nm, .int .i64 T.kind, .int .i64 T.num, .string T.name, .slice At T.args.length ct] rfl rfl (cells_new _ _ _) (one5 _ _ _ _ _ _ _) (by omega) (by simp; omega) ?_; intro v5 w5 hown5 hg5 hat5)
        have hR5 : RowK 46 5 ExAt 0 w2.heap.size w5 fin v5 (us ++ [exV ⟨nm, T⟩ At ct]) := by
          rw [HF.out]
          refine row_app5 (Z := w2.heap.size) HR2.out (HON2.out.keep fun g hg => ⟨hg, HB.out.block g hg⟩) (Nat.le_refl _) hzb ?_ hg5 hat5
          rw [← HM.out, ← HUS.out]; exact hown5
        have hb5 : Below w2.heap.size w2 w5 := below_grow HB.out hzb _ hg5 (fun g e => (hown.lt g e).1)
        obtain ⟨us5, hus5⟩ : ∃ us5, us5 = us ++ [exV ⟨nm, T⟩ At ct] := ⟨_, rfl⟩
        rw [← hus5] at hR5
        have HR5 := Lib.hid hR5
        have HB5 := Lib.hid hb5
        obtain ⟨A5, c5, hf5, hc5, hm5⟩ := hR5.form
        clear hown5 hg5 hat5 hown q0 q1 q2 q3 HUS HM HF HR2 hR5 hb5 hus5 hac
      rotate_left
      focus
        have hf : fin = acc := hfin
        rw [← hf] at hr
        obtain ⟨v5, hv5⟩ : ∃ v5, v5 = u9 := ⟨_, rfl⟩
        obtain ⟨w5, hw5⟩ : ∃ w5, w5 = wr := ⟨_, rfl⟩
        obtain ⟨us5, hus5⟩ : ∃ us5, us5 = us := ⟨_, rfl⟩
        rw [← hus5, ← hv5, ← hw5] at hr
        have hb5 := HB.out
        rw [← hw5] at hb5
        have HR5 := Lib.hid hr
        have HB5 := Lib.hid hb5
        obtain ⟨A5, c5, hf5, hc5, hm5⟩ := hr.form
        go_upto_region 13 with fail
        rw [← hv5, ← hw5]
        clear hf hr hb5 hv5 hw5 hus5 hfin hac hbo
      all_goals
        subst hf5
        have HEX5 : Hid (ExsAt (· < w5.heap.size) w5 (.slice A5 fin.length c5) fin) := Lib.hid (HR5.out.exs.sub fun g hg => hg.2)
        have HRI := Lib.hid (rright14_any fin HOKF.out _ w5 HEX5.out)
        have hz5 := HB5.out.size
        have HBW5 : Hid (Below w.heap.size w w5) := Lib.hid (HB2.out.trans (HB5.out.mono HB2.out.size))
        clear hc5 hm5
        go_wp2_with fail
        refine HRI.out.mono ?_
        rintro e w6 ⟨rfl, hb6⟩
        have HBW6 : Hid (Below w.heap.size w w6) := Lib.hid (HBW5.out.trans (hb6.mono HBW5.out.size))
        have HEX6 := Lib.hid (HEX5.out.blw hb6)
        cases hrx : rightX fin with
        | false =>
          have HE : Hid (P (.returned (.tuple #[.slice none 0 0, .int .i64 140])) w6) := Lib.hid (by
            rw [HPO.out]
            refine ⟨_, ?_, HBW6.out, fun h => ?_, fun _ => rfl⟩
            · rw [HFI.out, hrx]; rfl
            · rw [HFI.out, hrx] at h; cases h)
          clear hrx hb6
          go_wp2
          exact HE.out
        | true =>
          have HE : Hid (P (.returned (.tuple #[.slice A5 fin.length c5, .int .i64 0])) w6) := Lib.hid (by
            rw [HPO.out]
            refine ⟨.slice A5 fin.length c5, ?_, HBW6.out, fun _ => ?_, fun h => ?_⟩
            · rw [HFI.out, hrx]; rfl
            · rw [HFI.out]; exact HEX6.out
            · rw [HFI.out, hrx] at h; cases h)
          clear hrx hb6
          go_wp2
          exact HE.out
end Go.Proofs.YtbhicpjhijondaaDoor
