/- law20.model: what entries make, one after the other. -/
import Derived.Test.YtaalbcfpacpgfaaGreatI17
namespace Go.Ix
open Go.RowKit Go.Lib Go.Vfs Go.Par Go.Typ
set_option linter.unusedVariables false

def modStep (E : En) (s : List En × Bool) (y : En) : List En × Bool :=
  if y.uri = E.uri then s else if s.2 = false ∧ Op.bytesLess E.uri.toList y.uri.toList = true then ((s.1 ++ [E]) ++ [y], true) else (s.1 ++ [y], s.2)
def modS (E : En) (ys : List En) : List En × Bool := ys.foldl (modStep E) ([], false)
def modE (E : En) (ys : List En) : List En := if (modS E ys).2 then (modS E ys).1 else (modS E ys).1 ++ [E]
def mkN (xs : List En) : List En := xs.foldl (fun es e => withL keyE e es) []
theorem less_before20 : ∀ a b : List UInt8, Op.bytesLess a b = bytesBefore a b
  | [], [] => rfl
  | _ :: _, [] => rfl
  | [], _ :: _ => rfl
  | a :: x, b :: y => by simp only [Op.bytesLess, bytesBefore, less_before20 x y]
theorem uri_key (x y : En) : x.uri = y.uri ↔ keyE x = keyE y := by
  unfold keyE
  constructor
  · intro h; rw [h]
  · intro h
    obtain ⟨u, _, _⟩ := x; obtain ⟨u', _, _⟩ := y
    cases u; cases u'
    simp only at h ⊢
    rw [Array.toList_inj.1 h]
theorem modS_true (E : En) : ∀ (ys acc : List En), ys.foldl (modStep E) (acc, true) = (acc ++ dropL keyE (keyE E) ys, true)
  | [], acc => by simp [dropL]
  | y :: ys, acc => by
    rw [List.foldl_cons]
    unfold modStep
    by_cases h : y.uri = E.uri
    · have hk := (uri_key y E).1 h
      rw [if_pos h]
      have := modS_true E ys acc
      unfold modStep at this
      rw [this]
      simp [dropL, hk]
    · have hk : ¬ keyE y = keyE E := fun e => h ((uri_key y E).2 e)
      rw [if_neg h, if_neg (by simp)]
      have := modS_true E ys (acc ++ [y])
      unfold modStep at this
      simp only
      rw [this]
      simp [dropL, hk]
theorem modS_false (E : En) : ∀ (ys acc : List En), (if (ys.foldl (modStep E) (acc, false)).2 then (ys.foldl (modStep E) (acc, false)).1 else (ys.foldl (modStep E) (acc, false)).1 ++ [E]) = acc ++ withL keyE E ys
  | [], acc => by simp [withL, dropL, putL]
  | y :: ys, acc => by
    rw [List.foldl_cons]
    by_cases h : y.uri = E.uri
    · have hk := (uri_key y E).1 h
      rw [show modStep E (acc, false) y = (acc, false) by unfold modStep; rw [if_pos h], modS_false E ys acc]
      simp [withL, dropL, hk]
    · have hk : ¬ keyE y = keyE E := fun e => h ((uri_key y E).2 e)
      have hw : withL keyE E (y :: ys) = if bytesBefore (keyE E) (keyE y) then E :: y :: dropL keyE (keyE E) ys else y :: withL keyE E ys := by
        unfold withL
        rw [show dropL keyE (keyE E) (y :: ys) = y :: dropL keyE (keyE E) ys by simp [dropL, hk]]
        rfl
      have hbb : Op.bytesLess E.uri.toList y.uri.toList = bytesBefore (keyE E) (keyE y) := by
        rw [less_before20]; unfold keyE; rw [ByteArray.toList_eq, ByteArray.toList_eq]
      by_cases hl : bytesBefore (keyE E) (keyE y) = true
      · rw [show modStep E (acc, false) y = ((acc ++ [E]) ++ [y], true) by unfold modStep; rw [if_neg h, if_pos ⟨rfl, hbb.trans hl⟩], modS_true, hw, if_pos hl]
        simp
      · rw [show modStep E (acc, false) y = (acc ++ [y], false) by unfold modStep; rw [if_neg h, if_neg (by rintro ⟨-, hh⟩; exact hl (hbb.symm.trans hh))], modS_false E ys (acc ++ [y]), hw, if_neg hl]
        simp
theorem modE_with (E : En) (ys : List En) : modE E ys = withL keyE E ys := by
  have := modS_false E ys []
  rw [List.nil_append] at this
  exact this
theorem modS_nil (E : En) : modS E [] = ([], false) := rfl
theorem modS_step (E : En) {ys : List En} {j : Nat} (h : j < ys.length) : modS E (ys.take (j + 1)) = modStep E (modS E (ys.take j)) ys[j] := by
  rw [List.take_succ_eq_append_getElem h]
  unfold modS
  rw [List.foldl_append]
  rfl
theorem modS_len (E : En) (ys : List En) : (modS E ys).1.length ≤ 2 * ys.length := by
  have key : ∀ (ys : List En) (s : List En × Bool), (ys.foldl (modStep E) s).1.length ≤ s.1.length + 2 * ys.length := by
    intro ys
    induction ys with
    | nil => intro s; simp
    | cons y ys ih =>
      intro s
      rw [List.foldl_cons]
      have h1 := ih (modStep E s y)
      have h2 : (modStep E s y).1.length ≤ s.1.length + 2 := by
        unfold modStep
        split
        · omega
        · split <;> simp
      rw [List.length_cons]; omega
  have := key ys ([], false)
  simpa [modS] using this
theorem mkN_snoc (xs : List En) (e : En) : mkN (xs ++ [e]) = withL keyE e (mkN xs) := by unfold mkN; rw [List.foldl_append]; rfl
theorem mkN_take {xs : List En} {k : Nat} (h : k < xs.length) : mkN (xs.take (k + 1)) = withL keyE xs[k] (mkN (xs.take k)) := by
  rw [List.take_succ_eq_append_getElem h, mkN_snoc]
theorem mkN_len : ∀ xs : List En, (mkN xs).length ≤ xs.length := by
  have key : ∀ (xs es : List En), (xs.foldl (fun es e => withL keyE e es) es).length ≤ es.length + xs.length := by
    intro xs
    induction xs with
    | nil => intro es; simp
    | cons x xs ih =>
      intro es
      rw [List.foldl_cons, List.length_cons]
      have h1 := ih (withL keyE x es)
      have h2 : (withL keyE x es).length ≤ es.length + 1 := by
        unfold withL
        have hp : ∀ l : List En, (putL keyE x l).length = l.length + 1 := by
          intro l
          induction l with
          | nil => rfl
          | cons y l ih => unfold putL; split <;> simp [ih]
        have hd : (dropL keyE (keyE x) es).length ≤ es.length := List.length_filter_le _ _
        rw [hp]; omega
      omega
  intro xs
  have := key xs []
  simpa [mkN] using this
end Go.Ix
namespace Go.Proofs.YtaalbcfpacpgfaaGreat
open Go.RowKit Go.Lib Go.Vfs Go.Par Go.Typ Go.Shelf Go.Ix
set_option linter.unusedVariables false
set_option linter.unusedSimpArgs false

theorem row_app3 {B Z : Nat} {w w3 : World} {xs : List En} {v v' : Value} {us : List Value} (h : RowK 55 3 EntAt 0 B w xs v us) {x : En} {A : Option Addr} {c : Nat} (hx : EntAt (· < Z) w (enV x A c) x) (hZ : Z ≤ B) (hzw : B ≤ w.heap.size) {o : Obj}
    (hown : w3.ownsRow B 55 3 v' (xs.length + 1) (us.flatMap flatC ++ flatC (enV x A c))) (hg : (w.alloc o).grownBy w3 v.ownBlock) (hat : v'.ownBlock = v.ownBlock ∨ v'.ownBlock = some (w.alloc o).heap.size) :
    RowK 55 3 EntAt 0 B w3 (xs ++ [x]) v' (us ++ [enV x A c]) :=
  RowK.next (R := EntAt) EntAt.keep h hx (fun g (hg : g < Z) => ⟨Nat.zero_le _, by omega, fun e => by have := h.lt g e; omega⟩) rfl o hown hg hat

set_option maxRecDepth 20000 in
set_option maxHeartbeats 4000000 in
theorem model_any (xs : List En) (v : Value) (w : World) (hX : EntsAt (· < w.heap.size) w v xs) (hl : xs.length ≤ 1000) :
    Calls Tryz.prog 27 #[v] w fun e w' => ∃ A c, e = .returned (.slice A (mkN xs).length c) ∧ EntsAt (· < w'.heap.size) w' (.slice A (mkN xs).length c) (mkN xs) ∧ Below w.heap.size w w' := by
  obtain ⟨A, c, rfl, hc, hm⟩ := hX.form
  have HX := Lib.hid hX
  obtain ⟨W1, hW1⟩ : ∃ W1, W1 = w.alloc (.cells #[] 55) := ⟨_, rfl⟩
  have hb1 : Below w.heap.size w W1 := by rw [hW1]; exact (Below.refl _ _).alloc (Nat.le_refl _) _
  have HB1 := Lib.hid hb1
  have HMK : Hid (EntsAt (· < W1.heap.size) W1 (.slice (some ⟨w.heap.size, 0, none⟩) 0 0) []) := Lib.hid (EntsAt.nil _ _ _ _ (Nat.zero_le _))
  clear hX hc hm hb1
  go_enter Tryz.func27, Tryz.ntmps27
  go_wp2
  rw [← hW1]
  clear hW1
  go_loopw [3, 4] (fun ov iv W => ∃ (k : Nat) (Ao : Option Addr) (co : Nat), k ≤ xs.length ∧ ov = .slice Ao (mkN (xs.take k)).length co ∧ iv = .int .i64 k ∧ Hid (EntsAt (· < W.heap.size) W (.slice Ao (mkN (xs.take k)).length co) (mkN (xs.take k))) ∧ Hid (Below w.heap.size w W)) (fun _ iv _ => xs.length - (RowKit.intOf iv).toNat)
  case atStart => exact ⟨0, _, _, by omega, rfl, rfl, HMK, HB1⟩
  case round =>
    obtain ⟨k, Ao, co, hk, rfl, rfl, HO, HB⟩ := hrel
    obtain ⟨wo, rfl⟩ : ∃ wo : World, wo = wr := ⟨_, rfl⟩
    have hol := mkN_len (xs.take k)
    rw [List.length_take] at hol
    by_cases hlt : k < xs.length
    · have hmk := mkN_take hlt
      rw [← modE_with] at hmk
      obtain ⟨out2, ho2⟩ : ∃ o, o = mkN (xs.take (k + 1)) := ⟨_, rfl⟩
      rw [← ho2] at hmk
      have HMKN := Lib.hid hmk
      have HO2 := Lib.hid ho2
      clear hmk ho2
      obtain ⟨b, off, A', c', rfl, hb, hns, ht, x0, x1, x2⟩ := (HX.out.keep (S' := (· < w.heap.size)) fun g hg => ⟨hg, HB.out.block g hg⟩).arg hlt
      have hE := show ExsAt (· < w.heap.size) wo (.slice A' xs[k].exs.length c') xs[k].exs from ht
      have hzw := HB.out.size
      generalize xs[k] = E at *
      generalize mkN (xs.take k) = out at *
      obtain ⟨W2, hW2⟩ : ∃ W2, W2 = wo.alloc (.cells #[] 55) := ⟨_, rfl⟩
      have hb2 : Below wo.heap.size wo W2 := by rw [hW2]; exact (Below.refl _ _).alloc (Nat.le_refl _) _
      have HR0 : Hid (RowK 55 3 EntAt 0 wo.heap.size W2 [] (.slice (some ⟨wo.heap.size, 0, none⟩) 0 0) []) := Lib.hid (by rw [hW2]; exact RowK.made wo (Nat.le_refl _))
      have HB2 := Lib.hid hb2
      have HE : Hid (∀ W', Below wo.heap.size wo W' → EntAt (· < w.heap.size) W' (enV E A' c') E ∧ W'.cell? ⟨b, off + k * 3, none⟩ = some (.string E.uri) ∧ W'.cell? ⟨b, off + k * 3 + 1, none⟩ = some (.int .i64 E.ver) ∧ W'.cell? ⟨b, off + k * 3 + 2, none⟩ = some (.slice A' E.exs.length c')) :=
        Lib.hid fun W' h => by
          have hbl : b < wo.heap.size := Nat.lt_of_lt_of_le hb hzw
          exact ⟨⟨A', c', rfl, hns, hE.keep fun g hg => ⟨hg, h.block g (by have : g < w.heap.size := hg; omega)⟩⟩, (h.cell (p := ⟨_, _, none⟩) hbl).trans x0, (h.cell (p := ⟨_, _, none⟩) hbl).trans x1, (h.cell (p := ⟨_, _, none⟩) hbl).trans x2⟩
      clear ht hE hns x0 x1 x2 hb2
      go_upto_region 8 with fail
      rw [← hW2]
      clear hW2
      go_loopw [5, 6, 7] (fun sv pv jv W' => ∃ (j : Nat) (us : List Value), j ≤ out.length ∧ pv = .bool (modS E (out.take j)).2 ∧ jv = .int .i64 j ∧ Hid (RowK 55 3 EntAt 0 wo.heap.size W' (modS E (out.take j)).1 sv us) ∧ Hid (Below wo.heap.size wo W')) (fun _ _ jv _ => out.length - (RowKit.intOf jv).toNat)
      case atStart => exact ⟨0, [], by omega, rfl, rfl, HR0, HB2⟩
      case round =>
        obtain ⟨j, us, hj, rfl, rfl, HR, HBI⟩ := hrel
        have hzi := HBI.out.size
        have hac : (modS E (out.take j)).1.length ≤ 2 * j := by
          have := modS_len E (out.take j)
          rw [List.length_take] at this; omega
        obtain ⟨-, x0, x1, x2⟩ := HE.out wr HBI.out
        by_cases hjl : j < out.length
        · obtain ⟨b2, off2, A2, c2, rfl, hb2, hns2, ht2, y0, y1, y2⟩ := (HO.out.keep (S' := (· < wo.heap.size)) fun g hg => ⟨hg, HBI.out.block g hg⟩).arg hjl
          have hst := modS_step E hjl
          have HY : Hid (∀ W', Below wo.heap.size wr W' → EntAt (· < wo.heap.size) W' (enV out[j] A2 c2) out[j] ∧ W'.cell? ⟨b2, off2 + j * 3, none⟩ = some (.string out[j].uri) ∧ W'.cell? ⟨b2, off2 + j * 3 + 1, none⟩ = some (.int .i64 out[j].ver) ∧ W'.cell? ⟨b2, off2 + j * 3 + 2, none⟩ = some (.slice A2 out[j].exs.length c2)) := Lib.hid fun W' h =>
            ⟨⟨A2, c2, rfl, hns2, ht2.keep fun g hg => ⟨hg, h.block g hg⟩⟩, (h.cell (p := ⟨_, _, none⟩) hb2).trans y0, (h.cell (p := ⟨_, _, none⟩) hb2).trans y1, (h.cell (p := ⟨_, _, none⟩) hb2).trans y2⟩
          generalize modS E (out.take j) = st at *
          obtain ⟨acc, pl⟩ := st
          simp only at hac hst HR ⊢
          clear ht2 hns2
          generalize out[j] = Y at *
          have HOL : Hid (∀ g, u5.ownBlock = some g → wo.heap.size ≤ g ∧ g < wr.heap.size) := Lib.hid fun g e => HR.out.lt g e
          have HQ1 : Hid (∀ (wa wb : World) (n : Nat), Below wo.heap.size wo wa → RowK 55 3 EntAt 0 wo.heap.size wa acc u5 us → Below wo.heap.size wr wa → wb = wa.drewN n → Below wo.heap.size wo wb ∧ RowK 55 3 EntAt 0 wo.heap.size wb acc u5 us ∧ Below wo.heap.size wr wb) := Lib.hid fun wa wb n h1 h2 h3 e => by
            subst e
            exact ⟨below_drewN h1 n, RowK.below (R := EntAt) EntAt.keep h2 (below_drewN (Below.refl _ _) n), below_drewN h3 n⟩
          by_cases hn : Y.uri = E.uri
          · have hsk : modS E (out.take (j + 1)) = (acc, pl) := by rw [hst]; unfold modStep; rw [if_pos hn]
            have hnn : (Y.uri.toList == E.uri.toList) = true := (beqS _ _).2 hn
            have HSK := Lib.hid hsk
            clear hn hst hac hsk
            go_wp2_with fail
            go_quiet (fail)
            generalize hwz1 : wr.drewN nq = wz1
            have hq1 := HQ1.out wr wz1 nq HBI.out HR.out (Below.refl _ _) hwz1.symm
            have HR1 := Lib.hid hq1.2.1; have HB1' := Lib.hid hq1.1
            clear hq1 hwz1
            go_wp2
            go_roundw
            case rel => exact ⟨j + 1, us, by omega, by rw [HSK.out], by go_num, Lib.hid (by rw [HSK.out]; exact HR1.out), HB1'⟩
            case measure => simp [RowKit.intOf]; omega
          · have hnn : (Y.uri.toList == E.uri.toList) = false := beqS_ne hn
            go_wp2_with fail
            go_quiet (fail)
            generalize hwz1 : wr.drewN nq = wz1
            obtain ⟨hB1, hR1, hb1⟩ := HQ1.out wr wz1 nq HBI.out HR.out (Below.refl _ _) hwz1.symm
            obtain ⟨-, x0, x1, x2⟩ := HE.out wz1 hB1
            obtain ⟨-, y0, y1, y2⟩ := HY.out wz1 hb1
            have HR1 := Lib.hid hR1; have HB1' := Lib.hid hB1; have Hb1 := Lib.hid hb1
            clear hwz1 hR1 hb1 hB1
            go_wp2_with fail
            have hcs : (pl = false ∧ Op.bytesLess E.uri.toList Y.uri.toList = true) ∨ pl = true ∨ (pl = false ∧ Op.bytesLess E.uri.toList Y.uri.toList = false) := by
              cases pl with
              | true => exact .inr (.inl rfl)
              | false =>
                cases hb : Op.bytesLess E.uri.toList Y.uri.toList with
                | false => exact .inr (.inr ⟨rfl, rfl⟩)
                | true => exact .inl ⟨rfl, rfl⟩
            rcases hcs with hins | hcs
            focus
              have hsk : modS E (out.take (j + 1)) = ((acc ++ [E]) ++ [Y], true) := by rw [hst]; unfold modStep; rw [if_neg hn, if_pos hins]
              obtain ⟨rfl, hbl⟩ := hins
              go_quiet (fail)
              generalize hwz2 : wz1.drewN nq = wz2
              obtain ⟨hB2, hR2, hb2⟩ := HQ1.out wz1 wz2 nq HB1'.out HR1.out Hb1.out hwz2.symm
              obtain ⟨hEE, x0, x1, x2⟩ := HE.out wz2 hB2
              have HEE := Lib.hid hEE; have HR2 := Lib.hid hR2; have HB2' := Lib.hid hB2; have Hb2 := Lib.hid hb2
              have hz2 := hB2.size
              obtain ⟨acc2, hacc2⟩ : ∃ acc2, acc2 = acc ++ [E] := ⟨_, rfl⟩
              rw [← hacc2] at hsk
              have HSK := Lib.hid hsk
              have HACC2 := Lib.hid hacc2
              have hown := hR2.own
              obtain ⟨us', hus⟩ : ∃ us', us' = us.flatMap flatC := ⟨_, rfl⟩
              obtain ⟨m, hm⟩ : ∃ m, m = acc.length := ⟨_, rfl⟩
              rw [← hus, ← hm] at hown
              rw [← hm] at hac
              have HUS := Lib.hid hus
              have HM := Lib.hid hm
              have hal2 : acc2.length ≤ 2 * j + 1 := by rw [hacc2, List.length_append, ← hm]; simp; omega
              clear hn hst hsk hacc2 hus hm hwz2 hEE hR2 hB2 hb2 y0 y1 y2
              go_upto_region 14 with (at_builtin; refine wpList_appK _ rfl _ _ _ rfl wo.heap.size _ 3 enE _ m us' rfl (World.ownsRow.alloc hown _) ⟨wz2.heap.size, 0, none⟩ 1 1 [.string E.uri, .int .i64 E.ver, .slice A' E.exs.length c'] rfl rfl (cells_new _ _ _) (one3 _ _ _ _ _) (by omega) (by simp; omega) ?_; intro v3 w3 hown3 hg3 hat3)
              have hR4 : RowK 55 3 EntAt 0 wo.heap.size w3 acc2 v3 (us ++ [enV E A' c']) := by
                rw [HACC2.out]
                refine row_app3 (Z := w.heap.size) HR2.out HEE.out (by omega) (by omega) ?_ hg3 hat3
                rw [← HM.out, ← HUS.out]; exact hown3
              have hgr : Gr wz2 w3 u5 v3 := Gr.app hg3 hat3
              have hgb : Below wo.heap.size wz2 w3 := hgr.below (by omega) fun g e => (HOL.out g e).1
              have hb4 : Below wo.heap.size wo w3 := HB2'.out.trans hgb
              obtain ⟨us2, hus2⟩ : ∃ us2, us2 = us ++ [enV E A' c'] := ⟨_, rfl⟩
              obtain ⟨W4, hW4⟩ : ∃ W4, W4 = w3 := ⟨_, rfl⟩
              obtain ⟨sv2, hsv2⟩ : ∃ sv2, sv2 = v3 := ⟨_, rfl⟩
              have hY4 := HY.out w3 (Hb2.out.trans hgb)
              rw [← hus2, ← hW4, ← hsv2] at hR4
              rw [← hW4] at hb4 hY4
              rw [← hsv2, ← hW4]
              clear hown3 hg3 hat3 hgr hgb hown HACC2 HUS HM hW4 hsv2 hus2 hbl hac x0 x1 x2
            rotate_left
            focus
              have hsk : modS E (out.take (j + 1)) = (acc ++ [Y], pl) := by
                rw [hst]; unfold modStep; rw [if_neg hn, if_neg]
                rintro ⟨h1, h2⟩
                rcases hcs with h | ⟨-, h⟩
                · rw [h] at h1; cases h1
                · rw [h] at h2; cases h2
              obtain ⟨acc2, hacc2⟩ : ∃ acc2, acc2 = acc := ⟨_, rfl⟩
              have hal2 : acc2.length ≤ 2 * j + 1 := by rw [hacc2]; omega
              clear hn hst
              rcases hcs with rfl | ⟨rfl, hbl⟩
              all_goals
                go_quiet (fail)
                generalize hwz2 : wz1.drewN nq = wz2
                obtain ⟨hB2, hR4, hb2⟩ := HQ1.out wz1 wz2 nq HB1'.out HR1.out Hb1.out hwz2.symm
                rw [← hacc2] at hsk hR4
                have HSK := Lib.hid hsk
                clear hsk hwz2 hacc2
                go_upto_region 14 with fail
                obtain ⟨us2, hus2⟩ : ∃ us2, us2 = us := ⟨_, rfl⟩
                obtain ⟨W4, hW4⟩ : ∃ W4, W4 = wz2 := ⟨_, rfl⟩
                obtain ⟨sv2, hsv2⟩ : ∃ sv2, sv2 = u5 := ⟨_, rfl⟩
                have hb4 := hB2
                have hY4 := HY.out wz2 hb2
                rw [← hus2, ← hW4, ← hsv2] at hR4
                rw [← hW4] at hb4 hY4
                rw [← hsv2, ← hW4]
                clear hW4 hsv2 hus2 hac x0 x1 x2 y0 y1 y2 hB2 hb2
            all_goals
              have hown := hR4.own
              obtain ⟨us', hus⟩ : ∃ us', us' = us2.flatMap flatC := ⟨_, rfl⟩
              obtain ⟨m, hm⟩ : ∃ m, m = acc2.length := ⟨_, rfl⟩
              rw [← hus, ← hm] at hown
              rw [← hm] at hal2
              have HUS := Lib.hid hus
              have HM := Lib.hid hm
              have HR4 := Lib.hid hR4
              have HB4 := Lib.hid hb4
              obtain ⟨hYe, y0, y1, y2⟩ := hY4
              have HYE := Lib.hid hYe
              have hz4 : wo.heap.size ≤ W4.heap.size := hb4.size
              clear hus hm hR4 hb4 hYe
              go_wp2_with (at_builtin; refine wpList_appK _ rfl _ _ _ rfl wo.heap.size _ 3 enE _ m us' rfl (World.ownsRow.alloc hown _) ⟨W4.heap.size, 0, none⟩ 1 1 [.string Y.uri, .int .i64 Y.ver, .slice A2 Y.exs.length c2] rfl rfl (cells_new _ _ _) (one3 _ _ _ _ _) (by omega) (by simp; omega) ?_; intro v5 w5 hown5 hg5 hat5)
              have hR5 : RowK 55 3 EntAt 0 wo.heap.size w5 (acc2 ++ [Y]) v5 (us2 ++ [enV Y A2 c2]) := by
                refine row_app3 (Z := wo.heap.size) HR4.out HYE.out (Nat.le_refl _) hz4 ?_ hg5 hat5
                rw [← HM.out, ← HUS.out]; exact hown5
              have HR5 := Lib.hid hR5
              have HB5 : Hid (Below wo.heap.size wo w5) := Lib.hid (below_grow HB4.out hz4 _ hg5 (fun g e => (hown.lt g e).1))
              clear hR5 hown5 hg5 hat5 hown y0 y1 y2
              go_wp2
              go_roundw
              case rel => exact ⟨j + 1, _, by omega, by rw [HSK.out], by go_num, Lib.hid (by rw [HSK.out]; exact HR5.out), HB5⟩
              case measure => simp [RowKit.intOf]; omega
        · have hjk : j = out.length := by omega
          have hr := HR.out
          rw [hjk, List.take_length] at hr hac ⊢
          have HFIN : Hid (modE E out = if (modS E out).2 then (modS E out).1 else (modS E out).1 ++ [E]) := Lib.hid rfl
          have hwb : Below w.heap.size w wr := HB.out.trans (HBI.out.mono hzw)
          have HBW := Lib.hid hwb
          clear hwb HR
          generalize modS E out = st at *
          obtain ⟨acc, pl⟩ := st
          simp only at hac hr HFIN ⊢
          have HOL : Hid (∀ g, u5.ownBlock = some g → wo.heap.size ≤ g ∧ g < wr.heap.size) := Lib.hid fun g e => hr.lt g e
          cases pl with
          | true =>
            have hf : out2 = acc := by rw [HMKN.out, HFIN.out]; rfl
            have HF := Lib.hid hf
            have HEN := Lib.hid hr.ents
            obtain ⟨Af, cf, hff, -, -⟩ := hr.form
            clear hf hr HMKN HFIN
            subst hff
            go_wp2
            go_roundw
            case rel => exact ⟨k + 1, Af, cf, by omega, by rw [← HO2.out, HF.out], by go_num, Lib.hid (by rw [← HO2.out, HF.out]; exact HEN.out.keep fun g hg => ⟨hg.2, rfl⟩), HBW⟩
            case measure => simp [RowKit.intOf]; omega
          | false =>
            have hf : out2 = acc ++ [E] := by rw [HMKN.out, HFIN.out]; rfl
            have HF := Lib.hid hf
            have hown := hr.own
            obtain ⟨us', hus⟩ : ∃ us', us' = us.flatMap flatC := ⟨_, rfl⟩
            obtain ⟨m, hm⟩ : ∃ m, m = acc.length := ⟨_, rfl⟩
            rw [← hus, ← hm] at hown
            rw [← hm] at hac
            have HUS := Lib.hid hus
            have HM := Lib.hid hm
            have HR2 := Lib.hid hr
            clear hus hm hf hr HMKN HFIN
            go_upto_region 17 with (at_builtin; refine wpList_appK _ rfl _ _ _ rfl wo.heap.size _ 3 enE _ m us' rfl (World.ownsRow.alloc hown _) ⟨wr.heap.size, 0, none⟩ 1 1 [.string E.uri, .int .i64 E.ver, .slice A' E.exs.length c'] rfl rfl (cells_new _ _ _) (one3 _ _ _ _ _) (by omega) (by simp; omega) ?_; intro v5 w5 hown5 hg5 hat5)
            have hR5 : RowK 55 3 EntAt 0 wo.heap.size w5 out2 v5 (us ++ [enV E A' c']) := by
              rw [HF.out]
              refine row_app3 (Z := w.heap.size) HR2.out (HE.out wr HBI.out).1 (by omega) hzi ?_ hg5 hat5
              rw [← HM.out, ← HUS.out]; exact hown5
            have HEN := Lib.hid hR5.ents
            obtain ⟨Af, cf, hff, -, -⟩ := hR5.form
            have HB5 : Hid (Below w.heap.size w w5) := Lib.hid (HB.out.trans ((below_grow HBI.out hzi _ hg5 (fun g e => (hown.lt g e).1)).mono hzw))
            clear hR5 hown5 hg5 hat5 hown x0 x1 x2
            subst hff
            go_wp2
            go_roundw
            case rel => exact ⟨k + 1, Af, cf, by omega, by rw [← HO2.out], by go_num, Lib.hid (by rw [← HO2.out]; exact HEN.out.keep fun g hg => ⟨hg.2, rfl⟩), HB5⟩
            case measure => simp [RowKit.intOf]; omega
    · have hkl : k = xs.length := by omega
      have hmk : Hid (mkN xs = mkN (xs.take k)) := Lib.hid (by rw [hkl, List.take_length])
      go_wp2
      go_ret
      rw [hmk.out]
      exact ⟨Ao, co, rfl, HO.out, HB.out⟩
end Go.Proofs.YtaalbcfpacpgfaaGreat

