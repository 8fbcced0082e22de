/- law14.SchemeRound: the walk. -/
import Derived.Test.YtbhicpjhijondaaDoorX20
import Derived.Test.YtbhicpjhijondaaDoorX14
import Derived.Test.YtbhicpjhijondaaDoorTE
namespace Go.Proofs.YtbhicpjhijondaaDoor
open Go.RowKit Go.Lib Go.Vfs Go.Par Go.Typ Go.Shelf
set_option linter.unusedVariables false
set_option linter.unusedSimpArgs false

set_option maxHeartbeats 400000 in
theorem copyBytesB_any (v : Value) (l : List UInt8) (B : Nat) (w : World) (hsg : Seg w B v (Lib.byteCells l)) (hB : B ≤ w.heap.size) (hl : l.length ≤ 1000000000) :
    Calls Tryd.prog 52 #[v] w fun e w' => ∃ u, e = .returned u ∧ Par.Own w' w.heap.size 5 u (Lib.byteCells l) ∧ Below w.heap.size w w' := by
  have hown := Par.Own.new w w.heap.size 5 #[] [] rfl (Nat.le_refl _) (by simp)
  have hb0 : Below w.heap.size w (w.alloc (.cells #[] 5)) := (Below.refl _ w).alloc (Nat.le_refl _) _
  have hsg1 := hsg.below (hb0.mono hB)
  clear hsg
  go_enter Tryd.func52, Tryd.ntmps52
  go_wp2_with (at_builtin; refine wpList_app _ rfl _ _ _ rfl w.heap.size 5 _ byteE _ _ rfl hown _ v _ rfl hsg1 (one_bytes _) ?c1 ?c2 ?_)
  case c1 => rw [Lib.byteCells_length]; simp only [List.length_nil]; omega
  case c2 => first | omega | (simp; done) | (simp; omega)
  intro v3 w3 hown4 hg3 hat3
  go_wp2
  go_ret
  exact ⟨_, rfl, by simpa using hown4, below_app hb0 hown hg3 (by simp)⟩
theorem slice_toB (A : Option Addr) (n c N : Nat) (w : World) (h : N ≤ c) : (Instr.slice 47 (.slice A n c) none (some (.int .i64 (N : Int))) none).run Tryd.prog w = .ok (.slice A N c) w := by
  have ht' : Tryd.prog.underlying 47 = some (.slice (Tryd.prog.elem 47)) := by simp [Program.elem, Tryd.underlying47]
  have he : Tryd.prog.elem 47 = 5 := by simp [Program.elem, Tryd.underlying47]
  rw [run_slice_h w 47 _ _ _ ht' .i64 _ (by omega) (by omega), he, Tryd.sizeOf5]
  simp [Result.andThen, sliced, Addr.add]
theorem exsB_len {xs : List Ex} (h : ∀ x ∈ xs, x.name.size ≤ 255 ∧ rightT x.ty = true ∧ shortT x.ty = true) : (exsB xs).length ≤ 100000 * xs.length := by
  induction xs with
  | nil => simp [exsB]
  | cons x xs ih =>
    obtain ⟨h1, h2, h3⟩ := h x (by simp)
    have h4 := wrT_len x.ty h3
    have h5 := (rightT_iff.1 h2).1
    have h6 := ih fun y hy => h y (by simp [hy])
    have hl : x.name.data.toList.length = x.name.size := by rw [Array.length_toList]; rfl
    simp only [exsB, exB, List.length_append, List.length_cons, List.length_nil]
    omega
/-- the arguments beside what was made. -/
structure RO (w : World) (lv : Value) (xs : List Ex) (mv : Value) (M : List UInt8) (W : World) : Prop where
  row : ExsAt (· < w.heap.size) W lv xs
  more : Seg W w.heap.size mv (byteCells M)
  blw : Below w.heap.size w W
theorem RO.t {w : World} {lv : Value} {xs : List Ex} {mv : Value} {M : List UInt8} {W W' : World} (h : RO w lv xs mv M W) (hb : Below W.heap.size W W') : RO w lv xs mv M W' :=
  ⟨h.row.keep fun g hg => ⟨hg, hb.block g (by have := h.blw.size; omega)⟩, h.more.below (hb.mono h.blw.size), h.blw.trans (hb.mono h.blw.size)⟩
theorem RO.exs {w : World} {lv : Value} {xs : List Ex} {mv : Value} {M : List UInt8} {W : World} (h : RO w lv xs mv M W) : ExsAt (· < W.heap.size) W lv xs := h.row.sub fun g hg => Nat.lt_of_lt_of_le hg h.blw.size

set_option maxRecDepth 20000 in
set_option maxHeartbeats 4000000 in
theorem schemeRound_walk (lv : Value) (xs : List Ex) (i : Int) (hi : -9223372036854775808 ≤ i ∧ i ≤ 9223372036854775807) (mv : Value) (M : List UInt8) (hM1 : M.length ≤ 140737488351232) (w : World)
    (hX : ExsAt (· < w.heap.size) w lv xs ∧ ∀ x ∈ xs, RowOk x.ty) (hM : Seg w w.heap.size mv (byteCells M)) (htb : Tb w) :
    Calls Tryd.prog 14 #[lv, .int .i64 i, mv] w fun e w' => e = .returned (.bool true) ∧ Below w.heap.size w w' := by
  obtain ⟨hX, hXR⟩ := hX
  have hR0 : RO w lv xs mv M w := ⟨hX, hM, Below.refl _ _⟩
  obtain ⟨Al, cl, rfl, hcl, hml⟩ := hX.form
  obtain ⟨Am, cm, rfl, hcm, hmm, -⟩ := hM.open_bytes
  have HR0 := Lib.hid hR0; have HXR := Lib.hid hXR
  have HAL := Lib.hid (alive14_any w htb)
  clear hX hXR hM hR0 hcl hml htb
  go_enter Tryd.func14, Tryd.ntmps14
  go_wp2_with fail
  refine HAL.out.mono ?_
  rintro e w1 ⟨rfl, hb1⟩
  have HR1 := Lib.hid (HR0.out.t hb1)
  have HGR := Lib.hid (great14_any xs _ w1 HR1.out.exs)
  clear hb1
  go_wp2_with fail
  refine HGR.out.mono ?_
  rintro e w2 ⟨rfl, hb2⟩
  have HR2 := Lib.hid (HR1.out.t hb2)
  clear hb2
  by_cases hL : weighX xs 0 = true
  · rw [hL]
    clear hL
    go_wp2
    go_ret
    exact ⟨rfl, HR2.out.blw⟩
  have hL' : weighX xs 0 = false := by simpa using hL
  rw [hL']
  have hlen := weighX_len xs 0 (Int.le_refl _) (by decide) hL'
  have HXL : Hid (xs.length ≤ 5000) := Lib.hid (by omega)
  clear hL hL' hlen
  by_cases hml : 1000 < M.length
  · have hm1 : (1000 : Int) < (M.length : Int) := by omega
    go_wp2
    go_ret
    exact ⟨rfl, HR2.out.blw⟩
  have hm1 : ¬ ((1000 : Int) < (M.length : Int)) := by omega
  have HCE := Lib.hid (copyExports_any xs HXR.out _ w2 HR2.out.exs (by have := HXL.out; omega))
  go_wp2_with fail
  refine HCE.out.mono ?_
  rintro e w3 ⟨v3, rfl, hx3, hb3⟩
  have HR3 := Lib.hid (HR2.out.t hb3)
  have HEN := Lib.hid (encode_any xs v3 w3 (hx3.sub fun g hg => hg.2))
  clear hx3 hb3 HCE
  go_wp2_with fail
  refine HEN.out.mono ?_
  rintro e w4 ⟨v4, rfl, hb4, he4, hn4⟩
  have HR4 := Lib.hid (HR3.out.t hb4)
  clear HEN
  by_cases hr : rightX xs = true
  rotate_left
  · have hr' : rightX xs = false := by simpa using hr
    have hv4 := hn4 hr'
    subst hv4
    have HRI : Hid (∀ W vE, ExsAt (· < W.heap.size) W vE xs → Calls Tryd.prog 39 #[vE] W fun e w' => e = .returned (.bool false) ∧ Below W.heap.size W w') := Lib.hid fun W vE h => by rw [← hr']; exact right14_any xs vE W h
    have HCE := Lib.hid (copyExports_any xs HXR.out _ w4 HR4.out.exs (by have := HXL.out; omega))
    rw [hr']
    clear hr hr' hb4 he4 hn4
    go_wp2_with fail
    refine HCE.out.mono ?_
    rintro e w5 ⟨v5, rfl, hx5, hb5⟩
    have HR5 := Lib.hid (HR4.out.t hb5)
    have HRI5 := Lib.hid (HRI.out w5 v5 (hx5.sub fun g hg => hg.2))
    clear hx5 hb5 HCE HRI
    go_wp2_with fail
    refine HRI5.out.mono ?_
    rintro e w6 ⟨rfl, hb6⟩
    have HR6 := Lib.hid (HR5.out.t hb6)
    clear hb6
    go_wp2
    go_ret
    exact ⟨rfl, HR6.out.blw⟩
  have HRT := Lib.hid hr
  have hown4 := he4 hr
  obtain ⟨E, hE⟩ : ∃ E, E = encX xs := ⟨_, rfl⟩
  rw [← hE] at hown4
  have hel : E.length ≤ 500000002 := by
    rw [hE, encX, List.length_append]
    have := exsB_len (right_each hr)
    have := HXL.out
    simp only [List.length_cons, List.length_nil]
    omega
  have HE := Lib.hid hE
  obtain ⟨Ae, ce, rfl⟩ : ∃ A c, v4 = .slice A E.length c := by
    obtain ⟨A, c, e⟩ := hown4.form
    rw [byteCells_length] at e
    exact ⟨A, c, e⟩
  have hsg4 : Seg w4 w4.heap.size (.slice Ae E.length ce) (byteCells E) := hown4.seg
  have HSG4 := Lib.hid hsg4
  have HCB := Lib.hid (copyBytesB_any _ E w4.heap.size w4 hsg4 (Nat.le_refl _) (by omega))
  rw [hr]
  clear hr hb4 he4 hn4 hown4 hE hsg4
  go_wp2_with fail
  refine HCB.out.mono ?_
  rintro e w5 ⟨v5, rfl, ho5, hb5⟩
  have HR5 := Lib.hid (HR4.out.t hb5)
  have HSG5 := Lib.hid ((HSG4.out.below hb5).more hb5.size)
  have HDC := Lib.hid (decode_any E v5 w5 ho5.seg)
  clear ho5 hb5 HCB
  go_wp2_with fail
  refine HDC.out.mono ?_
  rintro e w6 ⟨hb6, v6, rfl, hs6, hn6⟩
  have hdx : decX E = some xs := by have := decX_enc HRT.out []; rw [List.append_nil, if_pos rfl, ← HE.out] at this; exact this
  have HR6 := Lib.hid (HR5.out.t hb6)
  have HSG6 := Lib.hid ((HSG5.out.below hb6).more hb6.size)
  have hx6 := hs6 xs hdx
  have HSM := Lib.hid (sameExports_any xs xs v6 _ w6 (hx6.sub fun g hg => hg.2) HR6.out.exs)
  have hsx : sameX xs xs = true := sameX_true rfl
  rw [hsx] at HSM
  rw [hdx]
  clear hs6 hn6 hx6 hb6 HDC hdx hsx
  go_wp2_with fail
  refine HSM.out.mono ?_
  rintro e w7 ⟨rfl, hb7⟩
  have HR7 := Lib.hid (HR6.out.t hb7)
  have HSG7 := Lib.hid ((HSG6.out.below hb7).more hb7.size)
  clear hb7 HSM
  -- the last part: more behind
  have HFIN : Hid (∀ W, RO w (.slice Al xs.length cl) xs (.slice Am M.length cm) M W → Seg W W.heap.size (.slice Ae E.length ce) (byteCells E) → Calls Tryd.prog 52 #[.slice Ae E.length ce] W fun e w' => ∃ A c, e = .returned (.slice A E.length c) ∧ Par.Own w' W.heap.size 5 (.slice A E.length c) (byteCells E) ∧ Below W.heap.size W w') := Lib.hid fun W h1 h2 => by
    refine (copyBytesB_any _ E W.heap.size W h2 (Nat.le_refl _) (by omega)).mono ?_
    rintro e w' ⟨u, rfl, ho, hb⟩
    obtain ⟨A, c, e⟩ := ho.form
    rw [byteCells_length] at e
    subst e
    exact ⟨A, c, rfl, ho, hb⟩
  have HMORE : Hid (decX (E ++ M) = if M = [] then some xs else none) := Lib.hid (by rw [HE.out]; exact decX_enc HRT.out M)
  by_cases hin : 0 ≤ i ∧ i < (E.length : Int)
  · obtain ⟨N, rfl⟩ := Int.eq_ofNat_of_zero_le hin.1
    have hN : N < E.length := by omega
    have g1 : (0 : Int) ≤ (N : Int) := by omega
    have g2 : ((N : Int) < (E.length : Int)) := by omega
    obtain ⟨hce, -⟩ := seg_sub HSG7.out 0 N (Nat.zero_le _) (by omega)
    have hfr : Seg w7 w7.heap.size (.slice Ae N ce) (byteCells (E.take N)) := by
      obtain ⟨-, A2, c2, e1, h⟩ := seg_sub HSG7.out 0 N (Nat.zero_le _) (by omega)
      have e2 : sliced Ae 0 N ce 1 = .slice Ae N ce := by unfold sliced; cases Ae with
        | none => simp
        | some a => simp [Addr.add]
      rw [e2, Nat.sub_zero] at e1
      injection e1 with e3 _ e4
      subst e3 e4
      simpa using h
    have hdn : decX (E.take N) = none := by
      have := decX_front HRT.out (n := N) (by rw [← HE.out]; exact hN)
      rw [← HE.out] at this; exact this
    have hsl := fun W => slice_toB Ae E.length ce N W hce
    have HCB := Lib.hid (copyBytesB_any _ (E.take N) w7.heap.size w7 hfr (Nat.le_refl _) (by rw [List.length_take]; omega))
    have HDN := Lib.hid hdn
    clear hin hN hfr hdn hce
    go_wp2_with fail
    refine HCB.out.mono ?_
    rintro e w8 ⟨v8, rfl, ho8, hb8⟩
    have HR8 := Lib.hid (HR7.out.t hb8)
    have HSG8 := Lib.hid ((HSG7.out.below hb8).more hb8.size)
    have HDC := Lib.hid (decode_any (E.take N) v8 w8 ho8.seg)
    clear ho8 hb8 HCB
    go_wp2_with fail
    refine HDC.out.mono ?_
    rintro e w9 ⟨hb9, v9, rfl, -, hn9⟩
    have hv9 := hn9 HDN.out
    subst hv9
    have HR9 := Lib.hid (HR8.out.t hb9)
    have HSG9 := Lib.hid ((HSG8.out.below hb9).more hb9.size)
    have hq : (if (decX (E.take N)).isSome = true then (0 : Int) else 140) = 140 := by rw [HDN.out]; rfl
    rw [hq]
    have HCC := Lib.hid (HFIN.out w9 HR9.out HSG9.out)
    clear hb9 hn9 HDC hq hsl HFIN
    go_wp2_with fail
    refine HCC.out.mono ?_
    rintro e wa ⟨Aa, ca, rfl, hoa, hba⟩
    have HRA := Lib.hid (HR9.out.t hba)
    have hma := HRA.out.more
    have hzz := HRA.out.blw.size
    have hza := hba.size
    have HOA := Lib.hid hoa
    clear hba HCC
    go_upto_region 17 with (at_builtin; refine wpList_app _ rfl _ _ _ rfl w9.heap.size 5 _ byteE _ _ rfl hoa _ _ _ rfl hma (one_bytes _) ?c1 ?c2 ?_)
    case c1 => rw [byteCells_length, byteCells_length]; omega
    case c2 => omega
    intro vb wb hob hgb hatb
    rw [← byteCells_append] at hob
    have hbb : Below w.heap.size w wb := HRA.out.blw.trans (Below.grown (Below.refl w.heap.size wa) hgb hzz (fun g e => by have := (HOA.out.lt g e).1; have := HR9.out.blw.size; omega))
    have HBB := Lib.hid hbb
    have HDL := Lib.hid (decode_any (E ++ M) vb wb hob.seg)
    clear hob hgb hatb hbb hoa hma
    go_wp2_with fail
    refine HDL.out.mono ?_
    rintro e wc ⟨hbc, vc, rfl, -, -⟩
    have HBC := Lib.hid (HBB.out.trans (hbc.mono HBB.out.size))
    rw [HMORE.out]
    clear hbc HDL
    by_cases hM0 : M = []
    · subst hM0
      rw [if_pos rfl]
      go_wp2
      go_ret
      exact ⟨rfl, HBC.out⟩
    · rw [if_neg hM0]
      have hml0 : ((M.length : Int) == 0) = false := by
        have : M.length ≠ 0 := fun h => hM0 (List.eq_nil_of_length_eq_zero h)
        simp; exact hM0
      go_wp2
      go_ret
      exact ⟨rfl, HBC.out⟩
  · have hge : ¬ ((0 : Int) ≤ i) ∨ ¬ (i < (E.length : Int)) := by omega
    have HCC := Lib.hid (HFIN.out w7 HR7.out HSG7.out)
    clear hin HFIN
    rcases hge with g1 | g1
    · go_wp2_with fail
      refine HCC.out.mono ?_
      rintro e wa ⟨Aa, ca, rfl, hoa, hba⟩
      have HRA := Lib.hid (HR7.out.t hba)
      have hma := HRA.out.more
      have hzz := HRA.out.blw.size
      have hza := hba.size
      have HOA := Lib.hid hoa
      clear hba HCC
      go_upto_region 17 with (at_builtin; refine wpList_app _ rfl _ _ _ rfl w7.heap.size 5 _ byteE _ _ rfl hoa _ _ _ rfl hma (one_bytes _) ?c1 ?c2 ?_)
      case c1 => rw [byteCells_length, byteCells_length]; omega
      case c2 => omega
      intro vb wb hob hgb hatb
      rw [← byteCells_append] at hob
      have hbb : Below w.heap.size w wb := HRA.out.blw.trans (Below.grown (Below.refl w.heap.size wa) hgb hzz (fun g e => by have := (HOA.out.lt g e).1; have := HR7.out.blw.size; omega))
      have HBB := Lib.hid hbb
      have HDL := Lib.hid (decode_any (E ++ M) vb wb hob.seg)
      clear hob hgb hatb hbb hoa hma
      go_wp2_with fail
      refine HDL.out.mono ?_
      rintro e wc ⟨hbc, vc, rfl, -, -⟩
      have HBC := Lib.hid (HBB.out.trans (hbc.mono HBB.out.size))
      rw [HMORE.out]
      clear hbc HDL
      by_cases hM0 : M = []
      · subst hM0
        rw [if_pos rfl]
        go_wp2
        go_ret
        exact ⟨rfl, HBC.out⟩
      · rw [if_neg hM0]
        have hml0 : ((M.length : Int) == 0) = false := by
          have : M.length ≠ 0 := fun h => hM0 (List.eq_nil_of_length_eq_zero h)
          simp; exact hM0
        go_wp2
        go_ret
        exact ⟨rfl, HBC.out⟩
    · by_cases g0 : (0 : Int) ≤ i
      · go_wp2_with fail
        refine HCC.out.mono ?_
        rintro e wa ⟨Aa, ca, rfl, hoa, hba⟩
        have HRA := Lib.hid (HR7.out.t hba)
        have hma := HRA.out.more
        have hzz := HRA.out.blw.size
        have hza := hba.size
        have HOA := Lib.hid hoa
        clear hba HCC
        go_upto_region 17 with (at_builtin; refine wpList_app _ rfl _ _ _ rfl w7.heap.size 5 _ byteE _ _ rfl hoa _ _ _ rfl hma (one_bytes _) ?c1 ?c2 ?_)
        case c1 => rw [byteCells_length, byteCells_length]; omega
        case c2 => omega
        intro vb wb hob hgb hatb
        rw [← byteCells_append] at hob
        have hbb : Below w.heap.size w wb := HRA.out.blw.trans (Below.grown (Below.refl w.heap.size wa) hgb hzz (fun g e => by have := (HOA.out.lt g e).1; have := HR7.out.blw.size; omega))
        have HBB := Lib.hid hbb
        have HDL := Lib.hid (decode_any (E ++ M) vb wb hob.seg)
        clear hob hgb hatb hbb hoa hma
        go_wp2_with fail
        refine HDL.out.mono ?_
        rintro e wc ⟨hbc, vc, rfl, -, -⟩
        have HBC := Lib.hid (HBB.out.trans (hbc.mono HBB.out.size))
        rw [HMORE.out]
        clear hbc HDL
        by_cases hM0 : M = []
        · subst hM0
          rw [if_pos rfl]
          go_wp2
          go_ret
          exact ⟨rfl, HBC.out⟩
        · rw [if_neg hM0]
          have hml0 : ((M.length : Int) == 0) = false := by
            have : M.length ≠ 0 := fun h => hM0 (List.eq_nil_of_length_eq_zero h)
            simp; exact hM0
          go_wp2
          go_ret
          exact ⟨rfl, HBC.out⟩
      · exfalso; omega
end Go.Proofs.YtbhicpjhijondaaDoor
