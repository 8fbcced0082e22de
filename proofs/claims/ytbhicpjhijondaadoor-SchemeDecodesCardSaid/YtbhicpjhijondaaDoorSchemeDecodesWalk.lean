/- law14.SchemeDecodes: the walk. -/
import Derived.Test.YtbhicpjhijondaaDoorYZ
namespace Go.Proofs.YtbhicpjhijondaaDoor
open Go.RowKit Go.Lib Go.Vfs Go.Par Go.Typ Go.Shelf
set_option linter.unusedVariables false
set_option linter.unusedSimpArgs false

set_option maxHeartbeats 400000 in
theorem copyBytesD_any (v : Value) (l : List UInt8) (w : World) (hsg : Seg w w.heap.size v (Lib.byteCells l)) (hl : l.length ≤ 1000000) :
    Calls Tryd.prog 52 #[v] w fun e w' => ∃ u, e = .returned u ∧ Par.Own w' w.heap.size 5 u (Lib.byteCells l) ∧ Below w.heap.size w w' := by
  have hown := Par.Own.new w w.heap.size 5 #[] [] rfl (Nat.le_refl _) (by simp)
  have hb0 : Below w.heap.size w (w.alloc (.cells #[] 5)) := (Below.refl _ w).alloc (Nat.le_refl _) _
  have hsg1 := hsg.below hb0
  clear hsg
  go_enter Tryd.func52, Tryd.ntmps52
  go_wp2_with (at_builtin; refine wpList_app _ rfl _ _ _ rfl w.heap.size 5 _ byteE _ _ rfl hown _ v _ rfl hsg1 (one_bytes _) ?c1 ?c2 ?_)
  case c1 => rw [Lib.byteCells_length]; simp only [List.length_nil]; omega
  case c2 => first | omega | (simp; done) | (simp; omega)
  intro v3 w3 hown4 hg3 hat3
  go_wp2
  go_ret
  exact ⟨_, rfl, by simpa using hown4, below_app hb0 hown hg3 (by simp)⟩
theorem slice_toD (A : Option Addr) (n c N : Nat) (w : World) (h : N ≤ c) : (Instr.slice 47 (.slice A n c) none (some (.int .i64 (N : Int))) none).run Tryd.prog w = .ok (.slice A N c) w := slice_toB' A n c N w h

set_option maxRecDepth 20000 in
set_option maxHeartbeats 4000000 in
theorem schemeDecodes_walk (mv : Value) (M : List UInt8) (hM1 : M.length ≤ 140737488351232) (w : World) (hM : Seg w w.heap.size mv (byteCells M)) (htb : Tb w) :
    Calls Tryd.prog 13 #[mv] w fun e w' => e = .returned (.bool true) ∧ Below w.heap.size w w' := by
  obtain ⟨Am, cm, rfl, hcm, hmm, -⟩ := hM.open_bytes
  have HM := Lib.hid hM
  have HAL := Lib.hid (alive14_any w htb)
  clear hM htb
  go_enter Tryd.func13, Tryd.ntmps13
  go_wp2_with fail
  refine HAL.out.mono ?_
  rintro e w1 ⟨rfl, hb1⟩
  have HB1 := Lib.hid hb1
  clear hb1 HAL
  by_cases hml : 20000 < M.length
  · have hm1 : (20000 : Int) < (M.length : Int) := by omega
    go_wp2
    go_ret
    exact ⟨rfl, HB1.out⟩
  have hm1 : ¬ ((20000 : Int) < (M.length : Int)) := by omega
  have hsm : ∀ W, Below w.heap.size w W → Seg W W.heap.size (.slice Am M.length cm) (byteCells M) := fun W h => (HM.out.below h).more h.size
  have HSM := Lib.hid hsm
  have HSP := Lib.hid (spare_any copyBytesD_any _ M w1 (hsm w1 HB1.out) (by omega))
  clear hsm
  go_wp2_with fail
  refine HSP.out.mono ?_
  rintro e w2 ⟨u, rfl, ho2, hb2⟩
  have HB2 : Hid (Below w.heap.size w w2) := Lib.hid (HB1.out.trans (hb2.mono HB1.out.size))
  obtain ⟨As, cs, rfl⟩ : ∃ A c, u = .slice A (M.length + 8) c := by
    obtain ⟨A, c, e⟩ := ho2.form
    rw [byteCells_length, List.length_append, tailB_len] at e
    exact ⟨A, c, e⟩
  have hsg2 : Seg w2 w2.heap.size (.slice As (M ++ tailB 8).length cs) (byteCells (M ++ tailB 8)) := by
    have := ho2.seg
    rw [List.length_append, tailB_len]
    exact this
  obtain ⟨hcs, A4, c4, hsl, hfr⟩ := seg_sub hsg2 0 M.length (Nat.zero_le _) (by rw [List.length_append]; omega)
  have e2 : sliced As 0 M.length cs 1 = .slice As M.length cs := by unfold sliced; cases As with
    | none => simp
    | some a => simp [Addr.add]
  rw [e2, Nat.sub_zero] at hsl
  injection hsl with e3 _ e4
  subst e3 e4
  have hfr' : Seg w2 w2.heap.size (.slice As M.length cs) (byteCells M) := by simpa using hfr
  have hrun := fun W => slice_toD As (M.length + 8) cs M.length W hcs
  have HDC := Lib.hid (decode_any M _ w2 hfr')
  have HSG2 : Hid (Seg w2 w2.heap.size (.slice As (M.length + 8) cs) (byteCells (M ++ tailB 8))) := Lib.hid ho2.seg
  obtain ⟨z, hz⟩ : ∃ z : Int, z = if (decX M).isSome = true then 0 else 140 := ⟨_, rfl⟩
  obtain ⟨X, hX⟩ : ∃ X : List Ex, X = (decX M).getD [] := ⟨_, rfl⟩
  have HD1 : Hid (∀ (W : World) (e : Ending) (w' : World), DecPost M W e w' → ∃ v', e = .returned (.tuple #[v', .int .i64 z]) ∧ Below W.heap.size W w' ∧ ExsAt (· < w'.heap.size) w' v' X) := Lib.hid (by
    rintro W e w' ⟨h1, v', h2, h3, h4⟩
    refine ⟨v', by rw [h2, hz], h1, ?_⟩
    rw [hX]
    cases hd : decX M with
    | some xs => exact (h3 xs hd).sub fun g hg => hg.2
    | none => rw [h4 hd]; exact ExsAt.nil _ _ _ _ (by simp [maxLen]))
  have HD2 : Hid (∀ (W : World) (e : Ending) (w' : World), RDec M W e w' → ∃ v', e = .returned (.tuple #[v', .int .i64 z]) ∧ Below W.heap.size W w' ∧ ExsAt (· < w'.heap.size) w' v' X) := Lib.hid (by
    rintro W e w' ⟨h1, v', h2, h3, h4⟩
    refine ⟨v', by rw [h2, hz], h1, ?_⟩
    rw [hX]
    cases hd : decX M with
    | some xs => exact h3 xs hd
    | none => rw [h4 hd]; exact ExsAt.nil _ _ _ _ (by simp [maxLen]))
  clear ho2 hb2 hsg2 hfr hfr' hcs HSP hz hX hm1
  have HDC' := Lib.hid (HDC.out.mono (HD1.out w2))
  clear HDC HD1
  go_wp2_with fail
  refine HDC'.out.mono ?_
  rintro e w3 ⟨v3, rfl, hb3, hx3⟩
  have HB3 : Hid (Below w.heap.size w w3) := Lib.hid (HB2.out.trans (hb3.mono HB2.out.size))
  have HSG3 := Lib.hid ((HSG2.out.below hb3).more hb3.size)
  have HX3 := Lib.hid hx3
  have HRD := Lib.hid ((rdecode_any M (by omega) _ w3 (HSM.out w3 HB3.out)).mono (HD2.out w3))
  clear hb3 hx3 HDC' HD2 hrun
  go_wp2_with fail
  refine HRD.out.mono ?_
  rintro e w4 ⟨v4, rfl, hb4, hx4⟩
  have HB4 : Hid (Below w.heap.size w w4) := Lib.hid (HB3.out.trans (hb4.mono HB3.out.size))
  have HSG4 := Lib.hid ((HSG3.out.below hb4).more hb4.size)
  have hse := sameExports_any X X v3 v4 w4 (HX3.out.blw hb4) hx4
  rw [sameX_true rfl] at hse
  have HSE := Lib.hid hse
  have hzz : (z == z) = true := by simp
  clear hb4 hx4 HRD hse
  go_wp2_with fail
  refine HSE.out.mono ?_
  rintro e w5 ⟨rfl, hb5⟩
  have HB5 : Hid (Below w.heap.size w w5) := Lib.hid (HB4.out.trans (hb5.mono HB4.out.size))
  have HSG5 := Lib.hid ((HSG4.out.below hb5).more hb5.size)
  have HSP2 := Lib.hid (spare_any copyBytesD_any _ M w5 (HSM.out w5 HB5.out) (by omega))
  clear hb5 HSE
  go_wp2_with fail
  refine HSP2.out.mono ?_
  rintro e w6 ⟨u6, rfl, ho6, hb6⟩
  have HB6 : Hid (Below w.heap.size w w6) := Lib.hid (HB5.out.trans (hb6.mono HB5.out.size))
  have hsb := sameBytes_any _ _ (M ++ tailB 8) (M ++ tailB 8) w6.heap.size w6 ((HSG5.out.below hb6).more hb6.size) ho6.seg
  rw [decide_eq_true rfl] at hsb
  have HSB := Lib.hid hsb
  clear hb6 ho6 hsb HSP2
  go_wp2_with fail
  refine HSB.out.mono ?_
  rintro e w7 ⟨rfl, k, rfl⟩
  have HBF := Lib.hid (below_drewN HB6.out k)
  go_wp2
  go_ret
  exact ⟨rfl, HBF.out⟩
end Go.Proofs.YtbhicpjhijondaaDoor
