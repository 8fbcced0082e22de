/- JournalSums, walked. -/
import Derived.Test.YtpdelgjfamelfaaJ17
namespace Go.Proofs.Ytpdelgjfamelfaa
open Go.RowKit Go.Lib Go.Vfs Go.Par Go.Shelf
set_option linter.unusedVariables false
set_option linter.unusedSimpArgs false

/-- rows that a machine can hold. -/
def RowsOk (ls : List (List UInt8)) : Prop := ls.length ≤ 140737488351232 ∧ ∀ l ∈ ls, l.length ≤ 140737488351232
theorem own_empty {w : World} {B : Nat} (hB : B ≤ w.heap.size) : Par.Own (w.alloc (.cells #[] 5)) B 5 (.slice (some ⟨w.heap.size, 0, none⟩) 0 0) [] := by
  refine ⟨rfl, .inr ⟨w.heap.size, 0, #[], rfl, hB, ?_, ?_, ?_, ?_, ?_⟩⟩
  · exact heap_alloc_new w _
  all_goals simp [maxLen]

theorem flat_mem : ∀ {ls : List (List UInt8)} {l : List UInt8}, l ∈ ls → l.length ≤ ls.flatten.length
  | x :: ls, l, h => by
    rw [List.flatten_cons, List.length_append]
    rcases List.mem_cons.1 h with rfl | h
    · omega
    · have := flat_mem h; omega

set_option maxRecDepth 20000 in
set_option maxHeartbeats 2000000 in
theorem journalSums_walk (v : Value) (ls : List (List UInt8)) (hb : RowsOk ls) (W : World) (hsg : RowsAt (· < W.heap.size) W v ls) :
    Calls Try.prog 9 #[v] W fun e W' => e = .returned (.bool true) ∧ Below W.heap.size W W' := by
  obtain ⟨A, c, rfl, hc, hm, HR⟩ := hsg.open_
  have HSG := Lib.hid hsg; have HB := Lib.hid hb
  clear hsg hb
  go_enter Try.func9, Try.ntmps9
  go_wp2_with fail
  refine (jalive_any W).mono ?_
  rintro e w1 ⟨rfl, hb1⟩
  have HB1 := Lib.hid hb1; clear hb1
  have ho0 := Lib.hid (own_empty (w := w1) (B := W.heap.size) HB1.out.size)
  have hb2 := Lib.hid (HB1.out.trans ((box_below w1 (.cells #[] 5)).mono HB1.out.size))
  go_wp2
  go_loopw [3, 4] (fun s i wr => ∃ k : Nat, k ≤ ls.length ∧ i = .int .i64 k ∧ k ≤ 101 ∧ (ls.take k).flatten.length ≤ 20000 ∧ Hid (Par.Own wr W.heap.size 5 s (byteCells (ls.take k).flatten)) ∧ Hid (Below W.heap.size W wr)) (fun _ i _ => ls.length - (intOf i).toNat)
  case atStart => exact ⟨0, by omega, rfl, by omega, by simp, ho0, hb2⟩
  case round =>
    obtain ⟨k, hk, rfl, hk1, hfl, HO, HW⟩ := hrel
    have hown := HO.out
    obtain ⟨As, cs, hf⟩ := hown.form
    rw [byteCells_length] at hf
    subst hf
    have hz := HW.out.size
    by_cases hlt : k < ls.length
    · obtain ⟨b, off, Ak, ck, rfl, hbk, hcell, hseg⟩ := HR.out wr HW.out k hlt
      have HF := Lib.hid (flat_succ ls k hlt)
      have hL : (ls.getD k []).length ≤ 140737488351232 := by
        rw [List.getD_eq_getElem?_getD, List.getElem?_eq_getElem hlt]
        exact HB.out.2 _ (List.getElem_mem hlt)
      generalize (ls.take k).flatten = D at *
      generalize ls.getD k [] = L at *
      by_cases h100 : 100 < k
      · have h100' : (100 : Int) < (k : Int) := by omega
        clear hown hseg
        go_wp2
        go_ret
        exact ⟨rfl, HW.out⟩
      · have h100' : ¬ (100 : Int) < (k : Int) := by omega
        by_cases hbig : 20000 < D.length + L.length
        · have hbig' : (20000 : Int) < (D.length : Int) + (L.length : Int) := by omega
          clear hown hseg
          go_wp2
          go_ret
          exact ⟨rfl, HW.out⟩
        · have hbig' : ¬ (20000 : Int) < (D.length : Int) + (L.length : Int) := by omega
          have hseg' := hseg.more hz
          clear hseg
          go_wp2_with (at_builtin; refine wpList_app _ rfl _ _ _ rfl W.heap.size 5 _ byteE _ _ rfl hown _ _ _ rfl hseg' (one_bytes _) ?c1 ?c2 ?_)
          case c1 => rw [byteCells_length, byteCells_length]; omega
          intro v3 w3 hown4 hg3 hat3
          have HB3 := Lib.hid (below_app HW.out hown hg3 hz)
          rw [← byteCells_append, ← HF.out] at hown4
          have HU3 := Lib.hid hown4
          have hfl2 : (ls.take (k + 1)).flatten.length ≤ 20000 := by rw [HF.out, List.length_append]; omega
          clear hown4 hg3 hat3 hown hseg' hcell HO
          go_wp2
          go_roundw
          case rel => exact ⟨k + 1, by omega, by go_num, by omega, hfl2, HU3, HB3⟩
          case measure => simp [intOf]; omega
    · have hkl : k = ls.length := by omega
      rw [hkl, List.take_length] at hown hfl ⊢
      obtain ⟨NF, hNF⟩ : ∃ NF, NF = ls.flatten.length := ⟨_, rfl⟩
      rw [← hNF] at hown hfl ⊢
      have HNF := Lib.hid hNF
      clear hNF
      have HFL := Lib.hid (And.intro hfl (show ls.length ≤ 101 by omega))
      have HLE : Hid (∀ l ∈ ls, l.length ≤ 20000) := Lib.hid fun l hl => Nat.le_trans (flat_mem hl) (by rw [← HNF.out]; exact HFL.out.1)
      have HO2 := Lib.hid hown
      clear hkl hfl hown HO
      go_wp2_with fail
      refine (copyRows_any _ ls W.heap.size wr (HSG.out.keep fun b hb => ⟨hb, HW.out.block b hb⟩) hz (by have := HFL.out.2; omega) (fun l hl => by have := HLE.out l hl; omega)).mono ?_
      rintro e w4 ⟨u, rfl, hu, hb4⟩
      obtain ⟨vs, hvl, ⟨Au, cu, hfu, hcu⟩, hrs⟩ := hu
      have hu' : RowsAt (fun b => wr.heap.size ≤ b ∧ b < w4.heap.size) w4 u ls := ⟨vs, hvl, ⟨Au, cu, hfu, hcu⟩, hrs⟩
      rw [hvl] at hfu
      have HU := Lib.hid hu'
      have HB4 := Lib.hid hb4
      clear hvl hcu hrs hu' hb4
      subst hfu
      go_wp2_with fail
      have hsum := sum_any _ ls w4 (HU.out.sub fun b hb => hb.2)
      have hrsum := fun (w5 : World) (hs5 : Seg w5 w5.heap.size (.slice As NF cs) (byteCells ls.flatten)) => rsum_any _ ls.flatten w5.heap.size w5 hs5
      have HRS := Lib.hid hrsum
      clear hrsum
      generalize crc ls.flatten = C at *
      refine hsum.mono ?_
      rintro e w5 ⟨rfl, n5, hw5⟩
      have HB5 : Hid (Below w4.heap.size w4 w5) := Lib.hid (by rw [hw5]; exact below_drewN (Below.refl _ _) n5)
      have hs5 := Own.seg ((HO2.out.below HB4.out).below HB5.out)
      have HS5 := Lib.hid hs5
      clear hw5 hs5 hsum
      go_wp2_with fail
      refine (HRS.out w5 HS5.out).mono ?_
      intro e w7 hpost
      obtain ⟨he, hpost2⟩ := hpost
      obtain ⟨n6, hw7⟩ := hpost2
      subst he
      have HB7 : Hid (Below w4.heap.size w4 w7) := Lib.hid (by rw [hw7]; exact below_drewN HB5.out n6)
      have HB6 : Hid (Below W.heap.size W w7) := Lib.hid (HW.out.trans ((HB4.out.trans (HB7.out.mono HB4.out.size)).mono hz))
      have HX : Hid (RowsAt (· < w7.heap.size) w7 (.slice Au ls.length cu) ls) := Lib.hid (HU.out.keep fun b hb => ⟨Nat.lt_of_lt_of_le hb.2 HB7.out.size, HB7.out.block b hb.2⟩)
      have HY : Hid (RowsAt (· < w7.heap.size) w7 (.slice A ls.length c) ls) := Lib.hid (HSG.out.keep fun b hb => ⟨Nat.lt_of_lt_of_le hb HB6.out.size, HB6.out.block b hb⟩)
      clear hw7 HS5
      go_wp2_with fail
      refine (sameRows_any _ _ ls ls w7 HX.out HY.out).mono ?_
      rintro e w8 ⟨he, n8, hw8⟩
      rw [decide_eq_true rfl] at he
      subst he
      have HB8 : Hid (Below W.heap.size W w8) := Lib.hid (by rw [hw8]; exact below_drewN HB6.out n8)
      clear hw8
      go_wp2
      go_ret
      exact ⟨rfl, HB8.out⟩
end Go.Proofs.Ytpdelgjfamelfaa
