/- The walk of FrameRound. -/
import Derived.Test.YtffblcefnckacaaDoorLawR
namespace Go.Proofs.YtffblcefnckacaaDoor
open Go.RowKit Go.Lib Go.Vfs Go.Par Go.Frm Go.Shelf
set_option linter.unusedVariables false
set_option linter.unusedSimpArgs false

/-- k bodies are encoded in b. -/
structure RN (w : World) (ls : List (List UInt8)) (k : Nat) (A : Option Addr) (N c La : Nat) (wr : World) : Prop where
  own : Par.Own wr w.heap.size 5 (.slice A N c) (byteCells (flatE (ls.take k)))
  len : N = (flatE (ls.take k)).length
  last : La = (flatE (ls.take (k - 1))).length
  low : ∀ i, i < k → (ls.getD i []).length ≤ 65536
  below : Below w.heap.size w wr

set_option maxRecDepth 100000 in
set_option maxHeartbeats 2000000 in
theorem frameRound_walk (v0 : Value) (ls : List (List UInt8)) (b0 : ls.length ≤ 140737488351232 ∧ ∀ l ∈ ls, l.length ≤ 140737488351232) (a1 : Int) (b1 : -9223372036854775808 ≤ a1 ∧ a1 ≤ 9223372036854775807) (w : World) (m : Int) (g0 : RowsAt (· < w.heap.size) w v0 ls) (hG : Gl w m) :
    Calls Tryd.prog 6 #[v0, .int .i64 a1] w fun e w' => e = .returned (.bool true) ∧ Below w.heap.size w w' := by
  obtain ⟨A0, c0, rfl, hc0, hm0, HR0⟩ := g0.open_
  have HAL := Lib.hid (alive_s w m hG)
  have G0 := Lib.hid g0; have HG := Lib.hid hG
  have HGR : Hid (∀ wa, Below w.heap.size w wa → Calls Tryd.prog 20 #[.slice A0 ls.length c0] wa fun e w' => ∃ o, e = .returned (.bool o) ∧ w' = wa ∧ (o = false → totL ls ≤ 200000 ∧ ls.length ≤ 200)) := Lib.hid fun wa hb =>
    great_any _ ls wa (g0.keep fun b hbk => ⟨Nat.lt_of_lt_of_le hbk hb.size, hb.block b hbk⟩) b0.2
  clear g0 hG b0
  go_enter Tryd.func6, Tryd.ntmps6
  go_wp2_with (go_at_call 10; refine HAL.out.mono ?_; rintro e wa ⟨rfl, HBA⟩)
  refine (HGR.out wa HBA.out).mono ?_
  rintro e w2 ⟨o, rfl, rfl, ho⟩
  cases o
  case true =>
    go_wp2
    go_ret
    exact ⟨rfl, HBA.out⟩
  obtain ⟨hT, hlen⟩ := ho rfl
  have HP : Hid (∀ k, k < ls.length → (ls.getD k []).length ≤ 200000) := Lib.hid fun k hk => by
    have h1 := totL_mem (l := ls.getD k []) (ls := ls) (by rw [List.getD_eq_getElem?_getD, List.getElem?_eq_getElem hk]; exact List.getElem_mem hk)
    omega
  have HFL : Hid (∀ k, k ≤ ls.length → (flatE (ls.take k)).length ≤ 300000) := Lib.hid fun k hk => by
    have h1 := flatE_len ls (fun k hk => by have := HP.out k hk; omega) k hk
    have h2 := totL_take ls k
    omega
  have hR0 : RN w ls 0 (some ⟨w2.heap.size, 0, none⟩) 0 0 0 (w2.alloc (.cells #[] 5)) :=
    ⟨Par.Own.new w2 _ 5 #[] [] rfl HBA.out.size (by simp), rfl, rfl, fun i hi => by omega, HBA.out.alloc HBA.out.size _⟩
  have HN0 := Lib.hid hR0
  clear hR0 hT ho
  go_wp2
  go_loopw [5, 6, 7, 8, 9] (fun bv lv iv _ _ wr => ∃ (k : Nat) (A : Option Addr) (N c La : Nat), k ≤ ls.length ∧ iv = .int .i64 k ∧ bv = .slice A N c ∧ lv = .int .i64 La ∧ N ≤ 300000 ∧ Hid (RN w ls k A N c La wr)) (fun _ _ iv _ _ _ => ls.length - (intOf iv).toNat)
  case atStart => exact ⟨0, _, 0, 0, 0, by omega, rfl, rfl, rfl, by omega, HN0⟩
  case round =>
    obtain ⟨k, A, N, c, La, hk, rfl, rfl, rfl, hN, HI⟩ := hrel
    by_cases hlt : k < ls.length
    · obtain ⟨b, off, Ak, ck, rfl, hb2, hcell, hsg⟩ := HR0.out wr HI.out.below k hlt
      have hPl := HP.out k hlt
      obtain ⟨P, hP⟩ : ∃ P, P = ls.getD k [] := ⟨_, rfl⟩
      rw [← hP] at hcell hsg hPl
      have hcp := copy_s _ P wr (hsg.more HI.out.below.size) (by omega)
      have HCP := Lib.hid hcp; have HPP := Lib.hid hP
      clear hcp hP hsg
      go_wp2_with fail
      refine HCP.out.mono ?_
      rintro e wc ⟨A2, c2, rfl, HC⟩
      have hbc := HI.out.below.trans (HC.out.2.mono HI.out.below.size)
      have hcellc : wc.cell? ⟨b, off + k, none⟩ = some (.slice Ak P.length ck) := (World.cell?_of_block (a := ⟨b, off + k, none⟩) (HC.out.2.block b (by have := HI.out.below.size; omega))).trans hcell
      by_cases h6 : 65536 < P.length
      · have HE := Lib.hid (encode_bad A2 c2 P wc h6)
        have HBC := Lib.hid hbc
        have g6 : (65536 : Int) < (P.length : Int) := by omega
        clear hbc hcell h6
        go_wp2_with (go_at_call 12; refine HE.out.mono ?_; rintro e w3 ⟨rfl, rfl⟩)
        go_ret
        exact ⟨rfl, HBC.out⟩
      · obtain ⟨NE, hNE⟩ : ∃ NE, NE = (enc P).length := ⟨_, rfl⟩
        have hen := encode_s _ P wc m HC.out.1.seg (by omega) (HG.out.below hbc)
        rw [← hNE] at hen
        have HEN := Lib.hid hen; have HNE := Lib.hid hNE
        have hsum : N + NE ≤ 300000 := by
          have h1 := HFL.out (k + 1) hlt
          rw [flatE_succ ls k hlt, List.length_append, ← HI.out.len, ← HPP.out, ← hNE] at h1
          exact h1
        clear hen hNE hcell hcellc
        go_wp2_with fail
        refine HEN.out.mono ?_
        rintro e we ⟨A3, c3, rfl, HE⟩
        have hownE : Par.Own we w.heap.size 5 (.slice A N c) (byteCells (flatE (ls.take k))) := (HI.out.own.below HC.out.2).below (HE.out.2.mono (Nat.le_refl _))
        have hsgE : Seg we we.heap.size (.slice A3 NE c3) (byteCells (enc P)) := HE.out.1.seg fun k hk => hk.2
        have hbE := hbc.trans (HE.out.2.mono hbc.size)
        have HOW := Lib.hid hownE; have HSE := Lib.hid hsgE; have HBE := Lib.hid hbE
        clear hownE hsgE hbE hbc HEN HCP
        go_wp2_with (at_builtin; refine wpList_app _ rfl _ _ _ rfl w.heap.size 5 _ byteE _ _ rfl HOW.out we.heap.size _ _ rfl HSE.out (one_bytes _) ?k1 ?k2 ?_)
        case k1 => rw [byteCells_length, byteCells_length, ← HI.out.len, ← HNE.out]; omega
        case k2 => have := HBE.out.size; omega
        intro v5 w5 hown5 hg5 hat5
        obtain ⟨A5, c5, hv5⟩ := hown5.form
        rw [List.length_append, byteCells_length, byteCells_length, ← HI.out.len, ← HNE.out] at hv5
        have hN5 : RN w ls (k + 1) A5 (N + NE) c5 N w5 := by
          rw [hv5] at hown5
          refine ⟨by rw [flatE_succ ls k hlt, byteCells_append, ← HPP.out]; exact hown5, by rw [flatE_succ ls k hlt, List.length_append, ← HI.out.len, ← HPP.out, ← HNE.out], by rw [Nat.add_sub_cancel]; exact HI.out.len, fun i hi => ?_, ?_⟩
          · by_cases hik : i < k
            · exact HI.out.low i hik
            · have : i = k := by omega
              subst this
              rw [← HPP.out]; omega
          · exact HBE.out.grown hg5 (by have := HBE.out.size; omega) (fun g e => (HOW.out.lt g e).1)
        have HN5 := Lib.hid hN5
        subst hv5
        clear hown5 hg5 hat5 hN5
        go_wp2
        go_roundw
        case rel => exact ⟨k + 1, _, _, _, _, by omega, by go_num, rfl, rfl, hsum, HN5⟩
        case measure => simp [intOf]; omega
    · have hkl : k = ls.length := by omega
      have htk : ls.take k = ls := by rw [hkl, List.take_length]
      have hown := HI.out.own
      have hlenN := HI.out.len
      have hlast := HI.out.last
      rw [htk] at hown hlenN
      rw [hkl] at hlast
      have hbr := HI.out.below
      have hlow : ∀ l ∈ ls, l.length ≤ 65536 := fun l hl => by
        obtain ⟨i, hi, rfl⟩ := List.mem_iff_getElem.1 hl
        have h1 := HI.out.low i (by omega)
        rwa [List.getD_eq_getElem?_getD, List.getElem?_eq_getElem hi] at h1
      have hba := hbr.alloc hbr.size (.cells #[.slice A N c] 22)
      have hflat : [flatE ls].flatten = flatE ls := by simp
      have hall := all_any _ [flatE ls] (wr.alloc (.cells #[.slice A N c] 22)) m (rows_one wr _ (flatE ls) hown.seg) (fun l hl => by
        rw [List.mem_singleton] at hl; subst hl; omega) (by rw [hflat]; omega) (HG.out.below hba)
      have hre : run (flatE ls) = (ls, [], 0) := run_encs ls hlow
      rw [hflat, hre] at hall
      dsimp only [List.length_nil] at hall
      have hLaN : La ≤ N := by
        have h1 : (flatE (ls.take (ls.length - 1))).length ≤ (flatE ls).length := by
          unfold flatE
          conv => rhs; rw [← List.take_append_drop (ls.length - 1) ls, List.map_append, List.flatten_append, List.length_append]
          omega
        omega
      have HALL := Lib.hid hall; have HOW := Lib.hid hown; have HLN := Lib.hid hlenN; have HLA := Lib.hid hlast; have HBR := Lib.hid hbr; have HLOW := Lib.hid hlow
      have HBA2 := Lib.hid hba
      clear hall hown hlenN hlast hbr hlow hba hflat hre htk hkl HI HN0
      go_wp2_with fail
      refine HALL.out.mono ?_
      rintro e w3 ⟨Ax, cx, rfl, HX⟩
      have hb3 := HBA2.out.trans (HX.out.2.mono HBA2.out.size)
      have hsr := sameRows_any _ _ _ _ w3 (HX.out.1.sub fun k hk => hk.2) (G0.out.keep fun b hbk => ⟨Nat.lt_of_lt_of_le hbk hb3.size, hb3.block b hbk⟩)
      rw [decide_eq_true rfl] at hsr
      have HSR := Lib.hid hsr; have HB3 := Lib.hid hb3
      clear hsr hb3 HALL
      by_cases hc1 : a1 ≤ 0
      · go_wp2_with (go_at_call 18; refine HSR.out.mono ?_; rintro e w4 ⟨rfl, q, rfl⟩)
        go_ret
        exact ⟨rfl, below_drewN HB3.out q⟩
      by_cases hc2 : (N : Int) - (La : Int) < a1
      · go_wp2_with (go_at_call 18; refine HSR.out.mono ?_; rintro e w4 ⟨rfl, q, rfl⟩)
        go_ret
        exact ⟨rfl, below_drewN HB3.out q⟩
      obtain ⟨d, rfl⟩ : ∃ d : Nat, a1 = d := ⟨a1.toNat, by omega⟩
      have hdN : d ≤ N - La := by omega
      have hd0 : 0 < d := by omega
      have hn1 : 0 < ls.length := by
        apply Nat.pos_of_ne_zero
        intro h0
        have h1 := HLN.out
        rw [List.length_eq_zero_iff.1 h0] at h1
        have h2 : (flatE []).length = 0 := rfl
        omega
      obtain ⟨ND, hND⟩ : ∃ ND, ND = N - d := ⟨_, rfl⟩
      obtain ⟨LR, hLR⟩ : ∃ LR, LR = ls.length - 1 := ⟨_, rfl⟩
      obtain ⟨RL, hRL⟩ : ∃ RL, RL = N - La - d := ⟨_, rfl⟩
      have hNc : N ≤ c := by
        obtain ⟨A', c', e', h'⟩ := HOW.out.seg
        injection e' with _ _ e'
        rw [byteCells_length, ← HLN.out] at h'
        omega
      have hslb := fun X => slice_to A N c ND X (by omega)
      have hslr := fun X => slice_rows A0 ls.length c0 LR X (by omega)
      have e1 : (ND : Int) = (N : Int) - (d : Int) := by omega
      have e2 : (LR : Int) = (ls.length : Int) - 1 := by omega
      rw [e1] at hslb
      rw [e2] at hslr
      have geq : ((RL : Int) == (N : Int) - (La : Int) - (d : Int)) = true := by simp; omega
      have hlastE : flatE ls = flatE (ls.take LR) ++ enc (ls.getD LR []) := by
        have h1 := flatE_succ ls LR (by omega)
        rw [List.take_of_length_le (by omega)] at h1
        exact h1
      have hLAe : La = (flatE (ls.take LR)).length := by rw [hLR]; exact HLA.out
      have hNe : N = La + (enc (ls.getD LR [])).length := by rw [HLN.out, hlastE, List.length_append, ← hLAe]
      have htake : (flatE ls).take ND = flatE (ls.take LR) ++ (enc (ls.getD LR [])).take RL := by
        rw [hlastE, List.take_append, List.take_of_length_le (by omega), ← hLAe]
        congr 2
        omega
      have hre2 : run ((flatE ls).take ND) = (ls.take LR, (enc (ls.getD LR [])).take RL, 0) := by
        rw [htake]
        exact run_encs_cut (fun l hl => HLOW.out l (List.mem_of_mem_take hl)) (by
          rw [List.getD_eq_getElem?_getD, List.getElem?_eq_getElem (show LR < ls.length by omega)]; exact HLOW.out _ (List.getElem_mem _)) (by omega)
      have hRLl : ((enc (ls.getD LR [])).take RL).length = RL := by rw [List.length_take]; omega
      have hLRl : (ls.take LR).length = LR := by rw [List.length_take]; omega
      have hALL2 : Hid (∀ W, Below wr.heap.size wr W → Calls Tryd.prog 19 #[.slice (some ⟨W.heap.size, 0, none⟩) 1 1] (W.alloc (.cells #[.slice A ND c] 22)) fun e w' => ∃ A' c', e = .returned (.tuple #[.slice A' LR c', .int .i64 0, .int .i64 (RL : Nat)]) ∧ Hid (RowsAt (fun k => W.heap.size ≤ k ∧ k < w'.heap.size) w' (.slice A' LR c') (ls.take LR) ∧ Below W.heap.size W w')) := Lib.hid (by
        intro W hW
        have hsg := (seg_front ((HOW.out.seg.below hW).more hW.size).toS HLN.out ND (by omega)).2
        have hba := (Below.refl W.heap.size W).alloc (Nat.le_refl _) (.cells #[.slice A ND c] 22)
        have hbw : Below w.heap.size w W := HBR.out.trans (hW.mono HBR.out.size)
        have hflat : [(flatE ls).take ND].flatten = (flatE ls).take ND := by simp
        have hlt : ((flatE ls).take ND).length ≤ 300000 := by rw [List.length_take]; have := HLN.out; omega
        have hall := all_any _ [(flatE ls).take ND] (W.alloc (.cells #[.slice A ND c] 22)) m (rows_one W _ ((flatE ls).take ND) (hsg.seg fun _ h => h)) (fun l hl => by
          rw [List.mem_singleton] at hl; subst hl; omega) (by rw [hflat]; omega) (HG.out.below (hbw.trans (hba.mono hbw.size)))
        rw [hflat, hre2] at hall
        dsimp only at hall
        rw [hRLl, hLRl] at hall
        refine hall.mono ?_
        rintro e w' ⟨A', c', rfl, H⟩
        refine ⟨A', c', rfl, Lib.hid ⟨H.out.1.sub fun k hk => ⟨by have := hba.size; omega, hk.2⟩, hba.trans (H.out.2.mono hba.size)⟩⟩)
      have HGF := Lib.hid (rows_front G0.out LR (by omega))
      clear hND hLR hRL e1 e2 hlastE hLAe hNe htake hre2 hRLl hLRl
      go_wp2_with (go_at_call 18; refine HSR.out.mono ?_; rintro e w4 ⟨rfl, q, rfl⟩)
      have hbw4 : Below wr.heap.size wr (w3.drewN q) := below_drewN (((Below.refl _ _).alloc (Nat.le_refl _) _).trans (HX.out.2.mono (by simp))) q
      refine (hALL2.out _ hbw4).mono ?_
      rintro e w5 ⟨Ay, cy, rfl, HY⟩
      have hb5 : Below w.heap.size w w5 := (HBR.out.trans (hbw4.mono HBR.out.size)).trans (HY.out.2.mono (HBR.out.trans (hbw4.mono HBR.out.size)).size)
      have hsr := sameRows_any _ _ _ _ w5 (HY.out.1.sub fun k hk => hk.2) (HGF.out.keep fun b hbk => ⟨Nat.lt_of_lt_of_le hbk hb5.size, hb5.block b hbk⟩)
      rw [decide_eq_true rfl] at hsr
      have HSR2 := Lib.hid hsr; have HB5 := Lib.hid hb5
      clear hsr hb5 hbw4 HSR hALL2
      go_wp2_with (go_at_call 18; refine HSR2.out.mono ?_; rintro e w6 ⟨rfl, q2, rfl⟩)
      go_ret
      exact ⟨rfl, below_drewN HB5.out q2⟩
end Go.Proofs.YtffblcefnckacaaDoor
