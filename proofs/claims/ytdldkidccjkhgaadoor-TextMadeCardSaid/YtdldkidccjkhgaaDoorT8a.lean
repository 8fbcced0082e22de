import Derived.Test.YtdldkidccjkhgaaDoorT8
import Derived.Test.YtdldkidccjkhgaaDoorTextFrontWalk
namespace Go.Proofs.YtdldkidccjkhgaaDoor
open Go.RowKit Go.Par
set_option linter.unusedVariables false

theorem strE : Elem Tryd.prog 60 9 (.string ⟨#[]⟩) := elem_of (b := 16) Tryd.underlying60 (by kernel_rfl) (by decide) rfl
def strs (ls : List (List UInt8)) : List Value := ls.map fun l => .string ⟨l.toArray⟩
theorem strs_length (ls : List (List UInt8)) : (strs ls).length = ls.length := by simp [strs]
theorem strs_append (a b : List (List UInt8)) : strs (a ++ b) = strs a ++ strs b := by simp [strs]
theorem one_strs (ls : List (List UInt8)) : ∀ x ∈ strs ls, x.oneCell' = true := by
  intro x hx
  obtain ⟨z, _, rfl⟩ := List.mem_map.1 hx
  rfl
theorem extract_eq (s : ByteArray) (a b : Nat) : s.extract a b = ⟨((s.data.toList.drop a).take (b - a)).toArray⟩ := (str_eq _ _ (Lib.extract_data s a b)).symm

theorem spl_length_le : ∀ (l c : List UInt8), (spl c l).length ≤ l.length + 1
  | [], c => by simp [spl]
  | b :: l, c => by
    unfold spl
    split
    · have := spl_length_le l []; simp; omega
    · have := spl_length_le l (c ++ [b]); simp; omega

set_option maxRecDepth 20000 in
set_option maxHeartbeats 1000000 in
theorem split_any (s : ByteArray) (w : World) (hl : s.size ≤ 1000000) :
    Calls Tryd.prog 48 #[.string s] w fun e w' => ∃ v, e = .returned v ∧ Par.Own w' w.heap.size 9 v (strs (spl [] s.data.toList)) ∧ Below w.heap.size w w' := by
  obtain ⟨L, hL⟩ : ∃ L, L = s.data.toList := ⟨_, rfl⟩
  have hsz : L.length = s.size := by rw [hL]; exact (Lib.size_eq s).symm
  have HSZ := Lib.hid hsz; clear hsz
  rw [← hL]
  have HL := Lib.hid hL; clear hL
  go_enter Tryd.func48, Tryd.ntmps48
  go_wp2
  go_loopw [3, 4, 5] (fun v fv i wr => ∃ (k f : Nat) (done : List (List UInt8)), k ≤ s.size ∧ i = .int .i64 k ∧ fv = .int .i64 f ∧ f ≤ k ∧ done.length ≤ k ∧ Par.Own wr w.heap.size 9 v (strs done) ∧ Hid (spl [] L = done ++ spl ((L.drop f).take (k - f)) (L.drop k)) ∧ Below w.heap.size w wr) (fun _ _ i _ => s.size - (intOf i).toNat)
  case atStart => exact ⟨0, 0, [], by omega, rfl, rfl, by omega, by simp, Par.Own.new w w.heap.size 9 #[] [] rfl (Nat.le_refl _) (by simp), Lib.hid rfl, (Below.refl _ _).alloc (Nat.le_refl _) _⟩
  case round =>
    obtain ⟨k, f, done, hk, rfl, rfl, hfk, hdl, hown, HI, hbw⟩ := hrel
    have hz := hbw.size
    by_cases hlt : k < s.size
    · have hg : s[k] = L.getD k 0 := by
        have hk' : k < s.data.size := hlt
        rw [HL.out]
        simp only [List.getD_eq_getElem?_getD, Array.getElem?_toList, Array.getElem?_eq_getElem hk']
        rfl
      have hdk : L.drop k = L.getD k 0 :: L.drop (k + 1) := by
        have hk' : k < L.length := by rw [HSZ.out]; exact hlt
        rw [List.drop_eq_getElem_cons hk', List.getD_eq_getElem?_getD, List.getElem?_eq_getElem hk']; rfl
      have hI := HI.out
      rw [hdk] at hI
      clear HI
      by_cases h10 : L.getD k 0 = 10
      · have hq : ((s[k].toNat : Int) == 10) = true := by rw [hg, h10]; rfl
        have hI2 : spl [] L = (done ++ [(L.drop f).take (k - f)]) ++ spl ((L.drop (k + 1)).take (k + 1 - (k + 1))) (L.drop (k + 1)) := by
          rw [hI, h10]
          conv => lhs; arg 2; unfold spl
          simp
        have HI2 := Lib.hid hI2; clear hI2 hI hdk h10 hg
        have hown2 := hown.alloc (.cells #[.string (s.extract f k)] 9)
        have hsg := Seg.new wr 9 #[.string (s.extract f k)] (strs [(L.drop f).take (k - f)]) (by rw [extract_eq, HL.out]; rfl) (by simp [strs, maxLen])
        go_wp2_with (at_builtin; refine wpList_app _ rfl _ _ _ rfl w.heap.size 9 _ strE _ _ rfl hown2 _ _ _ rfl hsg (one_strs _) ?c1 ?c2 ?_)
        case c1 => rw [strs_length, strs_length]; simp; omega
        case c2 => first | omega | (simp; omega)
        intro v3 w3 hown4 hg3 hat3
        have hb3 : Below w.heap.size w w3 := below_app (hbw.alloc hz _) hown2 hg3 (by simp; omega)
        rw [← strs_append] at hown4
        go_wp2
        go_roundw
        case rel => exact ⟨k + 1, k + 1, _, by omega, by go_num, by go_num, by omega, by simp; omega, hown4, HI2, hb3⟩
        case measure => simp [intOf]; omega
      · have hq : ((s[k].toNat : Int) == 10) = false := by
          rw [hg]
          refine beq_eq_false_iff_ne.2 fun e => h10 ?_
          apply UInt8.toNat.inj; have : (10 : UInt8).toNat = 10 := rfl; omega
        have hI2 : spl [] L = done ++ spl ((L.drop f).take (k + 1 - f)) (L.drop (k + 1)) := by
          rw [hI]
          conv => lhs; arg 2; unfold spl
          rw [if_neg h10, show k + 1 - f = (k - f) + 1 by omega, take_snoc (L.drop f) (k - f) (L.getD k 0)]
          have hk' : k < L.length := by rw [HSZ.out]; exact hlt
          rw [List.getElem?_drop, show f + (k - f) = k by omega, List.getD_eq_getElem?_getD, List.getElem?_eq_getElem hk']; rfl
        have HI2 := Lib.hid hI2; clear hI2 hI hdk h10 hg
        go_wp2
        go_roundw
        case rel => exact ⟨k + 1, f, done, by omega, by go_num, rfl, by omega, by omega, hown, HI2, hbw⟩
        case measure => simp [intOf]; omega
    · have hkl : k = s.size := by omega
      have hI2 : spl [] L = done ++ [(L.drop f).take (s.size - f)] := by
        rw [HI.out, hkl, ← HSZ.out, List.drop_length]; rfl
      have HI2 := Lib.hid hI2; clear hI2 HI
      have hfs : f ≤ s.size := by omega
      have hown2 := hown.alloc (.cells #[.string (s.extract f s.size)] 9)
      have hsg := Seg.new wr 9 #[.string (s.extract f s.size)] (strs [(L.drop f).take (s.size - f)]) (by rw [extract_eq, HL.out]; rfl) (by simp [strs, maxLen])
      go_wp2_with (at_builtin; refine wpList_app _ rfl _ _ _ rfl w.heap.size 9 _ strE _ _ rfl hown2 _ _ _ rfl hsg (one_strs _) ?c1 ?c2 ?_)
      case c1 => rw [strs_length, strs_length]; simp; omega
      case c2 => first | omega | (simp; omega)
      intro v3 w3 hown4 hg3 hat3
      have hb3 : Below w.heap.size w w3 := below_app (hbw.alloc hz _) hown2 hg3 (by simp; omega)
      rw [← strs_append, ← HI2.out] at hown4
      go_wp2
      go_ret
      exact ⟨_, rfl, hown4, hb3⟩
end Go.Proofs.YtdldkidccjkhgaaDoor
