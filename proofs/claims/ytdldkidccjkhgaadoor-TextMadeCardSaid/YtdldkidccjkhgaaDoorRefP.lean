import Derived.Test.YtdldkidccjkhgaaDoorRefF
namespace Go.Proofs.YtdldkidccjkhgaaDoor
open Go.RowKit Go.Par
set_option linter.unusedVariables false

theorem fits_split {n : Nat} {l : List UInt8} (h : fits n l = true) : isR (cand n l) = true ∧ l = Lib.encodeRune (cand n l) ++ l.drop n := by
  simp only [fits, Bool.and_eq_true, beq_iff_eq] at h
  refine ⟨h.1, ?_⟩
  conv => lhs; rw [← List.take_append_drop n l]
  rw [h.2]

theorem fits_unique {n : Nat} {r : Int} {t : List UInt8} (hr : isR r = true) (h : fits n (Lib.encodeRune r ++ t) = true) : cand n (Lib.encodeRune r ++ t) = r := by
  obtain ⟨h1, h2⟩ := fits_split h
  exact (enc_cancel hr h1 h2).1.symm

theorem fits_len {n : Nat} {r : Int} {t : List UInt8} (hr : isR r = true) (hn : n ≤ (Lib.encodeRune r ++ t).length) (h : fits n (Lib.encodeRune r ++ t) = true) : n = (Lib.encodeRune r).length := by
  have h1 := fits_unique hr h
  simp only [fits, Bool.and_eq_true, beq_iff_eq] at h
  rw [h1] at h
  have := congrArg List.length h.2
  rw [List.length_take] at this
  omega

theorem fits_of {r : Int} (t : List UInt8) (hr : isR r = true) : fits (Lib.encodeRune r).length (Lib.encodeRune r ++ t) = true := by
  have hc : cand (Lib.encodeRune r).length (Lib.encodeRune r ++ t) = r := by
    have h := isR_iff.1 hr
    unfold cand
    rw [enc_len_of hr]
    unfold Lib.encodeRune
    by_cases h1 : r ≤ 127
    · rw [if_pos h1, Lib.encodeRuneZ_one h.1 h1]
      simp only [List.map_cons, List.map_nil, List.cons_append, List.nil_append, List.getD_cons_zero, if_true]
      rw [u8_of r (by omega) (by omega)]; omega
    · rw [if_neg h1]
      by_cases h2 : r ≤ 2047
      · rw [if_pos h2, Lib.encodeRuneZ_two (by omega) h2]
        simp only [List.map_cons, List.map_nil, List.cons_append, List.nil_append, List.getD_cons_zero, List.getD_cons_succ]
        rw [u8_of _ (by omega) (by omega), u8_of _ (by omega) (by omega), if_neg (by omega), if_pos trivial]; omega
      · rw [if_neg h2]
        by_cases h3 : r ≤ 65535
        · rw [if_pos h3, Lib.encodeRuneZ_three (by omega)]
          simp only [List.map_cons, List.map_nil, List.cons_append, List.nil_append, List.getD_cons_zero, List.getD_cons_succ]
          rw [u8_of _ (by omega) (by omega), u8_of _ (by omega) (by omega), u8_of _ (by omega) (by omega), if_neg (by omega), if_neg (by omega), if_pos trivial]; omega
        · rw [if_neg h3, Lib.encodeRuneZ_four (by omega) (by omega)]
          simp only [List.map_cons, List.map_nil, List.cons_append, List.nil_append, List.getD_cons_zero, List.getD_cons_succ]
          rw [u8_of _ (by omega) (by omega), u8_of _ (by omega) (by omega), u8_of _ (by omega) (by omega), u8_of _ (by omega) (by omega), if_neg (by omega), if_neg (by omega), if_neg (by omega)]; omega
  simp [fits, hc, hr]

theorem first_ok {w w' : World} {e : Ending} {r : Int} {t : List UInt8} (hr : isR r = true) (h : FirstPost w (Lib.encodeRune r ++ t) e w') :
    e = .returned (.tuple #[.int .i64 r, .int .i64 (Lib.encodeRune r).length]) ∧ Below w.heap.size w w' := by
  have hp := enc_pos r
  have h4 := enc_le r
  rcases h with ⟨hb, ⟨n, n1, n4, nl, hf, _, rfl⟩ | ⟨hno, _⟩⟩
  · rw [fits_unique hr hf, ← fits_len hr nl hf]; exact ⟨rfl, hb⟩
  · have := hno _ hp (by omega) h4 (by simp)
    rw [fits_of t hr] at this; cases this

theorem first_bad {w w' : World} {e : Ending} {l : List UInt8} (hbad : Bad l) (h : FirstPost w l e w') :
    e = .returned (.tuple #[.int .i64 0, .int .i64 0]) ∧ Below w.heap.size w w' := by
  rcases h with ⟨hb, ⟨n, n1, n4, nl, hf, _, rfl⟩ | ⟨hno, rfl⟩⟩
  · obtain ⟨h1, h2⟩ := fits_split hf
    rw [h2] at hbad
    exact absurd hbad (not_bad_enc _ _ h1)
  · exact ⟨rfl, hb⟩
end Go.Proofs.YtdldkidccjkhgaaDoor
