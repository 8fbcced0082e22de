/- Which words are names. -/
import Derived.Test.YtbhicpjhijondaaDoorT5
namespace Go.Typ
/-- the bytes of a name: a small letter or '_' first, and no word of the language. -/
def nameOk : List UInt8 → Bool
  | [] => false
  | c :: cs => (smallN c.toNat || decide (c.toNat = 95)) && (c :: cs).all (fun b => nmN true b.toNat) && !((c :: cs) ∈ keyWords : Bool)
end Go.Typ
namespace Go.Proofs.YtbhicpjhijondaaDoor
open Go.RowKit Go.Lib Go.Vfs Go.Par Go.Typ
set_option linter.unusedVariables false
set_option linter.unusedSimpArgs false

set_option maxRecDepth 20000 in
set_option maxHeartbeats 1000000 in
theorem sign_any (s : ByteArray) (w : World) (h0 : 0 < s.size) (hs : s.size ≤ 9223372036854775807) :
    Calls Tryd.prog 107 #[.string s, .int .i64 0] w fun e w' => ∃ z, e = .returned (.int .i64 z) ∧ w' = w := by
  by_cases h2 : 1 < s.size
  · go_enter Tryd.func107, Tryd.ntmps107
    go_wp2
    all_goals (go_ret; exact ⟨_, rfl, rfl⟩)
  · go_enter Tryd.func107, Tryd.ntmps107
    go_wp2
    all_goals (go_ret; exact ⟨_, rfl, rfl⟩)
theorem nameOk_get {s : ByteArray} (h0 : 0 < s.size) : nameOk s.data.toList = ((smallN (byteS s 0) || decide (byteS s 0 = 95)) && s.data.toList.all (fun b => nmN true b.toNat) && !(s.data.toList ∈ keyWords : Bool)) := by
  unfold byteS
  have hl : 0 < s.data.toList.length := by rw [Array.length_toList]; exact h0
  cases hs : s.data.toList with
  | nil => rw [hs] at hl; simp at hl
  | cons c cs => rfl
theorem all_byteS {s : ByteArray} {p : Nat → Bool} : s.data.toList.all (fun b => p b.toNat) = true ↔ ∀ j, j < s.size → p (byteS s j) = true := by
  have hl : s.data.toList.length = s.size := by rw [Array.length_toList]; rfl
  rw [List.all_eq_true]
  constructor
  · intro h j hj
    have : s.data.toList.getD j 0 ∈ s.data.toList := by
      rw [List.getD_eq_getElem?_getD, List.getElem?_eq_getElem (by omega)]
      exact List.getElem_mem _
    exact h _ this
  · intro h x hx
    obtain ⟨j, hj, rfl⟩ := List.getElem_of_mem hx
    have := h j (by omega)
    unfold byteS at this
    rwa [List.getD_eq_getElem?_getD, List.getElem?_eq_getElem hj] at this
theorem extract_all (s : ByteArray) : s.extract 0 s.size = s := by
  apply ByteArray.ext
  rw [ByteArray.data_extract]
  show s.data.extract 0 s.data.size = s.data
  exact Array.extract_size
/-- what the word's kind tells. -/
theorem name_word {s : ByteArray} (h0 : 0 < s.size) (hf : smallN (byteS s 0) = true ∨ byteS s 0 = 95) {n : Nat} (hn : n ≤ s.size) (hj : ∀ j, j < n → nmN true (byteS s j) = true) (he : n < s.size → nmN true (byteS s n) = false)
    {z : Int} (hz : z = 1 ↔ (s.extract 0 n).data.toList ∉ keyWords) : (z = 1 → (n : Int) = s.size → nameOk s.data.toList = true) ∧ (nameOk s.data.toList = true → z = 1 ∧ (n : Int) = s.size) := by
  rw [nameOk_get h0]
  constructor
  · intro h1 h2
    have h2' : n = s.size := by omega
    subst h2'
    rw [extract_all] at hz
    have hk := hz.1 h1
    have ha := (all_byteS (p := nmN true)).2 hj
    rw [ha]
    rcases hf with h | h <;> simp [h, hk]
  · intro h
    simp only [Bool.and_eq_true, Bool.not_eq_true', decide_eq_false_iff_not] at h
    have ha := (all_byteS (p := nmN true)).1 h.1.2
    have hns : n = s.size := by
      by_cases hlt : n < s.size
      · rw [ha n hlt] at he
        cases he hlt
      · omega
    subst hns
    rw [extract_all] at hz
    exact ⟨hz.2 h.2, rfl⟩
theorem name_not {s : ByteArray} (h0 : 0 < s.size) (hf : ¬ (smallN (byteS s 0) = true ∨ byteS s 0 = 95)) : nameOk s.data.toList = false := by
  rw [nameOk_get h0]
  simp only [not_or] at hf
  simp [hf.1, hf.2]
set_option maxRecDepth 20000 in
set_option maxHeartbeats 2000000 in
theorem token_any (s : ByteArray) (w : World) (h0 : 0 < s.size) (hs : s.size ≤ 9223372036854775807) :
    Calls Tryd.prog 95 #[.string s, .int .i64 0] w fun e w' => ∃ z n : Int, e = .returned (.tuple #[.int .i64 z, .int .i64 n]) ∧ (z = 1 → n = s.size → nameOk s.data.toList = true) ∧ (nameOk s.data.toList = true → z = 1 ∧ n = s.size) ∧ w' = w := by
  obtain ⟨x, hx⟩ : ∃ x, s[0].toNat = x := ⟨_, rfl⟩
  have HX : Hid (byteS s 0 = x) := Lib.hid (by rw [← hx]; exact (byteS_get s 0 h0).symm)
  have HS := Lib.hid (lxsmall_any x w); have HG := Lib.hid (lxgreat_any x w); have HD := Lib.hid (lxdigit_any x w)
  obtain ⟨b1, hb1⟩ : ∃ b, b = smallN x := ⟨_, rfl⟩
  obtain ⟨b2, hb2⟩ : ∃ b, b = greatN x := ⟨_, rfl⟩
  obtain ⟨b3, hb3⟩ : ∃ b, b = digitN x := ⟨_, rfl⟩
  rw [← hb1] at HS; rw [← hb2] at HG; rw [← hb3] at HD
  have HB1 := Lib.hid hb1; have HB2 := Lib.hid hb2; have HB3 := Lib.hid hb3
  clear hb1 hb2 hb3
  by_cases hn : b1 = true ∨ x = 95
  · have HR := Lib.hid (run_any s true 0 w (by omega) hs)
    have g4 : b1 = false → ((x : Int) == 95) = true := fun h => by
      rcases hn with h' | h'
      · rw [h] at h'; cases h'
      · subst h'; rfl
    have HG4 := Lib.hid g4
    clear g4
    have HF : Hid (smallN (byteS s 0) = true ∨ byteS s 0 = 95) := Lib.hid (by rw [HX.out, ← HB1.out]; exact hn)
    clear hn
    go_enter Tryd.func95, Tryd.ntmps95
    cases b1
    · have g4 := HG4.out rfl
      go_wp2_with (first | (go_at_call 102; refine HS.out.mono ?_; rintro e w2 ⟨rfl, rfl⟩) | (go_at_call 103; refine HR.out.mono ?_; rintro e w2 ⟨n, rfl, hn, HN, rfl⟩) | (go_at_call 104; refine (wordKind_any _ _).mono ?_; rintro e w2 ⟨z, rfl, hz, rfl⟩; have HZ := Lib.hid hz; clear hz))
      go_ret2
      have h := name_word h0 HF.out (n := n) (by omega) (fun j hj => HN.out.1 j (by omega) (by omega)) (fun hlt => by have := HN.out.2 (by omega); rwa [Nat.zero_add] at this) HZ.out
      exact ⟨z, n, rfl, h.1, h.2, rfl⟩
    · go_wp2_with (first | (go_at_call 102; refine HS.out.mono ?_; rintro e w2 ⟨rfl, rfl⟩) | (go_at_call 103; refine HR.out.mono ?_; rintro e w2 ⟨n, rfl, hn, HN, rfl⟩) | (go_at_call 104; refine (wordKind_any _ _).mono ?_; rintro e w2 ⟨z, rfl, hz, rfl⟩; have HZ := Lib.hid hz; clear hz))
      go_ret2
      have h := name_word h0 HF.out (n := n) (by omega) (fun j hj => HN.out.1 j (by omega) (by omega)) (fun hlt => by have := HN.out.2 (by omega); rwa [Nat.zero_add] at this) HZ.out
      exact ⟨z, n, rfl, h.1, h.2, rfl⟩
  · have HF : Hid (nameOk s.data.toList = false) := Lib.hid (name_not h0 (by rw [HX.out, ← HB1.out]; exact hn))
    have hb1 : b1 = false := by cases b1; rfl; exact absurd (.inl rfl) hn
    subst hb1
    have hx95 : ¬ x = 95 := fun h => hn (.inr h)
    have g4 : ((x : Int) == 95) = false := by simp; omega
    clear hn hx95
    rw [HF.out]
    have HR := fun t a h => Lib.hid (run_any s t a w h hs)
    have HSG := Lib.hid (sign_any s w h0 hs)
    go_enter Tryd.func95, Tryd.ntmps95
    cases b2
    · cases b3
      · have g39 : ((x : Int) == 39) = decide (x = 39) := by
          by_cases h : x = 39
          · subst h; rfl
          · simp [h]; omega
        obtain ⟨b4, hb4⟩ : ∃ b, b = decide (x = 39) := ⟨_, rfl⟩
        rw [← hb4] at g39
        clear hb4
        cases b4
        · go_wp2_with (first | (go_at_call 102; refine HS.out.mono ?_; rintro e w2 ⟨rfl, rfl⟩) | (go_at_call 105; refine HG.out.mono ?_; rintro e w2 ⟨rfl, rfl⟩) | (go_at_call 106; refine HD.out.mono ?_; rintro e w2 ⟨rfl, rfl⟩) | (go_at_call 107; refine HSG.out.mono ?_; rintro e w2 ⟨z, rfl, rfl⟩))
          all_goals go_ret2
          all_goals exact ⟨_, _, rfl, by simp, by simp, rfl⟩
        · by_cases h1 : 1 < s.size
          · obtain ⟨y, hy⟩ : ∃ y, s[1].toNat = y := ⟨_, rfl⟩
            have HY := Lib.hid (lxsmall_any y w)
            obtain ⟨b5, hb5⟩ : ∃ b, b = smallN y := ⟨_, rfl⟩
            rw [← hb5] at HY
            clear hb5
            have HR0 := HR false 1 (by omega)
            cases b5
            · go_wp2_with (first | (go_at_call 102; refine HS.out.mono ?_; rintro e w2 ⟨rfl, rfl⟩; clear HS) | (go_at_call 105; refine HG.out.mono ?_; rintro e w2 ⟨rfl, rfl⟩) | (go_at_call 106; refine HD.out.mono ?_; rintro e w2 ⟨rfl, rfl⟩) | (go_at_call 102; refine HY.out.mono ?_; rintro e w2 ⟨rfl, rfl⟩))
              all_goals go_ret2
              all_goals exact ⟨_, _, rfl, by simp, by simp, rfl⟩
            · go_wp2_with (first | (go_at_call 102; refine HS.out.mono ?_; rintro e w2 ⟨rfl, rfl⟩; clear HS) | (go_at_call 105; refine HG.out.mono ?_; rintro e w2 ⟨rfl, rfl⟩) | (go_at_call 106; refine HD.out.mono ?_; rintro e w2 ⟨rfl, rfl⟩) | (go_at_call 102; refine HY.out.mono ?_; rintro e w2 ⟨rfl, rfl⟩) | (go_at_call 103; refine HR0.out.mono ?_; rintro e w2 ⟨n, rfl, hn, HN, rfl⟩))
              all_goals go_ret2
              all_goals exact ⟨_, _, rfl, by simp, by simp, rfl⟩
          · go_wp2_with (first | (go_at_call 102; refine HS.out.mono ?_; rintro e w2 ⟨rfl, rfl⟩) | (go_at_call 105; refine HG.out.mono ?_; rintro e w2 ⟨rfl, rfl⟩) | (go_at_call 106; refine HD.out.mono ?_; rintro e w2 ⟨rfl, rfl⟩))
            all_goals go_ret2
            all_goals first | exact ⟨_, _, rfl, by simp, by simp, rfl⟩ | exact ⟨0, 0, rfl, by simp, rfl⟩ | exact ⟨0, 0, rfl, rfl⟩ | exact ⟨0, 0, rfl, by simp⟩ | exact ⟨0, 0, rfl⟩
      · go_wp2_with (first | (go_at_call 102; refine HS.out.mono ?_; rintro e w2 ⟨rfl, rfl⟩) | (go_at_call 105; refine HG.out.mono ?_; rintro e w2 ⟨rfl, rfl⟩) | (go_at_call 106; refine HD.out.mono ?_; rintro e w2 ⟨rfl, rfl⟩))
        go_loopw [8] (fun iv W => ∃ (k : Nat), 1 ≤ k ∧ k ≤ s.size ∧ iv = .int .i64 k ∧ W = w2) (fun iv _ => s.size - (intOf iv).toNat)
        case atStart => exact ⟨1, by omega, by omega, rfl, rfl⟩
        case round =>
          obtain ⟨k, hk0, hk, rfl, rfl⟩ := hrel
          by_cases hlt : k < s.size
          · obtain ⟨y, hy⟩ : ∃ y, s[k].toNat = y := ⟨_, rfl⟩
            have HY := Lib.hid (lxdigit_any y wr)
            obtain ⟨b5, hb5⟩ : ∃ b, b = digitN y := ⟨_, rfl⟩
            rw [← hb5] at HY
            clear hb5
            cases b5
            · go_wp2_with (first | (go_at_call 106; refine HY.out.mono ?_; rintro e w2 ⟨rfl, rfl⟩))
              go_ret2
              exact ⟨_, _, rfl, by simp, by simp, rfl⟩
            · go_wp2_with (first | (go_at_call 106; refine HY.out.mono ?_; rintro e w2 ⟨rfl, rfl⟩))
              go_roundw
              case rel => exact ⟨k + 1, by omega, by omega, by go_num, by first | rfl | trivial⟩
              case measure => simp [intOf]; omega
          · have hkl : k = s.size := by omega
            go_wp2
            go_ret2
            exact ⟨_, _, rfl, by simp, by simp, rfl⟩
    · have HR0 := HR true 0 (by omega)
      go_wp2_with (first | (go_at_call 102; refine HS.out.mono ?_; rintro e w2 ⟨rfl, rfl⟩) | (go_at_call 105; refine HG.out.mono ?_; rintro e w2 ⟨rfl, rfl⟩) | (go_at_call 103; refine HR0.out.mono ?_; rintro e w2 ⟨n, rfl, hn, HN, rfl⟩))
      go_ret2
      exact ⟨2, n, rfl, by simp, by simp, rfl⟩
set_option maxHeartbeats 1000000 in
/-- lex.Kind tells TName just of names. -/
theorem kind_any (s : ByteArray) (w : World) (hs : s.size ≤ 9223372036854775807) :
    Calls Tryd.prog 71 #[.string s] w fun e w' => ∃ z, e = .returned (.int .i64 z) ∧ (z = 1 ↔ nameOk s.data.toList = true) ∧ w' = w := by
  by_cases h0 : 0 < s.size
  · have HT := Lib.hid (token_any s w h0 hs)
    have hne : (s.toList == []) = false := by
      rw [← data_toList]
      have hl : 0 < s.data.toList.length := by rw [Array.length_toList]; exact h0
      cases h : s.data.toList with
      | nil => rw [h] at hl; simp at hl
      | cons a l => rfl
    go_enter Tryd.func71, Tryd.ntmps71
    go_wp2_with (go_at_call 95; refine HT.out.mono ?_; rintro e w2 ⟨z, n, rfl, hz1, hz2, rfl⟩; have HZ1 := Lib.hid hz1; have HZ2 := Lib.hid hz2; clear hz1 hz2)
    · go_ret
      rename_i hb
      refine ⟨0, rfl, ⟨fun h => (by cases h), fun h => ?_⟩, rfl⟩
      have := (HZ2.out h).2
      simp [this] at hb
    · go_ret
      rename_i hb
      refine ⟨z, rfl, ⟨fun h => HZ1.out h (by simpa using hb), fun h => (HZ2.out h).1⟩, rfl⟩
  · have hs0 : s = ⟨#[]⟩ := by
      apply ByteArray.ext
      apply Array.eq_empty_of_size_eq_zero
      show s.size = 0
      omega
    subst hs0
    clear h0
    go_enter Tryd.func71, Tryd.ntmps71
    go_wp2
    go_ret
    exact ⟨0, rfl, by simp [nameOk], rfl⟩
end Go.Proofs.YtbhicpjhijondaaDoor
