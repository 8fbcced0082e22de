/- Plain facts on UTF-8: texts are lists of runes, each encoded; a decoder's step undoes an encoder's. No program in sight. -/
import Derived.Lib.ValidLaws
import Derived.Lib.MapLaws
import Derived.Lib.RuneBytes
namespace Go.Par
open Go.Lib
set_option linter.unusedVariables false

/-- a number that is a rune. -/
def isR (r : Int) : Bool := decide (0 ≤ r ∧ r ≤ 1114111 ∧ (r < 55296 ∨ 57344 ≤ r))
def AllR (rs : List Int) : Prop := ∀ r ∈ rs, isR r = true
/-- the bytes of runes. -/
def txt (rs : List Int) : List UInt8 := rs.flatMap encodeRune
/-- no rune stands in front. -/
def Bad (l : List UInt8) : Prop := l ≠ [] ∧ decodeL l = (65533, 1)

theorem isR_iff {r : Int} : isR r = true ↔ (0 ≤ r ∧ r ≤ 1114111 ∧ (r < 55296 ∨ 57344 ≤ r)) := by simp [isR]
theorem AllR.nil : AllR [] := fun _ h => by cases h
theorem AllR.cons {r : Int} {rs : List Int} (h : isR r = true) (k : AllR rs) : AllR (r :: rs) := fun x hx => by
  rcases List.mem_cons.1 hx with rfl | hx
  · exact h
  · exact k x hx
theorem AllR.head {r : Int} {rs : List Int} (h : AllR (r :: rs)) : isR r = true := h r (by simp)
theorem AllR.tail {r : Int} {rs : List Int} (h : AllR (r :: rs)) : AllR rs := fun x hx => h x (by simp [hx])
theorem AllR.append {rs qs : List Int} (h : AllR rs) (k : AllR qs) : AllR (rs ++ qs) := fun x hx => by
  rcases List.mem_append.1 hx with hx | hx
  · exact h x hx
  · exact k x hx
theorem AllR.left {rs qs : List Int} (h : AllR (rs ++ qs)) : AllR rs := fun x hx => h x (by simp [hx])
theorem AllR.right {rs qs : List Int} (h : AllR (rs ++ qs)) : AllR qs := fun x hx => h x (by simp [hx])
theorem txt_nil : txt [] = [] := rfl
theorem txt_cons (r : Int) (rs : List Int) : txt (r :: rs) = encodeRune r ++ txt rs := by simp [txt]
theorem txt_append (rs qs : List Int) : txt (rs ++ qs) = txt rs ++ txt qs := by simp [txt]

theorem enc_length (r : Int) : (encodeRune r).length = (encodeRuneZ r).length := by simp [encodeRune]
theorem enc_pos (r : Int) : 1 ≤ (encodeRune r).length := by rw [enc_length]; exact (encodeRuneZ_length r).1
theorem enc_le (r : Int) : (encodeRune r).length ≤ 4 := by rw [enc_length]; exact (encodeRuneZ_length r).2
theorem enc_ne (r : Int) : encodeRune r ≠ [] := fun h => by have := enc_pos r; rw [h] at this; simp at this

theorem u8_of (z : Int) (h0 : 0 ≤ z) (h1 : z < 256) : (z.toNat.toUInt8).toNat = z.toNat := by
  simp [Nat.toUInt8, UInt8.toNat_ofNat']; omega

/-- A decoder's step undoes an encoder's. -/
theorem decode_enc (r : Int) (t : List UInt8) (hr : isR r = true) : decodeL (encodeRune r ++ t) = (r.toNat, (encodeRune r).length) := by
  have h := isR_iff.1 hr
  rw [decodeL_N]
  unfold encodeRune
  by_cases h1 : r ≤ 127
  · rw [encodeRuneZ_one h.1 h1]
    simp only [List.map_cons, List.map_nil, List.cons_append, List.nil_append, List.length_cons, List.length_nil, List.getD_cons_zero]
    rw [u8_of r (by omega) (by omega)]
    unfold decodeN
    rw [if_pos (by omega)]
  · by_cases h2 : r ≤ 2047
    · rw [encodeRuneZ_two (by omega) h2]
      simp only [List.map_cons, List.map_nil, List.cons_append, List.nil_append, List.length_cons, List.length_nil, List.getD_cons_zero, List.getD_cons_succ]
      rw [u8_of _ (by omega) (by omega), u8_of _ (by omega) (by omega)]
      unfold decodeN
      rw [if_neg (by omega), if_pos (by omega), if_pos (by omega)]
      refine Prod.ext ?_ rfl
      dsimp only; omega
    · by_cases h3 : r ≤ 65535
      · rw [encodeRuneZ_three (by omega)]
        simp only [List.map_cons, List.map_nil, List.cons_append, List.nil_append, List.length_cons, List.length_nil, List.getD_cons_zero, List.getD_cons_succ]
        rw [u8_of _ (by omega) (by omega), u8_of _ (by omega) (by omega), u8_of _ (by omega) (by omega)]
        unfold decodeN
        rw [if_neg (by omega), if_neg (by omega), if_pos (by omega), if_pos (by omega)]
        refine Prod.ext ?_ rfl
        dsimp only; omega
      · rw [encodeRuneZ_four (by omega) (by omega)]
        simp only [List.map_cons, List.map_nil, List.cons_append, List.nil_append, List.length_cons, List.length_nil, List.getD_cons_zero, List.getD_cons_succ]
        rw [u8_of _ (by omega) (by omega), u8_of _ (by omega) (by omega), u8_of _ (by omega) (by omega), u8_of _ (by omega) (by omega)]
        unfold decodeN
        rw [if_neg (by omega), if_neg (by omega), if_neg (by omega), if_pos (by omega), if_pos (by omega)]
        refine Prod.ext ?_ rfl
        dsimp only; omega

theorem enc_len_of {r : Int} (hr : isR r = true) : (encodeRune r).length = if r ≤ 127 then 1 else if r ≤ 2047 then 2 else if r ≤ 65535 then 3 else 4 := by
  have h := isR_iff.1 hr
  rw [enc_length]
  by_cases h1 : r ≤ 127
  · rw [encodeRuneZ_one h.1 h1, if_pos h1]; rfl
  · rw [if_neg h1]
    by_cases h2 : r ≤ 2047
    · rw [encodeRuneZ_two (by omega) h2, if_pos h2]; rfl
    · rw [if_neg h2]
      by_cases h3 : r ≤ 65535
      · rw [encodeRuneZ_three (by omega), if_pos h3]; rfl
      · rw [encodeRuneZ_four (by omega) (by omega), if_neg h3]; rfl

theorem enc_not_bad (r : Int) (t : List UInt8) (hr : isR r = true) : ¬ ((decodeL (encodeRune r ++ t)).1 = 65533 ∧ (decodeL (encodeRune r ++ t)).2 = 1) := by
  rw [decode_enc r t hr, enc_len_of hr]
  have h := isR_iff.1 hr
  dsimp only
  repeat' split
  all_goals omega

theorem isR_decode (l : List UInt8) (hv : ¬ ((decodeL l).1 = 65533 ∧ (decodeL l).2 = 1)) : isR ((decodeL l).1 : Int) = true := by
  rw [decodeL_N] at hv ⊢
  rw [isR_iff]
  have k0 := (l.getD 0 0).toNat_lt
  have k1 := (l.getD 1 0).toNat_lt
  have k2 := (l.getD 2 0).toNat_lt
  have k3 := (l.getD 3 0).toNat_lt
  rcases decodeN_shape l.length (l.getD 0 0).toNat (l.getD 1 0).toNat (l.getD 2 0).toNat (l.getD 3 0).toNat with ⟨c, e⟩ | ⟨c1, c2, c3, cv, e⟩ | ⟨c1, c2, c3, c4, cv, cs, e⟩ | ⟨c1, c2, c3, c4, c5, cv, cw, e⟩ | e
  all_goals (rw [e] at hv ⊢; dsimp only at hv ⊢)
  all_goals (first | omega | exact absurd ⟨rfl, rfl⟩ hv)

/-- What stands in front of bytes: nothing, a rune, or what is none. -/
theorem front_cases (l : List UInt8) : l = [] ∨ Bad l ∨ ∃ r t, isR r = true ∧ l = encodeRune r ++ t := by
  by_cases hne : l = []
  · exact .inl hne
  · by_cases hv : (decodeL l).1 = 65533 ∧ (decodeL l).2 = 1
    · exact .inr (.inl ⟨hne, Prod.ext hv.1 hv.2⟩)
    · exact .inr (.inr ⟨_, l.drop (decodeL l).2, isR_decode l hv, by rw [encode_decode l hne hv, List.take_append_drop]⟩)

theorem not_bad_enc (r : Int) (t : List UInt8) (hr : isR r = true) : ¬ Bad (encodeRune r ++ t) := fun h => enc_not_bad r t hr ⟨by rw [h.2], by rw [h.2]⟩

/-- A front that is a rune is one rune. -/
theorem enc_cancel {r q : Int} {t u : List UInt8} (hr : isR r = true) (hq : isR q = true) (h : encodeRune r ++ t = encodeRune q ++ u) : r = q ∧ t = u := by
  have h1 := decode_enc r t hr
  rw [h, decode_enc q u hq] at h1
  have e : q.toNat = r.toNat := congrArg Prod.fst h1
  have a := isR_iff.1 hr
  have b := isR_iff.1 hq
  have e' : r = q := by omega
  subst e'
  exact ⟨rfl, List.append_cancel_left h⟩

theorem split_any : ∀ (n : Nat) (l : List UInt8), l.length ≤ n → ∃ rs rest, AllR rs ∧ l = txt rs ++ rest ∧ (rest = [] ∨ Bad rest)
  | 0, l, h => ⟨[], [], AllR.nil, by simpa [txt] using List.eq_nil_of_length_eq_zero (Nat.le_zero.1 h), .inl rfl⟩
  | n + 1, l, h => by
    rcases front_cases l with rfl | hb | ⟨r, t, hr, rfl⟩
    · exact ⟨[], [], AllR.nil, rfl, .inl rfl⟩
    · exact ⟨[], l, AllR.nil, rfl, .inr hb⟩
    · have hp := enc_pos r
      obtain ⟨rs, rest, ha, hl, hb⟩ := split_any n t (by simp at h; omega)
      exact ⟨r :: rs, rest, ha.cons hr, by rw [txt_cons, hl, List.append_assoc], hb⟩

theorem split (l : List UInt8) : ∃ rs rest, AllR rs ∧ l = txt rs ++ rest ∧ (rest = [] ∨ Bad rest) := split_any _ l (Nat.le_refl _)

theorem validD_enc (r : Int) (t : List UInt8) (hr : isR r = true) : validD (encodeRune r ++ t) = validD t := by
  rw [validD_step _ (by simp [enc_ne]), if_neg (enc_not_bad r t hr), decode_enc r t hr]
  simp

theorem validD_txt : ∀ (rs : List Int) (t : List UInt8), AllR rs → validD (txt rs ++ t) = validD t
  | [], t, _ => rfl
  | r :: rs, t, h => by rw [txt_cons, List.append_assoc, validD_enc r _ h.head, validD_txt rs t h.tail]

theorem validD_bad {l : List UInt8} (h : Bad l) : validD l = false := by
  rw [validD_step l h.1, h.2]; simp

/-- What ValidString says yes to is a text of runes. -/
theorem validD_iff (l : List UInt8) : validD l = true ↔ ∃ rs, AllR rs ∧ l = txt rs := by
  constructor
  · intro h
    obtain ⟨rs, rest, ha, rfl, hr⟩ := split l
    rw [validD_txt rs _ ha] at h
    rcases hr with rfl | hb
    · exact ⟨rs, ha, by simp⟩
    · rw [validD_bad hb] at h; cases h
  · rintro ⟨rs, ha, rfl⟩
    have := validD_txt rs [] ha
    rw [List.append_nil] at this
    rw [this]; rfl

theorem validD_of {rs : List Int} (h : AllR rs) : validD (txt rs) = true := (validD_iff _).2 ⟨rs, h, rfl⟩

/-- Texts that are the same have the same runes. -/
theorem split_unique : ∀ (rs qs : List Int) (t u : List UInt8), AllR rs → AllR qs → (t = [] ∨ Bad t) → (u = [] ∨ Bad u) → txt rs ++ t = txt qs ++ u → rs = qs ∧ t = u
  | [], [], t, u, _, _, _, _, h => ⟨rfl, h⟩
  | [], q :: qs, t, u, _, hq, ht, _, h => by
    rw [txt_cons, List.append_assoc] at h
    rcases ht with rfl | hb
    · have := congrArg List.length h
      have hp := enc_pos q
      simp [txt] at this; omega
    · simp only [txt_nil, List.nil_append] at h
      exact absurd (h ▸ hb) (not_bad_enc q _ hq.head)
  | r :: rs, [], t, u, hr, _, _, hu, h => by
    rw [txt_cons, List.append_assoc] at h
    rcases hu with rfl | hb
    · have := congrArg List.length h
      have hp := enc_pos r
      simp only [List.length_append, txt_nil, List.length_nil] at this; omega
    · simp only [txt_nil, List.nil_append] at h
      exact absurd (h ▸ hb) (not_bad_enc r _ hr.head)
  | r :: rs, q :: qs, t, u, hr, hq, ht, hu, h => by
    rw [txt_cons, txt_cons, List.append_assoc, List.append_assoc] at h
    obtain ⟨rfl, h'⟩ := enc_cancel hr.head hq.head h
    obtain ⟨rfl, rfl⟩ := split_unique rs qs t u hr.tail hq.tail ht hu h'
    exact ⟨rfl, rfl⟩

theorem txt_inj {rs qs : List Int} (hr : AllR rs) (hq : AllR qs) (h : txt rs = txt qs) : rs = qs :=
  (split_unique rs qs [] [] hr hq (.inl rfl) (.inl rfl) (by simpa using h)).1

/-- a rune's units. -/
def unitsZ (r : Int) : List Int := if r < 65536 then [r] else [55296 + (r - 65536) / 1024, 56320 + (r - 65536) % 1024]
def units (rs : List Int) : List Int := rs.flatMap unitsZ
theorem units_nil : units [] = [] := rfl
theorem units_cons (r : Int) (rs : List Int) : units (r :: rs) = unitsZ r ++ units rs := by simp [units]
theorem units_append (rs qs : List Int) : units (rs ++ qs) = units rs ++ units qs := by simp [units]
theorem unitsZ_len (r : Int) : (unitsZ r).length = if r < 65536 then 1 else 2 := by unfold unitsZ; split <;> rfl

theorem txt_length_le (rs : List Int) : rs.length ≤ (txt rs).length := by
  induction rs with
  | nil => simp
  | cons r rs ih => have := enc_pos r; rw [txt_cons]; simp; omega
theorem unitsZ_le {r : Int} (hr : isR r = true) : (unitsZ r).length ≤ (encodeRune r).length ∧ (encodeRune r).length ≤ 3 * (unitsZ r).length ∧ 1 ≤ (unitsZ r).length := by
  have h := isR_iff.1 hr
  rw [enc_len_of hr, unitsZ_len]
  repeat' split
  all_goals omega
theorem units_le : ∀ (rs : List Int), AllR rs → rs.length ≤ (units rs).length ∧ (units rs).length ≤ (txt rs).length ∧ (txt rs).length ≤ 3 * (units rs).length
  | [], _ => by simp [units, txt]
  | r :: rs, h => by
    obtain ⟨a, b, c⟩ := units_le rs h.tail
    obtain ⟨d, e, f⟩ := unitsZ_le h.head
    rw [units_cons, txt_cons]
    simp only [List.length_append, List.length_cons]
    omega
end Go.Par
