/- Plain: what is encoded is read again. -/
import Derived.Test.YtffblcefnckacaaDoorFD
import Derived.Lib.ItoaNum
namespace Go.Frm
open Go.Lib
set_option linter.unusedVariables false
set_option linter.unusedSimpArgs false

/-- "Content-Length" -/
def clenC : List UInt8 := [67, 111, 110, 116, 101, 110, 116, 45, 76, 101, 110, 103, 116, 104]
/-- the line that tells a length. -/
def clenLine (n : Nat) : List UInt8 := clenC ++ 58 :: 32 :: decDigits n
/-- a message's bytes. -/
def enc (b : List UInt8) : List UInt8 := clenLine b.length ++ 13 :: 10 :: 13 :: 10 :: b
theorem dig48 {k : Nat} (h : k < 10) : digB (UInt8.ofNat (48 + k)) = true ∧ (UInt8.ofNat (48 + k)).toNat - 48 = k := by
  have : ∀ k : Fin 10, digB (UInt8.ofNat (48 + k.val)) = true ∧ (UInt8.ofNat (48 + k.val)).toNat - 48 = k.val := by decide
  exact this ⟨k, h⟩
theorem dig_dec : ∀ (m u : Nat), u ≤ m → ∀ c ∈ decDigits u, digB c = true
  | 0, u, hm, c, hc => by
    have : u = 0 := by omega
    subst this
    rw [decDigits, dif_pos (by omega)] at hc
    rw [List.mem_singleton] at hc
    rw [hc]; exact (dig48 (by omega)).1
  | m + 1, u, hm, c, hc => by
    by_cases h : u < 10
    · rw [decDigits, dif_pos h, List.mem_singleton] at hc
      rw [hc]; exact (dig48 h).1
    · rw [decDigits, dif_neg h, List.mem_append, List.mem_singleton] at hc
      rcases hc with hc | hc
      · exact dig_dec m (u / 10) (by omega) c hc
      · rw [hc]; exact (dig48 (Nat.mod_lt _ (by omega))).1
theorem numD_dec : ∀ (m u : Nat), u ≤ m → numD (decDigits u) = u
  | 0, u, hm => by
    have : u = 0 := by omega
    subst this
    rw [decDigits, dif_pos (by omega)]; rfl
  | m + 1, u, hm => by
    by_cases h : u < 10
    · rw [decDigits, dif_pos h]
      have := (dig48 h).2
      show 0 * 10 + ((UInt8.ofNat (48 + u)).toNat - 48) = u
      omega
    · rw [decDigits, dif_neg h]
      have ih := numD_dec m (u / 10) (by omega)
      have h2 := (dig48 (k := u % 10) (Nat.mod_lt _ (by omega))).2
      unfold numD at ih ⊢
      rw [List.foldl_append, ih]
      show u / 10 * 10 + ((UInt8.ofNat (48 + u % 10)).toNat - 48) = u
      omega
theorem nd_le : ∀ (k u : Nat), u < 10 ^ (k + 1) → nDigits u ≤ k + 1
  | 0, u, h => by rw [nDigits_small (by omega)]; omega
  | k + 1, u, h => by
    by_cases h10 : u < 10
    · rw [nDigits_small h10]; omega
    · rw [nDigits_big h10]
      have := nd_le k (u / 10) (by rw [Nat.pow_succ] at h; omega)
      omega
theorem sizeV_dec {u : Nat} (h : u ≤ 65536) : sizeV (decDigits u) = some u := by
  unfold sizeV
  have hl := decDigits_length u
  have h1 := nDigits_pos u
  have h2 := nd_le 5 u (by omega)
  rw [if_pos ⟨by omega, by omega, List.all_eq_true.2 (dig_dec u u (Nat.le_refl _))⟩, numD_dec u u (Nat.le_refl _)]
theorem dig_props {c : UInt8} (h : digB c = true) : blankB c = false ∧ (c == 13 || c == 10) = false := by
  have : ∀ c : UInt8, digB c = true → blankB c = false ∧ (c == 13 || c == 10) = false := by
    intro c
    have h256 : ∀ n : Fin 256, digB (UInt8.ofNat n.val) = true → blankB (UInt8.ofNat n.val) = false ∧ (UInt8.ofNat n.val == 13 || UInt8.ofNat n.val == 10) = false := by decide +kernel
    have := h256 ⟨c.toNat, c.toNat_lt⟩
    simpa using this
  exact this c h
theorem trimL_dig : ∀ {l : List UInt8}, (∀ c ∈ l, digB c = true) → trimL l = l
  | [], _ => rfl
  | c :: l, h => by
    unfold trimL
    rw [List.dropWhile_cons_of_neg (by rw [(dig_props (h c (List.mem_cons_self ..))).1]; exact Bool.false_ne_true)]
theorem trimB_dig {l : List UInt8} (h : ∀ c ∈ l, digB c = true) : trimB (32 :: l) = l := by
  unfold trimB
  have h1 : trimL (32 :: l) = l := by
    show (32 :: l).dropWhile blankB = l
    rw [List.dropWhile_cons_of_pos (by decide)]
    exact trimL_dig h
  rw [h1, trimL_dig (l := l.reverse) (fun c hc => h c (List.mem_reverse.1 hc)), List.reverse_reverse]
theorem fieldV_clen {n : Nat} (h : n ≤ 65536) : fieldV (clenLine n) = some (some n) := by
  have hd := dig_dec n n (Nat.le_refl _)
  have h1 : (clenLine n).dropWhile nmB = 58 :: 32 :: decDigits n := rfl
  have h2 : (clenLine n).takeWhile nmB = clenC := rfl
  unfold fieldV
  rw [h1, h2]
  have h3 : (32 :: decDigits n).any (fun c => c == 13 || c == 10) = false := by
    rw [List.any_cons, List.any_eq_false.2 (fun c hc => by rw [(dig_props (hd c hc)).2]; exact Bool.false_ne_true)]; rfl
  show (if clenC = [] then none else if (32 :: decDigits n).any (fun c => c == 13 || c == 10) = true then none else if clenC.map foldB = clen then (sizeV (trimB (32 :: decDigits n))).map some else some none) = some (some n)
  rw [if_neg (by decide), h3, if_neg Bool.false_ne_true, if_pos (by decide), trimB_dig hd, sizeV_dec h]; rfl
theorem no13 {n : Nat} : ∀ c ∈ clenLine n, c ≠ 13 := by
  intro c hc
  unfold clenLine at hc
  rw [List.mem_append, List.mem_cons, List.mem_cons] at hc
  rcases hc with hc | hc | hc | hc
  · have : ∀ c ∈ clenC, c ≠ 13 := by decide
    exact this c hc
  · rw [hc]; decide
  · rw [hc]; decide
  · have := (dig_props (dig_dec n n (Nat.le_refl _) c hc)).2
    intro h; rw [h] at this; exact absurd this (by decide)
theorem pre13 {c : UInt8} {l p : List UInt8} (h : c ≠ 13) : (13 :: p).isPrefixOf (c :: l) = false := by
  show ((13 : UInt8) == c && p.isPrefixOf l) = false
  rw [beq_eq_false_iff_ne.2 (Ne.symm h)]; rfl
theorem eol_line : ∀ {l : List UInt8} (t : List UInt8), (∀ c ∈ l, c ≠ 13) → eol (l ++ 13 :: 10 :: t) = l.length
  | [], t, _ => by
    show (if [13, 10].isPrefixOf (13 :: 10 :: t) then 0 else eol (10 :: t) + 1) = 0
    rw [if_pos (show ([13, 10] : List UInt8).isPrefixOf (13 :: 10 :: t) = true from List.isPrefixOf_iff_prefix.2 ⟨t, rfl⟩)]
  | c :: l, t, h => by
    show (if [13, 10].isPrefixOf (c :: (l ++ 13 :: 10 :: t)) then 0 else eol (l ++ 13 :: 10 :: t) + 1) = l.length + 1
    rw [pre13 (h c (List.mem_cons_self ..)), if_neg Bool.false_ne_true, eol_line t (fun x hx => h x (List.mem_cons_of_mem _ hx))]
theorem hd4_line : ∀ {l : List UInt8} (t : List UInt8), (∀ c ∈ l, c ≠ 13) → hd4 (l ++ 13 :: 10 :: 13 :: 10 :: t) = l.length + 4
  | [], t, _ => by
    show (if [13, 10, 13, 10].isPrefixOf (13 :: 10 :: 13 :: 10 :: t) then 4 else _) = 4
    rw [if_pos (show ([13, 10, 13, 10] : List UInt8).isPrefixOf (13 :: 10 :: 13 :: 10 :: t) = true from List.isPrefixOf_iff_prefix.2 ⟨t, rfl⟩)]
  | c :: l, t, h => by
    have ih := hd4_line t (fun x hx => h x (List.mem_cons_of_mem _ hx))
    show (if [13, 10, 13, 10].isPrefixOf (c :: (l ++ 13 :: 10 :: 13 :: 10 :: t)) then 4 else if hd4 (l ++ 13 :: 10 :: 13 :: 10 :: t) = 0 then 0 else hd4 (l ++ 13 :: 10 :: 13 :: 10 :: t) + 1) = l.length + 1 + 4
    rw [pre13 (h c (List.mem_cons_self ..)), if_neg Bool.false_ne_true, ih, if_neg (by omega)]
theorem hd_line {n : Nat} (t : List UInt8) : hd (clenLine n ++ 13 :: 10 :: 13 :: 10 :: t) = (clenLine n).length + 4 := by
  unfold hd
  rw [if_neg (by show ¬ (13 :: [10]).isPrefixOf (67 :: _) = true; rw [pre13 (by decide)]; exact Bool.false_ne_true)]
  exact hd4_line t no13
theorem lines_one {l : List UInt8} (h : ∀ c ∈ l, c ≠ 13) : lines (l ++ [13, 10]) = [l] := by
  unfold lines
  rw [List.length_append]
  show linesF (l.length + 1 + 1) _ = _
  have he := eol_line [] h
  have h0 : ∀ f, linesF f [] = [] := fun f => by cases f <;> rfl
  have hne : l ++ [13, 10] ≠ [] := by simp
  rw [linesF, if_neg hne, he, List.take_left' rfl, List.drop_of_length_le (by simp), h0]
theorem len_clen (n : Nat) : (clenLine n).length = 16 + nDigits n := by
  unfold clenLine
  rw [List.length_append, List.length_cons, List.length_cons, decDigits_length]
  show 14 + _ = _
  omega
theorem lengthV_clen {n : Nat} (h : n ≤ 65536) : lengthV (clenLine n ++ [13, 10, 13, 10]) = some n := by
  unfold lengthV
  have : (clenLine n ++ [13, 10, 13, 10]).take ((clenLine n ++ [13, 10, 13, 10]).length - 2) = clenLine n ++ [13, 10] := by
    rw [List.length_append]
    show (clenLine n ++ [13, 10, 13, 10]).take ((clenLine n).length + 4 - 2) = _
    rw [show (clenLine n).length + 4 - 2 = (clenLine n).length + 2 by omega, List.take_append, List.take_of_length_le (by omega), show (clenLine n).length + 2 - (clenLine n).length = 2 by omega]; rfl
  rw [this, lines_one no13]
  simp only [told, fieldV_clen h]; rfl
/-- ONE MESSAGE, READ AGAIN. -/
theorem msg_enc {b : List UInt8} (c : List UInt8) (h : b.length ≤ 65536) : msg (enc b ++ c) = .body ((clenLine b.length).length + 4) b.length := by
  have hx : enc b ++ c = clenLine b.length ++ 13 :: 10 :: 13 :: 10 :: (b ++ c) := by unfold enc; simp
  have hl := len_clen b.length
  have hn := nd_le 5 b.length (by omega)
  have ht : (clenLine b.length ++ 13 :: 10 :: 13 :: 10 :: (b ++ c)).take ((clenLine b.length).length + 4) = clenLine b.length ++ [13, 10, 13, 10] := by
    rw [List.take_append, List.take_of_length_le (by omega), show (clenLine b.length).length + 4 - (clenLine b.length).length = 4 by omega]; rfl
  unfold msg
  rw [hx, hd_line, if_pos ⟨by omega, by omega⟩, ht, lengthV_clen h]
  show (if 65536 < b.length then Msg.bad 31 else if _ < _ then Msg.more else _) = _
  rw [if_neg (by omega), if_neg (by simp; omega)]
theorem run_enc {b : List UInt8} (c : List UInt8) (h : b.length ≤ 65536) : run (enc b ++ c) = (b :: (run c).1, (run c).2) := by
  have hx : enc b ++ c = (clenLine b.length ++ [13, 10, 13, 10]) ++ (b ++ c) := by unfold enc; simp
  have hk : (clenLine b.length ++ [13, 10, 13, 10]).length = (clenLine b.length).length + 4 := by simp
  rw [run_body (msg_enc c h), hx, ← hk, List.drop_left' rfl, List.take_left' rfl, ← List.drop_drop, List.drop_left' rfl, List.drop_left' rfl]
theorem run_encs : ∀ (bs : List (List UInt8)), (∀ b ∈ bs, b.length ≤ 65536) → run (bs.map enc).flatten = (bs, [], 0)
  | [], _ => rfl
  | b :: bs, h => by
    rw [List.map_cons, List.flatten_cons, run_enc _ (h b (List.mem_cons_self ..)), run_encs bs (fun x hx => h x (List.mem_cons_of_mem _ hx))]
end Go.Frm
