/- Plain: what is cut off is held; further fields change nothing. -/
import Derived.Test.YtffblcefnckacaaDoorFF
namespace Go.Frm
open Go.Lib
set_option linter.unusedVariables false
set_option linter.unusedSimpArgs false

theorem len_enc (b : List UInt8) : (enc b).length = (clenLine b.length).length + 4 + b.length := by
  unfold enc; simp; omega
theorem msg_cut {b : List UInt8} {k : Nat} (h : b.length ≤ 65536) (hk : k < (enc b).length) : msg ((enc b).take k) = .more := by
  have hle := len_enc b
  have hl := len_clen b.length
  have hn := nd_le 5 b.length (by omega)
  have hh : hd (enc b) = (clenLine b.length).length + 4 := hd_line b
  by_cases h2 : k < 2
  · have h0 : hd ((enc b).take k) = 0 := by
      by_cases hz : hd ((enc b).take k) = 0
      · exact hz
      · have := hd_ge hz
        have := hd_le ((enc b).take k)
        rw [List.length_take] at this
        omega
    unfold msg
    rw [h0, if_neg (by omega), if_neg (by rw [List.length_take]; omega)]
  · have ht := hd_take (enc b) (k := k) (by omega)
    rw [hh] at ht
    unfold msg
    by_cases hc : (clenLine b.length).length + 4 ≤ k
    · rw [if_pos hc] at ht
      have hx : ((enc b).take k).take ((clenLine b.length).length + 4) = clenLine b.length ++ [13, 10, 13, 10] := by
        rw [List.take_take, Nat.min_eq_left hc]
        unfold enc
        rw [List.take_append, List.take_of_length_le (by omega), show (clenLine b.length).length + 4 - (clenLine b.length).length = 4 by omega]; rfl
      rw [ht, if_pos ⟨by omega, by omega⟩, hx, lengthV_clen h]
      show (if 65536 < b.length then Msg.bad 31 else if _ < _ then Msg.more else _) = _
      rw [if_neg (by omega), if_pos (by rw [List.length_take]; omega)]
    · rw [if_neg hc] at ht
      rw [ht, if_neg (by omega), if_neg (by rw [List.length_take]; omega)]
theorem run_encs_app : ∀ (bs : List (List UInt8)) (c : List UInt8), (∀ b ∈ bs, b.length ≤ 65536) → run ((bs.map enc).flatten ++ c) = (bs ++ (run c).1, (run c).2)
  | [], c, _ => rfl
  | b :: bs, c, h => by
    rw [List.map_cons, List.flatten_cons, List.append_assoc, run_enc _ (h b (List.mem_cons_self ..)), run_encs_app bs c (fun x hx => h x (List.mem_cons_of_mem _ hx))]; rfl
theorem run_encs_cut {bs : List (List UInt8)} {b : List UInt8} {k : Nat} (h : ∀ b ∈ bs, b.length ≤ 65536) (hb : b.length ≤ 65536) (hk : k < (enc b).length) : run ((bs.map enc).flatten ++ (enc b).take k) = (bs, (enc b).take k, 0) := by
  rw [run_encs_app bs _ h, run_more (msg_cut hb hk), List.append_nil]

/-! ### Two lines -/
/-- a line "name:value". -/
def okLine (l : List UInt8) : Prop := l ≠ [] ∧ ∀ c ∈ l, c ≠ 13
theorem eol_two {l1 l2 : List UInt8} (h1 : okLine l1) (h2 : okLine l2) : lines (l1 ++ 13 :: 10 :: (l2 ++ [13, 10])) = [l1, l2] := by
  have h0 : ∀ f, linesF f [] = [] := fun f => by cases f <;> rfl
  have hlen : (l1 ++ 13 :: 10 :: (l2 ++ [13, 10])).length = (l1.length + l2.length + 2) + 1 + 1 := by simp; omega
  unfold lines
  rw [hlen, linesF, if_neg (by simp), eol_line _ h1.2, List.take_left' rfl]
  have hd1 : (l1 ++ 13 :: 10 :: (l2 ++ [13, 10])).drop (l1.length + 2) = l2 ++ [13, 10] := by
    rw [← List.drop_drop, List.drop_left' rfl]; rfl
  rw [hd1, linesF, if_neg (by simp), eol_line [] h2.2, List.take_left' rfl]
  rw [List.drop_of_length_le (by simp), h0]
theorem hd4_skip : ∀ {l : List UInt8} (t : List UInt8), (∀ c ∈ l, c ≠ 13) → hd4 t ≠ 0 → hd4 (l ++ t) = l.length + hd4 t
  | [], t, _, ht => by simp
  | c :: l, t, h, ht => by
    have ih := hd4_skip t (fun x hx => h x (List.mem_cons_of_mem _ hx)) ht
    show (if [13, 10, 13, 10].isPrefixOf (c :: (l ++ t)) then 4 else if hd4 (l ++ t) = 0 then 0 else hd4 (l ++ t) + 1) = l.length + 1 + hd4 t
    rw [pre13 (h c (List.mem_cons_self ..)), if_neg Bool.false_ne_true, ih, if_neg (by omega)]; omega
theorem hd4_two {l1 l2 : List UInt8} (t : List UInt8) (h1 : okLine l1) (h2 : okLine l2) : hd4 (l1 ++ 13 :: 10 :: (l2 ++ 13 :: 10 :: 13 :: 10 :: t)) = l1.length + 2 + (l2.length + 4) := by
  have e2 := hd4_line t h2.2
  have e1 : hd4 (13 :: 10 :: (l2 ++ 13 :: 10 :: 13 :: 10 :: t)) = 2 + (l2.length + 4) := by
    obtain ⟨c, r, rfl⟩ : ∃ c r, l2 = c :: r := by cases l2 with
      | nil => exact absurd rfl h2.1
      | cons c r => exact ⟨c, r, rfl⟩
    have hc := h2.2 c (List.mem_cons_self ..)
    have p1 : [13, 10, 13, 10].isPrefixOf (13 :: 10 :: ((c :: r) ++ 13 :: 10 :: 13 :: 10 :: t)) = false := by
      show ((13 : UInt8) == 13 && ((10 : UInt8) == 10 && ((13 : UInt8) == c && _))) = false
      rw [beq_eq_false_iff_ne.2 (Ne.symm hc)]; rfl
    have p2 : [13, 10, 13, 10].isPrefixOf (10 :: ((c :: r) ++ 13 :: 10 :: 13 :: 10 :: t)) = false := rfl
    have e10 : hd4 (10 :: ((c :: r) ++ 13 :: 10 :: 13 :: 10 :: t)) = (c :: r).length + 4 + 1 := by
      rw [hd4, p2, if_neg Bool.false_ne_true, e2, if_neg (by omega)]
    rw [hd4, p1, if_neg Bool.false_ne_true, e10, if_neg (by omega)]; omega
  rw [hd4_skip _ h1.2 (by omega), e1]; omega
theorem hd_two {l1 l2 : List UInt8} (t : List UInt8) (h1 : okLine l1) (h2 : okLine l2) : hd (l1 ++ 13 :: 10 :: (l2 ++ 13 :: 10 :: 13 :: 10 :: t)) = l1.length + 2 + (l2.length + 4) := by
  unfold hd
  rw [if_neg, hd4_two t h1 h2]
  obtain ⟨c, r, rfl⟩ : ∃ c r, l1 = c :: r := by cases l1 with
      | nil => exact absurd rfl h1.1
      | cons c r => exact ⟨c, r, rfl⟩
  rw [List.cons_append, pre13 (h1.2 c (List.mem_cons_self ..))]; exact Bool.false_ne_true
/-- TWO LINES, OF WHICH ONE TELLS A LENGTH. -/
theorem run_two {l1 l2 b : List UInt8} (h1 : okLine l1) (h2 : okLine l2) (hb : b.length ≤ 65536) (hl : l1.length + l2.length ≤ 1000) (hf : (fieldV l1 = some (some b.length) ∧ fieldV l2 = some none) ∨ (fieldV l1 = some none ∧ fieldV l2 = some (some b.length))) : run (l1 ++ 13 :: 10 :: (l2 ++ 13 :: 10 :: 13 :: 10 :: b)) = ([b], [], 0) := by
  have hh := hd_two b h1 h2
  have hlen : (l1 ++ 13 :: 10 :: (l2 ++ 13 :: 10 :: 13 :: 10 :: b)).length = l1.length + 2 + (l2.length + 4) + b.length := by simp; omega
  have hsp : l1 ++ 13 :: 10 :: (l2 ++ 13 :: 10 :: 13 :: 10 :: b) = (l1 ++ 13 :: 10 :: (l2 ++ [13, 10, 13, 10])) ++ b := by simp
  have hk : (l1 ++ 13 :: 10 :: (l2 ++ [13, 10, 13, 10])).length = l1.length + 2 + (l2.length + 4) := by simp; omega
  have ht : (l1 ++ 13 :: 10 :: (l2 ++ 13 :: 10 :: 13 :: 10 :: b)).take (l1.length + 2 + (l2.length + 4)) = l1 ++ 13 :: 10 :: (l2 ++ [13, 10, 13, 10]) := by
    rw [hsp, ← hk, List.take_left' rfl]
  have hv : lengthV (l1 ++ 13 :: 10 :: (l2 ++ [13, 10, 13, 10])) = some b.length := by
    unfold lengthV
    have hs2 : l1 ++ 13 :: 10 :: (l2 ++ [13, 10, 13, 10]) = (l1 ++ 13 :: 10 :: (l2 ++ [13, 10])) ++ [13, 10] := by simp
    have : (l1 ++ 13 :: 10 :: (l2 ++ [13, 10, 13, 10])).take ((l1 ++ 13 :: 10 :: (l2 ++ [13, 10, 13, 10])).length - 2) = l1 ++ 13 :: 10 :: (l2 ++ [13, 10]) := by
      rw [hs2, List.length_append]
      show List.take ((l1 ++ 13 :: 10 :: (l2 ++ [13, 10])).length + 2 - 2) _ = _
      rw [Nat.add_sub_cancel, List.take_left' rfl]
    rw [this, eol_two h1 h2]
    rcases hf with ⟨ha, hc⟩ | ⟨ha, hc⟩
    · simp only [told, ha, hc]; rfl
    · simp only [told, ha, hc]; rfl
  have hm : msg (l1 ++ 13 :: 10 :: (l2 ++ 13 :: 10 :: 13 :: 10 :: b)) = .body (l1.length + 2 + (l2.length + 4)) b.length := by
    unfold msg
    rw [hh, if_pos ⟨by omega, by omega⟩, ht, hv, hlen]
    show (if 65536 < b.length then Msg.bad 31 else if _ < _ then Msg.more else _) = _
    rw [if_neg (by omega), if_neg (by omega)]
  rw [run_body hm, hsp, ← hk, List.drop_left' rfl, List.take_of_length_le (Nat.le_refl _), ← List.drop_drop, List.drop_left' rfl, List.drop_of_length_le (Nat.le_refl _)]
  rfl
theorem fieldV_any {nm v : List UInt8} (hn : nm ≠ []) (ha : ∀ c ∈ nm, nmB c = true) (hv : ∀ c ∈ v, c ≠ 13 ∧ c ≠ 10) : fieldV (nm ++ 58 :: v) = if nm.map foldB = clen then (sizeV (trimB v)).map some else some none := by
  have h1 : (nm ++ 58 :: v).dropWhile nmB = 58 :: v := by
    rw [List.dropWhile_append_of_pos ha, List.dropWhile_cons_of_neg (by decide)]
  have h2 : (nm ++ 58 :: v).takeWhile nmB = nm := by
    rw [List.takeWhile_append_of_pos ha, List.takeWhile_cons_of_neg (by decide), List.append_nil]
  have h3 : v.any (fun c => c == 13 || c == 10) = false := by
    rw [List.any_eq_false]
    intro c hc
    rw [beq_eq_false_iff_ne.2 (hv c hc).1, beq_eq_false_iff_ne.2 (hv c hc).2]; exact Bool.false_ne_true
  unfold fieldV
  rw [h1, h2]
  show (if nm = [] then none else if v.any (fun c => c == 13 || c == 10) = true then none else _) = _
  rw [if_neg hn, h3, if_neg Bool.false_ne_true]
theorem okLine_any {nm v : List UInt8} (ha : ∀ c ∈ nm, nmB c = true) (hv : ∀ c ∈ v, c ≠ 13 ∧ c ≠ 10) : okLine (nm ++ 58 :: v) := by
  refine ⟨by simp, fun c hc => ?_⟩
  rw [List.mem_append, List.mem_cons] at hc
  rcases hc with hc | hc | hc
  · intro h; have := ha c hc; rw [h] at this; exact absurd this (by decide)
  · rw [hc]; decide
  · exact (hv c hc).1
theorem fold_first {nm : List UInt8} (h : ¬ (nm.length = 14 ∧ (nm.head? = some 99 ∨ nm.head? = some 67))) : nm.map foldB ≠ clen := by
  intro he
  have hl := congrArg List.length he
  rw [List.length_map] at hl
  cases nm with
  | nil => exact absurd he (by decide)
  | cons c r =>
    have hc : foldB c = 99 := (List.cons.inj he).1
    refine h ⟨hl, ?_⟩
    have h256 : ∀ n : Fin 256, foldB (UInt8.ofNat n.val) = 99 → UInt8.ofNat n.val = 99 ∨ UInt8.ofNat n.val = 67 := by decide +kernel
    have := h256 ⟨c.toNat, c.toNat_lt⟩
    simp only [UInt8.ofNat_toNat] at this
    rcases this hc with h | h
    · left; rw [h]; rfl
    · right; rw [h]; rfl
/-- the length's line as the statement writes it. -/
def lenLine (n : Nat) : List UInt8 := clenC ++ 58 :: decDigits n
theorem dig_ne {n : Nat} : ∀ c ∈ decDigits n, c ≠ 13 ∧ c ≠ 10 := by
  intro c hc
  have := (dig_props (dig_dec n n (Nat.le_refl _) c hc)).2
  rw [Bool.or_eq_false_iff, beq_eq_false_iff_ne, beq_eq_false_iff_ne] at this
  exact this
theorem nm_clen : ∀ c ∈ clenC, nmB c = true := by decide
theorem okLine_len (n : Nat) : okLine (lenLine n) := okLine_any nm_clen dig_ne
theorem trimB_dig0 {l : List UInt8} (h : ∀ c ∈ l, digB c = true) : trimB l = l := by
  unfold trimB
  rw [trimL_dig h, trimL_dig (l := l.reverse) (fun c hc => h c (List.mem_reverse.1 hc)), List.reverse_reverse]
theorem fieldV_len {n : Nat} (h : n ≤ 65536) : fieldV (lenLine n) = some (some n) := by
  unfold lenLine
  rw [fieldV_any (by decide) nm_clen dig_ne, if_pos (by decide), trimB_dig0 (dig_dec n n (Nat.le_refl _)), sizeV_dec h]; rfl
theorem len_lenLine {n : Nat} (h : n ≤ 65536) : (lenLine n).length ≤ 21 := by
  unfold lenLine
  have := nd_le 5 n (by omega)
  rw [List.length_append, List.length_cons, decDigits_length]
  show 14 + _ ≤ _
  omega
/-- FURTHER FIELDS CHANGE NOTHING. -/
theorem run_others {nm v b : List UInt8} (behind : Bool) (hn : nm ≠ []) (ha : ∀ c ∈ nm, nmB c = true) (hv : ∀ c ∈ v, c ≠ 13 ∧ c ≠ 10) (hl : nm.length + v.length ≤ 900) (hb : b.length ≤ 65536) (hc : ¬ (nm.length = 14 ∧ (nm.head? = some 99 ∨ nm.head? = some 67))) : run ((if behind then lenLine b.length ++ 13 :: 10 :: (nm ++ 58 :: v ++ [13, 10]) else nm ++ 58 :: v ++ 13 :: 10 :: (lenLine b.length ++ [13, 10])) ++ 13 :: 10 :: b) = ([b], [], 0) := by
  have ho := okLine_any ha hv
  have hfo : fieldV (nm ++ 58 :: v) = some none := by rw [fieldV_any hn ha hv, if_neg (fold_first hc)]
  have hll := len_lenLine hb
  have hlo : (nm ++ 58 :: v).length = nm.length + v.length + 1 := by simp; omega
  cases behind with
  | true =>
    have := run_two (b := b) (okLine_len b.length) ho hb (by omega) (.inl ⟨fieldV_len hb, hfo⟩)
    rw [← this]; simp
  | false =>
    have := run_two (b := b) ho (okLine_len b.length) hb (by omega) (.inr ⟨hfo, fieldV_len hb⟩)
    rw [← this]; simp
end Go.Frm
