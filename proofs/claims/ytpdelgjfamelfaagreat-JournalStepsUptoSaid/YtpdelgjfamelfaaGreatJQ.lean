/- Plain laws: the sum tells one byte that is another. -/
import Derived.Test.YtpdelgjfamelfaaGreatJP
namespace Go.Proofs.YtpdelgjfamelfaaGreat
open Go.RowKit Go.Lib Go.Vfs Go.Par Go.Shelf
set_option linter.unusedVariables false
set_option linter.unusedSimpArgs false

theorem bitC_top {v : Nat} (h : v < 4294967296) : (bitC v).testBit 31 = decide (v % 2 = 1) := by
  have hs : (v / 2).testBit 31 = false := Nat.testBit_lt_two_pow (by omega)
  unfold bitC
  split
  · rename_i h1
    rw [Nat.testBit_xor, hs, show Nat.testBit 3988292384 31 = true from by decide]
    simp [h1]
  · rename_i h1
    rw [hs]; simp [h1]
theorem xor_cancel {a b c : Nat} (h : a ^^^ c = b ^^^ c) : a = b := by
  have := congrArg (· ^^^ c) h
  simpa [Nat.xor_assoc] using this
theorem bitC_inj {v u : Nat} (hv : v < 4294967296) (hu : u < 4294967296) (h : bitC v = bitC u) : v = u := by
  have ht : decide (v % 2 = 1) = decide (u % 2 = 1) := by rw [← bitC_top hv, ← bitC_top hu, h]
  have hp : v % 2 = 1 ↔ u % 2 = 1 := by simpa using ht
  unfold bitC at h
  by_cases h1 : v % 2 = 1
  · rw [if_pos h1, if_pos (hp.1 h1)] at h
    have := xor_cancel h
    have := hp.1 h1
    omega
  · have h2 : ¬ u % 2 = 1 := fun e => h1 (hp.2 e)
    rw [if_neg h1, if_neg h2] at h
    omega
theorem bitsC_inj {v u : Nat} (hv : v < 4294967296) (hu : u < 4294967296) : ∀ j, bitsC j v = bitsC j u → v = u
  | 0, h => h
  | j + 1, h => bitsC_inj hv hu j (bitC_inj (bitsC_lt hv j) (bitsC_lt hu j) h)
theorem byteC_inj {v u : Nat} (hv : v < 4294967296) (hu : u < 4294967296) {b : UInt8} (h : byteC v b = byteC u b) : v = u := by
  have hb := b.toNat_lt
  exact xor_cancel (bitsC_inj (xor_lt32 hv (by omega)) (xor_lt32 hu (by omega)) 8 h)
theorem byteC_byte {v : Nat} (hv : v < 4294967296) {b c : UInt8} (h : byteC v b = byteC v c) : b = c := by
  have hb := b.toNat_lt
  have hc := c.toNat_lt
  have e := bitsC_inj (xor_lt32 hv (by omega)) (xor_lt32 hv (by omega)) 8 h
  rw [Nat.xor_comm v, Nat.xor_comm v] at e
  exact UInt8.toNat_inj.1 (xor_cancel e)
theorem runC_inj : ∀ (l : List UInt8) {v u : Nat}, v < 4294967296 → u < 4294967296 → runC v l = runC u l → v = u
  | [], _, _, _, _, h => h
  | b :: l, _, _, hv, hu, h => byteC_inj hv hu (runC_inj l (byteC_lt hv b) (byteC_lt hu b) h)
theorem crc_one {x y : List UInt8} {b c : UInt8} (h : crc (x ++ (b :: y)) = crc (x ++ (c :: y))) : b = c := by
  unfold crc at h
  have h0 : (4294967295 : Nat) < 4294967296 := by omega
  have h1 := runC_lt h0 (x ++ (b :: y))
  have h2 := runC_lt h0 (x ++ (c :: y))
  have e : runC 4294967295 (x ++ (b :: y)) = runC 4294967295 (x ++ (c :: y)) := by omega
  rw [runC_append, runC_append] at e
  have hx := runC_lt h0 x
  exact byteC_byte hx (runC_inj y (byteC_lt hx b) (byteC_lt hx c) e)
theorem four_of : ∀ a : List UInt8, a.length = 4 → ∃ c0 c1 c2 c3, a = [c0, c1, c2, c3]
  | [c0, c1, c2, c3], _ => ⟨c0, c1, c2, c3, rfl⟩
  | [], h | [_], h | [_, _], h | [_, _, _], h | _ :: _ :: _ :: _ :: _ :: _, h => by simp at h
theorem num4_list {n : Nat} (hn : n < 4294967296) (a t : List UInt8) (ha : a.length = 4) (h : num4 (a ++ t) = n) : a = be4 n := by
  obtain ⟨c0, c1, c2, c3, rfl⟩ := four_of a ha
  unfold num4 at h
  simp at h
  have h0 := c0.toNat_lt; have h1 := c1.toNat_lt; have h2 := c2.toNat_lt; have h3 := c3.toNat_lt
  unfold be4
  have a0 : c0 = (n / 16777216 % 256).toUInt8 := UInt8.toNat_inj.1 (by rw [u8_mod]; omega)
  have a1 : c1 = (n / 65536 % 256).toUInt8 := UInt8.toNat_inj.1 (by rw [u8_mod]; omega)
  have a2 : c2 = (n / 256 % 256).toUInt8 := UInt8.toNat_inj.1 (by rw [u8_mod]; omega)
  have a3 : c3 = (n % 256).toUInt8 := UInt8.toNat_inj.1 (by rw [u8_mod]; omega)
  rw [← a0, ← a1, ← a2, ← a3]
/-- where a byte is another, no frame of the same generation and length lies. -/
theorem frAt_turned {b a r : List UInt8} {p : List UInt8} {j : Nat} {v : UInt8} (hp : p.length ≤ 65536) (hj : j < 12 + p.length) (hv : (frameB 0 p)[j]? ≠ some v) (hb : b = a ++ ((frameB 0 p).set j v ++ r)) {x : Fr} (hx : frAt b a.length = some x) (hg : x.gen = 0) : x.pay.length ≠ p.length := by
  intro hn
  have hC := crc_lt (be4 0 ++ be4 p.length ++ p)
  obtain ⟨C, hCe⟩ : ∃ C, C = crc (be4 0 ++ be4 p.length ++ p) := ⟨_, rfl⟩
  rw [← hCe] at hC
  have hF : frameB 0 p = (be4 0 ++ be4 p.length ++ be4 C) ++ p := by unfold frameB; rw [← hCe]
  have hAl : (be4 0 ++ be4 p.length ++ be4 C).length = 12 := rfl
  -- what the frame says
  unfold frAt at hx
  split at hx
  · cases hx
  split at hx
  · cases hx
  split at hx
  · cases hx
  rename_i k1 k2 k3
  cases hx
  simp only [not_or, Nat.not_lt, ne_eq, Decidable.not_not] at k1 k2 k3 hg hn
  have hN : num4 (b.drop (a.length + 4)) = p.length := by rw [List.length_take, List.length_drop] at hn; omega
  rw [hN] at k3
  by_cases hj12 : j < 12
  · have hs : (frameB 0 p).set j v = (be4 0 ++ be4 p.length ++ be4 C).set j v ++ p := by rw [hF, List.set_append_left _ _ (by rw [hAl]; exact hj12)]
    obtain ⟨A', hA'⟩ : ∃ A', A' = (be4 0 ++ be4 p.length ++ be4 C).set j v := ⟨_, rfl⟩
    have hA'l : A'.length = 12 := by rw [hA']; simp [be4_length]
    rw [hs, ← hA'] at hb
    obtain ⟨x0, x1, x2, l0, l1, l2, hA3⟩ : ∃ x0 x1 x2 : List UInt8, x0.length = 4 ∧ x1.length = 4 ∧ x2.length = 4 ∧ A' = x0 ++ (x1 ++ x2) := ⟨A'.take 4, (A'.drop 4).take 4, (A'.drop 4).drop 4, by simp; omega, by simp; omega, by simp; omega, by rw [List.take_append_drop, List.take_append_drop]⟩
    have hb2 : b = a ++ (x0 ++ (x1 ++ (x2 ++ (p ++ r)))) := by rw [hb, hA3]; simp
    have d0 : b.drop a.length = x0 ++ (x1 ++ (x2 ++ (p ++ r))) := by rw [hb2]; simp
    have d4 : b.drop (a.length + 4) = x1 ++ (x2 ++ (p ++ r)) := by rw [hb2, drop_past, List.drop_append_of_le_length (by omega), ← l0]; simp
    have d8 : b.drop (a.length + 8) = x2 ++ (p ++ r) := by
      rw [hb2, drop_past, show (8 : Nat) = (x0 ++ x1).length by simp; omega, ← List.append_assoc]; simp
    have d12 : b.drop (a.length + 12) = p ++ r := by
      rw [hb2, drop_past, show (12 : Nat) = (x0 ++ (x1 ++ x2)).length by simp; omega, show x0 ++ (x1 ++ (x2 ++ (p ++ r))) = (x0 ++ (x1 ++ x2)) ++ (p ++ r) by simp]; simp
    have e0 : x0 = be4 0 := num4_list (by omega) _ _ l0 (by rw [← d0]; exact hg)
    have e1 : x1 = be4 p.length := num4_list (by omega) _ _ l1 (by rw [← d4]; exact hN)
    have t8 : (b.drop a.length).take 8 = be4 0 ++ be4 p.length := by rw [d0, e0, e1]; rfl
    have tp : (b.drop (a.length + 12)).take p.length = p := by rw [d12]; simp
    rw [t8, tp, ← hCe] at k3
    have e2 : x2 = be4 C := num4_list hC _ _ l2 (by rw [← d8]; exact k3.symm)
    have hA : A' = be4 0 ++ be4 p.length ++ be4 C := by rw [hA3, e0, e1, e2]; rfl
    apply hv
    rw [hF, List.getElem?_append_left (by rw [hAl]; exact hj12), ← hA, hA', List.getElem?_set_self (by rw [hAl]; exact hj12)]
  · obtain ⟨k, rfl⟩ : ∃ k, j = 12 + k := ⟨j - 12, by omega⟩
    have hk : k < p.length := by omega
    have hs : (frameB 0 p).set (12 + k) v = (be4 0 ++ be4 p.length ++ be4 C) ++ p.set k v := by rw [hF, List.set_append_right _ _ (by rw [hAl]; omega), hAl]; simp
    rw [hs] at hb
    have hb2 : b = a ++ (be4 0 ++ (be4 p.length ++ (be4 C ++ (p.set k v ++ r)))) := by rw [hb]; simp
    have t8 : (b.drop a.length).take 8 = be4 0 ++ be4 p.length := by
      have d0 : b.drop a.length = be4 0 ++ (be4 p.length ++ (be4 C ++ (p.set k v ++ r))) := by rw [hb2]; simp
      rw [d0]; rfl
    have d8 : b.drop (a.length + 8) = be4 C ++ (p.set k v ++ r) := by rw [hb2, drop_past]; rfl
    have d12 : b.drop (a.length + 12) = p.set k v ++ r := by rw [hb2, drop_past]; rfl
    have tp : (b.drop (a.length + 12)).take p.length = p.set k v := by
      rw [d12]
      have : p.length = (p.set k v).length := by simp
      rw [this]; simp
    have n8 : num4 (b.drop (a.length + 8)) = C := by rw [d8, num4_be4 _ hC]
    rw [t8, tp, n8, hCe] at k3
    have es : p.set k v = p.take k ++ v :: p.drop (k + 1) := by rw [List.set_eq_take_append_cons_drop, if_pos hk]
    have ep : p.take k ++ p[k] :: p.drop (k + 1) = p := by simp
    have k4 : crc ((be4 0 ++ be4 p.length ++ p.take k) ++ (v :: p.drop (k + 1))) = crc ((be4 0 ++ be4 p.length ++ p.take k) ++ (p[k] :: p.drop (k + 1))) := by
      rw [es] at k3
      rw [List.append_assoc (be4 0 ++ be4 p.length), k3, List.append_assoc (be4 0 ++ be4 p.length), ep]
    have hvk := crc_one k4
    apply hv
    rw [hF, List.getElem?_append_right (by rw [hAl]; omega), hAl, hvk]
    simp [hk]
/-- what is read of a log of which one byte is another. -/
theorem frs_turned {b b' : List UInt8} {rows : List (List UInt8)} (hp : ∀ p ∈ rows, p.length ≤ 65536) (hb : b = encR 0 rows) {i : Nat} {v : UInt8} (hi : i < b.length) (hv : b[i]? ≠ some v) (hb' : b' = b.set i v) {W : Nat} (hW : W < rows.length)
    (h1 : (encR 0 (rows.take W)).length ≤ i) (h2 : i < (encR 0 (rows.take (W + 1))).length) :
    ∃ l2, pays (sameGen 0 (frs b')) = rows.take W ++ l2 ∧ ∀ x, l2.head? = some x → x.length ≠ (rows.getD W []).length := by
  obtain ⟨p, hpe⟩ : ∃ p, p = rows[W] := ⟨_, rfl⟩
  have hpg : rows.getD W [] = p := by rw [hpe]; simp [List.getD_eq_getElem?_getD, hW]
  have hrs : rows = rows.take W ++ (p :: rows.drop (W + 1)) := by rw [hpe]; simp
  have ht1 : rows.take (W + 1) = rows.take W ++ [p] := by rw [hpe, List.take_succ_eq_append_getElem hW]
  rw [ht1, encR_snoc, List.length_append, frameB_length] at h2
  obtain ⟨E, hE⟩ : ∃ E, E = encR 0 (rows.take W) := ⟨_, rfl⟩
  have hbE : b = E ++ (frameB 0 p ++ encR 0 (rows.drop (W + 1))) := by
    rw [hb, hE]
    conv => lhs; rw [hrs]
    rw [encR_append, encR_cons]
  rw [← hE] at h1 h2
  obtain ⟨j, rfl⟩ : ∃ j, i = E.length + j := ⟨i - E.length, by omega⟩
  have hj : j < 12 + p.length := by omega
  have hb2 : b' = E ++ ((frameB 0 p).set j v ++ encR 0 (rows.drop (W + 1))) := by
    rw [hb', hbE, List.set_append_right _ _ (by omega), Nat.add_sub_cancel_left, List.set_append_left _ _ (by rw [frameB_length]; exact hj)]
  have hvF : (frameB 0 p)[j]? ≠ some v := by
    rw [hbE, List.getElem?_append_right (by omega), Nat.add_sub_cancel_left, List.getElem?_append_left (by rw [frameB_length]; exact hj)] at hv
    exact hv
  have hpl : p.length ≤ 65536 := hp p (by rw [hrs]; simp)
  have hc := encR_count 0 (rows.take W)
  rw [← hE] at hc
  have hlen : E.length ≤ b'.length := by rw [hb2]; simp
  have hf := frsF_enc (b := b') (g := 0) (by omega) (rows.take W) [] ((frameB 0 p).set j v ++ encR 0 (rows.drop (W + 1))) (b'.length + 1) 0 (by rw [← hE]; exact hb2) rfl (fun y hy => hp y (List.mem_of_mem_take hy)) (by omega)
  rw [← hE, Nat.zero_add] at hf
  obtain ⟨f, hfe⟩ : ∃ f, b'.length + 1 - (rows.take W).length = f + 1 := ⟨b'.length - (rows.take W).length, by omega⟩
  rw [hfe] at hf
  have key : (sameGen 0 (frs b')).map (·.1) = frL 0 0 (rows.take W) ++ (((frsF b' (f + 1) E.length).map (·.1)).takeWhile fun x => x.gen == 0) := by
    have e : (sameGen 0 (frs b')).map (·.1) = ((frs b').map (·.1)).takeWhile fun x => x.gen == 0 := by unfold sameGen; rw [List.takeWhile_map]; rfl
    rw [e]
    unfold frs
    rw [hf, List.takeWhile_append_of_pos]
    intro x hx
    simpa using frL_gens 0 0 _ x hx
  refine ⟨(((frsF b' (f + 1) E.length).map (·.1)).takeWhile fun x => x.gen == 0).map Fr.pay, ?_, ?_⟩
  · have : pays (sameGen 0 (frs b')) = ((sameGen 0 (frs b')).map (·.1)).map Fr.pay := by simp [pays]
    rw [this, key, List.map_append, frL_pays]
  · intro x hx
    rw [hpg]
    cases hA : frAt b' E.length with
    | none => rw [frsF_none hA] at hx; simp at hx
    | some y =>
      rw [frsF_some hA, List.map_cons, List.takeWhile_cons] at hx
      split at hx
      · rename_i hg
        simp at hx
        subst hx
        exact frAt_turned hpl hj hvF hb2 hA (by simpa using hg)
      · simp at hx
end Go.Proofs.YtpdelgjfamelfaaGreat
