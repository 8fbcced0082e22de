/- Plain: the common front and back of two texts, by bytes and by runes. No program in sight. -/
import Derived.Test.YtdldkidccjkhgaaDoorTextAppliesWalk
namespace Go.Proofs.YtdldkidccjkhgaaDoor
open Go.Par Go.Lib
set_option linter.unusedVariables false

/-- a text that begins as a text goes on as one. -/
theorem txt_front : ∀ (a b : List Int) (rest : List UInt8), AllR a → AllR b → txt b = txt a ++ rest → ∃ c, b = a ++ c ∧ rest = txt c
  | [], b, rest, _, _, h => ⟨b, rfl, by simpa [txt] using h.symm⟩
  | r :: a, [], rest, ha, _, h => by
    exfalso
    have h1 := enc_pos r
    have h2 := congrArg List.length h
    rw [txt_cons] at h2
    simp [txt] at h2
    omega
  | r :: a, q :: b, rest, ha, hb, h => by
    rw [txt_cons, txt_cons, List.append_assoc] at h
    obtain ⟨e, h2⟩ := enc_cancel hb.head ha.head h
    obtain ⟨c, e2, e3⟩ := txt_front a b rest ha.tail hb.tail h2
    exact ⟨c, by rw [e, e2]; rfl, e3⟩

/-- can a byte begin a rune? -/
def startB (c : UInt8) : Bool := ! decide (128 ≤ c.toNat ∧ c.toNat < 192)
theorem startB_u8 (z : Int) (h0 : 0 ≤ z) (h1 : z < 256) : startB z.toNat.toUInt8 = ! decide (128 ≤ z ∧ z < 192) := by
  unfold startB
  rw [u8_of z h0 h1]
  congr 1
  rw [decide_eq_decide]
  omega
theorem enc_shape {r : Int} (hr : isR r = true) : ∃ c cs, encodeRune r = c :: cs ∧ startB c = true ∧ ∀ x ∈ cs, startB x = false := by
  have hb := isR_iff.1 hr
  have key : ∀ z : Int, 192 ≤ z → z < 256 → startB z.toNat.toUInt8 = true := fun z h0 h1 => by
    rw [startB_u8 z (by omega) h1]; simp; omega
  have keyc : ∀ z : Int, 128 ≤ z → z < 192 → startB z.toNat.toUInt8 = false := fun z h0 h1 => by
    rw [startB_u8 z (by omega) (by omega)]; simp; omega
  have d1 : r % 64 < 64 := by omega
  have d1' : 0 ≤ r % 64 := by omega
  have d2 : r / 64 % 64 < 64 := by omega
  have d2' : 0 ≤ r / 64 % 64 := by omega
  have d3 : r / 4096 % 64 < 64 := by omega
  have d3' : 0 ≤ r / 4096 % 64 := by omega
  unfold encodeRune encodeRuneZ
  split
  · refine ⟨_, [], rfl, ?_, by simp⟩
    rw [startB_u8 r (by omega) (by omega)]; simp; omega
  · split
    · refine ⟨_, _, rfl, key _ (by omega) (by omega), ?_⟩
      simp only [List.map_cons, List.map_nil, List.mem_singleton, forall_eq]
      exact keyc _ (by omega) (by omega)
    · split
      · refine ⟨_, _, rfl, key _ (by omega) (by omega), ?_⟩
        simp only [List.map_cons, List.map_nil, List.mem_cons, List.not_mem_nil, or_false, forall_eq_or_imp, forall_eq]
        exact ⟨keyc _ (by omega) (by omega), keyc _ (by omega) (by omega)⟩
      · split
        · refine ⟨_, _, rfl, key _ (by omega) (by omega), ?_⟩
          simp only [List.map_cons, List.map_nil, List.mem_cons, List.not_mem_nil, or_false, forall_eq_or_imp, forall_eq]
          exact ⟨keyc _ (by omega) (by omega), keyc _ (by omega) (by omega), keyc _ (by omega) (by omega)⟩
        · exfalso; omega

theorem plc_cons (r : Int) (rs : List Int) (k : Nat) : (plc (r :: rs) (k + 1)).1 = (encodeRune r).length + (plc rs k).1 := by
  simp [plc, txt_cons]
theorem start_at : ∀ (rs : List Int), AllR rs → ∀ i, i < (txt rs).length → (startB ((txt rs).getD i 0) = true ↔ ∃ k, k < rs.length ∧ (plc rs k).1 = i)
  | [], _, i, h => by simp [txt] at h
  | r :: rs, ha, i, h => by
    obtain ⟨c, cs, e, hc, hcs⟩ := enc_shape ha.head
    rw [txt_cons] at h ⊢
    by_cases hi : i < (encodeRune r).length
    · rw [List.getD_eq_getElem?_getD, List.getElem?_append_left hi, ← List.getD_eq_getElem?_getD]
      cases i with
      | zero =>
        rw [e]
        exact ⟨fun _ => ⟨0, by simp, rfl⟩, fun _ => hc⟩
      | succ i =>
        have hf : startB ((encodeRune r).getD (i + 1) 0) = false := by
          rw [e] at hi ⊢
          have h1 : i < cs.length := by simpa using hi
          have h2 : (c :: cs).getD (i + 1) 0 = cs[i] := by
            rw [List.getD_cons_succ, List.getD_eq_getElem?_getD, List.getElem?_eq_getElem h1]; rfl
          rw [h2]
          exact hcs _ (List.getElem_mem h1)
        rw [hf]
        constructor
        · intro h; cases h
        · rintro ⟨k, hk, hp⟩
          cases k with
          | zero => simp [plc, txt] at hp
          | succ k => rw [plc_cons] at hp; omega
    · have hge : (encodeRune r).length ≤ i := by omega
      have hp1 := enc_pos r
      rw [List.getD_eq_getElem?_getD, List.getElem?_append_right hge, ← List.getD_eq_getElem?_getD]
      have ih := start_at rs ha.tail (i - (encodeRune r).length) (by rw [List.length_append] at h; omega)
      rw [ih]
      constructor
      · rintro ⟨k, hk, hp⟩
        exact ⟨k + 1, by simpa using hk, by rw [plc_cons]; omega⟩
      · rintro ⟨k, hk, hp⟩
        cases k with
        | zero => simp [plc, txt] at hp; omega
        | succ k => rw [plc_cons] at hp; exact ⟨k, by simpa using hk, by omega⟩

/- the common front, the common back. -/
structure IsN (a b : List Int) (n : Nat) : Prop where
  la : n ≤ a.length
  lb : n ≤ b.length
  eq : a.take n = b.take n
  stop : n < a.length → n < b.length → a.getD n 0 ≠ b.getD n 0
structure IsM (a b : List Int) (n m : Nat) : Prop where
  la : m ≤ a.length - n
  lb : m ≤ b.length - n
  eq : a.drop (a.length - m) = b.drop (b.length - m)
  stop : m < a.length - n → m < b.length - n → a.getD (a.length - 1 - m) 0 ≠ b.getD (b.length - 1 - m) 0

theorem grow (P S : Nat → Prop) (B : Nat) (hb : ∀ k, P k → k ≤ B) (hs : ∀ k, P k → S k ∨ P (k + 1)) : ∀ d k, P k → B - k ≤ d → ∃ k, P k ∧ S k
  | 0, k, hk, hd => by
    rcases hs k hk with h | h
    · exact ⟨k, hk, h⟩
    · have := hb _ h; omega
  | d + 1, k, hk, hd => by
    rcases hs k hk with h | h
    · exact ⟨k, hk, h⟩
    · exact grow P S B hb hs d (k + 1) h (by omega)
theorem back_step (a : List Int) (m : Nat) (h : m < a.length) : a.drop (a.length - (m + 1)) = a.getD (a.length - 1 - m) 0 :: a.drop (a.length - m) := by
  rw [drop_cons (by omega)]
  congr 2 <;> omega
theorem isN_ex (a b : List Int) : ∃ n, IsN a b n := by
  obtain ⟨n, ⟨h1, h2, h3⟩, h4⟩ := grow (fun n => n ≤ a.length ∧ n ≤ b.length ∧ a.take n = b.take n) (fun n => n < a.length → n < b.length → a.getD n 0 ≠ b.getD n 0) a.length (fun k h => h.1)
    (fun k ⟨h1, h2, h3⟩ => by
      by_cases h : k < a.length ∧ k < b.length ∧ a.getD k 0 = b.getD k 0
      · right
        exact ⟨by omega, by omega, by rw [take_getD a k h.1, take_getD b k h.2.1, h3, h.2.2]⟩
      · left; intro x y e; exact h ⟨x, y, e⟩) a.length 0 ⟨by omega, by omega, by simp⟩ (by omega)
  exact ⟨n, h1, h2, h3, h4⟩
theorem isM_ex (a b : List Int) (n : Nat) : ∃ m, IsM a b n m := by
  obtain ⟨m, ⟨h1, h2, h3⟩, h4⟩ := grow (fun m => m ≤ a.length - n ∧ m ≤ b.length - n ∧ a.drop (a.length - m) = b.drop (b.length - m)) (fun m => m < a.length - n → m < b.length - n → a.getD (a.length - 1 - m) 0 ≠ b.getD (b.length - 1 - m) 0) a.length (fun k h => by omega)
    (fun k ⟨h1, h2, h3⟩ => by
      by_cases h : k < a.length - n ∧ k < b.length - n ∧ a.getD (a.length - 1 - k) 0 = b.getD (b.length - 1 - k) 0
      · right
        exact ⟨by omega, by omega, by rw [back_step a k (by omega), back_step b k (by omega), h3, h.2.2]⟩
      · left; intro x y e; exact h ⟨x, y, e⟩) a.length 0 ⟨by omega, by omega, by simp⟩ (by omega)
  exact ⟨m, h1, h2, h3, h4⟩
theorem take_at {a b : List Int} {n k : Nat} (h : a.take n = b.take n) (hk : k < n) : a.getD k 0 = b.getD k 0 := by
  have := congrArg (·[k]?) h
  simp only [List.getElem?_take_of_lt hk] at this
  rw [List.getD_eq_getElem?_getD, List.getD_eq_getElem?_getD, this]
theorem take_lt {a b : List UInt8} {n k : Nat} (h : a.take n = b.take n) (hk : k < n) : a.getD k 0 = b.getD k 0 := by
  have := congrArg (·[k]?) h
  simp only [List.getElem?_take_of_lt hk] at this
  rw [List.getD_eq_getElem?_getD, List.getD_eq_getElem?_getD, this]
theorem IsN.uniq {a b : List Int} {n n' : Nat} (h : IsN a b n) (h' : IsN a b n') : n = n' := by
  rcases Nat.lt_trichotomy n n' with hl | hl | hl
  · exact absurd (take_at h'.eq hl) (h.stop (by have := h'.la; omega) (by have := h'.lb; omega))
  · exact hl
  · exact absurd (take_at h.eq hl) (h'.stop (by have := h.la; omega) (by have := h.lb; omega))
theorem drop_back {α : Type} {a b : List α} {m k : Nat} (h : a.drop (a.length - m) = b.drop (b.length - m)) (ha : m ≤ a.length) (hb : m ≤ b.length) (hk : k < m) (d : α) : a.getD (a.length - 1 - k) d = b.getD (b.length - 1 - k) d := by
  have := congrArg (·[m - 1 - k]?) h
  simp only [List.getElem?_drop] at this
  rw [List.getD_eq_getElem?_getD, List.getD_eq_getElem?_getD]
  rw [show a.length - 1 - k = a.length - m + (m - 1 - k) by omega, show b.length - 1 - k = b.length - m + (m - 1 - k) by omega, this]
theorem IsM.uniq {a b : List Int} {n m m' : Nat} (h : IsM a b n m) (h' : IsM a b n m') : m = m' := by
  rcases Nat.lt_trichotomy m m' with hl | hl | hl
  · have h1 := h'.la
    have h2 := h'.lb
    exact absurd (drop_back h'.eq (by omega) (by omega) hl 0) (h.stop (by omega) (by omega))
  · exact hl
  · have h1 := h.la
    have h2 := h.lb
    exact absurd (drop_back h.eq (by omega) (by omega) hl 0) (h'.stop (by omega) (by omega))

/- by bytes: the front. -/
theorem plc_n {a b : List Int} {n : Nat} (h : IsN a b n) : (plc b n).1 = (plc a n).1 := by unfold plc; rw [h.eq]
theorem front_le {a b : List Int} {n k : Nat} (h : IsN a b n) (hst : k < (txt a).length → k < (txt b).length → (txt a).getD k 0 ≠ (txt b).getD k 0) : (plc a n).1 ≤ k := by
  rcases Nat.lt_or_ge k (plc a n).1 with hl | hl
  · exfalso
    have h1 := plc_le a n
    have h2 := plc_le b n
    rw [plc_n h] at h2
    refine hst (by omega) (by omega) (take_lt (n := (plc a n).1) ?_ hl)
    have h3 := take_txt b n
    rw [plc_n h] at h3
    rw [take_txt a n, h3, h.eq]
  · exact hl
theorem bound_at {rs : List Int} (ha : AllR rs) {i : Nat} (hi : i ≤ (txt rs).length) (h : i < (txt rs).length → startB ((txt rs).getD i 0) = true) : ∃ k, k ≤ rs.length ∧ (plc rs k).1 = i := by
  by_cases hl : i < (txt rs).length
  · obtain ⟨k, hk, hp⟩ := (start_at rs ha i hl).1 (h hl)
    exact ⟨k, by omega, hp⟩
  · exact ⟨rs.length, Nat.le_refl _, by unfold plc; rw [take_all]; show (txt rs).length = i; omega⟩
theorem front_eq {a b : List Int} (ha : AllR a) (hb : AllR b) {n k f : Nat} (h : IsN a b n) (hk : (txt a).take k = (txt b).take k) (hka : k ≤ (txt a).length) (hkb : k ≤ (txt b).length) (h1 : (plc a n).1 ≤ f) (h2 : f ≤ k)
    (hs : f < (txt a).length → startB ((txt a).getD f 0) = true) : f = (plc a n).1 := by
  obtain ⟨j, hj, hp⟩ := bound_at ha (by omega) hs
  have hnj : n ≤ j := by
    rcases Nat.lt_or_ge j n with hl | hl
    · have := (plc_lt a ha hl h.la).1; omega
    · exact hl
  rcases Nat.eq_or_lt_of_le hnj with rfl | hlt
  · exact hp.symm
  · exfalso
    have e1 : (txt b).take f = txt (a.take j) := by
      rw [← take_txt a j, hp]
      have := congrArg (List.take f) hk
      rw [List.take_take, List.take_take, Nat.min_eq_left h2] at this
      exact this.symm
    have e2 : txt b = txt (a.take j) ++ (txt b).drop f := by rw [← e1, List.take_append_drop]
    obtain ⟨c, hc, _⟩ := txt_front _ _ _ (ha.take j) hb e2
    have hlen : (a.take j).length = j := by simp; omega
    have hbl : j ≤ b.length := by rw [hc, List.length_append, hlen]; omega
    have hbj : b.take j = a.take j := by rw [hc, ← hlen]; simp
    exact h.stop (by omega) (by omega) (take_at (hbj.symm) hlt)
theorem front_start {a : List Int} (ha : AllR a) {n : Nat} (hn : n ≤ a.length) (h : (plc a n).1 < (txt a).length) : startB ((txt a).getD (plc a n).1 0) = true := by
  rw [start_at a ha _ h]
  refine ⟨n, ?_, rfl⟩
  rcases Nat.eq_or_lt_of_le hn with rfl | hl
  · exfalso; unfold plc at h; rw [take_all] at h; exact Nat.lt_irrefl _ h
  · exact hl

/- by bytes: the back. -/
def eb (a : List Int) (m : Nat) : Nat := (txt a).length - (plc a (a.length - m)).1
theorem eb_drop (a : List Int) (m : Nat) : eb a m = (txt (a.drop (a.length - m))).length := by
  rw [← drop_txt, List.length_drop]; rfl
theorem eb_le (a : List Int) (m : Nat) : eb a m ≤ (txt a).length := Nat.sub_le _ _
theorem eb_eq {a b : List Int} {n m : Nat} (h : IsM a b n m) : eb b m = eb a m := by rw [eb_drop, eb_drop, h.eq]
theorem eb_most {a b : List Int} (ha : AllR a) (hb : AllR b) {n m : Nat} (hN : IsN a b n) (h : IsM a b n m) : eb a m ≤ (txt a).length - (plc a n).1 ∧ eb a m ≤ (txt b).length - (plc a n).1 := by
  have h1 := h.la
  have h2 := h.lb
  have h3 := hN.la
  have h4 := hN.lb
  have p1 := plc_mono a ha (i := n) (j := a.length - m) (by omega) (by omega)
  have p2 := plc_mono b hb (i := n) (j := b.length - m) (by omega) (by omega)
  rw [plc_n hN] at p2
  refine ⟨?_, ?_⟩
  · unfold eb; omega
  · rw [← eb_eq h]; unfold eb; omega
theorem back_txt {a : List Int} (m : Nat) : (txt a).drop ((txt a).length - eb a m) = txt (a.drop (a.length - m)) := by
  rw [← drop_txt]
  have := plc_le a (a.length - m)
  congr 1
  unfold eb; omega
theorem back_le {a b : List Int} (ha : AllR a) (hb : AllR b) {n m k : Nat} (hN : IsN a b n) (h : IsM a b n m)
    (hst : k < (txt a).length - (plc a n).1 → k < (txt b).length - (plc a n).1 → (txt a).getD ((txt a).length - 1 - k) 0 ≠ (txt b).getD ((txt b).length - 1 - k) 0) : eb a m ≤ k := by
  rcases Nat.lt_or_ge k (eb a m) with hl | hl
  · exfalso
    obtain ⟨h1, h2⟩ := eb_most ha hb hN h
    have h3 := eb_le a m
    have h4 := eb_le b m
    rw [eb_eq h] at h4
    refine hst (by omega) (by omega) (drop_back (m := eb a m) ?_ h3 h4 hl 0)
    rw [back_txt]
    have := back_txt (a := b) m
    rw [eb_eq h] at this
    rw [this, h.eq]
  · exact hl
theorem back_eq {a b : List Int} (ha : AllR a) (hb : AllR b) {n m k f : Nat} (hN : IsN a b n) (h : IsM a b n m) (hk : (txt a).drop ((txt a).length - k) = (txt b).drop ((txt b).length - k))
    (hka : k ≤ (txt a).length - (plc a n).1) (hkb : k ≤ (txt b).length - (plc a n).1) (h1 : eb a m ≤ f) (h2 : f ≤ k)
    (hs : 0 < f → startB ((txt a).getD ((txt a).length - f) 0) = true) : f = eb a m := by
  have hla := plc_le a n
  have hlb := plc_le b n
  rw [plc_n hN] at hlb
  rcases Nat.eq_zero_or_pos f with rfl | hf
  · omega
  obtain ⟨j, hj, hp⟩ := (start_at a ha ((txt a).length - f) (by omega)).1 (hs hf)
  have hf2 : (txt b).getD ((txt b).length - f) 0 = (txt a).getD ((txt a).length - f) 0 := by
    have := drop_back hk (by omega) (by omega) (k := f - 1) (by omega) 0
    rw [show (txt a).length - 1 - (f - 1) = (txt a).length - f by omega, show (txt b).length - 1 - (f - 1) = (txt b).length - f by omega] at this
    exact this.symm
  obtain ⟨j', hj', hp'⟩ := (start_at b hb ((txt b).length - f) (by omega)).1 (by rw [hf2]; exact hs hf)
  have hdd : a.drop j = b.drop j' := by
    apply txt_inj (ha.drop j) (hb.drop j')
    rw [← drop_txt, ← drop_txt, hp, hp']
    have := congrArg (List.drop (k - f)) hk
    rw [List.drop_drop, List.drop_drop] at this
    rw [show (txt a).length - k + (k - f) = (txt a).length - f by omega, show (txt b).length - k + (k - f) = (txt b).length - f by omega] at this
    exact this
  have hlen := congrArg List.length hdd
  rw [List.length_drop, List.length_drop] at hlen
  have hnj : n ≤ j := by
    rcases Nat.lt_or_ge j n with hl | hl
    · have := (plc_lt a ha hl hN.la).1; omega
    · exact hl
  have hnj' : n ≤ j' := by
    rcases Nat.lt_or_ge j' n with hl | hl
    · have := (plc_lt b hb hl hN.lb).1; rw [plc_n hN] at this; omega
    · exact hl
  have h3 := h.la
  have h4 := h.lb
  have hjm : j ≤ a.length - m := by
    rcases Nat.lt_or_ge (a.length - m) j with hl | hl
    · have := (plc_lt a ha hl (by omega)).1
      unfold eb at h1
      have := plc_le a j
      omega
    · exact hl
  rcases Nat.eq_or_lt_of_le hjm with hje | hlt
  · unfold eb; rw [← hje, hp]; omega
  · exfalso
    refine h.stop (by omega) (by omega) ?_
    have h5 : a.drop (a.length - (a.length - j)) = b.drop (b.length - (a.length - j)) := by
      rw [show a.length - (a.length - j) = j by omega, show b.length - (a.length - j) = j' by omega]; exact hdd
    exact drop_back h5 (by omega) (by omega) (by omega) 0
theorem back_start {a : List Int} (ha : AllR a) {m : Nat} (h : 0 < eb a m) : startB ((txt a).getD ((txt a).length - eb a m) 0) = true := by
  have h1 := plc_le a (a.length - m)
  have h2 : (txt a).length - eb a m = (plc a (a.length - m)).1 := by unfold eb; omega
  rw [h2]
  exact front_start ha (by omega) (by unfold eb at h; omega)

/-- the new runes. -/
def midN (b : List Int) (n m : Nat) : List Int := (b.drop n).take (b.length - m - n)
theorem mid_txt {a b : List Int} (ha : AllR a) (hb : AllR b) {n m : Nat} (hN : IsN a b n) (h : IsM a b n m) : ((txt b).drop (plc a n).1).take ((txt b).length - eb a m - (plc a n).1) = txt (midN b n m) := by
  have h3 := h.lb
  have h4 := hN.lb
  have hd : b.drop n = midN b n m ++ b.drop (b.length - m) := by
    unfold midN
    conv => lhs; rw [← List.take_append_drop (b.length - m - n) (b.drop n)]
    rw [List.drop_drop]
    congr 2
    omega
  have h5 : (txt b).drop (plc a n).1 = txt (midN b n m) ++ txt (b.drop (b.length - m)) := by
    rw [← plc_n hN, drop_txt, hd, txt_append]
  have h6 := eb_drop b m
  rw [eb_eq h] at h6
  rw [h5]
  have h7 := congrArg List.length h5
  rw [List.length_drop, List.length_append, ← h6] at h7
  rw [show (txt b).length - eb a m - (plc a n).1 = (txt (midN b n m)).length by omega]
  exact List.take_left
end Go.Proofs.YtdldkidccjkhgaaDoor
