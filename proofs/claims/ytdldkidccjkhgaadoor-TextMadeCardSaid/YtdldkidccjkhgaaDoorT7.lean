/- Plain: the places of a text by lines and units; the line feed among the bytes of a text. No program in sight. -/
import Derived.Test.YtdldkidccjkhgaaDoorRefO
namespace Go.Proofs.YtdldkidccjkhgaaDoor
open Go.Par Go.Lib
set_option linter.unusedVariables false

def stepT (p : Nat × Nat) (r : Int) : Nat × Nat := if r = 10 then (p.1 + 1, 0) else (p.1, p.2 + (unitsZ r).length)
/-- the line and the unit of the k-th place. -/
def posT (rs : List Int) (k : Nat) : Nat × Nat := (rs.take k).foldl stepT (0, 0)

theorem posT_zero (rs : List Int) : posT rs 0 = (0, 0) := rfl
theorem posT_step (rs : List Int) (k : Nat) (hk : k < rs.length) : posT rs (k + 1) = stepT (posT rs k) (rs.getD k 0) := by
  unfold posT
  rw [take_getD rs k hk, List.foldl_append]
  rfl

def ltT (p q : Nat × Nat) : Prop := p.1 < q.1 ∨ (p.1 = q.1 ∧ p.2 < q.2)
theorem ltT.trans {p q r : Nat × Nat} (h : ltT p q) (k : ltT q r) : ltT p r := by unfold ltT at *; omega
theorem ltT.irr {p : Nat × Nat} (h : ltT p p) : False := by unfold ltT at *; omega
theorem ltT_step (p : Nat × Nat) (r : Int) : ltT p (stepT p r) := by
  unfold ltT stepT
  have := unitsZ_len r
  split
  · left; simp
  · right; simp; split at this <;> omega

theorem posT_lt (rs : List Int) {i j : Nat} (h : i < j) (hj : j ≤ rs.length) : ltT (posT rs i) (posT rs j) := by
  induction j with
  | zero => omega
  | succ j ih =>
    have hs := posT_step rs j (by omega)
    have h1 := ltT_step (posT rs j) (rs.getD j 0)
    rw [← hs] at h1
    by_cases e : i = j
    · subst e; exact h1
    · exact (ih (by omega) (by omega)).trans h1
theorem posT_inj (rs : List Int) {i j : Nat} (hi : i ≤ rs.length) (hj : j ≤ rs.length) (h : posT rs i = posT rs j) : i = j := by
  rcases Nat.lt_trichotomy i j with hl | hl | hl
  · have := posT_lt rs hl hj; rw [h] at this; exact this.irr.elim
  · exact hl
  · have := posT_lt rs hl hi; rw [h] at this; exact this.irr.elim
theorem posT_le (rs : List Int) {i j : Nat} (hi : i ≤ rs.length) (h : ¬ ltT (posT rs j) (posT rs i)) : i ≤ j := by
  rcases Nat.lt_or_ge j i with hl | hl
  · exact absurd (posT_lt rs hl hi) h
  · exact hl

/-- without a line feed only the units grow. -/
theorem fold_line : ∀ (a : List Int) (p : Nat × Nat), (10 : Int) ∉ a → a.foldl stepT p = (p.1, p.2 + (units a).length)
  | [], p, _ => by simp [units]
  | r :: a, p, h => by
    have hr : ¬ r = 10 := fun e => h (by simp [e])
    rw [List.foldl_cons, fold_line a _ (fun hm => h (by simp [hm])), units_cons]
    simp [stepT, hr, Nat.add_assoc]

/-- the line that begins at k. -/
def LineAt (rs : List Int) (k : Nat) (a : List Int) : Prop := (10 : Int) ∉ a ∧ ∃ b, rs.drop k = a ++ b ∧ (b = [] ∨ ∃ c, b = 10 :: c)

theorem line_cut : ∀ qs : List Int, ∃ a b, qs = a ++ b ∧ (10 : Int) ∉ a ∧ (b = [] ∨ ∃ c, b = 10 :: c)
  | [] => ⟨[], [], rfl, by simp, .inl rfl⟩
  | r :: qs => by
    by_cases h : r = 10
    · subst h; exact ⟨[], _, rfl, by simp, .inr ⟨qs, rfl⟩⟩
    · obtain ⟨a, b, e, ha, hb⟩ := line_cut qs
      refine ⟨r :: a, b, by rw [e]; rfl, ?_, hb⟩
      simp; exact ⟨fun e => h e.symm, ha⟩

theorem LineAt.len {rs : List Int} {k : Nat} {a : List Int} (h : LineAt rs k a) (hk : k ≤ rs.length) : k + a.length ≤ rs.length := by
  obtain ⟨_, b, e, _⟩ := h
  have := congrArg List.length e
  simp at this
  omega
theorem LineAt.take {rs : List Int} {k : Nat} {a : List Int} (h : LineAt rs k a) (hk : k ≤ rs.length) (j : Nat) (hj : j ≤ a.length) : rs.take (k + j) = rs.take k ++ a.take j := by
  obtain ⟨_, b, e, _⟩ := h
  have h1 : rs = rs.take k ++ (a ++ b) := by rw [← e, List.take_append_drop]
  have h2 : (rs.take k).length = k := by simp; omega
  conv => lhs; rw [h1]
  rw [List.take_append, h2, List.take_of_length_le (by omega), Nat.add_sub_cancel_left, List.take_append_of_le_length hj]
theorem LineAt.pos {rs : List Int} {k : Nat} {a : List Int} (h : LineAt rs k a) (hk : k ≤ rs.length) (j : Nat) (hj : j ≤ a.length) : posT rs (k + j) = ((posT rs k).1, (posT rs k).2 + (plc a j).2) := by
  unfold posT plc
  rw [h.take hk j hj, List.foldl_append, fold_line _ _ (fun hm => h.1 (List.mem_of_mem_take hm))]
theorem LineAt.off {rs : List Int} {k : Nat} {a : List Int} (h : LineAt rs k a) (hk : k ≤ rs.length) (j : Nat) (hj : j ≤ a.length) : (plc rs (k + j)).1 = (plc rs k).1 + (plc a j).1 := by
  unfold plc
  rw [h.take hk j hj, txt_append]
  simp
/-- behind a line: the next, or the end. -/
theorem LineAt.next {rs : List Int} {k : Nat} {a : List Int} (h : LineAt rs k a) (hk : k ≤ rs.length) : k + a.length = rs.length ∨ (k + a.length < rs.length ∧ rs.getD (k + a.length) 0 = 10) := by
  obtain ⟨_, b, e, hb⟩ := h
  have h1 := congrArg List.length e
  simp at h1
  rcases hb with rfl | ⟨c, rfl⟩
  · left; simp at h1; omega
  · right
    simp at h1
    refine ⟨by omega, ?_⟩
    have := congrArg (·[a.length]?) e
    simp [List.getElem?_drop] at this
    rw [List.getD_eq_getElem?_getD, this]; rfl

/- the place at a line and a unit; the place at a byte. -/
def IsT (rs : List Int) (line char : Int) : Option Nat → Prop
  | some k => k ≤ rs.length ∧ ((posT rs k).1 : Int) = line ∧ ((posT rs k).2 : Int) = char
  | none => ∀ k, k ≤ rs.length → ¬ (((posT rs k).1 : Int) = line ∧ ((posT rs k).2 : Int) = char)
def IsO (rs : List Int) (off : Int) : Option Nat → Prop
  | some k => k ≤ rs.length ∧ ((plc rs k).1 : Int) = off
  | none => ∀ k, k ≤ rs.length → ¬ ((plc rs k).1 : Int) = off
theorem isT_ex (rs : List Int) (line char : Int) : ∃ o, IsT rs line char o := by
  by_cases h : ∃ k, k ≤ rs.length ∧ ((posT rs k).1 : Int) = line ∧ ((posT rs k).2 : Int) = char
  · obtain ⟨k, hk⟩ := h; exact ⟨some k, hk⟩
  · exact ⟨none, fun k hk hp => h ⟨k, hk, hp⟩⟩
theorem isO_ex (rs : List Int) (off : Int) : ∃ o, IsO rs off o := by
  by_cases h : ∃ k, k ≤ rs.length ∧ ((plc rs k).1 : Int) = off
  · obtain ⟨k, hk⟩ := h; exact ⟨some k, hk⟩
  · exact ⟨none, fun k hk hp => h ⟨k, hk, hp⟩⟩
theorem IsT.eq {rs : List Int} {line char : Int} {o o' : Option Nat} (h : IsT rs line char o) (h' : IsT rs line char o') : o = o' := by
  cases o <;> cases o'
  · rfl
  · exact absurd ⟨h'.2.1, h'.2.2⟩ (h _ h'.1)
  · exact absurd ⟨h.2.1, h.2.2⟩ (h' _ h.1)
  · rw [posT_inj rs h.1 h'.1 (Prod.ext (by have := h.2.1; have := h'.2.1; omega) (by have := h.2.2; have := h'.2.2; omega))]
theorem IsO.eq {rs : List Int} (ha : AllR rs) {off : Int} {o o' : Option Nat} (h : IsO rs off o) (h' : IsO rs off o') : o = o' := by
  cases o <;> cases o'
  · rfl
  · exact absurd h'.2 (h _ h'.1)
  · exact absurd h.2 (h' _ h.1)
  · rw [plc_inj1 rs ha h.1 h'.1 (by have := h.2; have := h'.2; omega)]

theorem LineAt.all {rs : List Int} (ha : AllR rs) {k : Nat} {a : List Int} (h : LineAt rs k a) : AllR a := by
  obtain ⟨_, b, e, _⟩ := h
  have := ha.drop k
  rw [e] at this
  exact this.left
/-- a place at that line lies in it. -/
theorem LineAt.within {rs : List Int} {k : Nat} (hk : k ≤ rs.length) {a : List Int} (h : LineAt rs k a) (h0 : (posT rs k).2 = 0) {m : Nat} (hm : m ≤ rs.length) (hp : (posT rs m).1 = (posT rs k).1) : ∃ j, j ≤ a.length ∧ m = k + j := by
  have hle := h.len hk
  have h1 : k ≤ m := posT_le rs hk (by unfold ltT; omega)
  have h2 : m ≤ k + a.length := by
    rcases Nat.lt_or_ge (k + a.length) m with hl | hl
    · exfalso
      rcases h.next hk with he | ⟨he, h10⟩
      · omega
      · have hs := posT_step rs (k + a.length) he
        rw [h10, h.pos hk a.length (Nat.le_refl _)] at hs
        have hlt : ¬ ltT (posT rs m) (posT rs (k + a.length + 1)) := fun hlt => by
          rcases Nat.lt_or_ge m (k + a.length + 1) with hx | hx
          · omega
          · rcases Nat.eq_or_lt_of_le hx with hy | hy
            · rw [hy] at hlt; exact hlt.irr
            · exact (hlt.trans (posT_lt rs hy hm)).irr
        rw [hs] at hlt
        unfold ltT stepT at hlt
        simp at hlt
        omega
    · exact hl
  exact ⟨m - k, by omega, by omega⟩
theorem isT_line_none {rs : List Int} {k : Nat} (hk : k ≤ rs.length) {a : List Int} (h : LineAt rs k a) (h0 : (posT rs k).2 = 0) (char : Int)
    (hf : findP (fun p => decide ((p.2 : Int) = char)) a = none) : IsT rs (posT rs k).1 char none := by
  intro m hm hp
  obtain ⟨j, hj, rfl⟩ := h.within hk h0 hm (by omega)
  have hpj := h.pos hk j (by omega)
  have := findP_none hf j (by omega)
  have h3 := of_decide_eq_false this
  rw [hpj] at hp
  simp only [h0] at hp
  omega
theorem isT_line_some {rs : List Int} {k : Nat} (hk : k ≤ rs.length) {a : List Int} (h : LineAt rs k a) (h0 : (posT rs k).2 = 0) (char : Int) {p : Nat × Nat}
    (hf : findP (fun p => decide ((p.2 : Int) = char)) a = some p) : ∃ m, IsT rs (posT rs k).1 char (some m) ∧ (plc rs m).1 = (plc rs k).1 + p.1 := by
  have hle := h.len hk
  obtain ⟨j, hj, hpj, hq⟩ := findP_some hf
  have hq' : (p.2 : Int) = char := by simpa using hq
  refine ⟨k + j, ⟨by omega, ?_, ?_⟩, ?_⟩
  · rw [h.pos hk j hj]
  · rw [h.pos hk j hj, h0, ← hpj]; simp; exact hq'
  · rw [h.off hk j hj, hpj]
/-- no line feed behind k: no later line. -/
theorem isT_beyond {rs : List Int} {k : Nat} (hk : k ≤ rs.length) (h : (10 : Int) ∉ rs.drop k) (line char : Int) (hl : ((posT rs k).1 : Int) < line) : IsT rs line char none := by
  have hL : LineAt rs k (rs.drop k) := ⟨h, [], by simp, .inl rfl⟩
  intro m hm hp
  rcases Nat.lt_or_ge m k with hx | hx
  · have := posT_lt rs hx hk
    unfold ltT at this
    omega
  · obtain ⟨j, rfl⟩ := Nat.exists_eq_add_of_le hx
    have := hL.pos hk j (by simp; omega)
    rw [this] at hp
    simp at hp
    omega

/- the line feed among the bytes. -/
theorem enc_nl : encodeRune 10 = [10] := by decide
theorem enc_no_nl {r : Int} (hr : isR r = true) (h : r ≠ 10) : (10 : UInt8) ∉ encodeRune r := by
  have hb := isR_iff.1 hr
  have key : ∀ z : Int, 0 ≤ z → z < 256 → z ≠ 10 → (10 : UInt8) ≠ z.toNat.toUInt8 := fun z h0 h1 h2 e => by
    have := congrArg UInt8.toNat e
    rw [u8_of z h0 h1] at this
    have h3 : (10 : UInt8).toNat = 10 := rfl
    omega
  unfold encodeRune encodeRuneZ
  split
  · simp only [List.map_cons, List.map_nil, List.mem_singleton]
    exact key r (by omega) (by omega) h
  · split
    · simp only [List.map_cons, List.map_nil, List.mem_cons, List.not_mem_nil, or_false, not_or]
      exact ⟨key _ (by omega) (by omega) (by omega), key _ (by omega) (by omega) (by omega)⟩
    · split
      · simp only [List.map_cons, List.map_nil, List.mem_cons, List.not_mem_nil, or_false, not_or]
        exact ⟨key _ (by omega) (by omega) (by omega), key _ (by omega) (by omega) (by omega), key _ (by omega) (by omega) (by omega)⟩
      · split
        · simp only [List.map_cons, List.map_nil, List.mem_cons, List.not_mem_nil, or_false, not_or]
          exact ⟨key _ (by omega) (by omega) (by omega), key _ (by omega) (by omega) (by omega), key _ (by omega) (by omega) (by omega), key _ (by omega) (by omega) (by omega)⟩
        · simp
theorem txt_no_nl : ∀ {a : List Int}, AllR a → (10 : Int) ∉ a → (10 : UInt8) ∉ txt a
  | [], _, _ => by simp [txt]
  | r :: a, ha, h => by
    rw [txt_cons, List.mem_append, not_or]
    exact ⟨enc_no_nl ha.head (fun e => h (by simp [e])), txt_no_nl ha.tail (fun hm => h (by simp [hm]))⟩
theorem indexByte_none : ∀ (l : List UInt8) (c : UInt8), c ∉ l → indexByte l c = -1
  | [], _, _ => rfl
  | b :: l, c, h => by
    have h1 : ¬ b = c := fun e => h (by simp [e])
    unfold indexByte
    rw [indexByte_none l c (fun hm => h (by simp [hm]))]
    simp [h1]
theorem indexByte_at : ∀ (l m : List UInt8) (c : UInt8), c ∉ l → indexByte (l ++ c :: m) c = l.length
  | [], _, _, _ => by simp [indexByte]
  | b :: l, m, c, h => by
    have h1 : ¬ b = c := fun e => h (by simp [e])
    rw [List.cons_append]
    unfold indexByte
    rw [indexByte_at l m c (fun hm => h (by simp [hm]))]
    have h2 : ¬ ((l.length : Int) = -1) := by omega
    simp [h1, h2]
theorem nl_none {qs : List Int} (ha : AllR qs) (h : (10 : Int) ∉ qs) : indexByte (txt qs) 10 = -1 := indexByte_none _ _ (txt_no_nl ha h)
theorem nl_at {a c : List Int} (ha : AllR (a ++ 10 :: c)) (h : (10 : Int) ∉ a) : indexByte (txt (a ++ 10 :: c)) 10 = (txt a).length := by
  rw [txt_append, txt_cons, enc_nl]
  exact indexByte_at _ _ _ (txt_no_nl ha.left h)
theorem drop_txt (rs : List Int) (k : Nat) : (txt rs).drop (plc rs k).1 = txt (rs.drop k) := by
  conv => lhs; arg 2; rw [← List.take_append_drop k rs, txt_append]
  exact List.drop_left
theorem take_txt (rs : List Int) (k : Nat) : (txt rs).take (plc rs k).1 = txt (rs.take k) := by
  conv => lhs; arg 2; rw [← List.take_append_drop k rs, txt_append]
  exact List.take_left
theorem count_txt : ∀ {rs : List Int}, AllR rs → countByte (txt rs) 10 = rs.count 10
  | [], _ => rfl
  | r :: rs, h => by
    have ih := count_txt h.tail
    unfold countByte at *
    rw [txt_cons, List.count_append, ih, List.count_cons]
    by_cases e : r = 10
    · subst e; rw [enc_nl]; simp; omega
    · rw [List.count_eq_zero.2 (enc_no_nl h.head e)]; simp [e]
theorem posT_count (rs : List Int) (k : Nat) : (posT rs k).1 = (rs.take k).count 10 := by
  have key : ∀ (l : List Int) (p : Nat × Nat), (l.foldl stepT p).1 = p.1 + l.count 10 := fun l => by
    induction l with
    | nil => intro p; rfl
    | cons r l ih =>
      intro p
      rw [List.foldl_cons, ih, List.count_cons]
      unfold stepT
      split
      · rename_i e; simp [e]; omega
      · rename_i e; simp [e]
  have := key (rs.take k) (0, 0)
  rw [posT, this]
  simp
end Go.Proofs.YtdldkidccjkhgaaDoor
