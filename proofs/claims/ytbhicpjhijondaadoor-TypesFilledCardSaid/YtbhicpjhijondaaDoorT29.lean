/- The reader at every depth; the names in what it reads; how long a type's words are. -/
import Derived.Test.YtbhicpjhijondaaDoorT28
import Derived.Lib.ItoaLen
namespace Go.Typ
/-- no name is longer. -/
def NmB (n : Nat) (T : Ty) : Prop := ∀ x ∈ T.list, x.name.size ≤ n
theorem mem_listL' {x : Ty} : ∀ {ts : List Ty}, x ∈ listL ts → ∃ t ∈ ts, x ∈ t.list
  | t :: ts, h => by
    rw [listL] at h
    rcases List.mem_append.1 h with h | h
    · exact ⟨t, List.mem_cons_self, h⟩
    · obtain ⟨u, hu, hx⟩ := mem_listL' h
      exact ⟨u, List.mem_cons_of_mem _ hu, hx⟩
theorem NmB.mk {n : Nat} {k num : Int} {nm : ByteArray} {ts : List Ty} (h : nm.size ≤ n) (hs : ∀ t ∈ ts, NmB n t) : NmB n (.mk k num nm ts) := fun x hx => by
  rw [Ty.list_eq] at hx
  rcases List.mem_cons.1 hx with rfl | hx
  · exact h
  · obtain ⟨t, ht, hx⟩ := mem_listL' hx
    exact hs t ht x hx
theorem NmB.self {n : Nat} {T : Ty} (h : NmB n T) : T.name.size ≤ n := h T (by rw [T.list_eq]; exact List.mem_cons_self)
theorem NmB.arg {n : Nat} {T : Ty} (h : NmB n T) {i : Nat} (hi : i < T.args.length) : NmB n T.args[i] := fun x hx => h x (by
  rw [T.list_eq]
  exact List.mem_cons_of_mem _ (mem_listL (List.getElem_mem hi) hx))
/-- all that a parser answers has short names. -/
def PNm (n : Nat) (m : Option (Ty × Nat × Nat)) : Prop := ∀ T a c, m = some (T, a, c) → NmB n T
theorem PNm.none (n : Nat) : PNm n none := fun _ _ _ h => by cases h
theorem PNm.some {n : Nat} {T : Ty} {a c : Nat} (h : NmB n T) : PNm n (some (T, a, c)) := fun _ _ _ e => by
  injection e with e; injection e with e _; subst e; exact h
end Go.Typ
namespace Go.Proofs.YtbhicpjhijondaaDoor
open Go.RowKit Go.Lib Go.Vfs Go.Par Go.Typ Go.Shelf
set_option linter.unusedVariables false
set_option linter.unusedSimpArgs false

theorem PNm.part {n : Nat} {T : Ty} (h : NmB n T) (a c : Nat) : PNm n (partP T a c) := by
  unfold partP
  split
  · exact PNm.some h
  · exact PNm.none n
theorem PNm.var (n : Nat) (s : ByteArray) (a c : Nat) : PNm n (varP s a c) := by
  unfold varP
  split
  · split
    · exact PNm.none n
    · exact PNm.part (NmB.mk (Nat.zero_le _) fun t ht => by simp at ht) _ _
  · exact PNm.none n
theorem PNm.list {n : Nat} {m : Nat → Nat → Option (Ty × Nat × Nat)} (hm : ∀ a c, PNm n (m a c)) (s : ByteArray) (wd : List UInt8) :
    ∀ (f : Nat) (ts : List Ty) (a c : Nat) (ts' : List Ty) (a' c' : Nat), (∀ t ∈ ts, NmB n t) → listP m s wd f ts a c = some (ts', a', c') → ∀ t ∈ ts', NmB n t := by
  intro f
  induction f with
  | zero => intro ts a c ts' a' c' h e; rw [listP] at e; injection e with e; injection e with e _; subst e; exact h
  | succ f ih =>
    intro ts a c ts' a' c' h e
    rw [listP] at e
    split at e
    · cases hx : m (a + wd.length) c with
      | none => rw [hx] at e; cases e
      | some y =>
        obtain ⟨T, a2, c2⟩ := y
        rw [hx] at e
        refine ih _ _ _ _ _ _ (fun t ht => ?_) e
        rcases List.mem_append.1 ht with ht | ht
        · exact h t ht
        · rw [List.mem_singleton.1 ht]; exact hm _ _ _ _ _ hx
    · injection e with e; injection e with e _; subst e; exact h
theorem PNm.many {n : Nat} {m : Nat → Nat → Option (Ty × Nat × Nat)} (hm : ∀ a c, PNm n (m a c)) (s : ByteArray) (wd : List UInt8) (a c : Nat) (ts' : List Ty) (a' c' : Nat) (e : manyP m s wd a c = some (ts', a', c')) : ∀ t ∈ ts', NmB n t := by
  unfold manyP at e
  cases hx : m a c with
  | none => rw [hx] at e; cases e
  | some y =>
    obtain ⟨T, a2, c2⟩ := y
    rw [hx] at e
    exact PNm.list hm s wd _ _ _ _ _ _ _ (fun t ht => by rw [List.mem_singleton.1 ht]; exact hm _ _ _ _ _ hx) e
theorem getD_nm {n : Nat} {ts : List Ty} (h : ∀ t ∈ ts, NmB n t) : NmB n (ts.getD 0 (.mk 0 0 ⟨#[]⟩ [])) := by
  cases ts with
  | nil => exact NmB.mk (Nat.zero_le _) fun t ht => by simp at ht
  | cons t ts => exact h t List.mem_cons_self
theorem PNm.first {arr : Nat → Nat → Option (Ty × Nat × Nat)} {s : ByteArray} (hm : ∀ a c, PNm s.size (arr a c)) (a c : Nat) : PNm s.size (firstP arr s a c) := by
  unfold firstP
  split
  · exact PNm.var _ _ _ _
  · split
    · cases hx : manyP arr s [44, 32] (a + 1) c with
      | none => exact PNm.none _
      | some y =>
        obtain ⟨ts, a2, c2⟩ := y
        have hts := PNm.many hm s _ _ _ _ _ _ hx
        unfold closeP
        simp only
        split
        · split
          · exact PNm.some (getD_nm hts)
          · split
            · exact PNm.part (NmB.mk (extract_le _ _ _) hts) _ _
            · exact PNm.none _
        · exact PNm.none _
    · exact PNm.part (NmB.mk (extract_le _ _ _) fun t ht => by simp at ht) _ _
theorem PNm.namL {s : ByteArray} : ∀ (f : Nat) (T : Ty) (a c : Nat), NmB s.size T → PNm s.size (namL s f T a c) := by
  intro f
  induction f with
  | zero => intro T a c h; exact PNm.some h
  | succ f ih =>
    intro T a c h
    rw [Go.Proofs.YtbhicpjhijondaaDoor.namL]
    split
    · have hp := PNm.part (n := s.size) (T := .mk 2 0 (s.extract (a + 1) (nmEnd s (a + 1))) [T]) (NmB.mk (extract_le _ _ _) fun t ht => by rw [List.mem_singleton.1 ht]; exact h) (nmEnd s (a + 1)) c
      cases hx : partP (.mk 2 0 (s.extract (a + 1) (nmEnd s (a + 1))) [T]) (nmEnd s (a + 1)) c with
      | none => exact PNm.none _
      | some y =>
        obtain ⟨T', a', c'⟩ := y
        exact ih _ _ _ (hp _ _ _ hx)
    · exact PNm.some h
theorem PNm.named {arr : Nat → Nat → Option (Ty × Nat × Nat)} {s : ByteArray} (hm : ∀ a c, PNm s.size (arr a c)) (a c : Nat) : PNm s.size (namedP arr s a c) := by
  unfold namedP
  cases hx : firstP arr s a c with
  | none => exact PNm.none _
  | some y =>
    obtain ⟨T, a1, c1⟩ := y
    exact PNm.namL _ _ _ _ (PNm.first hm a c _ _ _ hx)
theorem PNm.pair {arr : Nat → Nat → Option (Ty × Nat × Nat)} {s : ByteArray} (hm : ∀ a c, PNm s.size (arr a c)) (a c : Nat) : PNm s.size (pairP arr s a c) := by
  unfold pairP
  cases hx : manyP (namedP arr s) s [32, 42, 32] a c with
  | none => exact PNm.none _
  | some y =>
    obtain ⟨ts, a2, c2⟩ := y
    have hts := PNm.many (PNm.named hm) s _ _ _ _ _ _ hx
    rw [starP_some]
    split
    · exact PNm.some (getD_nm hts)
    · exact PNm.part (NmB.mk (Nat.zero_le _) hts) _ _
theorem PNm.arr1 {pr arr : Nat → Nat → Option (Ty × Nat × Nat)} {s : ByteArray} (hp : ∀ a c, PNm s.size (pr a c)) (hm : ∀ a c, PNm s.size (arr a c)) (a c : Nat) : PNm s.size (arr1 pr arr s a c) := by
  unfold Go.Proofs.YtbhicpjhijondaaDoor.arr1
  cases hx : pr a c with
  | none => exact PNm.none _
  | some y =>
    obtain ⟨T, a1, c1⟩ := y
    have hT := hp _ _ _ _ _ hx
    simp only
    split
    · cases hy : arr (a1 + 4) c1 with
      | none => exact PNm.none _
      | some z =>
        obtain ⟨U, a2, c2⟩ := z
        have hU := hm _ _ _ _ _ hy
        exact PNm.part (NmB.mk (Nat.zero_le _) fun t ht => by
          rcases List.mem_cons.1 ht with rfl | ht
          · exact hT
          · rw [List.mem_singleton.1 ht]; exact hU) _ _
    · exact PNm.some hT
theorem PNm.arrow (s : ByteArray) : ∀ (f a c : Nat), PNm s.size (arrowP s f a c) := by
  intro f
  induction f with
  | zero => intro a c; exact PNm.none _
  | succ f ih => exact PNm.arr1 (PNm.pair ih) ih

/-- how long a right type's words are. -/
theorem say_le (n : Nat) (T : Ty) : FitAll T → NmB n T → (sayT T).length + 8 ≤ T.parts * (n + 40) := by
  induction T using Ty.ind with
  | h T ih =>
    intro hF hN
    have hbound : ∀ ts : List Ty, (∀ t ∈ ts, (sayT t).length + 8 ≤ t.parts * (n + 40)) → ∀ (g : Ty → List UInt8), (∀ t, (g t).length ≤ (sayT t).length + 5) → ((ts.map g).flatMap fun x => x).length + 3 * ts.length ≤ partsL ts * (n + 40) := by
      intro ts hts g hg
      induction ts with
      | nil => simp [partsL]
      | cons t ts iht =>
        have h1 := hts t List.mem_cons_self
        have h2 := hg t
        have h3 := iht fun u hu => hts u (List.mem_cons_of_mem _ hu)
        simp only [List.map_cons, List.flatMap_cons, List.length_append, List.length_cons, partsL, Nat.add_mul]
        omega
    have hjoin : ∀ (sep : List UInt8) (ws : List (List UInt8)), (joinW sep ws).length ≤ (ws.flatMap fun x => x).length + sep.length * ws.length := by
      intro sep ws
      cases ws with
      | nil => simp [joinW]
      | cons w ws =>
        have : ∀ ws : List (List UInt8), (ws.flatMap fun x => sep ++ x).length = (ws.flatMap fun x => x).length + sep.length * ws.length := by
          intro ws
          induction ws with
          | nil => simp
          | cons x ws ih => simp only [List.flatMap_cons, List.length_append, ih, List.length_cons, Nat.mul_add]; omega
        simp only [joinW, List.length_append, this, List.flatMap_cons, List.length_cons, Nat.mul_add]
        omega
    obtain ⟨k, num, nm, ts⟩ := T
    have hfit := hF.self
    have hnm : nm.size ≤ n := hN.self
    have hsub : ∀ t ∈ ts, (sayT t).length + 8 ≤ t.parts * (n + 40) := fun t ht => by
      obtain ⟨i, hi, rfl⟩ := List.getElem_of_mem ht
      exact ih i hi (hF.arg hi) (hN.arg hi)
    have hwrap : ∀ (b : Bool) (w : List UInt8), (wrapB b w).length ≤ w.length + 2 := fun b w => by cases b <;> simp [wrapB]
    have hins := hbound ts hsub insT fun t => by have := hwrap (pairB t) (sayT t); unfold insT; omega
    have hsay := hbound ts hsub sayT fun t => by omega
    have hlen : nm.data.toList.length = nm.size := name_len nm
    rw [sayT, insW_map, sayL_map]
    rw [Ty.parts, Nat.add_mul, Nat.one_mul]
    by_cases k1 : k = 1
    · subst k1
      rw [if_pos rfl]
      have hv : (varW num).length ≤ 30 := by
        have hr : 0 ≤ num ∧ num < 1073741824 := by
          simp [fitsT, Ty.kind, Ty.num] at hfit
          exact ⟨of_decide_eq_true hfit.1.1.1, of_decide_eq_true hfit.1.1.2⟩
        have hi := Lib.itoa_length_le (num / 26) (by omega) (by omega)
        unfold varW
        by_cases h26 : 26 ≤ num
        · rw [if_pos h26]; simp only [List.length_append, List.length_cons, List.length_nil]; omega
        · rw [if_neg h26]; simp only [List.length_append, List.length_cons, List.length_nil]; omega
      omega
    · rw [if_neg k1]
      by_cases k2 : k = 2
      · subst k2
        rw [if_pos rfl]
        have j1 := hjoin [] (ts.map insT)
        have j2 := hjoin [44, 32] (ts.map sayT)
        simp only [List.length_map, List.length_nil, List.length_cons] at j1 j2
        by_cases h1 : ts.length = 1
        · rw [if_pos h1, if_neg (by omega)]
          simp only [List.length_append, List.length_cons, List.length_nil]
          omega
        · rw [if_neg h1]
          by_cases h0 : ts.length = 0
          · rw [if_pos h0, if_pos h0]
            simp only [List.length_append, List.length_nil]
            omega
          · rw [if_neg h0, if_neg h0]
            simp only [List.length_append, List.length_cons, List.length_nil]
            omega
      · rw [if_neg k2]
        by_cases k3 : k = 3
        · subst k3
          rw [if_pos rfl]
          have j1 := hjoin [32, 42, 32] (ts.map insT)
          simp only [List.length_map, List.length_nil, List.length_cons] at j1
          omega
        · rw [if_neg k3]
          by_cases k4 : k = 4
          · subst k4
            rw [if_pos rfl]
            have h2 : ts.length = 2 := by
              simp [fitsT, Ty.kind, Ty.args] at hfit
              exact of_decide_eq_true hfit.2
            obtain ⟨a, b, rfl⟩ : ∃ a b, ts = [a, b] := by
              match ts, h2 with
              | [a, b], _ => exact ⟨a, b, rfl⟩
            have ha := hsub a (by simp)
            have hb := hsub b (by simp)
            have hw := hwrap (decide (a.kind = 4)) (sayT a)
            simp only [List.map_cons, List.map_nil, List.getD_cons_zero, List.getD_cons_succ, List.length_append, List.length_cons, List.length_nil, partsL, Nat.add_mul] at hw ⊢
            omega
          · rw [if_neg k4]
            simp only [List.length_nil]
            omega
set_option maxRecDepth 20000 in
theorem arrow_any (p : Nat) (s : ByteArray) (hs : s.size ≤ 1000000000) : ∀ f : Nat, f ≤ 301 → RdC 58 (400 + 4 * f) p s ((301 - f : Nat) : Int) (arrowP s f) := by
  intro f
  induction f with
  | zero => intro _; exact arrow_deep p s hs
  | succ f ih =>
    intro hf
    have ih' := ih (by omega)
    rw [show ((301 - f : Nat) : Int) = ((301 - (f + 1) : Nat) : Int) + 1 by omega] at ih'
    have h1 := first_any p s _ _ (400 + 4 * f) (by omega) (by omega) (by omega) (by omega) ih' hs
    have h2 := named_any p s _ _ (400 + 4 * f) (by omega) h1 hs
    have h3 := pair_any p s _ _ (400 + 4 * f) (by omega) (by omega) h2 hs
    exact arrow_one p s _ _ _ (400 + 4 * f) (by omega) (by omega) (by omega) (by omega) h3 ih' hs
end Go.Proofs.YtbhicpjhijondaaDoor
