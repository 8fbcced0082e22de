/- Plain: how many bytes the record of a light entry has. -/
import Derived.Test.YtaalbcfpacpgfaaGreatI16
namespace Go.Ix
open Go.RowKit Go.Lib Go.Vfs Go.Par Go.Typ Go.Proofs.YtaalbcfpacpgfaaGreat
set_option linter.unusedVariables false
theorem weightL_cons (a : Ty) (ts : List Ty) (most n : Int) : weightL (a :: ts) most n = if n ≤ most then weightL ts most (n + weightT a (most - n)) else n := by rw [weightL]
theorem weight_pos (T : Ty) : ∀ most : Int, 1 + (T.name.size : Int) / 16 ≤ weightT T most := by
  induction T using Ty.ind with
  | h T ih =>
    intro most
    rw [weightT_eq]
    have key : ∀ ts : List Ty, (∀ t ∈ ts, ∀ most : Int, 1 + (t.name.size : Int) / 16 ≤ weightT t most) → ∀ n : Int, n ≤ weightL ts most n := by
      intro ts
      induction ts with
      | nil => intro _ n; rw [weightL]; omega
      | cons a ts ih2 =>
        intro h n
        rw [weightL_cons]
        split
        · have h1 := h a (by simp) (most - n)
          have h2 := ih2 (fun t ht => h t (by simp [ht])) (n + weightT a (most - n))
          omega
        · omega
    exact key T.args (fun t ht => by obtain ⟨i, hi, rfl⟩ := List.getElem_of_mem ht; exact ih i hi) _
theorem wr_light (T : Ty) : ∀ most : Int, weightT T most ≤ most → ((wrT T).length : Int) ≤ 23 * weightT T most := by
  induction T using Ty.ind with
  | h T ih =>
    intro most h
    have key : ∀ ts : List Ty, (∀ t ∈ ts, ∀ most : Int, weightT t most ≤ most → ((wrT t).length : Int) ≤ 23 * weightT t most) → ∀ n : Int, weightL ts most n ≤ most → n ≤ weightL ts most n ∧ ((wrL ts).length : Int) ≤ 23 * (weightL ts most n - n) := by
      intro ts
      induction ts with
      | nil => intro _ n hn; rw [weightL] at hn ⊢; simp [wrL]
      | cons a ts ih2 =>
        intro hx n hn
        rw [weightL_cons] at hn ⊢
        by_cases hnm : n ≤ most
        · rw [if_pos hnm] at hn ⊢
          obtain ⟨h1, h2⟩ := ih2 (fun t ht => hx t (by simp [ht])) _ hn
          have h3 := weight_pos a (most - n)
          have h4 := hx a (by simp) (most - n) (by omega)
          have e : wrL (a :: ts) = wrT a ++ wrL ts := by have := wrL_step (ts := a :: ts) (k := 0) (by simp); simpa using this
          rw [e, List.length_append]
          have h5 : (0 : Int) ≤ (a.name.size : Int) / 16 := by omega
          refine ⟨by omega, ?_⟩
          have h6 : (((wrT a).length + (wrL ts).length : Nat) : Int) = ((wrT a).length : Int) + ((wrL ts).length : Int) := by omega
          rw [h6]
          omega
        · rw [if_neg hnm] at hn; omega
    have hk := key T.args (fun t ht => by obtain ⟨i, hi, rfl⟩ := List.getElem_of_mem ht; exact ih i hi) (1 + (T.name.size : Int) / 16) (by rw [weightT_eq] at h; exact h)
    rw [← weightT_eq] at hk
    have hp := weight_pos T most
    rw [wrT_eq]
    by_cases h1 : T.kind = 1
    · rw [if_pos h1]
      simp only [List.length_append, List.length_singleton, be4_lengthQ]
      omega
    · rw [if_neg h1]
      have hn := ba_len T.name
      by_cases h2 : T.kind = 2
      · rw [if_pos h2]
        simp only [List.length_append, List.length_singleton, hn]
        omega
      · rw [if_neg h2]
        simp only [List.length_append, List.length_singleton, List.length_nil]
        omega
theorem exB_wt {x : Ex} (h1 : x.name.size ≤ 255) (h2 : rightT x.ty = true) (h3 : shortT x.ty = true) : ((exB x).length : Int) ≤ 90 * wtX x := by
  have hn := ba_len x.name
  have hp := weight_pos x.ty 1000
  have hw : ((wrT x.ty).length : Int) ≤ 90 * weightT x.ty 1000 := by
    by_cases h : weightT x.ty 1000 ≤ 1000
    · have := wr_light x.ty 1000 h; omega
    · have h4 := wrT_len x.ty h3
      have h5 := (rightT_iff.1 h2).1
      omega
  unfold exB wtX
  simp only [List.length_append, List.length_singleton, hn]
  omega
theorem wtX_pos (x : Ex) : 2 ≤ wtX x := by
  have hp := weight_pos x.ty 1000
  unfold wtX
  omega
theorem wtXs_ge : ∀ xs : List Ex, 2 * (xs.length : Int) ≤ wtXs xs
  | [] => by simp [wtXs]
  | x :: xs => by
    have := wtX_pos x
    have := wtXs_ge xs
    rw [wtXs, List.length_cons]; omega
theorem exsB_wt : ∀ {xs : List Ex}, (∀ x ∈ xs, x.name.size ≤ 255 ∧ rightT x.ty = true ∧ shortT x.ty = true) → ((exsB xs).length : Int) ≤ 90 * wtXs xs
  | [], _ => by simp [exsB, wtXs]
  | x :: xs, h => by
    obtain ⟨a, b, c⟩ := h x (by simp)
    have h1 := exB_wt a b c
    have h2 := exsB_wt (xs := xs) fun y hy => h y (by simp [hy])
    have e : exsB (x :: xs) = exB x ++ exsB xs := by have := exsB_step (xs := x :: xs) (k := 0) (by simp); simpa using this
    rw [e, List.length_append, wtXs]
    omega
theorem recE_wt {e : En} (h : okE e = true) : ((recE e).length : Int) ≤ 90 * wtE e := by
  have h1 := exsB_wt (right_each (okE_exs h))
  have h2 := wtXs_ge e.exs
  have hu := ba_len e.uri
  unfold recE encX wtE
  simp only [List.length_append, List.length_cons, List.length_nil, hu, be4_lengthQ]
  omega
theorem wtE_pos (e : En) : 1 ≤ wtE e := by
  have := wtXs_ge e.exs
  unfold wtE
  omega
theorem wtEs_nonneg : ∀ es : List En, 0 ≤ wtEs es
  | [] => by simp [wtEs]
  | e :: es => by have := wtEs_nonneg es; have := wtE_pos e; rw [wtEs]; omega
theorem wtEs_mem {e : En} : ∀ {es : List En}, e ∈ es → wtE e ≤ wtEs es
  | x :: es, h => by
    have h1 := wtEs_nonneg es
    have h2 := wtE_pos x
    rw [wtEs]
    rcases List.mem_cons.1 h with rfl | h
    · omega
    · have := wtEs_mem h; omega
theorem wtEs_take_le (es : List En) (k : Nat) : wtEs (es.take k) ≤ wtEs es := by
  have key : ∀ a b : List En, wtEs (a ++ b) = wtEs a + wtEs b := by
    intro a b
    induction a with
    | nil => simp [wtEs]
    | cons x a ih => simp only [List.cons_append, wtEs, ih]; omega
  have h := key (es.take k) (es.drop k)
  rw [List.take_append_drop] at h
  have := wtEs_nonneg (es.drop k)
  omega
/-- exports of a light entry can be copied. -/
theorem light_exs {es : List En} (h : wtEs es ≤ 3000) {e : En} (he : e ∈ es) : e.exs.length ≤ 3000 := by
  have h1 := wtEs_mem he
  have h2 := wtXs_ge e.exs
  unfold wtE at h1
  omega
/-- the entries' records, all together. -/
def sumL (ls : List (List UInt8)) : Nat := (ls.map List.length).sum
theorem sumL_snoc (ls : List (List UInt8)) (l : List UInt8) : sumL (ls ++ [l]) = sumL ls + l.length := by simp [sumL]
theorem sumL_cons (l : List UInt8) (ls : List (List UInt8)) : sumL (l :: ls) = l.length + sumL ls := by simp [sumL]
theorem encR_sum (g : Nat) : ∀ ls : List (List UInt8), (encR g ls).length = 12 * ls.length + sumL ls
  | [] => rfl
  | l :: ls => by
    rw [encR_cons, List.length_append, frameB_length, encR_sum g ls, sumL_cons, List.length_cons]; omega
theorem putL_sum (e : En) : ∀ es : List En, sumL ((putL keyE e es).map recE) = (recE e).length + sumL (es.map recE)
  | [] => by simp [putL, sumL]
  | x :: es => by
    unfold putL
    split
    · rw [List.map_cons, sumL_cons]
    · rw [List.map_cons, sumL_cons, putL_sum e es, List.map_cons, sumL_cons]; omega
theorem dropL_sum (s : List UInt8) : ∀ es : List En, sumL ((dropL keyE s es).map recE) ≤ sumL (es.map recE)
  | [] => by simp [dropL, sumL]
  | x :: es => by
    have ih := dropL_sum s es
    unfold dropL at ih ⊢
    rw [List.filter_cons]
    split
    · rw [List.map_cons, sumL_cons, List.map_cons, sumL_cons]; omega
    · rw [List.map_cons, sumL_cons]; omega
theorem withL_sum (e : En) (es : List En) : sumL ((withL keyE e es).map recE) ≤ (recE e).length + sumL (es.map recE) := by
  unfold withL
  rw [putL_sum]
  have := dropL_sum (keyE e) es
  omega
theorem putL_len (e : En) : ∀ es : List En, (putL keyE e es).length = es.length + 1
  | [] => rfl
  | x :: es => by unfold putL; split <;> simp [putL_len e es]
theorem withL_len (e : En) (es : List En) : (withL keyE e es).length ≤ es.length + 1 := by
  unfold withL
  rw [putL_len]
  have : (dropL keyE (keyE e) es).length ≤ es.length := List.length_filter_le _ _
  omega
theorem dropL_len (s : List UInt8) (es : List En) : (dropL keyE s es).length ≤ es.length := List.length_filter_le _ _
end Go.Ix
