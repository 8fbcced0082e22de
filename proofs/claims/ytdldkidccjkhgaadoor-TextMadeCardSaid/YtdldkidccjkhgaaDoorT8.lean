/- Plain: a text's lines. No program in sight. -/
import Derived.Test.YtdldkidccjkhgaaDoorT7b
namespace Go.Proofs.YtdldkidccjkhgaaDoor
open Go.Par Go.Lib
set_option linter.unusedVariables false

def spl (cur : List UInt8) : List UInt8 → List (List UInt8)
  | [] => [cur]
  | b :: l => if b = 10 then cur :: spl [] l else spl (cur ++ [b]) l
def splR (cur : List Int) : List Int → List (List Int)
  | [] => [cur]
  | b :: l => if b = 10 then cur :: splR [] l else splR (cur ++ [b]) l

theorem spl_no : ∀ (a cur l : List UInt8), (10 : UInt8) ∉ a → spl cur (a ++ l) = spl (cur ++ a) l
  | [], cur, l, _ => by simp
  | b :: a, cur, l, h => by
    have hb : ¬ b = 10 := fun e => h (by simp [e])
    rw [List.cons_append]
    conv => lhs; unfold spl
    rw [if_neg hb, spl_no a _ l (fun hm => h (by simp [hm])), List.append_assoc]; rfl
theorem splR_no : ∀ (a cur l : List Int), (10 : Int) ∉ a → splR cur (a ++ l) = splR (cur ++ a) l
  | [], cur, l, _ => by simp
  | b :: a, cur, l, h => by
    have hb : ¬ b = 10 := fun e => h (by simp [e])
    rw [List.cons_append]
    conv => lhs; unfold splR
    rw [if_neg hb, splR_no a _ l (fun hm => h (by simp [hm])), List.append_assoc]; rfl
theorem spl_txt : ∀ (rs c : List Int), AllR rs → spl (txt c) (txt rs) = (splR c rs).map txt
  | [], c, _ => by simp [txt, spl, splR]
  | r :: rs, c, h => by
    rw [txt_cons]
    by_cases e : r = 10
    · subst e
      rw [enc_nl]
      unfold splR
      rw [if_pos rfl, List.map_cons, ← spl_txt rs [] h.tail]
      simp [spl, txt]
    · rw [spl_no _ _ _ (enc_no_nl h.head e)]
      conv => rhs; unfold splR
      rw [if_neg e, ← spl_txt rs _ h.tail, txt_append]
      simp [txt]
theorem splR_length : ∀ (rs c : List Int), (splR c rs).length = rs.count 10 + 1
  | [], c => rfl
  | r :: rs, c => by
    unfold splR
    split
    · rename_i e; simp [splR_length rs, e]
    · rename_i e; simp [splR_length rs, e]
def restL : List Int → List (List Int)
  | [] => []
  | _ :: c => splR [] c
theorem splR_line {rs : List Int} {a b : List Int} (e : rs = a ++ b) (h : (10 : Int) ∉ a) (hb : b = [] ∨ ∃ c, b = 10 :: c) : splR [] rs = a :: restL b := by
  rw [e, splR_no a [] b h, List.nil_append]
  rcases hb with rfl | ⟨c, rfl⟩
  · rfl
  · conv => lhs; unfold splR
    rw [if_pos rfl]; rfl
/-- the bytes ahead of a line. -/
def ahead (ls : List (List Int)) (j : Nat) : Nat := ((ls.take j).map fun a => (txt a).length + 1).sum
theorem ahead_succ (ls : List (List Int)) (j : Nat) (h : j < ls.length) : ahead ls (j + 1) = ahead ls j + ((txt (ls.getD j [])).length + 1) := by
  unfold ahead
  rw [take_snoc ls j (ls.getD j []) (by simp [List.getD_eq_getElem?_getD, h])]
  simp

theorem line_start (rs : List Int) (j : Nat) (hj : j < (splR [] rs).length) :
    ∃ k, k ≤ rs.length ∧ (splR [] rs).drop j = splR [] (rs.drop k) ∧ posT rs k = (j, 0) ∧ (plc rs k).1 = ahead (splR [] rs) j := by
  induction j with
  | zero => exact ⟨0, by omega, rfl, rfl, rfl⟩
  | succ j ih =>
    obtain ⟨k, hk, hd, hp, ho⟩ := ih (by omega)
    obtain ⟨a, b, e, h10, hb⟩ := line_cut (rs.drop k)
    have hL : LineAt rs k a := ⟨h10, b, e, hb⟩
    rw [splR_line e h10 hb] at hd
    have hgd : (splR [] rs).getD j [] = a := by
      have := congrArg (·[0]?) hd
      simp only [List.getElem?_drop, List.getElem?_cons_zero, Nat.add_zero] at this
      rw [List.getD_eq_getElem?_getD, this]; rfl
    have hd1 : (splR [] rs).drop (j + 1) = restL b := by
      have := congrArg (List.drop 1) hd
      rw [List.drop_drop] at this
      simpa using this
    rcases hb with rfl | ⟨c, rfl⟩
    · exfalso
      have := congrArg List.length hd1
      simp [restL] at this
      omega
    · have hle := congrArg List.length e
      simp at hle
      have hn1 : k + a.length < rs.length := by omega
      have hnl : rs.getD (k + a.length) 0 = 10 := by
        rcases hL.next hk with h | h
        · omega
        · exact h.2
      have hst := posT_step rs (k + a.length) hn1
      have hps := plc_step rs (k + a.length) hn1
      rw [hnl, hL.pos hk a.length (Nat.le_refl _), hp] at hst
      rw [hnl, enc_nl, hL.off hk a.length (Nat.le_refl _), ho] at hps
      refine ⟨k + a.length + 1, by omega, ?_, ?_, ?_⟩
      · rw [hd1]
        show splR [] c = _
        have : rs.drop (k + a.length + 1) = c := by
          have h1 := congrArg (List.drop (a.length + 1)) e
          rw [List.drop_drop, ← Nat.add_assoc] at h1
          rw [h1, List.drop_append]
          simp
        rw [this]
      · rw [hst]; simp [stepT]
      · rw [hps, ahead_succ _ _ (by omega), hgd]
        simp [plc]
        omega

theorem line_of (rs : List Int) (j : Nat) (hj : j < (splR [] rs).length) :
    ∃ k, k ≤ rs.length ∧ LineAt rs k ((splR [] rs).getD j []) ∧ posT rs k = (j, 0) ∧ (plc rs k).1 = ahead (splR [] rs) j := by
  obtain ⟨k, hk, hd, hp, ho⟩ := line_start rs j hj
  refine ⟨k, hk, ?_, hp, ho⟩
  obtain ⟨a, b, e, h10, hb⟩ := line_cut (rs.drop k)
  rw [splR_line e h10 hb] at hd
  have hgd : (splR [] rs).getD j [] = a := by
    have := congrArg (·[0]?) hd
    simp only [List.getElem?_drop, List.getElem?_cons_zero, Nat.add_zero] at this
    rw [List.getD_eq_getElem?_getD, this]; rfl
  rw [hgd]
  exact ⟨h10, b, e, hb⟩
theorem no_line (rs : List Int) (line char : Int) (h : ((splR [] rs).length : Int) ≤ line) : IsT rs line char none := by
  intro k hk hp
  rw [splR_length] at h
  have h1 := posT_count rs k
  have h2 : (rs.take k).count 10 ≤ rs.count 10 := (List.take_sublist k rs).count_le 10
  omega

/-- the place behind a whole text. -/
theorem fold_spl : ∀ (rs c : List Int) (m : Nat), ∃ init last, splR c rs = init ++ [last] ∧ rs.foldl stepT (m, (units c).length) = (m + init.length, (units last).length)
  | [], c, m => ⟨[], c, rfl, rfl⟩
  | r :: rs, c, m => by
    rw [List.foldl_cons]
    by_cases e : r = 10
    · obtain ⟨init, last, h1, h2⟩ := fold_spl rs [] (m + 1)
      refine ⟨c :: init, last, by unfold splR; rw [if_pos e, h1]; rfl, ?_⟩
      simp only [stepT, if_pos e]
      rw [show (0 : Nat) = (units []).length from rfl, h2]
      simp; omega
    · obtain ⟨init, last, h1, h2⟩ := fold_spl rs (c ++ [r]) m
      refine ⟨init, last, by unfold splR; rw [if_neg e, h1], ?_⟩
      simp only [stepT, if_neg e]
      rw [← h2, units_append]
      simp [units]
theorem posT_last (rs : List Int) (k : Nat) : ∃ init last, splR [] (rs.take k) = init ++ [last] ∧ posT rs k = (init.length, (units last).length) := by
  obtain ⟨init, last, h1, h2⟩ := fold_spl (rs.take k) [] 0
  refine ⟨init, last, h1, ?_⟩
  unfold posT
  refine Eq.trans ?_ (h2.trans (by simp))
  rfl

theorem splR_all : ∀ (rs c : List Int), AllR rs → AllR c → ∀ a ∈ splR c rs, AllR a
  | [], c, _, hc => by intro a ha; simp [splR] at ha; subst ha; exact hc
  | r :: rs, c, h, hc => by
    intro a ha
    unfold splR at ha
    split at ha
    · rcases List.mem_cons.1 ha with rfl | hm
      · exact hc
      · exact splR_all rs [] h.tail AllR.nil a hm
    · exact splR_all rs _ h.tail (hc.append (AllR.cons h.head AllR.nil)) a ha

/-- a front of a text that is a text. -/
theorem txt_prefix : ∀ (qs rs : List Int) (l : List UInt8), AllR qs → AllR rs → txt rs = txt qs ++ l → ∃ ps, rs = qs ++ ps
  | [], rs, l, _, _, _ => ⟨rs, rfl⟩
  | q :: qs, rs, l, hq, hr, h => by
    cases rs with
    | nil =>
      exfalso
      have := congrArg List.length h
      have hp := enc_pos q
      rw [txt_cons] at this
      simp [txt] at this
      omega
    | cons r rs =>
      rw [txt_cons, txt_cons, List.append_assoc] at h
      obtain ⟨rfl, h2⟩ := enc_cancel hr.head hq.head h
      obtain ⟨ps, e⟩ := txt_prefix qs rs l hq.tail hr.tail h2
      exact ⟨ps, by rw [e]; rfl⟩
theorem isO_front {rs qs : List Int} (hr : AllR rs) (hq : AllR qs) {n : Nat} (hn : n ≤ (txt rs).length) (h : (txt rs).take n = txt qs) : IsO rs n (some qs.length) ∧ qs = rs.take qs.length := by
  have h1 : txt rs = txt qs ++ (txt rs).drop n := by rw [← h, List.take_append_drop]
  obtain ⟨ps, e⟩ := txt_prefix qs rs _ hq hr h1
  have h2 : rs.take qs.length = qs := by rw [e]; simp
  refine ⟨⟨by rw [e]; simp, ?_⟩, h2.symm⟩
  unfold plc
  rw [h2, ← h, List.length_take]
  omega
theorem isO_not {rs : List Int} (hr : AllR rs) {n : Nat} (h : validD ((txt rs).take n) = false) : IsO rs n none := by
  intro k hk hp
  have h1 : (plc rs k).1 = n := by omega
  rw [← h1, take_txt, validD_of (hr.take k)] at h
  cases h
end Go.Proofs.YtdldkidccjkhgaaDoor
