import Derived.Test.YtdldkidccjkhgaaDoorT10c
namespace Go.Proofs.YtdldkidccjkhgaaDoor
open Go.RowKit Go.Par
set_option linter.unusedVariables false

/-- the edit between two texts. -/
def edN (a : List Int) (n m : Nat) (X : ByteArray) : Ed := ⟨(posT a n).1, (posT a n).2, (posT a (a.length - m)).1, (posT a (a.length - m)).2, X⟩
theorem posK_of (a : List Int) (k : Nat) (hk : k ≤ a.length) : posK a (posT a k).1 (posT a k).2 = some k :=
  (posK_is a _ _).eq (show IsT a (posT a k).1 (posT a k).2 (some k) from ⟨hk, rfl, rfl⟩)
theorem made_eq {a b : List Int} {n m : Nat} (hN : IsN a b n) (hM : IsM a b n m) : a.take n ++ midN b n m ++ a.drop (a.length - m) = b := by
  have h1 := hM.lb
  have h2 := hN.lb
  rw [hN.eq, hM.eq]
  unfold midN
  rw [List.append_assoc]
  conv => rhs; rw [← List.take_append_drop n b, ← List.take_append_drop (b.length - m - n) (b.drop n), List.drop_drop]
  congr 3
  omega
theorem made_len {a b : List Int} (ha : AllR a) {n m : Nat} (hN : IsN a b n) (hM : IsM a b n m) : (plc a n).1 + (txt (midN b n m)).length + (txt a).length - (plc a (a.length - m)).1 = (txt b).length := by
  have h := congrArg (fun l => (txt l).length) (made_eq hN hM)
  simp only [txt_append, List.length_append] at h
  have h2 := plc_le a (a.length - m)
  have h3 : (txt (a.drop (a.length - m))).length = (txt a).length - (plc a (a.length - m)).1 := by rw [← drop_txt, List.length_drop]
  have h4 : (txt (a.take n)).length = (plc a n).1 := rfl
  omega
theorem made_step {a b : List Int} (ha : AllR a) (hb : AllR b) {n m : Nat} (hN : IsN a b n) (hM : IsM a b n m) {X : ByteArray} (hX : X.data.toList = txt (midN b n m)) :
    applyE a [edN a n m X] = if 32768 < (txt b).length then .error 52 else .ok b := by
  have h1 := hM.la
  have h2 := hN.la
  have hall : AllR (midN b n m) := (hb.drop n).take _
  unfold applyE stepE edN
  simp only []
  rw [hX, runesOf_txt hall, posK_of a n h2, posK_of a (a.length - m) (by omega)]
  simp only []
  have hmono := plc_mono a ha (i := n) (j := a.length - m) (by omega) (by omega)
  rw [if_neg (by omega), made_len ha hN hM]
  by_cases hg : 32768 < (txt b).length
  · rw [if_pos hg, if_pos hg]
  · rw [if_neg hg, if_neg hg]
    simp only []
    rw [made_eq hN hM]
    rfl
theorem empty_iff {a b : List Int} {n m : Nat} (hN : IsN a b n) (hM : IsM a b n m) : (midN b n m = [] ∧ posT a n = posT a (a.length - m)) ↔ a = b := by
  have h1 := hM.la
  have h2 := hN.la
  have h3 := hM.lb
  have h4 := hN.lb
  constructor
  · rintro ⟨he, hp⟩
    have hnm := posT_inj a h2 (by omega) hp
    have := made_eq hN hM
    rw [he, ← hnm, List.append_nil, List.take_append_drop] at this
    exact this
  · rintro rfl
    have hn : n = a.length := by
      rcases Nat.eq_or_lt_of_le h2 with h | h
      · exact h
      · exact absurd rfl (hN.stop h h)
    have hm : m = 0 := by omega
    subst hm
    refine ⟨?_, by rw [hn, Nat.sub_zero]⟩
    unfold midN
    rw [hn]; simp
theorem posT_small (a : List Int) (k : Nat) (h : a.length ≤ 100000) : (posT a k).1 ≤ 100000 := by
  rw [posT_count]
  have h1 := List.count_le_length (l := a.take k) (a := (10 : Int))
  have h2 := List.length_take_le k a
  have h3 := List.length_take_le' k a
  omega

set_option maxRecDepth 100000 in
set_option maxHeartbeats 2000000 in
theorem textMade_bad (s : ByteArray) (t : ByteArray) (hg : ¬ 50000 < (s.size : Int) + (t.size : Int)) (hv : Lib.validD s.data.toList = false ∨ Lib.validD t.data.toList = false) (w : World) (hT : Tabs w) :
    Calls Tryd.prog 18 #[.string s, .string t] w fun e w' => e = .returned (.bool true) ∧ Below w.heap.size w w' := by
  have hsl : s.size ≤ 100000 := by omega
  have htl : t.size ≤ 100000 := by omega
  have HV := Lib.hid hv; clear hv
  obtain ⟨rs, rest, har, hsr, hrest⟩ := Par.split s.data.toList
  obtain ⟨qs, rest2, haq, hsq, hrest2⟩ := Par.split t.data.toList
  have hsz := Lib.size_eq s
  have htz := Lib.size_eq t
  rw [hsr, List.length_append] at hsz
  rw [hsq, List.length_append] at htz
  have hor : (txt rs).length < s.size ∨ ((txt rs).length = s.size ∧ (txt qs).length < t.size) := by
    have h1 : (txt rs).length = s.size → rest = [] := fun e => List.length_eq_zero_iff.1 (by omega)
    have h2 : (txt qs).length = t.size → rest2 = [] := fun e => List.length_eq_zero_iff.1 (by omega)
    by_cases e1 : (txt rs).length = s.size
    · right
      refine ⟨e1, ?_⟩
      rcases Nat.lt_or_ge (txt qs).length t.size with h | h
      · exact h
      · exfalso
        have e2 : (txt qs).length = t.size := by omega
        rcases HV.out with h | h
        · rw [hsr, h1 e1, List.append_nil, validD_of har] at h; cases h
        · rw [hsq, h2 e2, List.append_nil, validD_of haq] at h; cases h
    · left; omega
  have HSR := Lib.hid hsr; clear hsr
  have HSQ := Lib.hid hsq; clear hsq
  clear hsz htz
  rcases hor with hlt | ⟨heq, hlt⟩
  · go_enter Tryd.func18, Tryd.ntmps18
    go_wp2_with fail
    refine (alive7_any _ hT).mono ?_
    rintro e w1 ⟨rfl, hb1⟩
    have hT1 := hT.below hb1
    go_wp2_with fail
    refine (between_bad s t HV.out hsl htl w1 hT1).mono ?_
    rintro e w2 ⟨rfl, hb2⟩
    have hbw2 := hb1.trans (hb2.mono hb1.size)
    have hbw3 : Below w.heap.size w (w2.alloc (.cells #[.int .i64 0, .int .i64 0, .int .i64 0, .int .i64 0, .string ⟨#[]⟩] 52)) := hbw2.alloc hbw2.size _
    obtain ⟨cap, wb, hconv, hbb, hsgb⟩ := seg_bytes_of s (w2.alloc (.cells #[.int .i64 0, .int .i64 0, .int .i64 0, .int .i64 0, .string ⟨#[]⟩] 52)) (by omega)
    rw [HSR.out] at hsgb
    simp only [World.size_alloc] at hconv hsgb
    have hbwb := hbw3.trans (hbb.mono hbw3.size)
    have HSG := Lib.hid hsgb; clear hsgb
    go_wp2_with fail
    refine (uvalid_any _ rs rest har hrest _ wb HSG.out (Nat.le_refl _) (hT.below hbwb)).mono ?_
    rintro e wd ⟨rfl, hbd⟩
    go_wp2
    go_ret
    exact ⟨rfl, hbwb.trans (hbd.mono hbwb.size)⟩
  · go_enter Tryd.func18, Tryd.ntmps18
    go_wp2_with fail
    refine (alive7_any _ hT).mono ?_
    rintro e w1 ⟨rfl, hb1⟩
    have hT1 := hT.below hb1
    go_wp2_with fail
    refine (between_bad s t HV.out hsl htl w1 hT1).mono ?_
    rintro e w2 ⟨rfl, hb2⟩
    have hbw2 := hb1.trans (hb2.mono hb1.size)
    have hbw3 : Below w.heap.size w (w2.alloc (.cells #[.int .i64 0, .int .i64 0, .int .i64 0, .int .i64 0, .string ⟨#[]⟩] 52)) := hbw2.alloc hbw2.size _
    obtain ⟨cap, wb, hconv, hbb, hsgb⟩ := seg_bytes_of s (w2.alloc (.cells #[.int .i64 0, .int .i64 0, .int .i64 0, .int .i64 0, .string ⟨#[]⟩] 52)) (by omega)
    rw [HSR.out] at hsgb
    simp only [World.size_alloc] at hconv hsgb
    have hbwb := hbw3.trans (hbb.mono hbw3.size)
    have HSG := Lib.hid hsgb; clear hsgb
    have HE := Lib.hid heq; clear heq
    have hd : decide (s.size < s.size) = false := by simp
    go_wp2_with fail
    refine (uvalid_any _ rs rest har hrest _ wb HSG.out (Nat.le_refl _) (hT.below hbwb)).mono ?_
    rintro e wd ⟨rfl, hbd⟩
    rw [HE.out]
    have hbwd := hbwb.trans (hbd.mono hbwb.size)
    clear hconv
    obtain ⟨cap2, wb2, hconv, hbb2, hsgb2⟩ := seg_bytes_of t wd (by omega)
    rw [HSQ.out] at hsgb2
    have HSG2 := Lib.hid hsgb2; clear hsgb2
    have hbwb2 := hbwd.trans (hbb2.mono hbwd.size)
    go_wp2_with fail
    refine (uvalid_any _ qs rest2 haq hrest2 _ wb2 HSG2.out (Nat.le_refl _) (hT.below hbwb2)).mono ?_
    rintro e we ⟨rfl, hbe⟩
    go_wp2
    go_ret
    exact ⟨rfl, hbwb2.trans (hbe.mono hbwb2.size)⟩

set_option maxRecDepth 100000 in
set_option maxHeartbeats 2000000 in
theorem textMade_large (s : ByteArray) (t : ByteArray) (hg : ¬ 50000 < (s.size : Int) + (t.size : Int)) (a b : List Int) (ha : AllR a) (hb : AllR b) (HSA : Hid (s.data.toList = txt a)) (HTB : Hid (t.data.toList = txt b))
    (hbig : 32768 < (t.size : Int)) (n m : Nat) (HN : Hid (IsN a b n)) (HM : Hid (IsM a b n m)) (w : World) (hT : Tabs w) :
    Calls Tryd.prog 18 #[.string s, .string t] w fun e w' => e = .returned (.bool true) ∧ Below w.heap.size w w' := by
  have hsl : s.size ≤ 100000 := by omega
  have htl : t.size ≤ 100000 := by omega
  have hal : a.length ≤ 100000 := by have := txt_length_le a; rw [← txt_size s a HSA.out] at this; omega
  go_enter Tryd.func18, Tryd.ntmps18
  go_wp2_with fail
  refine (alive7_any _ hT).mono ?_
  rintro e w1 ⟨rfl, hb1⟩
  have hT1 := hT.below hb1
  go_wp2_with fail
  refine (between_ok s t a b HSA.out HTB.out ha hb hsl htl n m HN HM w1 hT1).mono ?_
  rintro e w2 ⟨X, hX, rfl, hb2⟩
  have hxs : X.size ≤ 100000 := by
    have h1 := made_len ha HN.out HM.out
    have h2 := plc_le a (a.length - m)
    rw [Lib.size_eq, hX]
    have h3 := txt_size t b HTB.out
    omega
  have hap := made_step ha hb HN.out HM.out hX
  rw [if_pos (by have h3 := txt_size t b HTB.out; omega)] at hap
  have HAP := Lib.hid hap; clear hap
  have HX := Lib.hid hX; clear hX
  have hbw2 := hb1.trans (hb2.mono hb1.size)
  clear hb2
  obtain ⟨w3, hw3⟩ : ∃ w3, w3 = w2.alloc (.cells #[.int .i64 (posT a n).1, .int .i64 (posT a n).2, .int .i64 (posT a (a.length - m)).1, .int .i64 (posT a (a.length - m)).2, .string X] 52) := ⟨_, rfl⟩
  have hbw3 : Below w.heap.size w w3 := by rw [hw3]; exact hbw2.alloc hbw2.size _
  have hsg := segE_new w3 [edN a n m X] #[.int .i64 (posT a n).1, .int .i64 (posT a n).2, .int .i64 (posT a (a.length - m)).1, .int .i64 (posT a (a.length - m)).2, .string X] rfl (by simp)
  have hbw4 : Below w.heap.size w (w3.alloc (.cells #[.int .i64 (posT a n).1, .int .i64 (posT a n).2, .int .i64 (posT a (a.length - m)).1, .int .i64 (posT a (a.length - m)).2, .string X] 52)) := hbw3.alloc hbw3.size _
  have hcall := apply_ok s a HSA.out ha hsl _ [edN a n m X] (by
    intro e he
    simp at he
    subst he
    have h1 := posT_small a n hal
    have h2 := posT_small a (a.length - m) hal
    refine ⟨hxs, ?_, ?_⟩
    · show ((posT a n).1 : Int) ≤ _; omega
    · show ((posT a (a.length - m)).1 : Int) ≤ _; omega) _ _ hsg (by simp) (hT.below hbw4)
  rw [HAP.out] at hcall
  rw [hw3] at hcall hbw4
  simp only [World.size_alloc, List.length_cons, List.length_nil, Nat.zero_add] at hcall
  clear hsg hbw3 hw3
  go_wp2_with fail
  ((with_reducible refine hcall.mono ?_); rintro e w5 ⟨rfl, hb5⟩)
  have hbw5 := hbw4.trans (hb5.mono (hbw4.size))
  clear hb5 hcall
  go_wp2
  go_ret
  exact ⟨rfl, hbw5⟩
set_option maxRecDepth 100000 in
set_option maxHeartbeats 2000000 in
theorem textMade_small (s : ByteArray) (t : ByteArray) (hg : ¬ 50000 < (s.size : Int) + (t.size : Int)) (a b : List Int) (ha : AllR a) (hb : AllR b) (HSA : Hid (s.data.toList = txt a)) (HTB : Hid (t.data.toList = txt b))
    (hbig : ¬ 32768 < (t.size : Int)) (n m : Nat) (HN : Hid (IsN a b n)) (HM : Hid (IsM a b n m)) (w : World) (hT : Tabs w) :
    Calls Tryd.prog 18 #[.string s, .string t] w fun e w' => e = .returned (.bool true) ∧ Below w.heap.size w w' := by
  have hsl : s.size ≤ 100000 := by omega
  have htl : t.size ≤ 100000 := by omega
  have hal : a.length ≤ 100000 := by have := txt_length_le a; rw [← txt_size s a HSA.out] at this; omega
  go_enter Tryd.func18, Tryd.ntmps18
  go_wp2_with fail
  refine (alive7_any _ hT).mono ?_
  rintro e w1 ⟨rfl, hb1⟩
  have hT1 := hT.below hb1
  go_wp2_with fail
  refine (between_ok s t a b HSA.out HTB.out ha hb hsl htl n m HN HM w1 hT1).mono ?_
  rintro e w2 ⟨X, hX, rfl, hb2⟩
  have hxs : X.size ≤ 100000 := by
    have h1 := made_len ha HN.out HM.out
    have h2 := plc_le a (a.length - m)
    rw [Lib.size_eq, hX]
    have h3 := txt_size t b HTB.out
    omega
  have hap := made_step ha hb HN.out HM.out hX
  rw [if_neg (by have h3 := txt_size t b HTB.out; omega)] at hap
  have HAP := Lib.hid hap; clear hap
  have HX := Lib.hid hX; clear hX
  have hbw2 := hb1.trans (hb2.mono hb1.size)
  clear hb2
  obtain ⟨w3, hw3⟩ : ∃ w3, w3 = w2.alloc (.cells #[.int .i64 (posT a n).1, .int .i64 (posT a n).2, .int .i64 (posT a (a.length - m)).1, .int .i64 (posT a (a.length - m)).2, .string X] 52) := ⟨_, rfl⟩
  have hbw3 : Below w.heap.size w w3 := by rw [hw3]; exact hbw2.alloc hbw2.size _
  have hsg := segE_new w3 [edN a n m X] #[.int .i64 (posT a n).1, .int .i64 (posT a n).2, .int .i64 (posT a (a.length - m)).1, .int .i64 (posT a (a.length - m)).2, .string X] rfl (by simp)
  have hbw4 : Below w.heap.size w (w3.alloc (.cells #[.int .i64 (posT a n).1, .int .i64 (posT a n).2, .int .i64 (posT a (a.length - m)).1, .int .i64 (posT a (a.length - m)).2, .string X] 52)) := hbw3.alloc hbw3.size _
  have hcall := apply_ok s a HSA.out ha hsl _ [edN a n m X] (by
    intro e he
    simp at he
    subst he
    have h1 := posT_small a n hal
    have h2 := posT_small a (a.length - m) hal
    refine ⟨hxs, ?_, ?_⟩
    · show ((posT a n).1 : Int) ≤ _; omega
    · show ((posT a (a.length - m)).1 : Int) ≤ _; omega) _ _ hsg (by simp) (hT.below hbw4)
  rw [HAP.out] at hcall
  rw [hw3] at hcall hbw4
  simp only [World.size_alloc, List.length_cons, List.length_nil, Nat.zero_add] at hcall
  clear hsg hbw3 hw3
  go_wp2_with fail
  ((with_reducible refine hcall.mono ?_); rintro e w5 ⟨he5, hb5⟩)
  have he6 : e = .returned (.tuple #[.string t, .int .i64 0]) := he5.trans (by rw [str_eq t _ HTB.out])
  subst he6
  have hbw5 := hbw4.trans (hb5.mono (hbw4.size))
  obtain ⟨c0, c1, c2, c3, c4, _⟩ := (((Box5.new w2 (.int .i64 (posT a n).1) (.int .i64 (posT a n).2) (.int .i64 (posT a (a.length - m)).1) (.int .i64 (posT a (a.length - m)).2) (.string X)).below (w' := (w2.alloc (.cells #[.int .i64 (posT a n).1, .int .i64 (posT a n).2, .int .i64 (posT a (a.length - m)).1, .int .i64 (posT a (a.length - m)).2, .string X] 52)).alloc (.cells #[.int .i64 (posT a n).1, .int .i64 (posT a n).2, .int .i64 (posT a (a.length - m)).1, .int .i64 (posT a (a.length - m)).2, .string X] 52)) (by simp) ((Below.refl _ _).alloc (Nat.le_refl _) _)).below (by simp; omega) hb5)
  clear hb5 hcall he5
  have hiff := empty_iff HN.out HM.out
  by_cases hab : a = b
  · obtain ⟨hm0, hpp⟩ := hiff.2 hab
    have hst : s = t := by
      have : s.data = t.data := Array.toList_inj.1 (by rw [HSA.out, HTB.out, hab])
      cases s; cases t; cases this; rfl
    have hX0 : X = ⟨#[]⟩ := by
      have : X.data = #[] := Array.toList_inj.1 (by rw [HX.out, hm0]; rfl)
      cases X; cases this; rfl
    subst hst
    subst hX0
    rw [← hpp] at c2 c3
    clear hiff hab hm0 hpp HAP hbw4
    go_wp2
    go_ret
    exact ⟨by simp, hbw5⟩
  · have hst : s ≠ t := fun e => hab (txt_inj ha hb (by rw [← HSA.out, ← HTB.out, e]))
    have hemp : ¬ (X = ⟨#[]⟩ ∧ (posT a n).1 = (posT a (a.length - m)).1 ∧ (posT a n).2 = (posT a (a.length - m)).2) := by
      rintro ⟨h1, h2, h3⟩
      refine hab (hiff.1 ⟨?_, Prod.ext h2 h3⟩)
      have := HX.out
      rw [h1] at this
      have h5 := txt_length_le (midN b n m)
      rw [← this] at h5
      exact List.length_eq_zero_iff.1 (by simpa using h5)
    clear hiff hab HAP hbw4
    generalize (posT a n).1 = p1 at *
    generalize (posT a n).2 = p2 at *
    generalize (posT a (a.length - m)).1 = p3 at *
    generalize (posT a (a.length - m)).2 = p4 at *
    have hst' : (s.toList == t.toList) = false := by
      refine beq_eq_false_iff_ne.2 fun e => hst ?_
      rw [ByteArray.toList_eq, ByteArray.toList_eq] at e
      have : s.data = t.data := Array.toList_inj.1 e
      cases s; cases t; cases this; rfl
    have hst2 : ¬ s.toList = t.toList := by simpa using hst'
    clear hst
    by_cases h1 : X = ⟨#[]⟩
    · subst h1
      by_cases h2 : p1 = p3
      · subst h2
        have h3 : ¬ p2 = p4 := fun e => hemp ⟨rfl, rfl, e⟩
        have h3' : ((p2 : Int) == (p4 : Int)) = false := by simp; omega
        clear hemp h3
        go_wp2
        go_ret
        exact ⟨by simp, hbw5⟩
      · have h3' : ((p1 : Int) == (p3 : Int)) = false := by simp; omega
        clear hemp h2
        go_wp2
        go_ret
        exact ⟨by simp, hbw5⟩
    · have h3' : ¬ X.toList = [] := fun e => h1 (by
        rw [ByteArray.toList_eq] at e
        have : X.data = #[] := Array.toList_inj.1 e
        cases X; cases this; rfl)
      have h4' : X.toList.isEmpty = false := by simpa using h3'
      clear hemp h1
      go_wp2
      go_ret
      exact ⟨by simp, hbw5⟩

theorem textMade_walk (s : ByteArray) (hs : s.size ≤ 140737488351232) (t : ByteArray) (ht : t.size ≤ 140737488351232) (w : World) (hT : Tabs w) :
    Calls Tryd.prog 18 #[.string s, .string t] w fun e w' => e = .returned (.bool true) ∧ Below w.heap.size w w' := by
  by_cases hg : 50000 < (s.size : Int) + (t.size : Int)
  · go_enter Tryd.func18, Tryd.ntmps18
    go_wp2_with (go_at_call 39; refine (alive7_any _ hT).mono ?_; rintro e w1 ⟨rfl, hb1⟩)
    go_ret
    exact ⟨rfl, hb1⟩
  · by_cases hv : Lib.validD s.data.toList = false ∨ Lib.validD t.data.toList = false
    · exact textMade_bad s t hg hv w hT
    · have hv1 : Lib.validD s.data.toList = true := by cases h : Lib.validD s.data.toList with | true => rfl | false => exact absurd (.inl h) hv
      have hv2 : Lib.validD t.data.toList = true := by cases h : Lib.validD t.data.toList with | true => rfl | false => exact absurd (.inr h) hv
      obtain ⟨a, ha, hsa⟩ := (validD_iff _).1 hv1
      obtain ⟨b, hb, htb⟩ := (validD_iff _).1 hv2
      obtain ⟨n, hN⟩ := isN_ex a b
      obtain ⟨m, hM⟩ := isM_ex a b n
      by_cases hbig : 32768 < (t.size : Int)
      · exact textMade_large s t hg a b ha hb (Lib.hid hsa) (Lib.hid htb) hbig n m (Lib.hid hN) (Lib.hid hM) w hT
      · exact textMade_small s t hg a b ha hb (Lib.hid hsa) (Lib.hid htb) hbig n m (Lib.hid hN) (Lib.hid hM) w hT
end Go.Proofs.YtdldkidccjkhgaaDoor
