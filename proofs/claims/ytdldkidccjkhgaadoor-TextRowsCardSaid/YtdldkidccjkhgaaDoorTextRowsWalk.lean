import Derived.Test.YtdldkidccjkhgaaDoorTextAppliesWalk
namespace Go.Proofs.YtdldkidccjkhgaaDoor
open Go.RowKit Go.Par
set_option linter.unusedVariables false

theorem applyE_app : ∀ (a : List Ed) (rs : List Int) (b : List Ed), applyE rs (a ++ b) = (match applyE rs a with | .error n => .error n | .ok qs => applyE qs b)
  | [], rs, b => rfl
  | e :: a, rs, b => by
    rw [List.cons_append]
    have h1 : ∀ l, applyE rs (e :: l) = (match stepE rs e with | .error n => .error n | .ok qs => applyE qs l) := fun l => by
      conv => lhs; unfold applyE
      cases stepE rs e <;> rfl
    rw [h1, h1]
    cases stepE rs e with
    | error n => rfl
    | ok qs => exact applyE_app a qs b
theorem stepE_ok {rs qs : List Int} {e : Ed} (ha : AllR rs) (h : stepE rs e = .ok qs) : AllR qs ∧ (txt qs).length ≤ 32768 := by
  rcases text_or e.t with ⟨ts, hat, hts⟩ | hb
  · rw [stepE_txt rs e ts hts hat] at h
    unfold stepT7 at h
    have hp2 := fun k => plc_le rs k
    split at h
    · cases h
    · cases h
    · rename_i k m _ _
      split at h
      · cases h
      · split at h
        · cases h
        · cases h
          refine ⟨((ha.take k).append hat).append (ha.drop m), ?_⟩
          have h1 := congrArg List.length (take_txt rs k)
          have h2 := congrArg List.length (drop_txt rs m)
          have h3 := hp2 k
          have h4 := hp2 m
          rw [List.length_take] at h1
          rw [List.length_drop] at h2
          rw [txt_append, txt_append, List.length_append, List.length_append]
          omega
  · unfold stepE at h
    rw [runesOf_bad hb] at h
    cases h
theorem stepE_err {rs : List Int} {e : Ed} {n : Int} (h : stepE rs e = .error n) : n ≠ 0 := by
  rcases text_or e.t with ⟨ts, hat, hts⟩ | hb
  · rw [stepE_txt rs e ts hts hat] at h
    unfold stepT7 at h
    split at h
    · cases h; decide
    · cases h; decide
    · split at h
      · cases h; decide
      · split at h
        · cases h; decide
        · cases h
  · unfold stepE at h
    rw [runesOf_bad hb] at h
    cases h; decide
theorem applyE_ok : ∀ (es : List Ed) (rs qs : List Int), AllR rs → applyE rs es = .ok qs → AllR qs ∧ ((txt qs).length ≤ (txt rs).length ∨ (txt qs).length ≤ 32768)
  | [], rs, qs, ha, h => by cases h; exact ⟨ha, .inl (Nat.le_refl _)⟩
  | e :: es, rs, qs, ha, h => by
    unfold applyE at h
    cases hs : stepE rs e with
    | error n => rw [hs] at h; cases h
    | ok ps =>
      rw [hs] at h
      obtain ⟨h1, h2⟩ := stepE_ok ha hs
      obtain ⟨h3, h4⟩ := applyE_ok es ps qs h1 h
      exact ⟨h3, .inr (by omega)⟩
theorem applyE_err : ∀ (es : List Ed) (rs : List Int) (n : Int), applyE rs es = .error n → n ≠ 0
  | [], rs, n, h => by cases h
  | e :: es, rs, n, h => by
    unfold applyE at h
    cases hs : stepE rs e with
    | error m => rw [hs] at h; cases h; exact stepE_err hs
    | ok ps => rw [hs] at h; exact applyE_err es ps n h

theorem eds_take (es : List Ed) (k i : Nat) (hi : i < 5 * k) : (eds (es.take k))[i]? = (eds es)[i]? := by
  conv => rhs; rw [← List.take_append_drop k es, eds_append]
  by_cases h : i < (eds (es.take k)).length
  · rw [List.getElem?_append_left h]
  · rw [eds_length] at h
    have hk : es.length < k ∨ es.length ≤ i / 5 := by simp at h; omega
    have hd : es.drop k = [] := List.drop_eq_nil_of_le (by simp at h; omega)
    rw [hd]; simp [eds]
theorem eds_drop (es : List Ed) (k i : Nat) (hk : k ≤ es.length) : (eds (es.drop k))[i]? = (eds es)[k * 5 + i]? := by
  conv => rhs; rw [← List.take_append_drop k es, eds_append]
  have hl : (eds (es.take k)).length = k * 5 := by rw [eds_length]; simp; omega
  rw [List.getElem?_append_right (by omega), hl, Nat.add_sub_cancel_left]

theorem slice_to (A : Option Addr) (n c N : Nat) (w : World) (h : N ≤ c) : (Instr.slice 46 (.slice A n c) none (some (.int .i64 (N : Int))) none).run Tryd.prog w = .ok (.slice A N c) w := by
  have ht' : Tryd.prog.underlying 46 = some (.slice (Tryd.prog.elem 46)) := by simp [Program.elem, Tryd.underlying46]
  have he : Tryd.prog.elem 46 = 52 := by simp [Program.elem, Tryd.underlying46]
  rw [run_slice_h w 46 _ _ _ ht' .i64 _ (by omega) (by omega), he, Tryd.sizeOf52]
  simp only [Result.andThen, sliced]
  cases A <;> simp [Addr.add]
theorem slice_from (A : Option Addr) (n c N : Nat) (w : World) (h : N ≤ n) : (Instr.slice 46 (.slice A n c) (some (.int .i64 (N : Int))) none none).run Tryd.prog w = .ok (sliced A N n c 5) w := by
  have ht' : Tryd.prog.underlying 46 = some (.slice (Tryd.prog.elem 46)) := by simp [Program.elem, Tryd.underlying46]
  have he : Tryd.prog.elem 46 = 52 := by simp [Program.elem, Tryd.underlying46]
  rw [run_slice_l w 46 _ _ _ ht' .i64 _ (by omega) (by omega), he, Tryd.sizeOf52]
  simp [Result.andThen]

theorem segE_take {w : World} {B : Nat} {A : Option Addr} {c : Nat} {es : List Ed} (h : SegE w B (.slice A es.length c) es) (k : Nat) (hk : k ≤ es.length) : SegE w B (.slice A k c) (es.take k) := by
  obtain ⟨A', c', e, h2, h3, h4⟩ := h
  cases e
  have hl : (es.take k).length = k := by simp; omega
  refine ⟨A, c, by rw [hl], by omega, h3, fun hp => ?_⟩
  rw [hl] at hp ⊢
  obtain ⟨b, off, e, hb, hc⟩ := h4 (by omega)
  exact ⟨b, off, e, hb, fun i hi => by rw [hc i (by omega), eds_take es k i hi]⟩
theorem segE_drop {w : World} {B : Nat} {A : Option Addr} {c : Nat} {es : List Ed} (h : SegE w B (.slice A es.length c) es) (k : Nat) (hk : k ≤ es.length) : SegE w B (sliced A k es.length c 5) (es.drop k) := by
  obtain ⟨A', c', e, h2, h3, h4⟩ := h
  cases e
  have hl : (es.drop k).length = es.length - k := by simp
  by_cases hkl : k < es.length
  · obtain ⟨b, off, e, hb, hc⟩ := h4 (by omega)
    subst e
    have hs : sliced (some ⟨b, off, none⟩) k es.length c 5 = .slice (some ⟨b, off + k * 5, none⟩) (es.length - k) (c - k) := by
      have hne : ¬ c = k := by omega
      unfold sliced
      by_cases h0 : k = 0
      · subst h0; simp [Addr.add]
      · simp [Addr.add, hne]
        omega
    rw [hs]
    refine ⟨_, c - k, by rw [hl], by omega, by omega, fun hp => ⟨b, off + k * 5, rfl, hb, fun i hi => ?_⟩⟩
    rw [hl] at hi
    rw [Nat.add_assoc, hc _ (by omega), eds_drop es k i hk]
  · have he : es.drop k = [] := List.drop_eq_nil_of_le (by omega)
    rw [he]
    have hs : ∃ A2, sliced A k es.length c 5 = .slice A2 0 (c - k) := by
      unfold sliced
      rw [show es.length - k = 0 by omega]
      split <;> exact ⟨_, rfl⟩
    obtain ⟨A2, hs⟩ := hs
    rw [hs]
    exact ⟨A2, c - k, rfl, by simp, by omega, fun h => by simp at h⟩

theorem applyS_take (s : ByteArray) (es : List Ed) (k : Nat) : applyS s es = (match applyS s (es.take k) with | .error n => .error n | .ok qs => applyE qs (es.drop k)) := by
  unfold applyS
  cases runesOf s.data.toList with
  | none => rfl
  | some rs =>
    have := applyE_app (es.take k) rs (es.drop k)
    rw [List.take_append_drop] at this
    exact this
theorem applyS_ok {s : ByteArray} {es : List Ed} {qs : List Int} (hs : s.size ≤ 100000) (h : applyS s es = .ok qs) : AllR qs ∧ (txt qs).length ≤ 100000 := by
  unfold applyS at h
  rcases text_or s with ⟨rs, har, hsr⟩ | hsb
  · rw [hsr, runesOf_txt har] at h
    have hz := txt_size s rs hsr
    obtain ⟨h1, h2⟩ := applyE_ok es rs qs har h
    exact ⟨h1, by omega⟩
  · rw [runesOf_bad hsb] at h; cases h
theorem applyS_err {s : ByteArray} {es : List Ed} {n : Int} (h : applyS s es = .error n) : n ≠ 0 := by
  unfold applyS at h
  cases hr : runesOf s.data.toList with
  | none => rw [hr] at h; cases h; decide
  | some rs => rw [hr] at h; exact applyE_err es rs n h

set_option maxRecDepth 100000 in
set_option maxHeartbeats 2000000 in
theorem textRows_walk (s : ByteArray) (hs : s.size ≤ 140737488351232) (v : Value) (es : List Ed) (hes : EdsOk es) (at' : Int) (_hat : -9223372036854775808 ≤ at' ∧ at' ≤ 9223372036854775807) (w : World) (hsg : SegE w w.heap.size v es) (hT : Tabs w) :
    Calls Tryd.prog 11 #[.string s, v, .int .i64 at'] w fun e w' => e = .returned (.bool true) ∧ Below w.heap.size w w' := by
  clear _hat
  by_cases hmany : 50 < es.length
  · go_enter Tryd.func11, Tryd.ntmps11
    go_wp2_with fail
    refine (alive7_any _ hT).mono ?_
    rintro e w1 ⟨rfl, hb1⟩
    go_wp2_with fail
    refine (great_many s v es hmany _ w1 (hsg.below hb1)).mono ?_
    rintro e w2 ⟨rfl, rfl⟩
    go_wp2
    go_ret
    exact ⟨rfl, hb1⟩
  · have hgf := fun wx (h : SegE wx w.heap.size v es) => great_few s hs v es (fun e he => (hes e he).1) (by omega) _ wx h
    by_cases hbig : 100000 < bulkE s.size es
    · rw [decide_eq_true hbig] at hgf
      go_enter Tryd.func11, Tryd.ntmps11
      go_wp2_with fail
      refine (alive7_any _ hT).mono ?_
      rintro e w1 ⟨rfl, hb1⟩
      go_wp2_with fail
      refine (hgf w1 (hsg.below hb1)).mono ?_
      rintro e w2 ⟨rfl, rfl⟩
      go_wp2
      go_ret
      exact ⟨rfl, hb1⟩
    · rw [decide_eq_false hbig] at hgf
      have hok := few_ok hes hbig
      have hsl : s.size ≤ 100000 := by have : s.size ≤ bulkE s.size es := Nat.le_add_right _ _; omega
      obtain ⟨A, c, rfl, hc, hcm, hat⟩ := hsg
      have hsg : SegE w w.heap.size (.slice A es.length c) es := ⟨A, c, rfl, hc, hcm, hat⟩
      clear hat
      have HOK := Lib.hid hok; clear hok
      by_cases hneg : at' < 0
      · go_enter Tryd.func11, Tryd.ntmps11
        go_wp2_with fail
        refine (alive7_any _ hT).mono ?_
        rintro e w1 ⟨rfl, hb1⟩
        go_wp2_with fail
        refine (hgf w1 (hsg.below hb1)).mono ?_
        rintro e w2 ⟨rfl, rfl⟩
        go_wp2
        go_ret
        exact ⟨rfl, hb1⟩
      · by_cases hover : (es.length : Int) < at'
        · go_enter Tryd.func11, Tryd.ntmps11
          go_wp2_with fail
          refine (alive7_any _ hT).mono ?_
          rintro e w1 ⟨rfl, hb1⟩
          go_wp2_with fail
          refine (hgf w1 (hsg.below hb1)).mono ?_
          rintro e w2 ⟨rfl, rfl⟩
          go_wp2
          go_ret
          exact ⟨rfl, hb1⟩
        · obtain ⟨k, rfl⟩ : ∃ k : Nat, at' = k := ⟨at'.toNat, by omega⟩
          have hk : k ≤ es.length := by omega
          have hst := fun wx => slice_to A es.length c k wx (by omega)
          have hsf := fun wx => slice_from A es.length c k wx hk
          have hsgd := segE_drop hsg k hk
          obtain ⟨D, hD⟩ : ∃ D, D = sliced A k es.length c 5 := ⟨_, rfl⟩
          rw [← hD] at hsf hsgd
          clear hD
          have hsgt := segE_take hsg k hk
          go_enter Tryd.func11, Tryd.ntmps11
          go_wp2_with fail
          refine (alive7_any _ hT).mono ?_
          rintro e w1 ⟨rfl, hb1⟩
          go_wp2_with fail
          refine (hgf w1 (hsg.below hb1)).mono ?_
          rintro e w2 ⟨rfl, rfl⟩
          clear hgf
          go_wp2_with fail
          refine (copyEdits_any _ es _ w2 (hsg.below hb1) hb1.size (by omega)).mono ?_
          rintro e w3 ⟨u3, rfl, hsg3, hb3⟩
          have hbw3 := hb1.trans (hb3.mono hb1.size)
          go_wp2_with fail
          refine (apply_any s hsl _ es HOK.out _ w3 hsg3 (Nat.le_refl _) (hT.below hbw3)).mono ?_
          intro e w4 hp4
          obtain ⟨S4, y4, rfl, hb4, hsame⟩ := hp4.open
          have hbw4 := hbw3.trans (hb4.mono hbw3.size)
          have HP4 := Lib.hid hp4; clear hp4
          have HSM := Lib.hid hsame; clear hsame
          clear hsg3
          go_wp2_with fail
          refine (copyEdits_any _ (es.take k) _ w4 (hsgt.below hbw4) hbw4.size (by simp; omega)).mono ?_
          rintro e w5 ⟨u5, rfl, hsg5, hb5⟩
          have hbw5 := hbw4.trans (hb5.mono hbw4.size)
          go_wp2_with fail
          refine (apply_any s hsl _ (es.take k) (fun e he => HOK.out e (List.mem_of_mem_take he)) _ w5 hsg5 (Nat.le_refl _) (hT.below hbw5)).mono ?_
          clear hsg5
          have hsplit := applyS_take s es k
          cases hr : applyS s (es.take k) with
          | error n =>
            rintro e w6 ⟨rfl, hb6⟩
            rw [hr] at hsplit
            dsimp only at hsplit
            have hp4 := HP4.out
            rw [hsplit] at hp4
            have he4 := hp4.1
            simp at he4
            obtain ⟨rfl, rfl⟩ := he4
            have hn0 : ¬ y4 = 0 := applyS_err hr
            clear hp4 hsplit HP4 HSM hr hst hsf hsgd hsgt hsg
            go_wp2
            go_ret
            exact ⟨rfl, hbw5.trans (hb6.mono hbw5.size)⟩
          | ok qs =>
            rintro e w6 ⟨rfl, hb6⟩
            have hbw6 := hbw5.trans (hb6.mono hbw5.size)
            rw [hr] at hsplit
            dsimp only at hsplit
            obtain ⟨haq, hql⟩ := applyS_ok hsl hr
            obtain ⟨M, hM, hMl, hMz⟩ := str_of (txt qs)
            rw [← hM]
            have hMz2 : M.size ≤ 100000 := by omega
            have hap : applyS M (es.drop k) = applyS s es := by
              rw [hsplit]; unfold applyS; rw [hMl, runesOf_txt haq]
            have HAP := Lib.hid hap; clear hap hsplit hr hM hMl hMz
            go_wp2_with fail
            refine (copyEdits_any _ (es.drop k) _ w6 (hsgd.below hbw6) hbw6.size (by simp; omega)).mono ?_
            rintro e w7 ⟨u7, rfl, hsg7, hb7⟩
            have hbw7 := hbw6.trans (hb7.mono hbw6.size)
            go_wp2_with fail
            refine (apply_any M hMz2 _ (es.drop k) (fun e he => HOK.out e (List.mem_of_mem_drop he)) _ w7 hsg7 (Nat.le_refl _) (hT.below hbw7)).mono ?_
            intro e w8 hp8
            rw [HAP.out] at hp8
            obtain ⟨rfl, hb8⟩ := HSM.out _ _ _ hp8
            clear hp8 HSM HP4 hsg7 hst hsf hsgd hsgt hsg
            go_wp2
            go_ret
            exact ⟨rfl, hbw7.trans (hb8.mono hbw7.size)⟩
end Go.Proofs.YtdldkidccjkhgaaDoor
