import Derived.Test.YtdldkidccjkhgaaDoorT9b
namespace Go.Proofs.YtdldkidccjkhgaaDoor
open Go.RowKit Go.Par
set_option linter.unusedVariables false

/-- what the row knows of the edits. -/
def EdsOk (es : List Ed) : Prop := ∀ e ∈ es, e.t.size ≤ 140737488351232 ∧ e.l ≤ 9223372036854775807 ∧ e.el ≤ 9223372036854775807

theorem ApplyPost.open {w w' : World} {r : Except Int (List Int)} {e : Ending} (h : ApplyPost w r e w') : ∃ (S : ByteArray) (y : Int), e = .returned (.tuple #[.string S, .int .i64 y]) ∧ Below w.heap.size w w' ∧
    ∀ w1 w2 e', ApplyPost w1 r e' w2 → e' = .returned (.tuple #[.string S, .int .i64 y]) ∧ Below w1.heap.size w1 w2 := by
  cases r with
  | error n => exact ⟨_, _, h.1, h.2, fun _ _ _ h => h⟩
  | ok k => exact ⟨_, _, h.1, h.2, fun _ _ _ h => h⟩

/-- Apply and the reference, whatever the text. -/
noncomputable def applyS (s : ByteArray) (es : List Ed) : Except Int (List Int) := match runesOf s.data.toList with
  | none => .error 40
  | some rs => applyE rs es
theorem apply_any (s : ByteArray) (hl : s.size ≤ 100000) (v : Value) (es : List Ed) (he : ∀ e ∈ es, e.t.size ≤ 100000 ∧ e.l ≤ 9223372036854775807 ∧ e.el ≤ 9223372036854775807)
    (B : Nat) (w : World) (hsg : SegE w B v es) (hB : B ≤ w.heap.size) (hT : Tabs w) : Calls Tryd.prog 42 #[.string s, v] w (ApplyPost w (applyS s es)) := by
  rcases text_or s with ⟨rs, har, hsr⟩ | hsb
  · have : applyS s es = applyE rs es := by unfold applyS; rw [hsr, runesOf_txt har]
    rw [this]
    exact apply_ok s rs hsr har hl v es he B w hsg hB hT
  · have : applyS s es = .error 40 := by unfold applyS; rw [runesOf_bad hsb]
    rw [this]
    exact apply_bad s hsb (by omega) v w hT
theorem rapply_any (s : ByteArray) (hl : s.size ≤ 100000) (v : Value) (es : List Ed) (he : ∀ e ∈ es, e.t.size ≤ 100000 ∧ e.l ≤ 9223372036854775807 ∧ e.el ≤ 9223372036854775807)
    (B : Nat) (w : World) (hsg : SegE w B v es) (hB : B ≤ w.heap.size) : Calls Tryd.prog 43 #[.string s, v] w (ApplyPost w (applyS s es)) := by
  rcases text_or2 s with ⟨rs, har, hsr⟩ | ⟨hsb, rs, rest, har, hbad, hsr⟩
  · have : applyS s es = applyE rs es := by unfold applyS; rw [hsr, runesOf_txt har]
    rw [this]
    exact rapply_ok s rs hsr har hl v es he B w hsg hB
  · have : applyS s es = .error 40 := by unfold applyS; rw [runesOf_bad hsb]
    rw [this]
    exact rapply_bad s rs rest hsr har hbad hl v w

theorem few_ok {s : ByteArray} {es : List Ed} (hes : EdsOk es) (h : ¬ 100000 < bulkE s.size es) : ∀ e ∈ es, e.t.size ≤ 100000 ∧ e.l ≤ 9223372036854775807 ∧ e.el ≤ 9223372036854775807 := fun e he => by
  have h1 := bulkE_mem (n := s.size) he
  have h2 := hes e he
  omega

set_option maxRecDepth 100000 in
set_option maxHeartbeats 2000000 in
theorem textApplies_walk (s : ByteArray) (hs : s.size ≤ 140737488351232) (v : Value) (es : List Ed) (hes : EdsOk es) (w : World) (hsg : SegE w w.heap.size v es) (hT : Tabs w) :
    Calls Tryd.prog 10 #[.string s, v] w fun e w' => e = .returned (.bool true) ∧ Below w.heap.size w w' := by
  by_cases hmany : 50 < es.length
  · go_enter Tryd.func10, Tryd.ntmps10
    go_wp2_with fail
    refine (alive7_any _ hT).mono ?_
    rintro e w1 ⟨rfl, hb1⟩
    go_wp2_with fail
    refine (great_many s v es hmany _ w1 (hsg.below hb1)).mono ?_
    rintro e w2 ⟨rfl, rfl⟩
    go_wp2
    go_ret
    exact ⟨rfl, hb1⟩
  · have hgf := fun wx (h : SegE wx w.heap.size v es) => great_few s hs v es (fun e he => (hes e he).1) (by omega) _ wx h
    by_cases hbig : 100000 < bulkE s.size es
    · rw [decide_eq_true hbig] at hgf
      go_enter Tryd.func10, Tryd.ntmps10
      go_wp2_with fail
      refine (alive7_any _ hT).mono ?_
      rintro e w1 ⟨rfl, hb1⟩
      go_wp2_with fail
      refine (hgf w1 (hsg.below hb1)).mono ?_
      rintro e w2 ⟨rfl, rfl⟩
      go_wp2
      go_ret
      exact ⟨rfl, hb1⟩
    · rw [decide_eq_false hbig] at hgf
      have hok := few_ok hes hbig
      have hsl : s.size ≤ 100000 := by have : s.size ≤ bulkE s.size es := Nat.le_add_right _ _; omega
      obtain ⟨A, c, rfl, hc, hcm, hat⟩ := hsg
      have hsg : SegE w w.heap.size (.slice A es.length c) es := ⟨A, c, rfl, hc, hcm, hat⟩
      have HAT := Lib.hid hat; clear hat
      have HOK := Lib.hid hok; clear hok
      go_enter Tryd.func10, Tryd.ntmps10
      go_wp2_with fail
      refine (alive7_any _ hT).mono ?_
      rintro e w1 ⟨rfl, hb1⟩
      go_wp2_with fail
      refine (hgf w1 (hsg.below hb1)).mono ?_
      rintro e w2 ⟨rfl, rfl⟩
      clear hgf
      go_wp2_with fail
      refine (copyEdits_any _ es _ w2 (hsg.below hb1) hb1.size (by omega)).mono ?_
      rintro e w3 ⟨u3, rfl, hsg3, hb3⟩
      have hbw3 := hb1.trans (hb3.mono hb1.size)
      go_wp2_with fail
      refine (apply_any s hsl _ es HOK.out _ w3 hsg3 (Nat.le_refl _) (hT.below hbw3)).mono ?_
      intro e w4 hp4
      obtain ⟨S4, y4, rfl, hb4, hsame⟩ := hp4.open
      clear hp4
      have HSM := Lib.hid hsame; clear hsame
      have hbw4 := hbw3.trans (hb4.mono hbw3.size)
      go_wp2_with fail
      refine (rapply_any s hsl _ es HOK.out _ w4 (hsg.below hbw4) hbw4.size).mono ?_
      intro e w5 hp5
      obtain ⟨rfl, hb5⟩ := HSM.out _ _ _ hp5
      clear hp5 HSM
      have hbw5 := hbw4.trans (hb5.mono hbw4.size)
      have hsg5 := (hsg3.below hb4).below (hb5.mono hb4.size)
      obtain ⟨A3, c3, rfl, hc3, hcm3, hat3⟩ := hsg5
      have HAT3 := Lib.hid hat3; clear hat3
      have hz3 := hb4.size
      have hz5 := hb5.size
      clear hsg hsg3 hb1 hb3 hb4 hb5 hbw3 hbw4 
      go_wp2
      go_loopw [10] (fun i wr => ∃ k : Nat, k ≤ es.length ∧ i = .int .i64 k ∧ Below w.heap.size w wr ∧ Below w3.heap.size w5 wr) (fun i _ => es.length - (intOf i).toNat)
      case atStart => exact ⟨0, by omega, rfl, hbw5, Below.refl _ _⟩
      case round =>
        obtain ⟨k, hk, rfl, hbx, hby⟩ := hrel
        by_cases hlt : k < es.length
        · obtain ⟨b, off, rfl, hb, hcell⟩ := HAT.out (by omega)
          obtain ⟨b3, off3, rfl, hb3, hcell3⟩ := HAT3.out (by omega)
          obtain ⟨e, hek⟩ : ∃ e, es[k]? = some e := ⟨_, List.getElem?_eq_getElem hlt⟩
          obtain ⟨c0, c1, c2, c3', c4⟩ := cells_at hb hbx hcell hek
          obtain ⟨d0, d1, d2, d3, d4⟩ := cells_at hb3 hby hcell3 hek
          clear hcell hcell3 HAT HAT3
          go_wp2_with fail
          go_region
          go_wp2
          go_roundw
          case rel => exact ⟨k + 1, by omega, by go_num, hbx.drew, hby.drew⟩
          case measure => simp [intOf]; omega
        · go_wp2
          go_ret
          exact ⟨rfl, hbx⟩
end Go.Proofs.YtdldkidccjkhgaaDoor
