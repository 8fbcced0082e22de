import Derived.Test.YtdldkidccjkhgaaDoorRefJ
namespace Go.Proofs.YtdldkidccjkhgaaDoor
open Go.RowKit Go.Par
set_option linter.unusedVariables false

/-- what Text answers. -/
def textZ (zs : List Int) : ByteArray × Int := if zs.all isR then (⟨(txt zs).toArray⟩, 0) else (⟨#[]⟩, 40)
theorem allR_iff (zs : List Int) : zs.all isR = true ↔ AllR zs := by simp [AllR]

theorem text_any (v : Value) (zs : List Int) (B : Nat) (w : World) (hsg : Seg w B v (ints zs)) (hB : B ≤ w.heap.size) (hl : zs.length ≤ 100000) :
    Calls Tryd.prog 35 #[v] w fun e w' => e = .returned (.tuple #[.string (textZ zs).1, .int .i64 (textZ zs).2]) ∧ Below w.heap.size w w' := by
  unfold textZ
  by_cases h : AllR zs
  · rw [if_pos ((allR_iff zs).2 h)]; exact text_ok v zs h B w hsg hB (by omega)
  · rw [if_neg (fun e => h ((allR_iff zs).1 e))]; exact text_bad v zs h B w hsg hB (by omega)
theorem refText_any (v : Value) (zs : List Int) (B : Nat) (w : World) (hsg : Seg w B v (ints zs)) (hB : B ≤ w.heap.size) (hl : zs.length ≤ 100000) :
    Calls Tryd.prog 36 #[v] w fun e w' => e = .returned (.tuple #[.string (textZ zs).1, .int .i64 (textZ zs).2]) ∧ Below w.heap.size w w' := by
  unfold textZ
  by_cases h : AllR zs
  · rw [if_pos ((allR_iff zs).2 h)]; exact refText_ok v zs h B w hsg hB (by omega)
  · rw [if_neg (fun e => h ((allR_iff zs).1 e))]; exact refText_bad v zs h B w hsg hB (by omega)

theorem ListPost.seg {w w' : World} {o : Option (List Int)} {e : Ending} (h : ListPost w o e w') : ∃ v n, e = .returned (.tuple #[v, .int .i64 n]) ∧ Seg w' w'.heap.size v (ints (o.getD [])) ∧ Hid (n = (if o.isSome then 0 else 40)) ∧ Below w.heap.size w w' := by
  obtain ⟨hb, h⟩ := h
  cases o with
  | none => exact ⟨_, _, h, Seg.nil _ _, Lib.hid rfl, hb⟩
  | some rs =>
    obtain ⟨v, rfl, hown⟩ := h
    exact ⟨v, _, rfl, hown.seg, Lib.hid rfl, hb⟩

set_option maxHeartbeats 2000000 in
theorem utfJoins_walk (v : Value) (zs : List Int) (hl : zs.length ≤ 9223372036854775807) (w : World) (hsg : Seg w w.heap.size v (ints zs)) (hT : Tabs w) :
    Calls Tryd.prog 9 #[v] w fun e w' => e = .returned (.bool true) ∧ Below w.heap.size w w' := by
  obtain ⟨A, c, rfl, hc, hm, _⟩ := hsg.open_ints
  by_cases hg : 5000 < (zs.length : Int)
  · have HSG := Lib.hid hsg; clear hsg
    go_enter Tryd.func9, Tryd.ntmps9
    go_wp2_with (go_at_call 19; refine (alive_any _ hT).mono ?_; rintro e w1 ⟨rfl, hb1⟩)
    go_ret
    exact ⟨rfl, hb1⟩
  · obtain ⟨S, hS⟩ : ∃ S, S = (textZ zs).1 := ⟨_, rfl⟩
    obtain ⟨E, hE⟩ : ∃ E, E = (textZ zs).2 := ⟨_, rfl⟩
    have HS := Lib.hid hS; clear hS
    have HE := Lib.hid hE; clear hE
    go_enter Tryd.func9, Tryd.ntmps9
    go_wp2_with fail
    refine (alive_any _ hT).mono ?_
    rintro e w1 ⟨rfl, hb1⟩
    have hz1 := hb1.size
    go_wp2_with fail
    refine (copyInts_any _ zs _ w1 (hsg.below hb1) hz1 (by omega)).mono ?_
    rintro e w2 ⟨u2, rfl, hown2, hb2⟩
    have hbw2 := hb1.trans (hb2.mono hz1)
    have hz2 := hbw2.size
    go_wp2_with fail
    refine (text_any _ zs _ w2 hown2.seg (Nat.le_refl _) (by omega)).mono ?_
    rintro e w3 ⟨rfl, hb3⟩
    have hbw3 := hbw2.trans (hb3.mono hz2)
    have hz3 := hbw3.size
    have hown3 := hown2.below hb3
    rw [← HS.out, ← HE.out]
    go_wp2_with fail
    refine (refText_any _ zs _ w3 (hsg.below hbw3) hz3 (by omega)).mono ?_
    rintro e w4 ⟨rfl, hb4⟩
    have hbw4 := hbw3.trans (hb4.mono hz3)
    have hz4 := hbw4.size
    have hown4 := hown3.below hb4
    rw [← HS.out, ← HE.out]
    go_wp2_with fail
    refine (join_any _ zs _ w4 hown4.seg (Nat.le_refl _) (by omega)).mono ?_
    intro e w5 hp5
    obtain ⟨v5, n5, rfl, hsg5, HN5, hb5⟩ := hp5.seg
    clear hp5
    have hbw5 := hbw4.trans (hb5.mono hz4)
    have hz5 := hbw5.size
    have hown5 := hown4.below hb5
    go_wp2_with fail
    refine (refJoin_any _ zs _ w5 (hsg.below hbw5) hz5 (by omega)).mono ?_
    intro e w6 hp6
    obtain ⟨v6, n6, rfl, hsg6, HN6, hb6⟩ := hp6.seg
    clear hp6
    have hbw6 := hbw5.trans (hb6.mono hz5)
    have hz6 := hbw6.size
    have hown6 := hown5.below hb6
    have hsg5' := (hsg5.below hb6).more hb6.size
    obtain rfl : n5 = n6 := HN5.out.trans HN6.out.symm
    go_wp2_with fail
    refine (sameInts_any _ _ _ _ _ w6 hsg5' hsg6).mono ?_
    rintro e w7 ⟨rfl, n7, rfl⟩
    rw [decide_eq_true rfl]
    have hbw7 := below_drewN hbw6 n7
    have hs1 := hown6.seg.drewN n7
    have hs2 := ((hsg.below hbw6).more hz6).drewN n7
    generalize w6.drewN n7 = w8 at *
    go_wp2_with fail
    refine (sameInts_any _ _ zs zs _ w8 hs1 hs2).mono ?_
    rintro e w9 ⟨rfl, n9, rfl⟩
    rw [decide_eq_true rfl]
    go_wp2
    go_ret
    exact ⟨rfl, below_drewN hbw7 n9⟩
end Go.Proofs.YtdldkidccjkhgaaDoor
