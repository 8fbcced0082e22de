import Derived.Test.YtdldkidccjkhgaaDoorUtfP
namespace Go.Proofs.YtdldkidccjkhgaaDoor
open Go.RowKit Go.Par Go.Shelf
attribute [local go_sem] Oper.semAt_some

set_option maxRecDepth 100000 in
set_option maxHeartbeats 2000000 in
theorem unit_in (s : ByteArray) (rs : List Int) (hs : s.data.toList = txt rs) (ha : AllR rs) (u : Int) (w : World) (hT : Tabs w) (hl : s.size ≤ 100000) :
    CallsIn Fence.wide 5 Tryd.prog 32 #[.string s, .int .i64 u] w (NumPost w ((findP (fun p => decide ((p.1 : Int) = u)) rs).map (·.2))) := by
  have hv : Lib.validD s.data.toList = true := by rw [hs]; exact validD_of ha
  have HS := Lib.hid hs; clear hs
  have HV := Lib.hid hv; clear hv
  refine callsIn_of_wp_marks Tryd.func32 rfl trivial ?_ rfl
  simp only [Tryd.ntmps32, List.size_toArray, List.length_cons, List.length_nil, Nat.reduceAdd, Nat.reduceSub, Array.replicate_succ, Array.replicate_zero, List.push_toArray, List.append_toArray, List.nil_append, List.cons_append]
  have hT3 : Tabs (((w.alloc (.cells #[.int .i64 u] 3)).alloc (.cells #[.int .i64 0] 3)).alloc (.cells #[.int .i64 0] 24)) := hT.below ((((Below.refl _ w).alloc (Nat.le_refl _) _).alloc (by simp) _).alloc (by simp; omega) _)
  gi_wp2_with (first
    | (refine ⟨trivial, ?_⟩; gi_at_call 52; refine (callsIn_wide.2 (valid_any s _ (by omega) hT3)).mono ?_; rintro e w1 ⟨rfl, hb1⟩; rw [HV.out])
    | (refine ⟨trivial, ?_⟩; gi_at_call 57; refine (callsIn_wide.2 (places_any s _)).mono ?_; rintro e w2 ⟨rfl, rfl⟩))
  have c0 := cell_new_l w (.int .i64 u) 3
  have c1 := cell_new_l (w.alloc (.cells #[.int .i64 u] 3)) (.int .i64 0) 3
  have c2 := cell_new_l ((w.alloc (.cells #[.int .i64 u] 3)).alloc (.cells #[.int .i64 0] 3)) (.int .i64 0) 24
  simp only [World.size_alloc] at c1 c2
  have hz1 : w.heap.size + 1 + 1 + 1 ≤ w1.heap.size := by have := hb1.size; simp at this; omega
  have d0 : w1.cell? ⟨w.heap.size, 0, none⟩ = some (.int .i64 u) := (hb1.cell (p := ⟨w.heap.size, 0, none⟩) (by simp; omega)).trans (cell_alloc_l _ (cell_alloc_l _ c0.1))
  have d1 : w1.cell? ⟨w.heap.size + 1, 0, none⟩ = some (.int .i64 0) := (hb1.cell (p := ⟨w.heap.size + 1, 0, none⟩) (by simp)).trans (cell_alloc_l _ c1.1)
  have d2 : w1.cell? ⟨w.heap.size + 1 + 1, 0, none⟩ = some (.int .i64 0) := (hb1.cell (p := ⟨w.heap.size + 1 + 1, 0, none⟩) (by simp)).trans c2.1
  have g1 : w1.frozen? ⟨w.heap.size + 1, 0, none⟩ = false := (hb1.frozen (p := ⟨w.heap.size + 1, 0, none⟩) (by simp)).trans (frozen_alloc_l _ c1.1 c1.2)
  have g2 : w1.frozen? ⟨w.heap.size + 1 + 1, 0, none⟩ = false := (hb1.frozen (p := ⟨w.heap.size + 1 + 1, 0, none⟩) (by simp)).trans c2.2
  have hbw1 : Below w.heap.size w w1 := ((((Below.refl _ w).alloc (Nat.le_refl _) _).alloc (by simp) _).alloc (by simp; omega) _).trans (hb1.mono (by simp; omega))
  have hB0 : Below w.heap.size w (w1.alloc (.cells #[.string s] 9)) := hbw1.alloc hbw1.size _
  have cs := cell_new_l w1 (.string s) 9
  refine wpIn_rangeFunc_ownF (F := Fence.wide) rfl (by omega) (gf := 71) (lb := #[.pointer (some ⟨w1.heap.size, 0, none⟩)]) rfl trivial (enters_of Tryd.func71 (by kernel_rfl) rfl)
    (places_stops Fence.wide (5 - 1) trivial rfl (by omega) w1.heap.size s rs HS.out ha _ (by simp) cs.1 hl) keepCW_t (fun W l o o' hl => keepCW_b W l o o' hl) (Below.refl _ _) (fun _ => rfl)
    (fun pre W => (pre.find? (fun p => decide ((p.1 : Int) = u)) = none ∧ W.cell? ⟨w.heap.size, 0, none⟩ = some (.int .i64 u) ∧ W.cell? ⟨w.heap.size + 1, 0, none⟩ = some (.int .i64 0) ∧ W.frozen? ⟨w.heap.size + 1, 0, none⟩ = false ∧ W.cell? ⟨w.heap.size + 1 + 1, 0, none⟩ = some (.int .i64 0) ∧ W.frozen? ⟨w.heap.size + 1 + 1, 0, none⟩ = false) ∧ Below w.heap.size w W)
    (fun c pre W => (c = .ret ∧ ∃ x, pre.find? (fun p => decide ((p.1 : Int) = u)) = some x ∧ W.cell? ⟨w.heap.size + 1, 0, none⟩ = some (.int .i64 x.2) ∧ W.cell? ⟨w.heap.size + 1 + 1, 0, none⟩ = some (.int .i64 0)) ∧ Below w.heap.size w W)
    (OwnFrom.and (Go.Own.from (fun s A B row hs hg hr => ⟨hs.1, cell_kept hs.2.1 hg hr, cell_kept hs.2.2.1 hg hr, (frozen_kept hs.2.2.1 hg hr).trans hs.2.2.2.1, cell_kept hs.2.2.2.2.1 hg hr, (frozen_kept hs.2.2.2.2.1 hg hr).trans hs.2.2.2.2.2⟩) _) (ownFrom_below (Nat.le_refl _) (by simp; omega)))
    (fun c => OwnFrom.and (Go.Own.from (fun s A B row hs hg hr => ⟨hs.1, by obtain ⟨x, hx, k1, k2⟩ := hs.2; exact ⟨x, hx, cell_kept k1 hg hr, cell_kept k2 hg hr⟩⟩) _) (ownFrom_below (Nat.le_refl _) (by simp; omega)))
    ⟨⟨rfl, cell_alloc_l _ d0, cell_alloc_l _ d1, frozen_alloc_l _ d1 g1, cell_alloc_l _ d2, frozen_alloc_l _ d2 g2⟩, hB0⟩
    (fun x => { tmps := #[.string s, .int .i64 u, undef, .pointer (some ⟨w.heap.size, 0, none⟩), .pointer (some ⟨w.heap.size + 1, 0, none⟩), .pointer (some ⟨w.heap.size + 1 + 1, 0, none⟩), .int .i64 x.1, .int .i64 x.2, .string s, .bool true, .bool false, .string s, .func (.func 71) #[] #[.pointer (some ⟨w1.heap.size, 0, none⟩)], .int .i64 x.1, .int .i64 x.2, undef, undef, undef, undef], defers := [] }) ?assign ?body ?done ?stop
  case assign =>
    intro l x W K hK
    gi_wp2
    exact hK
  case body =>
    rintro l pre x W ⟨⟨hp, k0, k1, k2, k3, k4⟩, hB⟩ _
    have HP := Lib.hid hp; clear hp
    by_cases hx : (x.1 : Int) = u
    · have hxb : ((x.1 : Int) == u) = true := by simp [hx]
      have HX := Lib.hid hx; clear hx
      gi_wp2
      have ht := two_set W (w.heap.size + 1) (w.heap.size + 1 + 1) (by omega) (.int .i64 x.2) (.int .i64 0) _ _ k1 k3
      exact ⟨(KeepsOthers.setCell _ _ _).trans (KeepsOthers.setCell _ _ _), ⟨rfl, x, by rw [List.find?_append, HP.out]; simp [HX.out], ht.1, ht.2⟩, (hB.setCell (p := ⟨w.heap.size + 1, 0, none⟩) (by simp) _).setCell (p := ⟨w.heap.size + 1 + 1, 0, none⟩) (by simp; omega) _⟩
    · have hxb : ((x.1 : Int) == u) = false := by simp [hx]
      have HX := Lib.hid hx; clear hx
      gi_wp2
      exact ⟨KeepsOthers.refl _, keepCW_refl _, ⟨by rw [List.find?_append, HP.out]; simp [HX.out], k0, k1, k2, k3, k4⟩, hB⟩
  case done =>
    rintro D ys W hD rfl ⟨⟨hne, k0, k1, k2, k3, k4⟩, hB⟩ hK
    have HN := Lib.hid hne; clear hne
    gi_wp2
    have hK' := ((KeepsOthers.setCell W ⟨w.heap.size + 1, 0, none⟩ (.int .i64 0)).trans (KeepsOthers.setCell _ ⟨w.heap.size + 1 + 1, 0, none⟩ (.int .i64 70))).same D _ hK rfl
    have ht := two_set W (w.heap.size + 1) (w.heap.size + 1 + 1) (by omega) (.int .i64 0) (.int .i64 70) _ _ k1 k3
    have e1 := cell_kept ht.1 (grownBy_putObj' _ D (.deferred none)) (fun r e => by cases e; exact ⟨_, hK', rfl⟩)
    have e2 := cell_kept ht.2 (grownBy_putObj' _ D (.deferred none)) (fun r e => by cases e; exact ⟨_, hK', rfl⟩)
    refine ⟨by simp, .inl ⟨_, _, rfl, run_takeDeferred hK', ?_⟩⟩
    refine ⟨.tuple #[.int .i64 0, .int .i64 70], ?_, NumPost.bad ?_ (((hB.setCell (p := ⟨w.heap.size + 1, 0, none⟩) (by simp) _).setCell (p := ⟨w.heap.size + 1 + 1, 0, none⟩) (by simp; omega) _).trans (belowK_b (w := w) (Nat.le_refl _) _ D _ _ (by simp at hD; omega) hK' rfl rfl))⟩
    · simp [results, Tryd.f32, go_sem, e1, e2]
    · have : findP (fun p => decide ((p.1 : Int) = u)) rs = none := HN.out
      rw [this]; rfl
  case stop =>
    rintro D c pre W hD hpre ⟨⟨rfl, x, hx, k1, k2⟩, hB⟩ hK
    have HX := Lib.hid hx; clear hx
    gi_wp2
    have e1 := cell_kept k1 (grownBy_putObj' _ D (.deferred none)) (fun r e => by cases e; exact ⟨_, hK, rfl⟩)
    have e2 := cell_kept k2 (grownBy_putObj' _ D (.deferred none)) (fun r e => by cases e; exact ⟨_, hK, rfl⟩)
    refine ⟨by simp, .inl ⟨_, _, rfl, run_takeDeferred hK, ?_⟩⟩
    refine ⟨.tuple #[.int .i64 x.2, .int .i64 0], ?_, NumPost.good ?_ (hB.trans (belowK_b (w := w) (Nat.le_refl _) W D _ _ (by simp at hD; omega) hK rfl rfl))⟩
    · simp [results, Tryd.f32, go_sem, e1, e2]
    · have : findP (fun p => decide ((p.1 : Int) = u)) rs = some x := find_prefix hpre HX.out
      rw [this]; rfl

theorem offset_ok (s : ByteArray) (rs : List Int) (hs : s.data.toList = txt rs) (ha : AllR rs) (u : Int) (w : World) (hT : Tabs w) (hl : s.size ≤ 100000) :
    Calls Tryd.prog 30 #[.string s, .int .i64 u] w (NumPost w ((findP (fun p => decide ((p.2 : Int) = u)) rs).map (·.1))) := callsIn_wide.1 (offset_in s rs hs ha u w hT hl)
theorem unit_ok (s : ByteArray) (rs : List Int) (hs : s.data.toList = txt rs) (ha : AllR rs) (u : Int) (w : World) (hT : Tabs w) (hl : s.size ≤ 100000) :
    Calls Tryd.prog 32 #[.string s, .int .i64 u] w (NumPost w ((findP (fun p => decide ((p.1 : Int) = u)) rs).map (·.2))) := callsIn_wide.1 (unit_in s rs hs ha u w hT hl)

set_option maxHeartbeats 400000 in
theorem offset_bad (s : ByteArray) (hv : Lib.validD s.data.toList = false) (u : Int) (w : World) (hT : Tabs w) (hl : s.size ≤ 9223372036854775807) :
    Calls Tryd.prog 30 #[.string s, .int .i64 u] w fun e w' => e = .returned (.tuple #[.int .i64 0, .int .i64 40]) ∧ Below w.heap.size w w' := by
  have HV := Lib.hid hv; clear hv
  have hT3 : Tabs (((w.alloc (.cells #[.int .i64 u] 3)).alloc (.cells #[.int .i64 0] 3)).alloc (.cells #[.int .i64 0] 24)) := hT.below ((((Below.refl _ w).alloc (Nat.le_refl _) _).alloc (by simp) _).alloc (by simp; omega) _)
  go_enter Tryd.func30, Tryd.ntmps30
  go_wp2_with fail
  refine (valid_any s _ hl hT3).mono ?_
  rintro e w1 ⟨rfl, hb1⟩
  rw [HV.out]
  have c1 := cell_new_l (w.alloc (.cells #[.int .i64 u] 3)) (.int .i64 0) 3
  have c2 := cell_new_l ((w.alloc (.cells #[.int .i64 u] 3)).alloc (.cells #[.int .i64 0] 3)) (.int .i64 0) 24
  simp only [World.size_alloc] at c1 c2
  have d1 : w1.cell? ⟨w.heap.size + 1, 0, none⟩ = some (.int .i64 0) := (hb1.cell (p := ⟨w.heap.size + 1, 0, none⟩) (by simp)).trans (cell_alloc_l _ c1.1)
  have d2 : w1.cell? ⟨w.heap.size + 1 + 1, 0, none⟩ = some (.int .i64 0) := (hb1.cell (p := ⟨w.heap.size + 1 + 1, 0, none⟩) (by simp)).trans c2.1
  have g1 : w1.frozen? ⟨w.heap.size + 1, 0, none⟩ = false := (hb1.frozen (p := ⟨w.heap.size + 1, 0, none⟩) (by simp)).trans (frozen_alloc_l _ c1.1 c1.2)
  have g2 : w1.frozen? ⟨w.heap.size + 1 + 1, 0, none⟩ = false := (hb1.frozen (p := ⟨w.heap.size + 1 + 1, 0, none⟩) (by simp)).trans c2.2
  have hbw1 : Below w.heap.size w w1 := ((((Below.refl _ w).alloc (Nat.le_refl _) _).alloc (by simp) _).alloc (by simp; omega) _).trans (hb1.mono (by simp; omega))
  clear c1 c2
  go_wp2
  have ht := two_set w1 (w.heap.size + 1) (w.heap.size + 1 + 1) (by omega) (.int .i64 0) (.int .i64 40) _ _ d1 d2
  refine bodyPost_ret (v := .tuple #[.int .i64 0, .int .i64 40]) (by simp [results, Tryd.results30, go_sem, ht.1, ht.2]) rfl ⟨rfl, ?_⟩
  exact (hbw1.setCell (p := ⟨w.heap.size + 1, 0, none⟩) (by simp) _).setCell (p := ⟨w.heap.size + 1 + 1, 0, none⟩) (by simp; omega) _

set_option maxHeartbeats 400000 in
theorem unit_bad (s : ByteArray) (hv : Lib.validD s.data.toList = false) (u : Int) (w : World) (hT : Tabs w) (hl : s.size ≤ 9223372036854775807) :
    Calls Tryd.prog 32 #[.string s, .int .i64 u] w fun e w' => e = .returned (.tuple #[.int .i64 0, .int .i64 40]) ∧ Below w.heap.size w w' := by
  have HV := Lib.hid hv; clear hv
  have hT3 : Tabs (((w.alloc (.cells #[.int .i64 u] 3)).alloc (.cells #[.int .i64 0] 3)).alloc (.cells #[.int .i64 0] 24)) := hT.below ((((Below.refl _ w).alloc (Nat.le_refl _) _).alloc (by simp) _).alloc (by simp; omega) _)
  go_enter Tryd.func32, Tryd.ntmps32
  go_wp2_with fail
  refine (valid_any s _ hl hT3).mono ?_
  rintro e w1 ⟨rfl, hb1⟩
  rw [HV.out]
  have c1 := cell_new_l (w.alloc (.cells #[.int .i64 u] 3)) (.int .i64 0) 3
  have c2 := cell_new_l ((w.alloc (.cells #[.int .i64 u] 3)).alloc (.cells #[.int .i64 0] 3)) (.int .i64 0) 24
  simp only [World.size_alloc] at c1 c2
  have d1 : w1.cell? ⟨w.heap.size + 1, 0, none⟩ = some (.int .i64 0) := (hb1.cell (p := ⟨w.heap.size + 1, 0, none⟩) (by simp)).trans (cell_alloc_l _ c1.1)
  have d2 : w1.cell? ⟨w.heap.size + 1 + 1, 0, none⟩ = some (.int .i64 0) := (hb1.cell (p := ⟨w.heap.size + 1 + 1, 0, none⟩) (by simp)).trans c2.1
  have g1 : w1.frozen? ⟨w.heap.size + 1, 0, none⟩ = false := (hb1.frozen (p := ⟨w.heap.size + 1, 0, none⟩) (by simp)).trans (frozen_alloc_l _ c1.1 c1.2)
  have g2 : w1.frozen? ⟨w.heap.size + 1 + 1, 0, none⟩ = false := (hb1.frozen (p := ⟨w.heap.size + 1 + 1, 0, none⟩) (by simp)).trans c2.2
  have hbw1 : Below w.heap.size w w1 := ((((Below.refl _ w).alloc (Nat.le_refl _) _).alloc (by simp) _).alloc (by simp; omega) _).trans (hb1.mono (by simp; omega))
  clear c1 c2
  go_wp2
  have ht := two_set w1 (w.heap.size + 1) (w.heap.size + 1 + 1) (by omega) (.int .i64 0) (.int .i64 40) _ _ d1 d2
  refine bodyPost_ret (v := .tuple #[.int .i64 0, .int .i64 40]) (by simp [results, Tryd.results32, go_sem, ht.1, ht.2]) rfl ⟨rfl, ?_⟩
  exact (hbw1.setCell (p := ⟨w.heap.size + 1, 0, none⟩) (by simp) _).setCell (p := ⟨w.heap.size + 1 + 1, 0, none⟩) (by simp; omega) _

end Go.Proofs.YtdldkidccjkhgaaDoor
