import Derived.Test.YtdldkidccjkhgaaDoorT7c
namespace Go.Proofs.YtdldkidccjkhgaaDoor
open Go.RowKit Go.Par
set_option linter.unusedVariables false

theorem segE_new (w : World) (es : List Ed) (cs : Array Value) (hx : cs = (eds es).toArray) (hm : es.length ≤ 9223372036854775807) :
    SegE (w.alloc (.cells cs 52)) (w.heap.size + 1) (.slice (some ⟨w.heap.size, 0, none⟩) es.length es.length) es := by
  subst hx
  refine ⟨_, es.length, rfl, Nat.le_refl _, hm, fun _ => ⟨w.heap.size, 0, rfl, by omega, fun i hi => ?_⟩⟩
  rw [World.cell?_alloc_new]
  simp

def ed7 : Ed := ⟨0, 1, 1, 1, ⟨#[88]⟩⟩
theorem all7a : AllR [97, 10, 128512, 98] := by intro r hr; simp at hr; rcases hr with rfl | rfl | rfl | rfl <;> decide
theorem all7b : AllR [97, 98, 10, 99, 100] := by intro r hr; simp at hr; rcases hr with rfl | rfl | rfl | rfl | rfl <;> decide
theorem all7c : AllR [88] := by intro r hr; simp at hr; subst hr; decide
theorem applied7 : applyE [97, 98, 10, 99, 100] [ed7] = .ok [97, 88, 100] := by
  have h1 : runesOf ed7.t.data.toList = some [88] := runesOf_txt all7c
  have h2 : posK [97, 98, 10, 99, 100] ed7.l ed7.c = some 1 := by decide
  have h3 : posK [97, 98, 10, 99, 100] ed7.el ed7.ec = some 4 := by decide
  have hs : stepE [97, 98, 10, 99, 100] ed7 = .ok [97, 88, 100] := by
    unfold stepE
    rw [h1]
    simp only []
    rw [h2]
    simp only []
    rw [h3]
    simp only []
    rw [if_neg (by decide), if_neg (by decide)]
    rfl
  unfold applyE
  rw [hs]
  rfl

set_option maxRecDepth 20000 in
set_option maxHeartbeats 1000000 in
theorem alive7_any (w : World) (hT : Tabs w) : Calls Tryd.prog 39 #[] w fun e w' => e = .returned (.bool true) ∧ Below w.heap.size w w' := by
  have ho : ∀ wx, Tabs wx → Calls Tryd.prog 45 #[.string ⟨#[97, 10, 240, 159, 152, 128, 98]⟩, .int .i64 1, .int .i64 2] wx fun e w' => e = .returned (.tuple #[.int .i64 6, .int .i64 0]) ∧ Below wx.heap.size wx w' := fun wx hx =>
    toffset_ok ⟨#[97, 10, 240, 159, 152, 128, 98]⟩ [97, 10, 128512, 98] (by decide) all7a (by decide) 1 2 (by decide) (some 3) (Lib.hid ⟨by decide, by decide, by decide⟩) wx hx
  have hap : ∀ wx, Tabs wx → Calls Tryd.prog 42 #[.string ⟨#[97, 98, 10, 99, 100]⟩, .slice (some ⟨wx.heap.size, 0, none⟩) 1 1] (wx.alloc (.cells #[.int .i64 0, .int .i64 1, .int .i64 1, .int .i64 1, .string ⟨#[88]⟩] 52)) fun e w' => e = .returned (.tuple #[.string ⟨#[97, 88, 100]⟩, .int .i64 0]) ∧ Below wx.heap.size wx w' := fun wx hx => by
    have hb : Below wx.heap.size wx (wx.alloc (.cells #[.int .i64 0, .int .i64 1, .int .i64 1, .int .i64 1, .string ⟨#[88]⟩] 52)) := (Below.refl _ _).alloc (Nat.le_refl _) _
    have := apply_ok ⟨#[97, 98, 10, 99, 100]⟩ [97, 98, 10, 99, 100] (by decide) all7b (by decide) _ [ed7] (by intro e he; simp at he; subst he; decide) _ _ (segE_new wx [ed7] #[.int .i64 0, .int .i64 1, .int .i64 1, .int .i64 1, .string ⟨#[88]⟩] rfl (by decide)) (by simp) (hx.below hb)
    rw [applied7] at this
    exact this.mono fun e w' h => ⟨h.1, hb.trans (h.2.mono hb.size)⟩
  go_enter Tryd.func39, Tryd.ntmps39
  go_wp2_with fail
  refine (ho w hT).mono ?_
  rintro e w1 ⟨rfl, hb1⟩
  have hT1 := hT.below hb1
  go_wp2_with fail
  refine (hap w1 hT1).mono ?_
  rintro e w2 ⟨rfl, hb2⟩
  clear ho hap
  go_wp2
  go_ret
  exact ⟨rfl, hb1.trans (hb2.mono hb1.size)⟩
end Go.Proofs.YtdldkidccjkhgaaDoor
