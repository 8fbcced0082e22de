/- A region that draws, by the held law, at the fence that asks nothing. -/
import Derived.Test.YtaalbcfpacpgfaaGreatI15
namespace Go.Proofs.YtaalbcfpacpgfaaGreat
open Go.RowKit Go.Lib Go.Vfs Go.Par Go.Shelf
set_option linter.unusedVariables false
section
variable {P : Program} {ops : Array Oper} {md : Region.Mode} {n : Nat} {Q : Exit → Act → World → Prop}
theorem operIn_of_wpW (h1 : 1 ≤ n) {o : Oper} (hnd : ∀ c, o.op ≠ .defer c) {a : Act} {w : World} {K : Act → World → Prop} (h : o.wp P a w K Q) : o.wpIn Fence.wide n P a w K Q := by
  unfold Oper.wpIn
  refine ⟨fun _ _ => trivial, ?_⟩
  rw [Oper.semAt_plain Fence.wide _ _ hnd]
  unfold Oper.wp at h
  generalize (execOp a.eval o).run P w = r at *
  cases r with
  | ok m w' =>
    cases m <;> simp only [Oper.upon] at h <;> simp only [Oper.uponIn]
    case value => exact h
    case skip => exact h
    case defer => exact h
    case enter f args => exact ⟨fun _ => h1, callsIn_wide.2 h⟩
    case row row args =>
      refine ⟨fun _ => h1, ?_⟩
      have : RowsIn Fence.wide (n - 1) P row args w' fun v w'' => K (a.put o.dst v) w'' := fun c cs _ => let ⟨v, w2, r, s⟩ := h c cs; ⟨v, w2, r, stepsIn_wide.2 s⟩
      exact this
  | halt x w' => cases x <;> simp only [Oper.upon] at h <;> simp only [Oper.uponIn] <;> exact h
theorem wpOpIn_of_wpOpW (h1 : 1 ≤ n) (hnd : noDefer ops.toList = true) (hL : ¬ LetsOut Q) {i : Nat} {a : Act} {K : Act → World → Prop} {w : World} (hh : wpOp P ops Q i K a w) : wpOpIn Fence.wide n P ops Q i K a w := by
  unfold wpOp at hh
  unfold wpOpIn
  split
  · rename_i ho; simp only [ho] at hh; exact hh
  · rename_i o ho
    simp only [ho] at hh
    split
    · rename_i hw
      simp only [hw, if_true] at hh
      rcases hh with hh | ⟨_, hh⟩
      · exact operIn_of_wpW h1 (noDefer_at hnd (by simpa using ho)) hh
      · exact absurd hh hL
    · rename_i hw; simp only [hw] at hh; exact ⟨fun _ _ => trivial, hh⟩
theorem wpAnyIn_of_anyW (h1 : 1 ≤ n) (hnd : noDefer ops.toList = true) (hL : ¬ LetsOut Q) : ∀ (fuel : Nat) (listed : Array Bool) (a : Act) (w : World), wpAny P md ops Q fuel listed a w → wpAnyIn Fence.wide n P md ops Q fuel listed a w
  | 0, _, _, _, h => h
  | fuel + 1, _, _, _, h => ⟨h.1, fun i hi => wpOpIn_mono (fun a' w' h' => wpAnyIn_of_anyW h1 hnd hL fuel _ a' w' h') (wpOpIn_of_wpOpW h1 hnd hL (h.2 i hi))⟩
theorem wpIn_wide_held (h1 : 1 ≤ n) {id : Nat} {a : Act} {w : World} {S : World → Prop} (hm : P.follows .mixedOrders = true) (hnd : noDefer ops.toList = true) (hL : ¬ LetsOut Q)
    (h : wpAnyH P .any ops Q S ops.size (Array.replicate ops.size false) a w.drew) : (Code.region id ops true).wpIn Fence.wide n P Q a w :=
  wpIn_region_any hm (wpAnyIn_of_anyW h1 hnd hL _ _ _ _ (wpAny_of_held _ _ _ _ h))
end
end Go.Proofs.YtaalbcfpacpgfaaGreat
