/- Regions inside a round by the held law; slices of bytes; the frames of a list of bytes. -/
import Derived.Test.YtpdelgjfamelfaaGreatJ4
import Derived.Test.YtpdelgjfamelfaaGreatM4
import Derived.OrdersHeld
namespace Go.Proofs.YtpdelgjfamelfaaGreat
open Go.RowKit Go.Lib Go.Vfs Go.Par Go.Shelf
set_option linter.unusedVariables false
set_option linter.unusedSimpArgs false

section
variable {P : Program} {ops : Array Oper} {md : Region.Mode} {l n : Nat} {Q : Exit → Act → World → Prop}
theorem operIn_of_wp {o : Oper} (hnd : ∀ c, o.op ≠ .defer c) {a : Act} {w : World} {K : Act → World → Prop} (h : o.wp P a w K Q) : o.wpIn (Fence.wide.inRound l) n P a w K Q := by
  unfold Oper.wpIn
  refine ⟨fun _ _ => trivial, ?_⟩
  rw [show (Fence.wide.inRound l).round = some l from rfl, Oper.semAt_some l a.eval o hnd]
  unfold Oper.wp at h
  generalize (execOp a.eval o).run P w = r at *
  cases r with
  | ok m w' =>
    cases m <;> simp only [Oper.upon] at h <;> simp only [Oper.uponIn]
    case value => exact h
    case skip => exact h
    case defer => exact h
    case enter f args => exact ⟨(fun h => by cases h), CallsIn.inRound l (callsIn_wide.2 h)⟩
    case row row args =>
      refine ⟨(fun h => by cases h), ?_⟩
      have : RowsIn Fence.wide (n - 1) P row args w' fun v w'' => K (a.put o.dst v) w'' := fun c cs _ => let ⟨v, w2, r, s⟩ := h c cs; ⟨v, w2, r, stepsIn_wide.2 s⟩
      exact this
  | halt x w' => cases x <;> simp only [Oper.upon] at h <;> simp only [Oper.uponIn] <;> exact h
theorem wpOpIn_of_wpOp (hnd : noDefer ops.toList = true) (hL : ¬ LetsOut Q) {i : Nat} {a : Act} {K : Act → World → Prop} {w : World} (hh : wpOp P ops Q i K a w) : wpOpIn (Fence.wide.inRound l) n P ops Q i K a w := by
  unfold wpOp at hh
  unfold wpOpIn
  split
  · rename_i ho; simp only [ho] at hh; exact hh
  · rename_i o ho
    simp only [ho] at hh
    split
    · rename_i hw
      simp only [hw, if_true] at hh
      rcases hh with hh | ⟨_, hh⟩
      · exact operIn_of_wp (noDefer_at hnd (by simpa using ho)) hh
      · exact absurd hh hL
    · rename_i hw; simp only [hw] at hh; exact ⟨fun _ _ => trivial, hh⟩
theorem wpAnyIn_of_any (hnd : noDefer ops.toList = true) (hL : ¬ LetsOut Q) : ∀ (fuel : Nat) (listed : Array Bool) (a : Act) (w : World), wpAny P md ops Q fuel listed a w → wpAnyIn (Fence.wide.inRound l) n P md ops Q fuel listed a w
  | 0, _, _, _, h => h
  | fuel + 1, _, _, _, h => ⟨h.1, fun i hi => wpOpIn_mono (fun a' w' h' => wpAnyIn_of_any hnd hL fuel _ a' w' h') (wpOpIn_of_wpOp hnd hL (h.2 i hi))⟩
/-- a region that draws, inside a round, by the held law. -/
theorem wpIn_round_held {id : Nat} {a : Act} {w : World} {S : World → Prop} (hm : P.follows .mixedOrders = true) (hnd : noDefer ops.toList = true) (hL : ¬ LetsOut Q)
    (h : wpAnyH P .any ops Q S ops.size (Array.replicate ops.size false) a w.drew) : (Code.region id ops true).wpIn (Fence.wide.inRound l) n P Q a w :=
  wpIn_region_any hm (wpAnyIn_of_any hnd hL _ _ _ _ (wpAny_of_held _ _ _ _ h))
/-- the only one that may come up. -/
theorem wpAnyH_one {S : World → Prop} {i : Nat} {o : Oper} {fuel : Nat} {listed : Array Bool} {a : Act} {w : World} (hr : Region.ready md ops listed = [i]) (ho : ops[i]? = some o) (hw : Region.wanted o (yielded ops a.tmps) = true)
    (h : o.wp P a w (fun a' w' => S w' ∧ wpAnyH P md ops Q S fuel (listed.setIfInBounds i true) a' w') Q) : wpAnyH P md ops Q S (fuel + 1) listed a w :=
  wpAnyH_all hr (by simp) fun j hj => by
    simp at hj
    subst hj
    unfold wpOp
    simp only [ho, hw, if_true]
    exact .inl h
end

/- slices of bytes. -/
theorem slice_lh (A : Option Addr) (n c l h : Nat) (w : World) (hlh : l ≤ h) (hh : h ≤ c) : (Instr.slice 22 (.slice A n c) (some (.int .i64 (l : Int))) (some (.int .i64 (h : Int))) none).run Tryz.prog w = .ok (sliced A l h c 1) w := by
  have ht' : Tryz.prog.underlying 22 = some (.slice (Tryz.prog.elem 22)) := by simp [Program.elem, Tryz.underlying22]
  have he : Tryz.prog.elem 22 = 5 := by simp [Program.elem, Tryz.underlying22]
  rw [run_slice_lh w 22 _ _ _ ht' .i64 .i64 _ _ (by omega) (by omega) (by omega), he, Tryz.sizeOf5]
  simp [Result.andThen]
theorem seg_mid {w : World} {B : Nat} {A : Option Addr} {c : Nat} {b : List UInt8} (hs : Seg w B (.slice A b.length c) (byteCells b)) (l h : Nat) (hlh : l ≤ h) (hh : h ≤ b.length) :
    h ≤ c ∧ ∃ A2 c2, sliced A l h c 1 = .slice A2 (h - l) c2 ∧ Seg w B (.slice A2 (h - l) c2) (byteCells ((b.drop l).take (h - l))) := by
  obtain ⟨h1, h2⟩ := seg_take hs h hh
  have hl : (b.take h).length = h := by simp; omega
  have h3 : Seg w B (.slice A (b.take h).length c) (byteCells (b.take h)) := by rw [hl]; exact h2
  obtain ⟨A2, c2, h4, h5⟩ := seg_drop h3 l (by omega)
  rw [hl, List.drop_take] at h5
  rw [hl] at h4
  exact ⟨h1, A2, c2, h4, h5⟩

/- the frames at the beginning of bytes. -/
structure Fr where
  gen : Nat
  pay : List UInt8
  start : Nat
  stop : Nat
def frAt (b : List UInt8) (i : Nat) : Option Fr :=
  if b.length < i + 12 then none
  else if 65536 < num4 (b.drop (i + 4)) ∨ b.length < i + 12 + num4 (b.drop (i + 4)) then none
  else if crc ((b.drop i).take 8 ++ (b.drop (i + 12)).take (num4 (b.drop (i + 4)))) ≠ num4 (b.drop (i + 8)) then none
  else some ⟨num4 (b.drop i), (b.drop (i + 12)).take (num4 (b.drop (i + 4))), i, i + 12 + num4 (b.drop (i + 4))⟩
theorem frAt_some {b : List UInt8} {i : Nat} {x : Fr} (h : frAt b i = some x) : x.start = i ∧ x.stop = i + 12 + x.pay.length ∧ x.stop ≤ b.length ∧ x.pay = (b.drop (i + 12)).take x.pay.length ∧ x.gen < 4294967296 ∧ x.pay.length ≤ 65536 := by
  unfold frAt at h
  split at h
  · cases h
  split at h
  · cases h
  split at h
  · cases h
  cases h
  rename_i h1 h2 h3
  have hl : ((b.drop (i + 12)).take (num4 (b.drop (i + 4)))).length = num4 (b.drop (i + 4)) := by simp; omega
  refine ⟨rfl, by simp only [hl], by simp only; omega, by simp only [hl], num4_lt _, by simp only [hl]; omega⟩
/-- a frame of these bytes. -/
abbrev FrOf (b : List UInt8) := { x : Fr // frAt b x.start = some x }
def frsF (b : List UInt8) : Nat → Nat → List (FrOf b)
  | 0, _ => []
  | f + 1, i => match h : frAt b i with
    | none => []
    | some x => ⟨x, by rw [(frAt_some h).1]; exact h⟩ :: frsF b f x.stop
def frs (b : List UInt8) : List (FrOf b) := frsF b (b.length + 1) 0
theorem frsF_none {b : List UInt8} {f i : Nat} (h : frAt b i = none) : frsF b f i = [] := by
  cases f with
  | zero => rfl
  | succ f =>
    unfold frsF
    split
    · rfl
    · rename_i h2; rw [h] at h2; cases h2
theorem frsF_some {b : List UInt8} {f i : Nat} {x : Fr} (h : frAt b i = some x) : frsF b (f + 1) i = ⟨x, by rw [(frAt_some h).1]; exact h⟩ :: frsF b f x.stop := by
  conv => lhs; unfold frsF
  split
  · rename_i h2; rw [h] at h2; cases h2
  · rename_i y h2
    rw [h] at h2
    cases h2
    rfl
def encFr {b : List UInt8} (A : Option Addr) (c : Nat) (x : FrOf b) : Array Value := #[.agg #[.int .u32 x.1.gen, sliced A (x.1.start + 12) x.1.stop c 1, .int .i64 x.1.stop]]
/-- the blocks of K lie as they lay. -/
def KpS (K : Nat → Prop) (W W' : World) : Prop := W.heap.size ≤ W'.heap.size ∧ ∀ k, K k → W'.heap[k]? = W.heap[k]?
theorem KpS.t {K : Nat → Prop} {A B C : World} (h : KpS K A B) (k : KpS K B C) : KpS K A C := ⟨Nat.le_trans h.1 k.1, fun i hi => (k.2 i hi).trans (h.2 i hi)⟩
theorem KpS.refl (K : Nat → Prop) (W : World) : KpS K W W := ⟨Nat.le_refl _, fun _ _ => rfl⟩
theorem KpS.below {K : Nat → Prop} {W W' : World} {B : Nat} (h : Below B W W') (hK : ∀ k, K k → k < B) : KpS K W W' := ⟨h.size, fun k hk => h.block k (hK k hk)⟩
end Go.Proofs.YtpdelgjfamelfaaGreat
