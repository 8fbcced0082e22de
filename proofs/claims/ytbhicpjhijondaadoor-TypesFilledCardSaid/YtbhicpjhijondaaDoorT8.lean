/- A range over an iterator that tells its caller what lies in memory where it yields (the elements name blocks that the iterator has laid), and is told what the caller keeps. -/
import Derived.Test.YtbhicpjhijondaaDoorT7
import Derived.RangeFuncNested
import Derived.RangeFuncBound
import Derived.RangeFuncCalls
import Derived.RangeFuncLeaves
import Derived.RangeFuncFrom
import Derived.Shelf.Abstract
import Derived.OwnWalkIn
import Derived.TacticsInMore
import Derived.LoopNIn
import Derived.LoopIn
import Derived.RangeFuncWrites
import Derived.Maps.OwnIn
namespace Go.Par
open Go Go.RowKit
section
variable {F : Fence} {n : Nat} {P : Program} {α : Type}
/-- what abides new blocks. -/
def AbB {β : Type} (J : β → World → Prop) : Prop := ∀ s W W', J s W → Below W.heap.size W W' → J s W'
/-- the iterator: at each yield C tells of the element, and R of the caller's state holds. -/
def SeqTold (F : Fence) (n : Nat) (P : Program) (g : Nat) (lb : Array Value) (encs : α → Array Value) (C : α → World → Prop) (R : World → Prop) (Kp : World → World → Prop) (S Sp : List α → Prop) (N : Nat) (w : World) : Prop :=
  ∀ (l : Nat) (J Jx : List α → World → Prop) (W : World), Below w.heap.size w W → AbB J → AbB Jx → (∀ pre W1, J pre W1 → R W1) →
    (∀ pre x W1, J pre W1 → C x W1 → pre.length < N → YieldAt F (n - 1) P l (encs x) W1 fun e W' => (e = .returned (.bool true) ∧ J (pre ++ [x]) W' ∧ Kp W1 W') ∨ (e = .returned (.bool false) ∧ Jx (pre ++ [x]) W')) →
    J [] W → CallsIn F n P g (#[.func (.yield l) #[] #[]] ++ lb) W fun e W' => (∃ v, e = .returned v) ∧ ((∃ xs, S xs ∧ J xs W') ∨ (∃ pre, Sp pre ∧ Jx pre W'))
/-- the two blocks of the loop's book-keeping. -/
structure Books (q : Nat) (r : Loop) (W : World) : Prop where
  loop : W.heap[q + 1]? = some (.loop r)
  calls : W.heap[q]? = some (.deferred (some []))
theorem Books.put {q : Nat} {r r' : Loop} {W : World} (h : Books q r W) : Books q r' (W.putObj (q + 1) (.loop r')) :=
  ⟨World.putObj_heap_same (Array.getElem?_eq_some_iff.1 h.loop).1, (World.putObj_heap_other (by omega)).trans h.calls⟩
theorem Books.below {q : Nat} {r : Loop} {W W' : World} (h : Books q r W) (hb : Below W.heap.size W W') : Books q r W' :=
  ⟨(hb.block _ (Typ.lt_blk h.loop)).trans h.loop, (hb.block _ (Typ.lt_blk h.calls)).trans h.calls⟩
/-- the body leaves the loop's books as they lie. -/
def KeepB (q : Nat) (W W' : World) : Prop := ∀ r, Books q r W → Books q r W'
/-- what abides a turn of the loop's record. -/
def AbP {β : Type} (q : Nat) (I : β → World → Prop) : Prop := ∀ s W r r', Books q r W → I s W → I s (W.putObj (q + 1) (.loop r'))
def toldPost (q : Nat) (Kp : World → World → Prop) (I : List α → World → Prop) (Ix : Code → List α → World → Prop) (xs : List α) (W : World) : Exit → Act → World → Prop
  | .normal, _, W' => KeepB q W W' ∧ Kp W W' ∧ I xs W'
  | .ret, _, W' => KeepB q W W' ∧ Ix .ret xs W'
  | .exit id, _, W' => KeepB q W W' ∧ Ix (.exit id) xs W'
  | .goto t, _, W' => KeepB q W W' ∧ Ix (.goto t) xs W'
  | .panic _, _, _ => False
  | .outgrown, _, _ => False

theorem wpIn_range_told {g : Operand} {ps : Array Tmp} {assign body : Code} {Q : Exit → Act → World → Prop} {a : Act} {w : World}
    (hro : F.round = none) (h1 : 1 ≤ n) {gf : Nat} {lb : Array Value} (hg : a.eval g = .func (.func gf) #[] lb) (hFg : F.fn gf) (eg : ∀ args w, (callFunc gf args).run P w = .ok (.enter gf args) w)
    {encs : α → Array Value} {C : α → World → Prop} {R : World → Prop} {Kp : World → World → Prop} {S Sp : List α → Prop} {N : Nat} (hseq : SeqTold F (n - 1) P gf lb encs C R Kp S Sp N w)
    (hKt : ∀ {A B C : World}, Kp A B → Kp B C → Kp A C) (hKn : ∀ {A B : World}, R A → Below A.heap.size A B → Kp A B) (hKb : ∀ (W : World) r r', Books w.heap.size r W → Kp W (W.putObj (w.heap.size + 1) (.loop r'))) (hps : ∀ x, (encs x).size = ps.size)
    (I : List α → World → Prop) (Ix : Code → List α → World → Prop) (hI : AbB I) (hIp : AbP w.heap.size I) (hIx : ∀ c, AbB (Ix c)) (hIxp : ∀ c, AbP w.heap.size (Ix c)) (hCb : AbB C) (hCp : AbP w.heap.size C) (hIR : ∀ pre W, I pre W → R W) (h0 : I [] w) (Ax : α → Act → World → Prop) (hAxp : ∀ x a' W r r', Books w.heap.size r W → Ax x a' W → Ax x a' (W.putObj (w.heap.size + 1) (.loop r')))
    (hassign : ∀ (l : Nat) (x : α) (W : World) (K : Act → World → Prop), C x W → (∀ a' W', Below W.heap.size W W' → Ax x a' W' → K a' W') →
      assign.wpIn (F.inRound l) (n - 1 - 1) P (Exit.then K (fun _ _ _ => False)) { tmps := (ps.zip (encs x)).foldl (fun t (p, v) => t.setIfInBounds p v) a.tmps, defers := [] } W)
    (hbody : ∀ (l : Nat) (pre : List α) (x : α) (a' : Act) (W : World), I pre W → C x W → pre.length < N → Ax x a' W → (∃ r, Books w.heap.size r W) → body.wpIn (F.inRound l) (n - 1 - 1) P (toldPost w.heap.size Kp I Ix (pre ++ [x]) W) a' W)
    (hdone : ∀ (xs : List α) (W : World), S xs → I xs W → W.heap[w.heap.size]? = some (.deferred (some [])) → Q .normal { a with defers := { target := .collected w.heap.size, args := #[] } :: a.defers } W)
    (hstop : ∀ (c : Code) (pre : List α) (W : World), Sp pre → Ix c pre W → W.heap[w.heap.size]? = some (.deferred (some [])) → c.wpIn F n P Q { a with defers := { target := .collected w.heap.size, args := #[] } :: a.defers } W) :
    (Code.rangeFunc g ps assign body).wpIn F n P Q a w := by
  refine wpIn_rangeFunc fun fn hfn => ?_
  rw [hro]
  obtain ⟨L, hL⟩ : ∃ L : LoopState → Option Code → Loop, L = fun st pe => { state := st, pending := pe, fn, tmps := a.tmps, params := ps, assign, body, defers := w.heap.size } := ⟨_, rfl⟩
  obtain ⟨q, hq⟩ : ∃ q, q = w.heap.size := ⟨_, rfl⟩
  have hbk : Books q (L .ready none) ((w.alloc (.deferred (some []))).alloc (.loop (L .ready none))) := by
    refine ⟨?_, ?_⟩
    · have := World.alloc_heap_new (w.alloc (.deferred (some []))) (.loop (L .ready none)); rwa [World.size_alloc, ← hq] at this
    · rw [hq]; exact (Below.heap_alloc _ _ _ (by simp)).trans (World.alloc_heap_new w _)
  have hbw : Below w.heap.size w ((w.alloc (.deferred (some []))).alloc (.loop (L .ready none))) := ((Below.refl _ w).alloc (Nat.le_refl _) _).alloc (by simp) _
  have hi0 : I [] ((w.alloc (.deferred (some []))).alloc (.loop (L .ready none))) := hI _ _ _ h0 hbw
  have henter := run_enterLoop_outer (P := P) (w := w) fn a.tmps ps assign body
  rw [← hq] at hIp hCp hAxp hbody hKb hdone hstop
  replace hIxp : ∀ c, AbP q (Ix c) := by rw [hq]; exact hIxp
  obtain ⟨W1, hW1⟩ : ∃ W1, W1 = (w.alloc (.deferred (some []))).alloc (.loop (L .ready none)) := ⟨_, rfl⟩
  rw [← hW1] at hbk hbw hi0
  refine ⟨w.heap.size + 1, [{ target := .collected w.heap.size, args := #[] }], W1, { target := .fn (.func gf) lb, args := #[.func (.yield (w.heap.size + 1)) #[] #[]] }, W1, gf, #[.func (.yield (w.heap.size + 1)) #[] #[]] ++ lb, W1, ?_, ?_, ?_, ?_, fun _ => h1, ?_⟩
  · rw [hW1, hL]; exact henter
  · simp only [resolve, hg]
    simp [go_sem]
  · intro f' hf'; simp [Target.leads] at hf'; subst hf'; exact hFg
  · simp [invoke, go_sem, eg]
  rw [← hq]
  refine (hseq (q + 1) (fun pre W => I pre W ∧ Books q (L .ready none) W) (fun pre W => ∃ c, Ix c pre W ∧ Books q (L .done (some c)) W) W1 hbw
    (fun s A B hs hb => ⟨hI s A B hs.1 hb, hs.2.below hb⟩)
    (fun s A B ⟨c, hc, hk⟩ hb => ⟨c, hIx c s A B hc hb, hk.below hb⟩)
    (fun pre W h => hIR pre W h.1) ?_ ⟨hi0, hbk⟩).mono ?_
  · rintro pre x W ⟨hi, hk⟩ hcx hlen
    have hy := run_yield (P := P) (args := encs x) hk.loop (by rw [hL]; exact hps x)
    rw [hL] at hy
    refine ⟨fn, _, assign, body, hy, roundIn_of_wpIn hfn (hassign _ x W _ hcx fun a' Wa hba hax => ?_)⟩
    have hkA : Books q (L .ready none) Wa := hk.below hba
    refine ⟨_, run_beginRound hkA.loop (by rw [hL]), ?_⟩
    have hk2 : Books q { L .ready none with state := .busy } (Wa.putObj (q + 1) (.loop { L .ready none with state := .busy })) := hkA.put
    have hkp : Kp W (Wa.putObj (q + 1) (.loop { L .ready none with state := .busy })) := hKt (hKn (hIR _ _ hi) hba) (hKb _ _ _ hkA)
    have hend : ∀ (jump : Option Code) (W3 : World), KeepB q (Wa.putObj (q + 1) (.loop { L .ready none with state := .busy })) W3 →
        (Instr.endRound (q + 1) jump).run P W3 = .ok (.bool jump.isNone) (W3.putObj (q + 1) (.loop (L (if jump.isNone then .ready else .done) jump))) ∧ Books q { L .ready none with state := .busy } W3 := fun jump W3 hk3 => by
      have h3 := hk3 _ hk2
      have := run_endRound (P := P) jump h3.loop
      rw [hL] at this h3 ⊢
      exact ⟨this, h3⟩
    refine wpIn_mono (hbody _ pre x a' _ (hIp _ _ _ _ hkA (hI _ _ _ hi hba)) (hCp _ _ _ _ hkA (hCb _ _ _ hcx hba)) hlen (hAxp _ _ _ _ _ hkA hax) ⟨_, hk2⟩) ?_
    rintro e a3 W3 hp
    cases e with
    | normal =>
      obtain ⟨hr, h3⟩ := hend none W3 hp.1
      exact ⟨_, _, hr, .inl ⟨rfl, ⟨hIp _ _ _ _ h3 hp.2.2, h3.put⟩, hKt (hKt hkp hp.2.1) (hKb _ _ _ h3)⟩⟩
    | ret =>
      obtain ⟨hr, h3⟩ := hend (some .ret) W3 hp.1
      exact ⟨_, _, hr, .inr ⟨rfl, .ret, hIxp _ _ _ _ _ h3 hp.2, h3.put⟩⟩
    | exit id =>
      obtain ⟨hr, h3⟩ := hend (some (.exit id)) W3 hp.1
      exact ⟨_, _, hr, .inr ⟨rfl, .exit id, hIxp _ _ _ _ _ h3 hp.2, h3.put⟩⟩
    | goto t =>
      obtain ⟨hr, h3⟩ := hend (some (.goto t)) W3 hp.1
      exact ⟨_, _, hr, .inr ⟨rfl, .goto t, hIxp _ _ _ _ _ h3 hp.2, h3.put⟩⟩
    | panic ch => exact hp.elim
    | outgrown => exact hp.elim
  · rintro e W2 ⟨⟨v, rfl⟩, (⟨xs, hS, hi, hk⟩ | ⟨pre, hSp, c, hi, hk⟩)⟩
    · have hr := run_endLoop (P := P) hk.loop (by rw [hL]; simp)
      rw [hL] at hr
      exact ⟨none, _, hr, by rw [← hq]; exact hdone xs _ hS (hIp _ _ _ _ hk hi) ((World.putObj_heap_other (by omega)).trans hk.calls)⟩
    · have hr := run_endLoop (P := P) hk.loop (by rw [hL]; simp)
      rw [hL] at hr
      exact ⟨some c, _, hr, by rw [← hq]; exact hstop c pre _ hSp (hIxp _ _ _ _ _ hk hi) ((World.putObj_heap_other (by omega)).trans hk.calls)⟩
end
end Go.Par
