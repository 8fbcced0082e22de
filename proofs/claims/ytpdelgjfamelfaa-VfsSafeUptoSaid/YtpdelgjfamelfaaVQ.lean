/- Regions that draw their order inside a round of a loop over an iterator, at the fence that asks nothing: the quiet law; a law by an invariant. No function of the program in sight. -/
import Derived.Test.YtpdelgjfamelfaaV14
import Derived.OrdersIn
namespace Go.Proofs.Ytpdelgjfamelfaa
open Go.RowKit Go.Shelf
set_option linter.unusedVariables false

section
variable {P : Program} {ops : Array Oper} {md : Region.Mode} {C : World → Prop} {l n : Nat}

/-- no operation of the list is a defer statement. -/
def noDefer (ops : List Oper) : Bool := ops.all fun o => match o.op with | .defer _ => false | _ => true
theorem noDefer_at {ops : List Oper} (h : noDefer ops = true) {i : Nat} {o : Oper} (ho : ops[i]? = some o) : ∀ c, o.op ≠ .defer c := by
  intro c e
  have := List.all_eq_true.1 h o (List.mem_of_getElem? ho)
  rw [e] at this
  cases this

theorem operIn_of_quiet {o : Oper} (hnd : ∀ c, o.op ≠ .defer c) {a : Act} {K : Act → Prop} {K' : Act → World → Prop} {Q' : Exit → Act → World → Prop} {w : World} (hw : C w) (h : ∀ a w', C w' → K a → K' a w') (hh : o.quiet P a C K) :
    o.wpIn (Fence.wide.inRound l) n P a w K' Q' := by
  obtain ⟨v, h1, h2⟩ := hh
  have h3 := h1 w hw
  unfold Oper.quietAt at h3
  unfold Oper.wpIn
  refine ⟨fun _ _ => trivial, ?_⟩
  rw [show (Fence.wide.inRound l).round = some l from rfl, Oper.semAt_some l a.eval o hnd]
  generalize (execOp a.eval o).run P w = r at *
  cases r with
  | ok m w' =>
    cases m <;> simp only [Oper.quietUpon] at h3 <;> simp only [Oper.uponIn]
    case value u =>
      obtain ⟨e1, e2⟩ := h3
      rw [e1, e2]
      exact h _ _ hw h2
    case skip =>
      obtain ⟨e1, e2⟩ := h3
      rw [e1, ← e2]
      exact h _ _ hw h2
    case enter f args =>
      obtain ⟨e1, hc⟩ := h3
      rw [e1]
      refine ⟨(fun h => by cases h), CallsIn.inRound l (callsIn_wide.2 (hc.mono fun e w'' ⟨he, hw''⟩ => ?_))⟩
      subst he
      exact h _ _ hw'' h2
  | halt x w' => simp only [Oper.quietUpon] at h3

theorem wpOpIn_of_qOp (hnd : noDefer ops.toList = true) {i : Nat} {a : Act} {K : Act → Prop} {K' : Act → World → Prop} {Q' : Exit → Act → World → Prop} {w : World} (hC : C w) (h : ∀ a w', C w' → K a → K' a w') (hh : qOp P ops C i K a) :
    wpOpIn (Fence.wide.inRound l) n P ops Q' i K' a w := by
  unfold qOp at hh
  unfold wpOpIn
  split
  · rename_i ho; simp only [ho] at hh; exact h _ _ hC hh
  · rename_i o ho
    simp only [ho] at hh
    split
    · rename_i hw; simp only [hw, if_true] at hh; exact operIn_of_quiet (noDefer_at hnd (by simpa using ho)) hC h hh
    · rename_i hw; simp only [hw] at hh; exact ⟨fun _ _ => trivial, h _ _ hC hh⟩

theorem wpAnyIn_of_quiet (hnd : noDefer ops.toList = true) {Q : Act → Prop} {Q' : Exit → Act → World → Prop} (hQ : ∀ a w, C w → Q a → Q' .normal a w) : ∀ (fuel : Nat) (listed : Array Bool) (a : Act) (w : World), C w →
    wpAnyQ P md ops C Q fuel listed a → wpAnyIn (Fence.wide.inRound l) n P md ops Q' fuel listed a w
  | 0, _, _, _, hw, h => ⟨h.1, hQ _ _ hw h.2⟩
  | fuel + 1, _, _, _, hw, h => ⟨fun h0 => hQ _ _ hw (h.1 h0), fun i hi => wpOpIn_of_qOp hnd hw (fun a' w' hw' => wpAnyIn_of_quiet hnd hQ fuel _ a' w' hw') (h.2 i hi)⟩

/-- a quiet region in a round: one walk of the text's order. -/
theorem wpIn_round_quiet {id : Nat} {Q : Exit → Act → World → Prop} {a : Act} {w : World} {lo : List Oper} (hm : P.follows .mixedOrders = true) (hB : Region.lexB .any lo.toArray = true) (hnd : noDefer lo = true)
    (h : wpQuiet P lo.toArray (fun w' => ∃ n, w' = w.drewN n) (fun a' => ∀ w', (∃ n, w' = w.drewN n) → Q .normal a' w') lo a) : (Code.region id lo.toArray true).wpIn (Fence.wide.inRound l) n P Q a w := by
  simp only [Region.lexB, Bool.and_eq_true] at hB
  refine wpIn_region_any hm (wpAnyIn_of_quiet (C := fun w' => ∃ n, w' = w.drewN n) (by simpa using hnd) (Q := fun a' => ∀ w', (∃ n, w' = w.drewN n) → Q .normal a' w') (fun _ w' hw' h => h w' hw') _ _ _ _ ⟨1, rfl⟩ ?_)
  have := wpAnyQ_lex (C := fun w' => ∃ n, w' = w.drewN n) (md := .any) hB.1 lo.toArray.toList 0 (Array.replicate lo.toArray.size false) a (by simp) (by simpa using hB.2) (by simpa using h)
  simpa using this

/-- a region by an invariant over what has been done. -/
theorem wpAnyIn_inv {Q : Exit → Act → World → Prop} (Inv : Array Bool → Act → World → Prop) (hsize : ∀ L a w, Inv L a w → L.size = ops.size)
    (hdone : ∀ L a w, Inv L a w → Region.ready md ops L = [] → Q .normal a w)
    (hstep : ∀ L a w, Inv L a w → ∀ i ∈ Region.ready md ops L, wpOpIn (Fence.wide.inRound l) n P ops Q i (fun a' w' => Inv (L.setIfInBounds i true) a' w') a w) :
    ∀ (fuel : Nat) (L : Array Bool) (a : Act) (w : World), L.toList.count false ≤ fuel → Inv L a w → wpAnyIn (Fence.wide.inRound l) n P md ops Q fuel L a w
  | 0, L, a, w, hf, h => by
    have hr : Region.ready md ops L = [] := by
      apply List.eq_nil_iff_forall_not_mem.2
      intro i hi
      obtain ⟨hu, o, ho, _⟩ := mem_ready.1 hi
      have hlt : i < L.size := by rw [hsize L a w h]; exact (Array.getElem?_eq_some_iff.1 ho).1
      have : false ∈ L.toList := by
        have h2 : L[i] = false := by simpa [hlt] using hu
        rw [← h2]
        exact Array.getElem_mem_toList hlt
      have := List.count_pos_iff.2 this
      omega
    exact ⟨hr, hdone L a w h hr⟩
  | fuel + 1, L, a, w, hf, h => by
    refine ⟨hdone L a w h, fun i hi => wpOpIn_mono (fun a' w' h' => wpAnyIn_inv Inv hsize hdone hstep fuel _ a' w' ?_ h') (hstep L a w h i hi)⟩
    obtain ⟨hu, o, ho, _⟩ := mem_ready.1 hi
    have hlt : i < L.size := by rw [hsize L a w h]; exact (Array.getElem?_eq_some_iff.1 ho).1
    have h2 : L[i] = false := by simpa [hlt] using hu
    have h3 : false ∈ L.toList := by rw [← h2]; exact Array.getElem_mem_toList hlt
    have h4 := List.count_pos_iff.2 h3
    rw [Array.toList_setIfInBounds, List.count_set (by simpa using hlt)]
    have h5 : L.toList[i]'(by simpa using hlt) = false := by simpa using h2
    rw [h5]
    simp only [beq_self_eq_true, if_true]
    have h6 : (if (true == false) = true then 1 else 0 : Nat) = 0 := rfl
    omega
end
end Go.Proofs.Ytpdelgjfamelfaa
