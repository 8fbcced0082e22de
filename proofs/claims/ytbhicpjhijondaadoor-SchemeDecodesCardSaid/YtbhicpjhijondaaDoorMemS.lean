/- Rows of cells in a set of blocks; what a call that keeps all but F leaves of them. No function of the program in sight. -/
import Derived.Test.YtbhicpjhijondaaDoorApp
namespace Go.Par
open Go.RowKit Go.Lib Go.Vfs
set_option linter.unusedVariables false

/-- v is a slice of the values xs, a cell each, in a block of S (whatever it is where it is empty). -/
def SegS (S : Nat → Prop) (w : World) (v : Value) (xs : List Value) : Prop :=
  ∃ A c, v = .slice A xs.length c ∧ xs.length ≤ c ∧ c ≤ maxLen ∧ (0 < xs.length → ∃ b off, A = some ⟨b, off, none⟩ ∧ S b ∧ ∀ i, i < xs.length → w.cell? ⟨b, off + i, none⟩ = xs[i]?)
/-- a block that lies, and not in F. -/
def Out (w : World) (F : Nat → Prop) (b : Nat) : Prop := b < w.heap.size ∧ ¬ F b

theorem Seg.toS {w : World} {B : Nat} {v : Value} {xs : List Value} (h : Seg w B v xs) : SegS (· < B) w v xs := h
theorem SegS.seg {S : Nat → Prop} {w : World} {v : Value} {xs : List Value} (h : SegS S w v xs) {B : Nat} (hS : ∀ b, S b → b < B) : Seg w B v xs := by
  obtain ⟨A, c, h1, h2, h3, h4⟩ := h
  exact ⟨A, c, h1, h2, h3, fun hn => by obtain ⟨b, off, e, hb, hc⟩ := h4 hn; exact ⟨b, off, e, hS b hb, hc⟩⟩
theorem SegS.keep {S S' : Nat → Prop} {w w' : World} {v : Value} {xs : List Value} (h : SegS S w v xs) (hk : ∀ b, S b → S' b ∧ w'.heap[b]? = w.heap[b]?) : SegS S' w' v xs := by
  obtain ⟨A, c, h1, h2, h3, h4⟩ := h
  exact ⟨A, c, h1, h2, h3, fun hn => by
    obtain ⟨b, off, e, hb, hc⟩ := h4 hn
    exact ⟨b, off, e, (hk b hb).1, fun i hi => (World.cell?_of_block (a := ⟨b, off + i, none⟩) (hk b hb).2).trans (hc i hi)⟩⟩
theorem SegS.out {w : World} {F : Nat → Prop} {v : Value} {xs : List Value} (h : SegS (Out w F) w v xs) : Seg w w.heap.size v xs := h.seg fun _ hb => hb.1
theorem SegS.kept {w w' : World} {F F' : Nat → Prop} {v : Value} {xs : List Value} (h : SegS (Out w F) w v xs) (hk : Kept F w w') (hg : Grows w F F') : SegS (Out w' F') w' v xs :=
  h.keep fun b hb => ⟨⟨Nat.lt_of_lt_of_le hb.1 hk.size, fun hf => by rcases hg b hf with h1 | h1; exact hb.2 h1; exact absurd hb.1 (by omega)⟩, hk.block b hb.1 hb.2⟩
theorem SegS.below {w w' : World} {F : Nat → Prop} {v : Value} {xs : List Value} (h : SegS (Out w F) w v xs) (hb : Below w.heap.size w w') : SegS (Out w' F) w' v xs :=
  h.keep fun b hx => ⟨⟨Nat.lt_of_lt_of_le hx.1 hb.size, hx.2⟩, hb.block b hx.1⟩
theorem Seg.outS {w : World} {B : Nat} {v : Value} {xs : List Value} {F : Nat → Prop} (h : Seg w B v xs) (hB : B ≤ w.heap.size) (hF : ∀ k, F k → B ≤ k) : SegS (Out w F) w v xs :=
  SegS.keep (S := (· < B)) h fun b hb => ⟨⟨by omega, fun hf => by have := hF b hf; omega⟩, rfl⟩
/-- what the call itself made lies out of F, if F lay ahead. -/
theorem Own.outS {w : World} {base : Nat} {e : TypeId} {v : Value} {xs : List Value} {F : Nat → Prop} (h : Own w base e v xs) (hF : ∀ k, F k → k < base) : SegS (Out w F) w v xs := by
  have hlt := h.lt
  rcases h.2 with ⟨rfl, h0⟩ | ⟨g, cap, cur, rfl, hg, hh, hnc, hcm, hsz, htake⟩
  · have : xs = [] := List.eq_nil_of_length_eq_zero h0
    subst this
    exact ⟨none, 0, rfl, by simp, by simp [maxLen], fun h => by simp at h⟩
  · refine ⟨_, cap, rfl, hnc, hcm, fun _ => ⟨g, 0, rfl, ⟨(hlt g rfl).2, fun hf => by have := hF g hf; omega⟩, fun i hi => ?_⟩⟩
    have hc := World.ownsRow.cells (g := g) h rfl i (xs[i]'hi) (List.getElem?_eq_getElem hi)
    rw [← add_addr, hc, List.getElem?_eq_getElem hi]
end Go.Par
