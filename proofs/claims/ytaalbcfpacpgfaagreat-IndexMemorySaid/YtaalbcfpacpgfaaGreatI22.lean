/- Cells that are written over by others of their kind; an index beside what is written elsewhere. -/
import Derived.Test.YtaalbcfpacpgfaaGreatI17
namespace Go.Ix
open Go.RowKit Go.Lib Go.Vfs Go.Par Go.Typ
set_option linter.unusedVariables false

/-- a cell, or another of its kind. -/
def Fk (v v' : Value) : Prop := v' = v ∨ (∃ k k' : Int, v = .int .i64 k ∧ v' = .int .i64 k') ∨ ∃ s s' : ByteArray, v = .string s ∧ v' = .string s'
theorem Fk.trans {a b c : Value} (h : Fk a b) (k : Fk b c) : Fk a c := by
  rcases h with rfl | ⟨i, j, rfl, rfl⟩ | ⟨i, j, rfl, rfl⟩
  · exact k
  · rcases k with rfl | ⟨i2, j2, e, rfl⟩ | ⟨i2, j2, e, rfl⟩
    · exact .inr (.inl ⟨_, _, rfl, rfl⟩)
    · exact .inr (.inl ⟨_, _, rfl, rfl⟩)
    · cases e
  · rcases k with rfl | ⟨i2, j2, e, rfl⟩ | ⟨i2, j2, e, rfl⟩
    · exact .inr (.inr ⟨_, _, rfl, rfl⟩)
    · cases e
    · exact .inr (.inr ⟨_, _, rfl, rfl⟩)
structure FlipC (P : Nat → Prop) (w w' : World) : Prop where
  kept : Kept P w w'
  sz : w'.heap.size = w.heap.size
  cell : ∀ b o v, w.cell? ⟨b, o, none⟩ = some v → ∃ v', w'.cell? ⟨b, o, none⟩ = some v' ∧ Fk v v'
  clean : ∀ b, CleanB w b → CleanB w' b
theorem FlipC.refl (P : Nat → Prop) (w : World) : FlipC P w w := ⟨Kept.refl _ _, rfl, fun b o v h => ⟨v, h, .inl rfl⟩, fun b h => h⟩
theorem FlipC.sl {P : Nat → Prop} {w w' : World} (h : FlipC P w w') {b o : Nat} {A : Option Addr} {n c : Nat} (hc : w.cell? ⟨b, o, none⟩ = some (.slice A n c)) : w'.cell? ⟨b, o, none⟩ = some (.slice A n c) := by
  obtain ⟨v', h1, h2 | ⟨k, k', h2, -⟩ | ⟨k, k', h2, -⟩⟩ := h.cell b o _ hc
  · rw [h1, h2]
  · cases h2
  · cases h2
theorem FlipC.int {P : Nat → Prop} {w w' : World} (h : FlipC P w w') {b o : Nat} {k : Int} (hc : w.cell? ⟨b, o, none⟩ = some (.int .i64 k)) : ∃ k', w'.cell? ⟨b, o, none⟩ = some (.int .i64 k') := by
  obtain ⟨v', h1, h2 | ⟨k, k', -, h2⟩ | ⟨k, k', h2, -⟩⟩ := h.cell b o _ hc
  · exact ⟨k, by rw [h1, h2]⟩
  · exact ⟨k', by rw [h1, h2]⟩
  · cases h2
theorem FlipC.str {P : Nat → Prop} {w w' : World} (h : FlipC P w w') {b o : Nat} {s : ByteArray} (hc : w.cell? ⟨b, o, none⟩ = some (.string s)) : ∃ s', w'.cell? ⟨b, o, none⟩ = some (.string s') := by
  obtain ⟨v', h1, h2 | ⟨k, k', h2, -⟩ | ⟨k, k', -, h2⟩⟩ := h.cell b o _ hc
  · exact ⟨s, by rw [h1, h2]⟩
  · cases h2
  · exact ⟨k', by rw [h1, h2]⟩
theorem FlipC.set {P : Nat → Prop} {w0 w : World} (h : FlipC P w0 w) {b o : Nat} {v v' : Value} (hP : P b) (hc : w.cell? ⟨b, o, none⟩ = some v) (hcl : CleanB w b) (hk : Fk v v') : FlipC P w0 (w.setCell ⟨b, o, none⟩ v') := by
  have hsz : (w.setCell ⟨b, o, none⟩ v').heap.size = w.heap.size := by simp [World.setCell]
  refine ⟨h.kept.setCell (p := ⟨b, o, none⟩) (.inl hP) _, hsz.trans h.sz, fun b2 o2 u hu => ?_, fun b2 h2 => ?_⟩
  · obtain ⟨u', h1, h2⟩ := h.cell b2 o2 u hu
    by_cases e : (⟨b, o, none⟩ : Addr) = ⟨b2, o2, none⟩
    · rw [← e] at h1 ⊢
      rw [hc] at h1
      cases h1
      exact ⟨v', World.cell?_setCell_same _ _ _ hc, h2.trans hk⟩
    · exact ⟨u', by rw [World.cell?_setCell_other _ _ _ _ e]; exact h1, h2⟩
  · have h3 := h.clean b2 h2
    by_cases e : b2 = b
    · subst e
      obtain ⟨cs, t, hh⟩ := h3
      exact ⟨_, t, Go.Typ.cells_put hh o v'⟩
    · exact h3.keep (Below.heap_setCell _ _ _ _ e)
theorem _root_.Go.Typ.CleanB.frozen {w : World} {b : Nat} (h : CleanB w b) (o : Nat) : w.frozen? ⟨b, o, none⟩ = false := by
  obtain ⟨cs, t, h⟩ := h
  simp [World.frozen?, h]
theorem Fk.i (k k' : Int) : Fk (.int .i64 k) (.int .i64 k') := .inr (.inl ⟨_, _, rfl, rfl⟩)
theorem Fk.s (s s' : ByteArray) : Fk (.string s) (.string s') := .inr (.inr ⟨_, _, rfl, rfl⟩)
end Go.Ix
namespace Go.Proofs.YtaalbcfpacpgfaaGreat
open Go.RowKit Go.Lib Go.Vfs Go.Par Go.Typ Go.Shelf Go.Ix
set_option linter.unusedVariables false
set_option linter.unusedSimpArgs false
theorem XI.kept {W wr w' : World} {px p g s c d m : Nat} {base log : List (List UInt8)} {es : List En} {F H S : Nat → Prop} {fs : List File} {lg : Option File} (h : XI W wr px p g base log es s c d m F H S fs lg) {P : Nat → Prop} (hk : Kept P wr w') (hP : ∀ k, P k → W.heap.size ≤ k ∧ ¬ (F k ∨ H k ∨ S k)) :
    XI W w' px p g base log es s c d m F H S fs lg := by
  have hlt := h.xh.xf.lt
  have hz := h.xh.below.size
  exact ⟨⟨h.xh.xf.block (fun k hk' => hk.block k (hlt k hk') (fun hp => (hP k hp).2 hk')) hk.size, h.xh.new, h.xh.below.trans (hk.below hz fun k hp => (hP k hp).1)⟩, h.v3, h.lok, h.lg0, h.calm, h.xk, h.logc, h.esc, h.sum, h.each⟩
theorem pubE_one {E : En} (h : accB E = true) : pubE [] E = [E] := by unfold pubE; rw [if_pos h]; rfl
theorem pubE_none {E : En} (h : accB E = false) : pubE [] E = [] := by unfold pubE; rw [if_neg (by rw [h]; decide)]
theorem found_one (E : En) : foundE [E] E.uri.data.toList = E ∧ (findL keyE E.uri.data.toList [E]).isSome = true := by
  have h : findL keyE E.uri.data.toList [E] = some E := by simp [findL, keyE]
  constructor
  · unfold foundE; rw [h]
  · rw [h]; rfl
end Go.Proofs.YtaalbcfpacpgfaaGreat
