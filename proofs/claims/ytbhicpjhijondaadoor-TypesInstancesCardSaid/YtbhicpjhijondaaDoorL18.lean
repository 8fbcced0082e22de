/- What variables stand for, in two rows that belong to the call; plain words of the reference's match. -/
import Derived.Test.YtbhicpjhijondaaDoorTD
import Derived.Test.YtbhicpjhijondaaDoorL12
namespace Go.Typ
open Go.RowKit Go.Lib Go.Vfs Go.Par
theorem standsL_len : ∀ (gs ts : List Ty), (∀ g ∈ gs, ∀ (T : Ty) (kn : List (Int × Ty)), (standsT g T kn).2.length ≤ kn.length + g.parts) → ∀ kn : List (Int × Ty), (standsL gs ts kn).2.length ≤ kn.length + partsL gs
  | [], ts, _, kn => by rw [standsL]; exact Nat.le_add_right _ _
  | g :: gs, [], _, kn => by rw [standsL]; exact Nat.le_add_right _ _
  | g :: gs, t :: ts, h, kn => by
    rw [standsL, partsL]
    have h1 := h g (by simp) t kn
    split
    · have := standsL_len gs ts (fun a ha => h a (by simp [ha])) (standsT g t kn).2
      omega
    · show (standsT g t kn).2.length ≤ _
      omega
theorem standsT_len (G : Ty) : ∀ (T : Ty) (kn : List (Int × Ty)), (standsT G T kn).2.length ≤ kn.length + G.parts := by
  induction G using Ty.ind with
  | h G ih =>
    intro T kn
    have hp := G.parts_pos
    rw [standsT_eq]
    split
    · split
      · exact Nat.le_add_right _ _
      · rw [List.length_append, List.length_singleton]; omega
    · split
      · have := standsL_len G.args T.args (fun a ha => by obtain ⟨i, hi, rfl⟩ := List.getElem_of_mem ha; exact ih i hi) kn
        rw [G.parts_eq]; omega
      · exact Nat.le_add_right _ _
theorem lookup_at : ∀ {kn : List (Int × Ty)} {i : Nat} {n : Int} (hi : i < kn.length), kn[i].1 = n → (∀ j (h : j < kn.length), j < i → ¬ kn[j].1 = n) → kn.lookup n = some kn[i].2
  | [], i, n, hi, _, _ => by simp at hi
  | (m, U) :: kn, 0, n, hi, h, _ => by
    simp only [List.getElem_cons_zero] at h ⊢
    rw [List.lookup_cons, h, beq_self_eq_true]
  | (m, U) :: kn, i + 1, n, hi, h, hn => by
    have h0 := hn 0 (by simp) (by omega)
    simp only [List.getElem_cons_zero] at h0
    have hb : (n == m) = false := by simp; exact fun e => h0 e.symm
    simp only [List.getElem_cons_succ] at h ⊢
    rw [List.lookup_cons, hb]
    exact lookup_at (by simpa using hi) h fun j hj hji => by
      have := hn (j + 1) (by simpa using hj) (by omega)
      simpa using this
theorem lookup_none {kn : List (Int × Ty)} {n : Int} (h : ∀ j (h : j < kn.length), ¬ kn[j].1 = n) : kn.lookup n = none := by
  induction kn with
  | nil => rfl
  | cons x kn ih =>
    obtain ⟨m, U⟩ := x
    have h0 := h 0 (by simp)
    simp only [List.getElem_cons_zero] at h0
    have hb : (n == m) = false := by simp; exact fun e => h0 e.symm
    rw [List.lookup_cons, hb]
    exact ih fun j hj => by
      have := h (j + 1) (by simpa using hj)
      simpa using this
end Go.Typ
namespace Go.Proofs.YtbhicpjhijondaaDoor
open Go.RowKit Go.Lib Go.Vfs Go.Par Go.Typ Go.Shelf
set_option linter.unusedVariables false
set_option linter.unusedSimpArgs false

theorem intK : ElemK Tryd.prog 40 3 1 := elemK_of (b := 8) (z := .int .i64 0) Tryd.underlying40 (by kernel_rfl) (by decide) rfl (by decide)
/-- the names and the types, a row each. -/
structure KnAt (B : Nat) (W : World) (kn : List (Int × Ty)) (nv tv : Value) (us : List Value) : Prop where
  own1 : W.ownsRow B 3 1 nv kn.length (ints (kn.map (·.1)))
  own2 : W.ownsRow B 24 4 tv kn.length (us.flatMap flatC)
  len : us.length = kn.length
  each : ∀ i (h : i < kn.length), TyAt (· < B) W (us.getD i (.bool false)) kn[i].2
  ne : ∀ g, nv.ownBlock = some g → tv.ownBlock ≠ some g
/-- the blocks of two rows. -/
def FK (nv tv : Value) (g : Nat) : Prop := nv.ownBlock = some g ∨ tv.ownBlock = some g
section
variable {B : Nat} {W W' : World} {kn : List (Int × Ty)} {nv tv nv' tv' : Value} {us : List Value} {F : Nat → Prop}
theorem KnAt.keep (h : KnAt B W kn nv tv us) (hB : B ≤ W.heap.size) (hk : Kept F W W') (hF : ∀ g, F g → B ≤ g ∧ nv.ownBlock ≠ some g ∧ tv.ownBlock ≠ some g) : KnAt B W' kn nv tv us :=
  ⟨ownsRow_block h.own1 fun g e => hk.block g (h.own1.lt g e).2 (fun hf => (hF g hf).2.1 e), ownsRow_block h.own2 fun g e => hk.block g (h.own2.lt g e).2 (fun hf => (hF g hf).2.2 e), h.len,
    fun i hi => (h.each i hi).keep fun g (hg : g < B) => ⟨hg, hk.block g (by omega) (fun hf => by have := (hF g hf).1; omega)⟩, h.ne⟩
theorem KnAt.below (h : KnAt B W kn nv tv us) (hB : B ≤ W.heap.size) (hb : Below W.heap.size W W') : KnAt B W' kn nv tv us :=
  h.keep (F := fun _ => False) hB (Kept.of_below hb) (fun _ hf => hf.elim)
theorem KnAt.low (h : KnAt B W kn nv tv us) {g : Nat} (hf : FK nv tv g) : B ≤ g ∧ g < W.heap.size := by
  rcases hf with e | e
  · exact h.own1.lt g e
  · exact h.own2.lt g e
theorem KnAt.form (h : KnAt B W kn nv tv us) : ∃ A1 c1 A2 c2, nv = .slice A1 kn.length c1 ∧ tv = .slice A2 kn.length c2 := by
  obtain ⟨A1, c1, e1⟩ := own_form h.own1
  obtain ⟨A2, c2, e2⟩ := own_form h.own2
  exact ⟨A1, c1, A2, c2, e1, e2⟩
theorem KnAt.flat (h : KnAt B W kn nv tv us) : ∀ u ∈ us, (flatC u).length = 4 := fun u hu => by
  obtain ⟨i, hi, rfl⟩ := List.getElem_of_mem hu
  have := h.each i (by rw [← h.len]; exact hi)
  rw [List.getD_eq_getElem?_getD, List.getElem?_eq_getElem hi, Option.getD_some] at this
  obtain ⟨A, c, e, _⟩ := this.form
  rw [e]; rfl
theorem KnAt.nm (h : KnAt B W kn nv tv us) {i : Nat} (hi : i < kn.length) : ∃ b off c, nv = .slice (some ⟨b, off, none⟩) kn.length c ∧ W.cell? ⟨b, off + i, none⟩ = some (.int .i64 kn[i].1) := by
  obtain ⟨g, c, e, hc⟩ := own_cells h.own1 (by omega)
  refine ⟨g, 0, c, e, ?_⟩
  rw [Nat.zero_add, hc i (by omega)]
  simp [ints, hi]
theorem KnAt.ty (h : KnAt B W kn nv tv us) {i : Nat} (hi : i < kn.length) : ∃ b off c A' c', tv = .slice (some ⟨b, off, none⟩) kn.length c ∧ b < W.heap.size ∧ TyAt (· < B) W (tyV kn[i].2.kind kn[i].2.num kn[i].2.name A' kn[i].2.args.length c') kn[i].2 ∧
    W.cell? ⟨b, off + i * 4, none⟩ = some (.int .i64 kn[i].2.kind) ∧ W.cell? ⟨b, off + i * 4 + 1, none⟩ = some (.int .i64 kn[i].2.num) ∧ W.cell? ⟨b, off + i * 4 + 2, none⟩ = some (.string kn[i].2.name) ∧ W.cell? ⟨b, off + i * 4 + 3, none⟩ = some (.slice A' kn[i].2.args.length c') := by
  obtain ⟨g, c, e, hc⟩ := own_cells h.own2 (by omega)
  have ht := h.each i hi
  obtain ⟨A', c', e2, _⟩ := ht.form
  rw [e2] at ht
  have hg := h.own2.lt g (by rw [e]; rfl)
  have key : ∀ j, j < 4 → W.cell? ⟨g, 0 + i * 4 + j, none⟩ = (flatC (tyV kn[i].2.kind kn[i].2.num kn[i].2.name A' kn[i].2.args.length c'))[j]? := fun j hj => by
    rw [Nat.zero_add, hc _ (by omega), flat_get h.flat i j (by rw [h.len]; exact hi) hj, e2]
  exact ⟨g, 0, c, A', c', e, hg.2, ht, key 0 (by omega), key 1 (by omega), key 2 (by omega), key 3 (by omega)⟩
/-- one more. -/
theorem KnAt.push (h : KnAt B W kn nv tv us) (hB : B ≤ W.heap.size) (hk : Kept F W W') (hF : ∀ g, F g → B ≤ g) {n : Int} {T : Ty} {u : Value} (hT : TyAt (· < B) W u T)
    (h1 : W'.ownsRow B 3 1 nv' (kn.length + 1) (ints (kn.map (·.1)) ++ [.int .i64 n])) (h2 : W'.ownsRow B 24 4 tv' (kn.length + 1) (us.flatMap flatC ++ flatC u))
    (hne : ∀ g, nv'.ownBlock = some g → tv'.ownBlock ≠ some g) : KnAt B W' (kn ++ [(n, T)]) nv' tv' (us ++ [u]) := by
  have hkT : ∀ {v : Value} {X : Ty}, TyAt (· < B) W v X → TyAt (· < B) W' v X := fun h0 => h0.keep fun g (hg : g < B) => ⟨hg, hk.block g (by omega) (fun hf => by have := hF g hf; omega)⟩
  refine ⟨?_, ?_, by simp [h.len], fun i hi => ?_, hne⟩
  · rw [List.length_append, List.length_singleton, List.map_append, ints_append]; exact h1
  · rw [List.length_append, List.length_singleton, List.flatMap_append]; simpa using h2
  · rw [List.length_append, List.length_singleton] at hi
    by_cases hik : i < kn.length
    · have e1 : (us ++ [u]).getD i (.bool false) = us.getD i (.bool false) := by simp [List.getD_eq_getElem?_getD, List.getElem?_append, h.len, hik]
      rw [e1, List.getElem_append_left hik]
      exact hkT (h.each i hik)
    · have : i = kn.length := by omega
      subst this
      have e1 : (us ++ [u]).getD kn.length (.bool false) = u := by rw [← h.len]; simp [List.getD_eq_getElem?_getD]
      have e2 : (kn ++ [(n, T)])[kn.length]'(by simp) = (n, T) := by simp
      rw [e1, e2]
      exact hkT hT
end
theorem KnAt.nil (B : Nat) (W : World) (nv tv : Value) (h1 : W.ownsRow B 3 1 nv 0 []) (h2 : W.ownsRow B 24 4 tv 0 []) (hne : ∀ g, nv.ownBlock = some g → tv.ownBlock ≠ some g) : KnAt B W [] nv tv [] :=
  ⟨h1, h2, rfl, fun i h => by simp at h, hne⟩
theorem kept_grown {w w' : World} {r : Option Nat} (h : w.grownBy w' r) : Kept (fun g => r = some g) w w' := ⟨h.os, h.tape, h.output, h.size, fun k hk hn => h.block k hk fun e => hn e.symm⟩
/-- what match leaves. -/
def MPost (B : Nat) (G T : Ty) (kn : List (Int × Ty)) (nv tv : Value) (w : World) (e : Ending) (w' : World) : Prop :=
  ∃ nv' tv' us', e = .returned (.tuple #[nv', tv', .bool (standsT G T kn).1]) ∧ KnAt B w' (standsT G T kn).2 nv' tv' us' ∧ Kept (FK nv tv) w w' ∧
    (∀ g, nv'.ownBlock = some g → nv.ownBlock = some g ∨ w.heap.size ≤ g) ∧ (∀ g, tv'.ownBlock = some g → tv.ownBlock = some g ∨ w.heap.size ≤ g)
theorem mpost {B : Nat} {G T : Ty} {kn kn' : List (Int × Ty)} {r : Bool} {nv tv nv' tv' : Value} {us' : List Value} {w w' : World} (hs : standsT G T kn = (r, kn')) (hK : KnAt B w' kn' nv' tv' us') (hk : Kept (FK nv tv) w w')
    (h1 : ∀ g, nv'.ownBlock = some g → nv.ownBlock = some g ∨ w.heap.size ≤ g) (h2 : ∀ g, tv'.ownBlock = some g → tv.ownBlock = some g ∨ w.heap.size ≤ g) : MPost B G T kn nv tv w (.returned (.tuple #[nv', tv', .bool r])) w' :=
  ⟨nv', tv', us', by rw [hs], by rw [hs]; exact hK, hk, h1, h2⟩
end Go.Proofs.YtbhicpjhijondaaDoor
