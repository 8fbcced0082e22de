/- A journal in memory. -/
import Derived.Test.YtpdelgjfamelfaaGreatJ6
namespace Go.Proofs.YtpdelgjfamelfaaGreat
open Go.RowKit Go.Lib Go.Vfs Go.Par
set_option linter.unusedVariables false
set_option linter.unusedSimpArgs false

theorem four_setCell {w : World} {b : Nat} {u0 u1 u2 u3 : Value} {t : TypeId} (h : w.heap[b]? = some (.cells #[u0, u1, u2, u3] t (0, 0))) (x : Value) :
    (w.setCell ⟨b, 1, none⟩ x).heap[b]? = some (.cells #[u0, x, u2, u3] t (0, 0)) ∧ (w.setCell ⟨b, 2, none⟩ x).heap[b]? = some (.cells #[u0, u1, x, u3] t (0, 0)) ∧ (w.setCell ⟨b, 3, none⟩ x).heap[b]? = some (.cells #[u0, u1, u2, x] t (0, 0)) := by
  refine ⟨?_, ?_, ?_⟩
  all_goals
    simp only [World.setCell, Array.getElem?_modify, h]
    simp
theorem four_cells {W : World} {b : Nat} {u0 u1 u2 u3 : Value} {t : TypeId} (h : W.heap[b]? = some (.cells #[u0, u1, u2, u3] t (0, 0))) :
    (W.cell? ⟨b, 0, none⟩ = some u0 ∧ W.cell? ⟨b, 1, none⟩ = some u1 ∧ W.cell? ⟨b, 2, none⟩ = some u2 ∧ W.cell? ⟨b, 3, none⟩ = some u3) ∧ W.frozen? ⟨b, 1, none⟩ = false ∧ W.frozen? ⟨b, 2, none⟩ = false ∧ W.frozen? ⟨b, 3, none⟩ = false := by
  simp [World.cell?, World.frozen?, h]
theorem setCell_block {w : World} {a : Addr} {x : Value} {k : Nat} (h : k ≠ a.block) : (w.setCell a x).heap[k]? = w.heap[k]? := Below.heap_setCell _ _ _ _ h
theorem setCell_cel {w : World} {b i : Nat} {x : Value} {k : Nat} {o : Obj} (h : w.heap[k]? = some o) (hc : o.isCells = true) : ∃ o', (w.setCell ⟨b, i, none⟩ x).heap[k]? = some o' ∧ o'.isCells = true := by
  by_cases hk : k = b
  · subst hk
    cases o <;> simp [Obj.isCells] at hc
    rename_i cs t fz
    have e : (w.setCell ⟨k, i, none⟩ x).heap[k]? = some (.cells (cs.setIfInBounds i x) t fz) := by
      simp [World.setCell, Array.getElem?_modify, h]
    exact ⟨_, e, rfl⟩
  · exact ⟨o, (setCell_block hk).trans h, hc⟩
/-- the blocks of a journal's data. -/
def JD (G : Nat → Prop) (pj : Nat) (bv lv : Value) (b : Nat) : Prop := G b ∧ b ≠ pj ∧ bv.ownBlock ≠ some b ∧ lv.ownBlock ≠ some b
/-- the journal at block pj, with its files at block p. -/
structure JV (w : World) (pj p gen : Nat) (bv lv : Value) (bs us : List Value) (base log : List (List UInt8)) (G : Nat → Prop) : Prop where
  head : w.heap[pj]? = some (.cells #[.pointer (some ⟨p, 0, none⟩), .int .u32 (gen : Nat), bv, lv] 94 (0, 0))
  bown : w.ownsRow 0 22 1 bv base.length bs
  lown : w.ownsRow 0 22 1 lv log.length us
  bdat : ∀ i, i < base.length → SegS (JD G pj bv lv) w (bs.getD i (.bool false)) (byteCells (base.getD i []))
  ldat : ∀ i, i < log.length → SegS (JD G pj bv lv) w (us.getD i (.bool false)) (byteCells (log.getD i []))
  gpj : G pj
  gb : ∀ g, bv.ownBlock = some g → G g ∧ g ≠ pj
  gl : ∀ g, lv.ownBlock = some g → G g ∧ g ≠ pj ∧ bv.ownBlock ≠ some g
  cel : ∀ k, G k → ∃ o, w.heap[k]? = some o ∧ o.isCells = true
  gen_lt : gen < 4294967296
section
variable {w w' X : World} {pj p gen : Nat} {bv lv : Value} {bs us : List Value} {base log : List (List UInt8)} {G : Nat → Prop}
theorem JV.lt (h : JV w pj p gen bv lv bs us base log G) : ∀ k, G k → k < w.heap.size := fun k hk => by
  obtain ⟨o, ho, -⟩ := h.cel k hk
  exact lt_of_block ho
theorem JV.block (h : JV w pj p gen bv lv bs us base log G) (hk : ∀ k, G k → w'.heap[k]? = w.heap[k]?) : JV w' pj p gen bv lv bs us base log G :=
  ⟨(hk _ h.gpj).trans h.head, ownsRow_block h.bown (fun g hg => hk g (h.gb g hg).1), ownsRow_block h.lown (fun g hg => hk g (h.gl g hg).1), fun i hi => (h.bdat i hi).keep fun b hb => ⟨hb, hk b hb.1⟩, fun i hi => (h.ldat i hi).keep fun b hb => ⟨hb, hk b hb.1⟩, h.gpj, h.gb, h.gl,
    fun k hg => by obtain ⟨o, ho, hc⟩ := h.cel k hg; exact ⟨o, (hk k hg).trans ho, hc⟩, h.gen_lt⟩
theorem JV.go (h : JV w pj p gen bv lv bs us base log G) (hb : Below w.heap.size w w') : JV w' pj p gen bv lv bs us base log G := h.block fun k hk => hb.block k (h.lt k hk)
theorem JV.kept (h : JV w pj p gen bv lv bs us base log G) {F : Nat → Prop} (hK : Kept F w w') (hd : ∀ k, G k → ¬ F k) : JV w' pj p gen bv lv bs us base log G := h.block fun k hk => hK.block k (h.lt k hk) (hd k hk)
/-- through changes of what is no cells. -/
theorem JV.walk (h : JV w pj p gen bv lv bs us base log G) {row : Option Nat} (hg : w.grownBy w' row) (hr : ∀ r, row = some r → ∃ o : Obj, w.heap[r]? = some o ∧ o.isCells = false) : JV w' pj p gen bv lv bs us base log G := h.block fun k hk => by
  obtain ⟨o, ho, hc⟩ := h.cel k hk
  refine hg.block k (lt_of_block ho) (fun e => ?_)
  obtain ⟨o', ho', hc'⟩ := hr k e.symm
  rw [ho] at ho'
  cases ho'
  rw [hc] at hc'
  cases hc'
theorem JV.cells (h : JV w pj p gen bv lv bs us base log G) : (w.cell? ⟨pj, 0, none⟩ = some (.pointer (some ⟨p, 0, none⟩)) ∧ w.cell? ⟨pj, 1, none⟩ = some (.int .u32 (gen : Nat)) ∧ w.cell? ⟨pj, 2, none⟩ = some bv ∧ w.cell? ⟨pj, 3, none⟩ = some lv) ∧ w.frozen? ⟨pj, 1, none⟩ = false ∧ w.frozen? ⟨pj, 2, none⟩ = false ∧ w.frozen? ⟨pj, 3, none⟩ = false := four_cells h.head
theorem own_cel {base' : Nat} {e : TypeId} {v : Value} {n : Nat} {xs : List Value} (h : w.ownsRow base' e 1 v n xs) : ∀ g, v.ownBlock = some g → ∃ o, w.heap[g]? = some o ∧ o.isCells = true := by
  intro g hg
  rcases h.2 with ⟨rfl, _⟩ | ⟨g', cap, cur, rfl, _, hh, _⟩
  · cases hg
  · cases hg
    exact ⟨_, hh, rfl⟩
theorem seg_own {base' : Nat} {v : Value} {l : List UInt8} (h : Par.Own w base' 5 v (byteCells l)) : SegS (fun b => v.ownBlock = some b) w v (byteCells l) := by
  have hl := h.lt
  rcases h.2 with ⟨rfl, h0⟩ | ⟨g, cap, cur, rfl, hg, hh, hnc, hcm, hsz, htake⟩
  · have : byteCells l = [] := List.eq_nil_of_length_eq_zero h0
    rw [this]
    exact ⟨none, 0, rfl, by simp, by simp [maxLen], fun h => by simp at h⟩
  · refine ⟨_, cap, rfl, hnc, hcm, fun _ => ⟨g, 0, rfl, rfl, fun i hi => ?_⟩⟩
    have hc := World.ownsRow.cells (g := g) h rfl i ((byteCells l)[i]'hi) (List.getElem?_eq_getElem hi)
    rw [← add_addr, hc, List.getElem?_eq_getElem hi]
theorem getD_snoc_lt {α : Type} (l : List α) (x d : α) (i : Nat) (h : i < l.length) : (l ++ [x]).getD i d = l.getD i d := by simp [List.getD_eq_getElem?_getD, List.getElem?_append, h]
theorem getD_snoc_eq {α : Type} (l : List α) (x d : α) : (l ++ [x]).getD l.length d = x := by simp [List.getD_eq_getElem?_getD]

/-- one more in the log. -/
theorem JV.pushL (h : JV X pj p gen bv lv bs us base log G) {w5 : World} {u2 : Value} {l2 : List UInt8} {B : Nat} (hu : Par.Own X B 5 u2 (byteCells l2)) (hN : ∀ g, u2.ownBlock = some g → ¬ G g) {lv' : Value}
    (hown : w5.ownsRow 0 22 1 lv' (log.length + 1) (us ++ [u2])) (hg : X.grownBy w5 lv.ownBlock) (hat : lv'.ownBlock = lv.ownBlock ∨ lv'.ownBlock = some X.heap.size) :
    JV (w5.setCell ⟨pj, 3, none⟩ lv') pj p gen bv lv' bs (us ++ [u2]) base (log ++ [l2]) (fun b => (G b ∧ lv.ownBlock ≠ some b) ∨ u2.ownBlock = some b ∨ lv'.ownBlock = some b) := by
  have hlt := h.lt
  have hul := hu.lt
  have hpj := h.gpj
  have same : ∀ k, k < X.heap.size → lv.ownBlock ≠ some k → w5.heap[k]? = X.heap[k]? := fun k hk hn => hg.block k hk (fun e => hn e.symm)
  have hlpj : lv.ownBlock ≠ some pj := fun e => (h.gl pj e).2.1 rfl
  have hl'pj : lv'.ownBlock ≠ some pj := fun e => by
    rcases hat with e1 | e1
    · exact hlpj (e1.symm.trans e)
    · rw [e1] at e; cases e; have := hlt _ hpj; omega
  have old : ∀ b, JD G pj bv lv b → JD (fun b => (G b ∧ lv.ownBlock ≠ some b) ∨ u2.ownBlock = some b ∨ lv'.ownBlock = some b) pj bv lv' b ∧ (w5.setCell ⟨pj, 3, none⟩ lv').heap[b]? = X.heap[b]? := fun b ⟨b1, b2, b3, b4⟩ => by
    have hb := hlt b b1
    refine ⟨⟨.inl ⟨b1, b4⟩, b2, b3, fun e => ?_⟩, (setCell_block b2).trans (same b hb b4)⟩
    rcases hat with e1 | e1
    · exact b4 (e1.symm.trans e)
    · rw [e1] at e; cases e; omega
  have nw : ∀ b, u2.ownBlock = some b → JD (fun b => (G b ∧ lv.ownBlock ≠ some b) ∨ u2.ownBlock = some b ∨ lv'.ownBlock = some b) pj bv lv' b ∧ (w5.setCell ⟨pj, 3, none⟩ lv').heap[b]? = X.heap[b]? := fun b hb => by
    have hbl := (hul b hb).2
    have hnG := hN b hb
    have h1 : b ≠ pj := fun e => hnG (e ▸ hpj)
    have h2 : lv.ownBlock ≠ some b := fun e => hnG (h.gl b e).1
    refine ⟨⟨.inr (.inl hb), h1, fun e => hnG (h.gb b e).1, fun e => ?_⟩, (setCell_block h1).trans (same b hbl h2)⟩
    rcases hat with e1 | e1
    · exact h2 (e1.symm.trans e)
    · rw [e1] at e; cases e; omega
  have hll : us.length = log.length := by have := h.lown.1; simpa using this
  refine ⟨(four_setCell ((same pj (hlt _ hpj) hlpj).trans h.head) lv').2.2, ?_, ?_, fun i hi => (h.bdat i hi).keep old, fun i hi => ?_, .inl ⟨hpj, hlpj⟩, fun g e => ⟨.inl ⟨(h.gb g e).1, fun e2 => (h.gl g e2).2.2 e⟩, (h.gb g e).2⟩, fun g e => ⟨.inr (.inr e), fun e2 => hl'pj (e2 ▸ e), fun e2 => ?_⟩, fun k hk => ?_, h.gen_lt⟩
  · exact ownsRow_block h.bown fun g e => (setCell_block (h.gb g e).2).trans (same g (hlt g (h.gb g e).1) (fun e2 => (h.gl g e2).2.2 e))
  · rw [List.length_append]
    exact ownsRow_block hown fun g e => setCell_block (fun (e2 : g = pj) => hl'pj (e2 ▸ e))
  · by_cases hil : i < log.length
    · rw [getD_snoc_lt _ _ _ _ (by omega), getD_snoc_lt _ _ _ _ hil]
      exact (h.ldat i hil).keep old
    · have : i = log.length := by simp at hi; omega
      subst this
      rw [getD_snoc_eq, ← hll, getD_snoc_eq]
      exact (seg_own hu).keep nw
  · rcases hat with e1 | e1
    · exact (h.gl g (e1 ▸ e)).2.2 e2
    · rw [e1] at e; cases e; have := hlt _ (h.gb _ e2).1; omega
  · rcases hk with hk | hk | hk
    · obtain ⟨o, ho, hc⟩ := h.cel k hk.1
      exact setCell_cel ((same k (hlt k hk.1) hk.2).trans ho) hc
    · obtain ⟨o, ho, hc⟩ := own_cel hu k hk
      exact setCell_cel ((same k (hul k hk).2 (fun e => hN k hk (h.gl k e).1)).trans ho) hc
    · obtain ⟨o, ho, hc⟩ := own_cel hown k hk
      exact setCell_cel ho hc
/-- one more in the base. -/
theorem JV.pushB (h : JV X pj p gen bv lv bs us base log G) {w5 : World} {u2 : Value} {l2 : List UInt8} {B : Nat} (hu : Par.Own X B 5 u2 (byteCells l2)) (hN : ∀ g, u2.ownBlock = some g → ¬ G g) {bv' : Value}
    (hown : w5.ownsRow 0 22 1 bv' (base.length + 1) (bs ++ [u2])) (hg : X.grownBy w5 bv.ownBlock) (hat : bv'.ownBlock = bv.ownBlock ∨ bv'.ownBlock = some X.heap.size) :
    JV (w5.setCell ⟨pj, 2, none⟩ bv') pj p gen bv' lv (bs ++ [u2]) us (base ++ [l2]) log (fun b => (G b ∧ bv.ownBlock ≠ some b) ∨ u2.ownBlock = some b ∨ bv'.ownBlock = some b) := by
  have hlt := h.lt
  have hul := hu.lt
  have hpj := h.gpj
  have same : ∀ k, k < X.heap.size → bv.ownBlock ≠ some k → w5.heap[k]? = X.heap[k]? := fun k hk hn => hg.block k hk (fun e => hn e.symm)
  have hbpj : bv.ownBlock ≠ some pj := fun e => (h.gb pj e).2 rfl
  have hb'pj : bv'.ownBlock ≠ some pj := fun e => by
    rcases hat with e1 | e1
    · exact hbpj (e1.symm.trans e)
    · rw [e1] at e; cases e; have := hlt _ hpj; omega
  have old : ∀ b, JD G pj bv lv b → JD (fun b => (G b ∧ bv.ownBlock ≠ some b) ∨ u2.ownBlock = some b ∨ bv'.ownBlock = some b) pj bv' lv b ∧ (w5.setCell ⟨pj, 2, none⟩ bv').heap[b]? = X.heap[b]? := fun b ⟨b1, b2, b3, b4⟩ => by
    have hb := hlt b b1
    refine ⟨⟨.inl ⟨b1, b3⟩, b2, fun e => ?_, b4⟩, (setCell_block b2).trans (same b hb b3)⟩
    rcases hat with e1 | e1
    · exact b3 (e1.symm.trans e)
    · rw [e1] at e; cases e; omega
  have nw : ∀ b, u2.ownBlock = some b → JD (fun b => (G b ∧ bv.ownBlock ≠ some b) ∨ u2.ownBlock = some b ∨ bv'.ownBlock = some b) pj bv' lv b ∧ (w5.setCell ⟨pj, 2, none⟩ bv').heap[b]? = X.heap[b]? := fun b hb => by
    have hbl := (hul b hb).2
    have hnG := hN b hb
    have h1 : b ≠ pj := fun e => hnG (e ▸ hpj)
    have h2 : bv.ownBlock ≠ some b := fun e => hnG (h.gb b e).1
    refine ⟨⟨.inr (.inl hb), h1, fun e => ?_, fun e => hnG (h.gl b e).1⟩, (setCell_block h1).trans (same b hbl h2)⟩
    rcases hat with e1 | e1
    · exact h2 (e1.symm.trans e)
    · rw [e1] at e; cases e; omega
  have hll : bs.length = base.length := by have := h.bown.1; simpa using this
  refine ⟨(four_setCell ((same pj (hlt _ hpj) hbpj).trans h.head) bv').2.1, ?_, ?_, fun i hi => ?_, fun i hi => (h.ldat i hi).keep old, .inl ⟨hpj, hbpj⟩, fun g e => ⟨.inr (.inr e), fun e2 => hb'pj (e2 ▸ e)⟩, fun g e => ⟨.inl ⟨(h.gl g e).1, (h.gl g e).2.2⟩, (h.gl g e).2.1, fun e2 => ?_⟩, fun k hk => ?_, h.gen_lt⟩
  · rw [List.length_append]
    exact ownsRow_block hown fun g e => setCell_block (fun (e2 : g = pj) => hb'pj (e2 ▸ e))
  · exact ownsRow_block h.lown fun g e => (setCell_block (h.gl g e).2.1).trans (same g (hlt g (h.gl g e).1) (h.gl g e).2.2)
  · by_cases hil : i < base.length
    · rw [getD_snoc_lt _ _ _ _ (by omega), getD_snoc_lt _ _ _ _ hil]
      exact (h.bdat i hil).keep old
    · have : i = base.length := by simp at hi; omega
      subst this
      rw [getD_snoc_eq, ← hll, getD_snoc_eq]
      exact (seg_own hu).keep nw
  · rcases hat with e1 | e1
    · exact (h.gl g e).2.2 (e1 ▸ e2)
    · rw [e1] at e2; cases e2; have := hlt _ (h.gl _ e).1; omega
  · rcases hk with hk | hk | hk
    · obtain ⟨o, ho, hc⟩ := h.cel k hk.1
      exact setCell_cel ((same k (hlt k hk.1) hk.2).trans ho) hc
    · obtain ⟨o, ho, hc⟩ := own_cel hu k hk
      exact setCell_cel ((same k (hul k hk).2 (fun e => hN k hk (h.gb k e).1)).trans ho) hc
    · obtain ⟨o, ho, hc⟩ := own_cel hown k hk
      exact setCell_cel ho hc
/-- another generation. -/
theorem JV.setGen (h : JV w pj p gen bv lv bs us base log G) (gen' : Nat) (hg : gen' < 4294967296) : JV (w.setCell ⟨pj, 1, none⟩ (.int .u32 (gen' : Nat))) pj p gen' bv lv bs us base log G := by
  have same : ∀ k, k ≠ pj → (w.setCell ⟨pj, 1, none⟩ (.int .u32 (gen' : Nat))).heap[k]? = w.heap[k]? := fun k hk => setCell_block hk
  refine ⟨(four_setCell h.head _).1, ownsRow_block h.bown fun g e => same g (h.gb g e).2, ownsRow_block h.lown fun g e => same g (h.gl g e).2.1, fun i hi => (h.bdat i hi).keep fun b hb => ⟨hb, same b hb.2.1⟩, fun i hi => (h.ldat i hi).keep fun b hb => ⟨hb, same b hb.2.1⟩, h.gpj, h.gb, h.gl, fun k hk => ?_, hg⟩
  obtain ⟨o, ho, hc⟩ := h.cel k hk
  exact setCell_cel ho hc
end
end Go.Proofs.YtpdelgjfamelfaaGreat
