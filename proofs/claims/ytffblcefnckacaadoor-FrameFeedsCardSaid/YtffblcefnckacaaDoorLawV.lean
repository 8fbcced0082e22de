/- The reference: Feed. -/
import Derived.Test.YtffblcefnckacaaDoorLawU
namespace Go.Proofs.YtffblcefnckacaaDoor
open Go.RowKit Go.Lib Go.Vfs Go.Par Go.Frm Go.Shelf
set_option linter.unusedVariables false
set_option linter.unusedSimpArgs false

theorem cells_set {w : World} {b : Nat} {xs : Array Value} {t : TypeId} (h : w.heap[b]? = some (.cells xs t (0, 0))) (i : Nat) (x : Value) : (w.setCell ⟨b, i, none⟩ x).heap[b]? = some (.cells (xs.setIfInBounds i x) t (0, 0)) := by
  have hlt := lt_of_block h
  have h' : w.heap[b] = .cells xs t (0, 0) := by simpa [Array.getElem?_eq_getElem hlt] using h
  show (w.heap.modify b _)[b]? = _
  rw [Array.getElem?_eq_getElem (by simpa using hlt), Array.getElem_modify_self, h']
  rfl
/-- the boxes of the reference's Feed: the decoder's, the answer's. -/
structure J2 (w : World) (rv : Value) (e : Int) (W : World) : Prop where
  below : Below w.heap.size w W
  size : w.heap.size + 2 ≤ W.heap.size
  h0 : W.heap[w.heap.size]? = some (.cells #[rv, .int .i64 e] 46 (0, 0))
  h1 : W.heap[w.heap.size + 1]? = some (.cells #[.slice none 0 0, .int .i64 0] 46 (0, 0))
section
variable {w W W' : World} {e : Int} {rv : Value}
theorem J2.far (h : J2 w rv e W) {n : Nat} (hn : w.heap.size + 2 ≤ n) (hb : Below n W W') : J2 w rv e W' := by
  have hz := h.size
  have hzz := hb.size
  exact ⟨h.below.trans (hb.mono (by omega)), by omega, (hb.block _ (by omega)).trans h.h0, (hb.block _ (by omega)).trans h.h1⟩
theorem J2.cells (h : J2 w rv e W) :
    W.cell? ⟨w.heap.size, 0, none⟩ = some rv ∧ W.cell? ⟨w.heap.size, 1, none⟩ = some (.int .i64 e) ∧
    W.frozen? ⟨w.heap.size, 0, none⟩ = false ∧ W.frozen? ⟨w.heap.size, 1, none⟩ = false ∧ W.frozen? ⟨w.heap.size + 1, 0, none⟩ = false ∧ W.frozen? ⟨w.heap.size + 1, 1, none⟩ = false ∧ W.cell? ⟨w.heap.size + 1, 0, none⟩ = some (.slice none 0 0) ∧ W.cell? ⟨w.heap.size + 1, 1, none⟩ = some (.int .i64 0) := by
  have h0 := h.h0
  have h1 := h.h1
  simp [World.cell?, World.frozen?, h0, h1]
theorem J2.start (w : World) (e : Int) (rv : Value) : J2 w rv e ((w.alloc (.cells #[rv, .int .i64 e] 46)).alloc (.cells #[.slice none 0 0, .int .i64 0] 46)) := by
  have b1 : Below w.heap.size w (w.alloc (.cells #[rv, .int .i64 e] 46)) := (Below.refl _ _).alloc (Nat.le_refl _) _
  have b2 : Below (w.alloc (.cells #[rv, .int .i64 e] 46)).heap.size (w.alloc (.cells #[rv, .int .i64 e] 46)) ((w.alloc (.cells #[rv, .int .i64 e] 46)).alloc (.cells #[.slice none 0 0, .int .i64 0] 46)) := (Below.refl _ _).alloc (Nat.le_refl _) _
  have e1 : (w.alloc (.cells #[rv, .int .i64 e] 46)).heap.size = w.heap.size + 1 := by simp
  refine ⟨b1.trans (b2.mono (by omega)), by simp, ?_, ?_⟩
  · rw [b2.block _ (by omega)]; exact heap_alloc_new w _
  · rw [← e1]; exact heap_alloc_new _ _
theorem J2.kept (h : J2 w rv e W) (hk : Kept (fun b => b = w.heap.size) W W') {rv' : Value} {e' : Int} (h0 : W'.heap[w.heap.size]? = some (.cells #[rv', .int .i64 e'] 46 (0, 0))) : J2 w rv' e' W' := by
  have hz := h.size
  have hks := hk.size
  exact ⟨h.below.trans (hk.below (by omega) (fun k hk => by omega)), by omega, h0, (hk.block _ (by omega) (by omega)).trans h.h1⟩
theorem setK (w W : World) (a0 : Value) (i : Nat) : Kept (fun b => b = w.heap.size) W (W.setCell ⟨w.heap.size, i, none⟩ a0) := (Kept.refl (fun b => b = w.heap.size) W).setCell (p := ⟨w.heap.size, i, none⟩) (.inl rfl) _
theorem J2.setV (h : J2 w rv e W) (u : Value) : J2 w u e (W.setCell ⟨w.heap.size, 0, none⟩ u) := by
  refine h.kept (setK w W _ _) ?_
  have h2 := cells_set h.h0 0 u
  simpa using h2
theorem J2.setE (h : J2 w rv e W) (x : Int) : J2 w rv x (W.setCell ⟨w.heap.size, 1, none⟩ (.int .i64 x)) := by
  refine h.kept (setK w W _ _) ?_
  have h2 := cells_set h.h0 1 (.int .i64 x)
  simpa using h2
/-- the answer's box is written. -/
theorem ret2 (w W : World) (a0 a1 : Value) : Kept (fun b => b = w.heap.size + 1) W ((W.setCell ⟨w.heap.size + 1, 0, none⟩ a0).setCell ⟨w.heap.size + 1, 1, none⟩ a1) :=
  ((Kept.refl (fun b => b = w.heap.size + 1) W).setCell (p := ⟨w.heap.size + 1, 0, none⟩) (.inl rfl) _).setCell (p := ⟨w.heap.size + 1, 1, none⟩) (.inl rfl) _
end
/-- what the reference's Feed answers. -/
def RFPost (w : World) (ls : List (List UInt8)) (d' : Dc) (e : Ending) (w' : World) : Prop :=
  ∃ A c Ar cr, e = .returned (.tuple #[.agg #[.slice A d'.rest.length c, .int .i64 d'.e], .slice Ar ls.length cr, .int .i64 d'.e]) ∧ Hid (SegS (fun k => w.heap.size ≤ k ∧ k < w'.heap.size) w' (.slice A d'.rest.length c) (byteCells d'.rest) ∧ (A = none → c = 0) ∧ RowsAt (fun k => w.heap.size ≤ k ∧ k < w'.heap.size) w' (.slice Ar ls.length cr) ls ∧ Below w.heap.size w w')
/-- the run of the loop. -/
structure RF (w : World) (T : Nat) (tot cur : List UInt8) (A : Option Addr) (n c : Nat) (outs : List (List UInt8)) (ov : Value) (us : List Value) (W : World) : Prop where
  box : J2 w (.slice A n c) 0 W
  seg : SegS (fun k => w.heap.size + 2 ≤ k ∧ k < T) W (.slice A n c) (byteCells cur)
  len : n = cur.length
  nil : A = none → c = 0
  rx : RX T W outs ov us
  tz : w.heap.size + 2 ≤ T ∧ T ≤ W.heap.size
  run : Frm.run tot = (outs ++ (Frm.run cur).1, (Frm.run cur).2)
  few : outs.length + cur.length ≤ 1000000
theorem RF.fin {w W : World} {T : Nat} {tot cur : List UInt8} {A : Option Addr} {n c : Nat} {outs : List (List UInt8)} {Ar : Option Addr} {N cr : Nat} {us : List Value} {m : Nat} {A' : Option Addr} {c' : Nat} {rest' : List UInt8} {e' : Int}
    (h : RF w T tot cur A n c outs (.slice Ar N cr) us W) {W2 : World} (hk : Kept (fun b => b = w.heap.size ∨ b = w.heap.size + 1) W W2) (hN : N = outs.length) (hr : Frm.run tot = (outs, rest', e')) (hs : SegS (fun k => w.heap.size + 2 ≤ k ∧ k < T) W (.slice A' rest'.length c') (byteCells rest')) (hn : A' = none → c' = 0) :
    RFPost w (Frm.run tot).1 ⟨(Frm.run tot).2.1, (Frm.run tot).2.2⟩ (.returned (.tuple #[.agg #[.slice A' rest'.length c', .int .i64 e'], .slice Ar N cr, .int .i64 e'])) W2 := by
  have hsz := h.tz
  have hbz := h.box.size
  have hks := hk.size
  have hbb := h.box.below
  have hz := hbb.size
  rw [hr]
  subst hN
  have hblk : ∀ k, w.heap.size + 2 ≤ k → k < W.heap.size → W2.heap[k]? = W.heap[k]? := fun k h1 h2 => hk.block k h2 (by omega)
  refine ⟨A', c', Ar, cr, rfl, Lib.hid ⟨hs.keep fun k hk => ⟨⟨by omega, by omega⟩, hblk k hk.1 (by omega)⟩, hn, ?_, hbb.trans (hk.below hz fun k hk => by omega)⟩⟩
  refine h.rx.rows.keep fun k hk => ?_
  have h1 := h.rx.lt k hk
  exact ⟨⟨by omega, by omega⟩, hblk k (by omega) h1.2⟩
end Go.Proofs.YtffblcefnckacaaDoor
