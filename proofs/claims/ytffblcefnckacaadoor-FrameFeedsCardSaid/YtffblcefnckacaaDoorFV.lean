/- Rows that own their memory; the decoder in memory. -/
import Derived.Test.YtffblcefnckacaaDoorFU
namespace Go.Proofs.YtffblcefnckacaaDoor
open Go.RowKit Go.Lib Go.Vfs Go.Par Go.Frm Go.Shelf
set_option linter.unusedVariables false
set_option linter.unusedSimpArgs false

theorem slice_from (A : Option Addr) (n c N : Nat) (w : World) (h : N ≤ n) : (Instr.slice 22 (.slice A n c) (some (.int .i64 (N : Int))) none none).run Tryd.prog w = .ok (fromV A n c N) w := by
  have ht' : Tryd.prog.underlying 22 = some (.slice (Tryd.prog.elem 22)) := by simp [Program.elem, Tryd.underlying22]
  have he : Tryd.prog.elem 22 = 5 := by simp [Program.elem, Tryd.underlying22]
  rw [run_slice_l w 22 _ _ _ ht' .i64 _ (by omega) (by omega), he, Tryd.sizeOf5]
  simp [Result.andThen, sliced, fromV]
theorem slice_lh (A : Option Addr) (n c l h : Nat) (w : World) (hlh : l ≤ h) (hh : h ≤ c) : (Instr.slice 22 (.slice A n c) (some (.int .i64 (l : Int))) (some (.int .i64 (h : Int))) none).run Tryd.prog w = .ok (fromV A h c l) w := by
  have ht' : Tryd.prog.underlying 22 = some (.slice (Tryd.prog.elem 22)) := by simp [Program.elem, Tryd.underlying22]
  have he : Tryd.prog.elem 22 = 5 := by simp [Program.elem, Tryd.underlying22]
  rw [run_slice_lh w 22 _ _ _ ht' .i64 .i64 _ _ (by omega) (by omega) (by omega), he, Tryd.sizeOf5]
  simp [Result.andThen, sliced, fromV]
theorem own_turn {w w' : World} {B : Nat} {e : TypeId} {v : Value} {xs : List Value} (h : Par.Own w B e v xs) (hk : ∀ g, v.ownBlock = some g → w'.heap[g]? = w.heap[g]?) : Par.Own w' B e v xs := by
  unfold Par.Own at *
  exact ownsRow_block h hk
theorem own_nil {w : World} {B : Nat} {e : TypeId} {v : Value} {xs : List Value} (h : Par.Own w B e v xs) {A : Option Addr} {n c : Nat} (hv : v = .slice A n c) (hA : A = none) : c = 0 := by
  rcases h.2 with ⟨h0, -⟩ | ⟨g, cap, cur, h0, -⟩
  · rw [hv] at h0; cases h0; rfl
  · rw [hv] at h0; cases h0; cases hA
/-- a row of rows, each with memory of its own, from block B on. -/
structure RX (B : Nat) (w : World) (ls : List (List UInt8)) (v : Value) (us : List Value) : Prop where
  len : us.length = ls.length
  own : Par.Own w B 22 v us
  each : ∀ i, i < ls.length → Par.Own w B 5 (us.getD i (.bool false)) (byteCells (ls.getD i []))
  sep : ∀ i j, i < j → j < ls.length → ∀ g, (us.getD i (.bool false)).ownBlock = some g → (us.getD j (.bool false)).ownBlock ≠ some g
  vsep : ∀ i, i < ls.length → ∀ g, (us.getD i (.bool false)).ownBlock = some g → v.ownBlock ≠ some g
/-- a block of the row. -/
def InX (v : Value) (us : List Value) (g : Nat) : Prop := v.ownBlock = some g ∨ ∃ i, i < us.length ∧ (us.getD i (.bool false)).ownBlock = some g
theorem RX.nil (B : Nat) (w : World) : RX B w [] (.slice none 0 0) [] := ⟨rfl, Par.Own.nil _ _ _, fun i h => by simp at h, fun i j _ h => by simp at h, fun i h => by simp at h⟩
theorem RX.lt {B : Nat} {w : World} {ls : List (List UInt8)} {v : Value} {us : List Value} (h : RX B w ls v us) : ∀ g, InX v us g → B ≤ g ∧ g < w.heap.size := by
  rintro g (e | ⟨i, hi, e⟩)
  · exact h.own.lt g e
  · exact (h.each i (by rw [← h.len]; exact hi)).lt g e
theorem RX.keep {B : Nat} {w w' : World} {ls : List (List UInt8)} {v : Value} {us : List Value} (h : RX B w ls v us) (hk : ∀ g, InX v us g → w'.heap[g]? = w.heap[g]?) : RX B w' ls v us :=
  ⟨h.len, own_turn h.own fun g e => hk g (.inl e), fun i hi => own_turn (h.each i hi) fun g e => hk g (.inr ⟨i, by rw [h.len]; exact hi, e⟩), h.sep, h.vsep⟩
theorem RX.base {B B' : Nat} {w : World} {ls : List (List UInt8)} {v : Value} {us : List Value} (h : RX B w ls v us) (hb : B' ≤ B) : RX B' w ls v us :=
  ⟨h.len, h.own.base hb, fun i hi => (h.each i hi).base hb, h.sep, h.vsep⟩
theorem RX.rows {B : Nat} {w : World} {ls : List (List UInt8)} {v : Value} {us : List Value} (h : RX B w ls v us) : RowsAt (InX v us) w v ls := by
  have key : ∀ {e : TypeId} {u : Value} {xs : List Value}, Par.Own w B e u xs → (∀ g, u.ownBlock = some g → InX v us g) → SegS (InX v us) w u xs := fun {e u xs} ho hin => by
    rcases ho.2 with ⟨rfl, h0⟩ | ⟨g, cap, cur, rfl, hg, hh, hnc, hcm, hsz, htake⟩
    · have : xs = [] := List.eq_nil_of_length_eq_zero h0
      subst this
      exact ⟨none, 0, rfl, by simp, by simp [maxLen], fun h => by simp at h⟩
    · refine ⟨_, cap, rfl, hnc, hcm, fun _ => ⟨g, 0, rfl, hin g rfl, fun i hi => ?_⟩⟩
      have hc := World.ownsRow.cells (g := g) ho rfl i (xs[i]'hi) (List.getElem?_eq_getElem hi)
      rw [← add_addr, hc, List.getElem?_eq_getElem hi]
  exact ⟨us, h.len, key h.own fun g e => .inl e, fun i hi => key (h.each i hi) fun g e => .inr ⟨i, by rw [h.len]; exact hi, e⟩⟩
theorem RX.next {B : Nat} {wr w2 w3 : World} {ls : List (List UInt8)} {v : Value} {us : List Value} (h : RX B wr ls v us) (hB : B ≤ wr.heap.size) {u : Value} {l : List UInt8} (hb : Below wr.heap.size wr w2) (hu : Par.Own w2 wr.heap.size 5 u (byteCells l))
    {v' : Value} (o : Obj) (hown : Par.Own w3 B 22 v' (us ++ [u])) (hg : (w2.alloc o).grownBy w3 v.ownBlock) (hat : v'.ownBlock = v.ownBlock ∨ v'.ownBlock = some (w2.heap.size + 1)) : RX B w3 (ls ++ [l]) v' (us ++ [u]) := by
  have hz2 := hb.size
  have hal : (w2.alloc o).heap.size = w2.heap.size + 1 := by simp
  have lo : ∀ i, i < ls.length → (us ++ [u]).getD i (.bool false) = us.getD i (.bool false) := fun i hi => by simp [List.getD_eq_getElem?_getD, List.getElem?_append, h.len, hi]
  have lo' : ∀ i, i < ls.length → (ls ++ [l]).getD i [] = ls.getD i [] := fun i hi => by simp [List.getD_eq_getElem?_getD, List.getElem?_append, hi]
  have hi' : (us ++ [u]).getD ls.length (.bool false) = u := by rw [← h.len]; simp [List.getD_eq_getElem?_getD]
  have hi'' : (ls ++ [l]).getD ls.length [] = l := by simp [List.getD_eq_getElem?_getD]
  have hlt : ∀ i, i < ls.length → ∀ g, (us.getD i (.bool false)).ownBlock = some g → B ≤ g ∧ g < wr.heap.size := fun i hi g e => (h.each i hi).lt g e
  have hul : ∀ g, u.ownBlock = some g → wr.heap.size ≤ g ∧ g < w2.heap.size := fun g e => hu.lt g e
  have hv : ∀ g, v.ownBlock = some g → g < wr.heap.size := fun g e => (h.own.lt g e).2
  refine ⟨by simp [h.len], hown, fun i hi => ?_, fun i j hij hj g e => ?_, fun i hi g e => ?_⟩
  · rw [List.length_append, List.length_singleton] at hi
    by_cases hik : i < ls.length
    · rw [lo i hik, lo' i hik]
      refine own_turn (h.each i hik) fun g e => ?_
      have := hlt i hik g e
      rw [hg.block g (by omega) (fun e2 => h.vsep i hik g e e2.symm), Below.heap_alloc _ _ _ (by omega), hb.block g this.2]
    · have : i = ls.length := by omega
      subst this
      rw [hi', hi'']
      refine own_turn (hu.base hB) fun g e => ?_
      have := hul g e
      rw [hg.block g (by omega) (fun e2 => by have := hv g e2.symm; omega), Below.heap_alloc _ _ _ (by omega)]
  · rw [List.length_append, List.length_singleton] at hj
    by_cases hjk : j < ls.length
    · rw [lo i (by omega)] at e
      rw [lo j hjk]
      exact h.sep i j hij hjk g e
    · have : j = ls.length := by omega
      subst this
      rw [lo i hij] at e
      rw [hi']
      intro e2
      have := hlt i hij g e
      have := hul g e2
      omega
  · rw [List.length_append, List.length_singleton] at hi
    by_cases hik : i < ls.length
    · rw [lo i hik] at e
      rcases hat with e1 | e1
      · rw [e1]; exact h.vsep i hik g e
      · rw [e1]; intro e2; injection e2 with e2; have := hlt i hik g e; omega
    · have : i = ls.length := by omega
      subst this
      rw [hi'] at e
      have := hul g e
      rcases hat with e1 | e1
      · rw [e1]; intro e2; have := hv g e2; omega
      · rw [e1]; intro e2; injection e2 with e2; omega

/-! ### The decoder -/
theorem msg_more_len {b : List UInt8} (h : msg b = .more) : b.length ≤ 66560 := by
  unfold msg at h
  split at h
  · rename_i hc
    split at h
    · cases h
    · split at h
      · cases h
      · split at h
        · omega
        · cases h
  · split at h
    · cases h
    · omega
theorem run_more_msg {b : List UInt8} (h : run b = ([], b, 0)) : msg b = .more := by
  cases hm : msg b with
  | more => rfl
  | bad e => rw [run_bad hm] at h; have := msg_bad hm; injection h with _ h; injection h with _ h; omega
  | body n l => rw [run_body hm] at h; injection h with h; cases h
/-- the decoder d at block p, what it holds in hv. -/
structure DV (w : World) (p : Nat) (d : Dc) (hv : Value) (hh bb : Nat) : Prop where
  dec : Dec w p hv hh bb d.e
  own : Par.Own w 7 5 hv (byteCells d.rest)
  low : 7 ≤ p
  sep : hv.ownBlock ≠ some p
  known : d.e = 0 → Known d.rest hh bb
  more : d.e = 0 → msg d.rest = .more
  dead : d.e ≠ 0 → d.rest = []
/-- its blocks. -/
def FD (p : Nat) (hv : Value) (k : Nat) : Prop := k = p ∨ hv.ownBlock = some k
theorem DV.len {w : World} {p : Nat} {d : Dc} {hv : Value} {hh bb : Nat} (h : DV w p d hv hh bb) : d.rest.length ≤ 66560 := by
  by_cases he : d.e = 0
  · exact msg_more_len (h.more he)
  · rw [h.dead he]; simp
theorem DV.lt {w : World} {p : Nat} {d : Dc} {hv : Value} {hh bb : Nat} (h : DV w p d hv hh bb) : ∀ k, FD p hv k → k < w.heap.size := by
  rintro k (rfl | e)
  · exact h.dec.lt
  · exact (h.own.lt k e).2
theorem DV.keep {w w' : World} {p : Nat} {d : Dc} {hv : Value} {hh bb : Nat} (h : DV w p d hv hh bb) (hk : ∀ k, FD p hv k → w'.heap[k]? = w.heap[k]?) : DV w' p d hv hh bb :=
  ⟨h.dec.keep (hk p (.inl rfl)), own_turn h.own fun g e => hk g (.inr e), h.low, h.sep, h.known, h.more, h.dead⟩
theorem DV.ge {w : World} {p : Nat} {d : Dc} {hv : Value} {hh bb : Nat} (h : DV w p d hv hh bb) : ∀ k, FD p hv k → 7 ≤ k := by
  rintro k (rfl | e)
  · exact h.low
  · exact (h.own.lt k e).1
theorem tabs_kept {w w' : World} {F : Nat → Prop} (h : Tabs w) (k : Kept F w w') (hF : ∀ x, F x → 7 ≤ x) : Tabs w' := h.keep (k.below h.size hF) (Nat.le_refl _)
theorem max_kept {w w' : World} {F : Nat → Prop} {m : Int} (h : w.cell? ⟨0, 0, none⟩ = some (.int .i64 m)) (k : Kept F w w') (hF : ∀ x, F x → 7 ≤ x) : w'.cell? ⟨0, 0, none⟩ = some (.int .i64 m) :=
  (World.cell?_of_block (a := ⟨0, 0, none⟩) (k.block 0 (World.block_lt_of_cell? _ _ h) (fun hf => by have := hF 0 hf; omega))).trans h
end Go.Proofs.YtffblcefnckacaaDoor
