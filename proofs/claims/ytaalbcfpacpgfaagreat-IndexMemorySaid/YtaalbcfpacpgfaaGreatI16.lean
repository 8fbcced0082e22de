/- Index: Compact. -/
import Derived.Test.YtaalbcfpacpgfaaGreatI16a
namespace Go.Ix
open Go.RowKit Go.Lib Go.Vfs Go.Par Go.Typ
set_option linter.unusedVariables false
theorem segS_isC {S : Nat → Prop} {W : World} {v : Value} {l : List Value} (h : SegS S W v l) : SegS (fun b => S b ∧ IsC W b) W v l := by
  obtain ⟨A, c, e, h1, h2, h3⟩ := h
  refine ⟨A, c, e, h1, h2, fun h0 => ?_⟩
  obtain ⟨b, off, e, hb, hat⟩ := h3 h0
  refine ⟨b, off, e, ⟨hb, ?_⟩, hat⟩
  have := hat 0 h0
  rw [List.getElem?_eq_getElem h0] at this
  exact cell_isC this
def SegC (S : Nat → Prop) (W : World) (v : Value) (l : List UInt8) : Prop := SegS (fun b => S b ∧ IsC W b) W v (byteCells l)
theorem SegC.keep {S S' : Nat → Prop} {w w' : World} {v : Value} {x : List UInt8} (h : SegC S w v x) (hk : ∀ b, S b → S' b ∧ w'.heap[b]? = w.heap[b]?) : SegC S' w' v x :=
  SegS.keep h fun b hb => ⟨⟨(hk b hb.1).1, by unfold IsC; rw [(hk b hb.1).2]; exact hb.2⟩, (hk b hb.1).2⟩
theorem rowB_walk {t L B : Nat} {w w' : World} {xs : List (List UInt8)} {v : Value} {us : List Value} (h : RowK t 1 SegC L B w xs v us) {row : Option Nat} (hg : w.grownBy w' row) (hr : ∀ r, row = some r → ∃ o : Obj, w.heap[r]? = some o ∧ o.isCells = false) : RowK t 1 SegC L B w' xs v us := by
  have key : ∀ b, b < w.heap.size → IsC w b → w'.heap[b]? = w.heap[b]? := fun b hb ⟨cs, t, fz, hc⟩ => hg.block b hb fun e => by
    obtain ⟨o, ho, hn⟩ := hr b e.symm
    rw [hc] at ho; cases ho; cases hn
  refine ⟨h.len, ownsRow_block h.own fun g e => ?_, h.size, fun i hi => ?_⟩
  · rcases h.own.2 with ⟨hv, _⟩ | ⟨g', cap, cur, hv, _, hh, _⟩
    · rw [hv] at e; cases e
    · rw [hv] at e; cases e; exact key _ (lt_blk hh) ⟨_, _, _, hh⟩
  · have h1 : SegS _ w _ _ := h.each i hi
    refine SegS.keep h1 fun b hb => ?_
    have hk := key b hb.1.2.1 hb.2
    exact ⟨⟨⟨hb.1.1, Nat.lt_of_lt_of_le hb.1.2.1 hg.size, hb.1.2.2⟩, by unfold IsC; rw [hk]; exact hb.2⟩, hk⟩
/-- a row of rows of bytes, as it is read. -/
theorem RowK.rowsB {t L B : Nat} {w : World} {xs : List (List UInt8)} {v : Value} {us : List Value} (h : RowK t 1 SegC L B w xs v us) (hf : ∀ u ∈ us, flatC u = [u]) : ∃ vs : List Value, vs.length = xs.length ∧ SegS (fun g => (L ≤ g ∨ B ≤ g) ∧ g < w.heap.size) w v vs ∧ ∀ i, i < xs.length → SegS (fun g => (L ≤ g ∨ B ≤ g) ∧ g < w.heap.size) w (vs.getD i (.bool false)) (byteCells (xs.getD i [])) := by
  have hus : us.flatMap flatC = us := by
    have : ∀ l : List Value, (∀ u ∈ l, flatC u = [u]) → l.flatMap flatC = l := by
      intro l
      induction l with
      | nil => intro _; rfl
      | cons a l ih => intro hl; rw [List.flatMap_cons, hl a (by simp), ih fun u hu => hl u (by simp [hu])]; rfl
    exact this us hf
  refine ⟨us, h.len, ?_, fun i hi => ?_⟩
  · have ho := h.own
    rw [hus, ← h.len] at ho
    exact (Own.outS (F := (· < B)) (show Par.Own w B t v us from ho) (fun k hk => hk)).keep fun b hb => ⟨⟨.inr (by have := hb.2; omega), hb.1⟩, rfl⟩
  · have h1 := h.each i hi
    have : xs.getD i [] = xs[i] := by rw [List.getD_eq_getElem?_getD, List.getElem?_eq_getElem hi]; rfl
    rw [this]
    exact SegS.keep h1 fun b hb => ⟨⟨.inl hb.1.1, hb.1.2.1⟩, rfl⟩
end Go.Ix
namespace Go.Proofs.YtaalbcfpacpgfaaGreat
open Go.RowKit Go.Lib Go.Vfs Go.Par Go.Typ Go.Shelf Go.Ix
set_option linter.unusedVariables false
set_option linter.unusedSimpArgs false
attribute [local go_sem] Oper.semAt_some

theorem flat_slices {us : List Value} (h : ∀ u ∈ us, ∃ A n c, u = .slice A n c) : us.flatMap flatC = us := by
  induction us with
  | nil => rfl
  | cons a l ih =>
    obtain ⟨A, n, c, e⟩ := h a (by simp)
    rw [List.flatMap_cons, ih fun u hu => h u (by simp [hu]), e]; rfl
/-- where the loop of Compact stands: its list in the box behind the result's. -/
structure CI (w : World) (pre : List (List UInt8)) (W : World) : Prop where
  res : W.heap[w.heap.size]? = some (.cells #[.int .i64 0] 28 (0, 0))
  row : ∃ v us, Boxed W (w.heap.size + 1) 22 v ∧ RowK 24 1 SegC (w.heap.size + 3) (w.heap.size + 3) W pre v us ∧ ∀ u ∈ us, ∃ A n c, u = .slice A n c
  below : Below w.heap.size w W
  size : w.heap.size + 3 ≤ W.heap.size
theorem CI.walk {w W W' : World} {pre : List (List UInt8)} (h : CI w pre W) {row : Option Nat} (hg : W.grownBy W' row) (hr : ∀ r, row = some r → w.heap.size + 3 ≤ r ∧ ∃ o : Obj, W.heap[r]? = some o ∧ o.isCells = false) : CI w pre W' := by
  obtain ⟨v, us, h1, h2, h3⟩ := h.row
  have hz := h.size
  have hb := h.below
  refine ⟨(hg.block _ (by omega) (fun e => by have := (hr _ e.symm).1; omega)).trans h.res, ⟨v, us, h1.kept hg (fun e => by have := (hr _ e.symm).1; omega), rowB_walk h2 hg (fun r e => (hr r e).2), h3⟩, ⟨hg.os.trans hb.os, hg.tape.trans hb.tape, hg.output.trans hb.output, Nat.le_trans hb.size hg.size, fun k hk => (hg.block k (by omega) (fun e => by have := (hr k e.symm).1; omega)).trans (hb.block k hk)⟩, by have := hg.size; omega⟩
theorem CI.go {w W W' : World} {pre : List (List UInt8)} (h : CI w pre W) (hb : Below W.heap.size W W') : CI w pre W' := by
  obtain ⟨v, us, h1, h2, h3⟩ := h.row
  have hz := h.size
  exact ⟨(hb.block _ (by omega)).trans h.res, ⟨v, us, (hb.block _ (by omega)).trans h1, RowK.below (R := SegC) SegC.keep h2 hb, h3⟩, h.below.trans (hb.mono (by omega)), by have := hb.size; omega⟩
/-- one record more. -/
theorem CI.next {w W w2 w3 : World} {pre : List (List UInt8)} {v v3 : Value} {us : List Value} {L : List UInt8} {A2 : Option Addr} {n2 c2 : Nat} {o : Obj} {n₀ : Nat} (hn₀ : n₀ = w.heap.size + 3) (h : CI w pre W) (hv : Boxed W (w.heap.size + 1) 22 v) (hr : RowK 24 1 SegC (w.heap.size + 3) (w.heap.size + 3) W pre v us) (hs : ∀ u ∈ us, ∃ A n c, u = .slice A n c) (hb : Below W.heap.size W w2)
    (hx : Par.Own w2 W.heap.size 5 (.slice A2 n2 c2) (byteCells L)) (hown : Par.Own w3 (w.heap.size + 3) 24 v3 (us ++ [.slice A2 n2 c2]))
    (hg : (w2.alloc o).grownBy w3 v.ownBlock) (hat : v3.ownBlock = v.ownBlock ∨ v3.ownBlock = some (w2.alloc o).heap.size) :
    KeepsFrom (w.heap.size + 3) W (w3.setCell ⟨w.heap.size + 1, 0, none⟩ v3) ∧ KpE n₀ (ExE (w.heap.size + 1)) W (w3.setCell ⟨w.heap.size + 1, 0, none⟩ v3) ∧ CI w (pre ++ [L]) (w3.setCell ⟨w.heap.size + 1, 0, none⟩ v3) := by
  subst hn₀
  have hz := h.size
  have hzb := hb.size
  have hzg := hg.size
  simp only [World.size_alloc] at hzg
  have hvl := hr.own.lt
  have same : ∀ k, k < W.heap.size → k ≠ w.heap.size + 1 → v.ownBlock ≠ some k → (w3.setCell ⟨w.heap.size + 1, 0, none⟩ v3).heap[k]? = W.heap[k]? := fun k hk h1 h2 => by
    rw [setCell_block h1, hg.block k (by simp; omega) (fun e => h2 e.symm), Below.heap_alloc _ _ _ (by omega)]
    exact hb.block k hk
  have hzF : (w3.setCell ⟨w.heap.size + 1, 0, none⟩ v3).heap.size = w3.heap.size := by simp [World.setCell]
  have hbx3 : Boxed w3 (w.heap.size + 1) 22 v := by
    have h1 : Boxed w2 (w.heap.size + 1) 22 v := (hb.block _ (by omega)).trans hv
    exact (h1.alloc o).kept hg (fun e => by have := (hvl _ e.symm).1; omega)
  have hru := RowK.below (R := SegC) SegC.keep hr hb
  have hs' : ∀ u ∈ us ++ [Value.slice A2 n2 c2], ∃ A n c, u = .slice A n c := fun u hu => by
    rcases List.mem_append.1 hu with hu | hu
    · exact hs u hu
    · simp at hu; exact ⟨_, _, _, hu⟩
  have hrow3 : RowK 24 1 SegC (w.heap.size + 3) (w.heap.size + 3) w3 (pre ++ [L]) v3 (us ++ [.slice A2 n2 c2]) := by
    have hsx := Own.outS hx (F := (· < W.heap.size)) (fun k hk => hk)
    refine RowK.next (R := SegC) SegC.keep hru (u := .slice A2 n2 c2) (x := L) (S := fun g => W.heap.size ≤ g ∧ g < w2.heap.size) (segS_isC (hsx.keep fun b hb => ⟨⟨by have := hb.2; omega, hb.1⟩, rfl⟩)) (fun g hg => ⟨by omega, hg.2, fun e => by have := (hvl g e).2; omega⟩) rfl o ?_ hg hat
    rw [flat_slices hs]
    have hl := hr.len
    have : w3.ownsRow (w.heap.size + 3) 24 1 v3 (us ++ [Value.slice A2 n2 c2]).length (us ++ [.slice A2 n2 c2]) := hown
    rw [List.length_append, hl] at this
    exact this
  refine ⟨⟨by omega, fun k ob hB hk hc => ?_⟩, ⟨by omega, fun k ob hk hor hn => ?_, fun k hk => ?_⟩, ⟨?_, ⟨v3, us ++ [.slice A2 n2 c2], hbx3.set v3, ?_, hs'⟩, ?_, by omega⟩⟩
  · refine (same k (lt_blk hk) (by omega) (fun e => ?_)).trans hk
    rcases hr.own.2 with ⟨e1, _⟩ | ⟨g, cap, cur, e1, _, hh, _⟩
    · rw [e1] at e; cases e
    · rw [e1] at e; cases e; rw [hh] at hk; cases hk; cases hc
  · exact (same k (lt_blk hk) (fun e => hn (.inl e)) (fun e => hn (.inr ⟨v, hv.cell, e⟩))).trans hk
  · rcases hk with rfl | ⟨u, hu, hk⟩
    · exact .inl (.inl rfl)
    · rw [(hbx3.set v3).cell] at hu
      cases hu
      rcases hat with h1 | h1
      · rw [h1] at hk; exact .inl (.inr ⟨v, hv.cell, hk⟩)
      · rw [h1] at hk; cases hk; right; simp; omega
  · exact (same _ (by omega) (by omega) (fun e => by have := (hvl _ e).1; omega)).trans h.res
  · exact RowK.above (R := SegC) SegC.keep hrow3 (Lo := w.heap.size + 3) (Nat.le_refl _) (Nat.le_refl _) (fun g h1 h2 => setCell_block (a := ⟨w.heap.size + 1, 0, none⟩) (show g ≠ w.heap.size + 1 by omega)) (by omega)
  · refine ⟨hg.os.trans (hb.os.trans h.below.os), hg.tape.trans (hb.tape.trans h.below.tape), hg.output.trans (hb.output.trans h.below.output), by have := h.below.size; omega, fun k hk => ?_⟩
    exact (same k (by omega) (by omega) (fun e => by have := (hvl k e).1; omega)).trans (h.below.block k hk)
/-- an entry in its box, in the loop of Compact. -/
def AxC (w : World) {xs : List EnR} (T : EntOf xs → Nat → Array Value) (x : EntOf xs) (a' : Act) (W : World) : Prop :=
  ∃ bx A c, w.heap.size + 3 ≤ bx ∧ x.1.v = .agg #[.string x.1.e.uri, .int .i64 x.1.e.ver, .slice A x.1.e.exs.length c] ∧ ExsAt (· < w.heap.size) w (.slice A x.1.e.exs.length c) x.1.e.exs ∧ a' = { tmps := T x bx, defers := [] } ∧
    W.heap[bx]? = some (.cells #[.string x.1.e.uri, .int .i64 x.1.e.ver, .slice A x.1.e.exs.length c] 55 (0, 0))
def recsOf {xs : List EnR} (pre : List (EntOf xs)) : List (List UInt8) := pre.map fun x => recE x.1.e
theorem recsOf_snoc {xs : List EnR} (pre : List (EntOf xs)) (x : EntOf xs) : recsOf (pre ++ [x]) = recsOf pre ++ [recE x.1.e] := by simp [recsOf]
theorem recsOf_all (xs : List EnR) : recsOf xs.attach = (xs.map (·.e)).map recE := by
  unfold recsOf
  rw [List.map_map, show (fun x : EntOf xs => recE x.1.e) = ((recE ∘ fun y : EnR => y.e) ∘ Subtype.val) from rfl, ← List.map_map, List.attach_map_subtype_val]
theorem XF.block {w w' : World} {px p gen : Nat} {st : St} {base log : List (List UInt8)} {es : List En} {F H S : Nat → Prop} (h : XF w px p st gen base log es F H S) (hk : ∀ k, (F k ∨ H k ∨ S k) → w'.heap[k]? = w.heap[k]?) (hz : w.heap.size ≤ w'.heap.size) : XF w' px p st gen base log es F H S := by
  obtain ⟨pj, mb, xs, G, hj, hi, he, hH, hS, hn⟩ := h
  exact ⟨pj, mb, xs, G, ⟨hj.fs.keep fun k h => hk k (.inl h), hj.js.block fun k h => hk k (.inr (.inl ((hH k).2 (.inl h)))), hj.apart⟩, hi.keep (hk _ (.inr (.inl ((hH _).2 (.inr (.inl rfl)))))) (hk _ (.inr (.inl ((hH _).2 (.inr (.inr rfl)))))) (fun b hb => hk b (.inr (.inr hb))), he, hH, fun k hk => ⟨by have := (hS k hk).1; omega, (hS k hk).2⟩, hn⟩
/-- the call's own blocks were changed behind it. -/
theorem XPost.over {w X w3 W' : World} {px p gen : Nat} {st : St} {base log : List (List UInt8)} {es : List En} {F H S : Nat → Prop} (hb : Below w.heap.size w X) (hlt : ∀ k, (F k ∨ H k ∨ S k) → k < w.heap.size) (hp : XPost X px p F H S st gen base log es w3) (hk : Kept (fun k => w.heap.size ≤ k ∧ k < X.heap.size) w3 W') : XPost w px p F H S st gen base log es W' := by
  obtain ⟨F', H', S', h1, h2, h3, h4, h5⟩ := hp
  have hz := hb.size
  have hz2 := h2.size
  have hl1 := h1.lt
  have out : ∀ k, (F' k ∨ H' k ∨ S' k) → ¬ (w.heap.size ≤ k ∧ k < X.heap.size) := fun k hk hc => by
    have := hlt k
    rcases hk with hk | hk | hk
    · rcases h3 k hk with h | h
      · have := hlt k (.inl h); omega
      · omega
    · rcases h4 k hk with h | h
      · have := hlt k (.inr (.inl h)); omega
      · omega
    · rcases h5 k hk with h | h
      · have := hlt k (.inr (.inr h)); omega
      · omega
  refine ⟨F', H', S', h1.block (fun k h => hk.block k (hl1 k h) (out k h)) hk.size, ⟨hk.os.trans (h2.os.trans hb.os), hk.tape.trans (h2.tape.trans hb.tape), hk.output.trans (h2.output.trans hb.output), by have := hk.size; omega, fun k h1 hn => ?_⟩, fun k hk => (h3 k hk).imp id fun h => by omega, fun k hk => (h4 k hk).imp id fun h => by omega, fun k hk => (h5 k hk).imp id fun h => by omega⟩
  exact (hk.block k (by omega) (fun h => by omega)).trans ((h2.block k (by omega) hn).trans (hb.block k h1))
def ComPost (w : World) (px p : Nat) (F H S : Nat → Prop) (st : St) (gen : Nat) (base log : List (List UInt8)) (es : List En) (e : Ending) (w' : World) : Prop :=
  ∃ r, laySteps (encR (gen + 1) (be4 (es.map recE).length :: es.map recE)) (stepsOf (hasF st.files nLog)) st = r ∧ e = .returned (.int .i64 r.2) ∧ XPost w px p F H S r.1 (if r.2 = 0 then gen + 1 else gen) (if r.2 = 0 then es.map recE else base) (if r.2 = 0 then [] else log) es w'

set_option maxRecDepth 100000 in
set_option maxHeartbeats 4000000 in
theorem compact_any (w : World) (px p gen : Nat) (st : St) (base log : List (List UInt8)) (es : List En) (F H S : Nat → Prop) (h : XF w px p st gen base log es F H S) (hok : Ix.Good es) (hel : es.length ≤ 10000) (hrl : ∀ e ∈ es, (recE e).length ≤ 65536)
    (hg : gen + 1 < 4294967296) (hE : (encR (gen + 1) (be4 (es.map recE).length :: es.map recE)).length ≤ 900000) {kf d : Nat} (hc : Calm st.files kf d) (hkf : kf ≤ 1000) (hd : d ≤ 2000000) (hpw : st.power ≤ 9223372036854775807) :
    Calls Tryz.prog 23 #[.pointer (some ⟨px, 0, none⟩)] w (ComPost w px p F H S st gen base log es) := by
  obtain ⟨P, hP⟩ : ∃ P, P = ComPost w px p F H S st gen base log es := ⟨_, rfl⟩
  have HPO := Lib.hid hP
  rw [← hP]
  clear hP
  obtain ⟨pj, mb, xs, G, hj, hi, he, hH, hS, hn⟩ := h
  subst he
  rw [List.length_map] at hel
  have hlt := hi.lt
  obtain ⟨W0, hW0⟩ : ∃ W0, W0 = ((w.alloc (.cells #[.int .i64 0] 28)).alloc (.cells #[.slice none 0 0] 22)).alloc (.cells #[.pointer (some ⟨px, 0, none⟩)] 40) := ⟨_, rfl⟩
  have hs0 : W0.heap.size = w.heap.size + 3 := by rw [hW0]; simp
  have hb0 : Below w.heap.size w W0 := by rw [hW0]; exact ((box_below w _).alloc (by simp) _).alloc (by simp; omega) _
  have kr : W0.heap[w.heap.size]? = some (.cells #[.int .i64 0] 28 (0, 0)) := by
    rw [hW0, Below.heap_alloc _ _ _ (by simp; omega), Below.heap_alloc _ _ _ (by simp)]; exact heap_alloc_new _ _
  have k0 : Boxed W0 (w.heap.size + 1) 22 (.slice none 0 0) := by
    rw [hW0]
    have := (Boxed.new (w.alloc (.cells #[.int .i64 0] 28)) 22 (.slice none 0 0)).alloc (.cells #[.pointer (some ⟨px, 0, none⟩)] 40)
    simpa using this
  have k1 : W0.heap[w.heap.size + 2]? = some (.cells #[.pointer (some ⟨px, 0, none⟩)] 40 (0, 0)) := by
    rw [hW0]
    have := heap_alloc_new ((w.alloc (.cells #[.int .i64 0] 28)).alloc (.cells #[.slice none 0 0] 22)) (.cells #[.pointer (some ⟨px, 0, none⟩)] 40)
    simpa using this
  have hix0 : IxAt W0 px pj mb xs S := hi.keep (hb0.block _ hlt.1) (hb0.block _ hlt.2) (fun b hb => hb0.block b (hS b hb).1)
  have hu64 : ∀ x ∈ xs, x.e.uri.size ≤ 64 := fun x hx => (okE_uri (hok.ok x.e (List.mem_map_of_mem hx))).2
  have HSEQ := Lib.hid (all_stops W0 px pj mb xs S hix0 (by omega) hu64 (w.heap.size + 2) (w.heap.size + 3) (by omega) (by omega) k1 (by omega) (ExE (w.heap.size + 1)) (fun W hW k hk => by
    rcases hk with rfl | ⟨v, hv, hk⟩
    · exact ⟨by omega, by omega, by omega, by omega⟩
    · rw [hW.cell (p := ⟨w.heap.size + 1, 0, none⟩) (by show w.heap.size + 1 < W0.heap.size; omega), k0.cell] at hv
      cases hv
      simp [Value.ownBlock] at hk))
  have HENT : Hid (∀ x ∈ xs, ∃ A c, x.v = .agg #[.string x.e.uri, .int .i64 x.e.ver, .slice A x.e.exs.length c] ∧ ExsAt (· < w.heap.size) w (.slice A x.e.exs.length c) x.e.exs) := Lib.hid fun x hx => by
    obtain ⟨A, c, ev, -, he⟩ := hi.ents x hx
    exact ⟨A, c, ev, he.keep fun g hg => ⟨(hS g hg).1, rfl⟩⟩
  have HOK : Hid (∀ x ∈ xs, okE x.e = true ∧ (recE x.e).length ≤ 65536) := Lib.hid fun x hx => ⟨hok.ok x.e (List.mem_map_of_mem hx), hrl x.e (List.mem_map_of_mem hx)⟩
  have HI0 : Hid (CI w [] W0) := Lib.hid ⟨kr, ⟨_, [], k0, RowK.nil W0, by simp⟩, hb0, by omega⟩
  have HS0' := Lib.hid hs0
  have HIX := Lib.hid hi; have HJ := Lib.hid hj; have HH := Lib.hid hH; have HS := Lib.hid hS; have HN := Lib.hid hn; have HL := Lib.hid hlt
  obtain ⟨rows, hrows0⟩ : ∃ rows, rows = (xs.map (·.e)).map recE := ⟨_, rfl⟩
  have hr1 : ∀ l ∈ rows, l.length ≤ 65536 := fun l hl => by
    rw [hrows0] at hl
    obtain ⟨e, he, rfl⟩ := List.mem_map.1 hl
    exact hrl e he
  have hr2 : rows.length ≤ 20000 := by rw [hrows0, List.length_map, List.length_map]; omega
  rw [← hrows0] at hE
  have HROWS := Lib.hid hrows0
  have HLAY : Hid (∀ w2 v, Below w.heap.size w w2 → RowsAt (fun k => k < w2.heap.size ∧ ¬ F k ∧ ¬ G k) w2 v rows → Calls Tryz.prog 64 #[.pointer (some ⟨pj, 0, none⟩), v] w2 fun e w' => ∃ r, laySteps (encR (gen + 1) (be4 rows.length :: rows)) (stepsOf (hasF st.files nLog)) st = r ∧ e = .returned (.int .i64 r.2) ∧
      JPost w2 pj p F G r.1 (if r.2 = 0 then gen + 1 else gen) (if r.2 = 0 then rows else base) (if r.2 = 0 then [] else log) w') := Lib.hid fun w2 v hb hrows => jlay_any (hj.below hb) v rows hrows hr1 hr2 hg hE hc hkf hd hpw
  clear hr1 hr2 hrows0 kr k0 k1 hix0 hi hj hH hS hn hok hlt hb0 hu64 hrl hE hc hkf hd hpw hg
  refine (callsIn_wide (n := 7)).1 ?_
  refine callsIn_of_wp_marks Tryz.func23 rfl trivial ?_ rfl
  simp only [Tryz.ntmps23, List.size_toArray, List.length_cons, List.length_nil, Nat.reduceAdd, Nat.reduceSub, Array.replicate_succ, Array.replicate_zero, List.push_toArray, List.append_toArray, List.nil_append, List.cons_append]
  gi_wp2_with (refine ⟨trivial, ?_⟩; gi_at_call 60; refine (callsIn_wide.2 (all_any px _)).mono ?_; rintro e w1 ⟨rfl, rfl⟩)
  rw [← hW0]
  clear hW0
  refine wpIn_rangeFunc_ownH (F := Fence.wide) rfl (by omega) (gf := 104) (lb := #[.pointer (some ⟨w.heap.size + 1 + 1, 0, none⟩)]) rfl trivial (enters_of Tryz.func104 (by kernel_rfl) rfl)
    HSEQ.out kpE_t ?hKb (Below.refl _ _) (fun _ => rfl)
    (fun pre W => CI w (recsOf pre) W)
    (fun _ _ _ => False) ?hI ?hIx HI0.out
    (AxC w (fun (x : EntOf xs) bx => #[.pointer (some ⟨px, 0, none⟩), undef, .pointer (some ⟨w.heap.size, 0, none⟩), .pointer (some ⟨w.heap.size + 1, 0, none⟩), .pointer (some ⟨bx, 0, none⟩), undef, undef, .pointer (some ⟨px, 0, none⟩), .func (.func 104) #[] #[.pointer (some ⟨w.heap.size + 1 + 1, 0, none⟩)], x.1.v, undef, undef, undef, undef, undef, undef, undef, undef, undef, undef, undef, undef, undef, undef, undef, undef, undef, undef])) ?hAx ?assign ?body ?done ?stop
  case hKb =>
    intro W l o o' hl hget hcl hwl
    have := HS0'.out
    refine kpE_putObj (by omega) hget hcl (fun k hk => ?_)
    rcases hk with rfl | ⟨v, hv, hk⟩
    · exact .inl rfl
    · refine .inr ⟨v, ?_, hk⟩
      rw [World.cell?_of_block (w := W) (putObj_heap W l o' (by show w.heap.size + 1 ≠ l; omega))] at hv
      exact hv
  case hI =>
    intro pre X Y row hs hg hr
    exact hs.walk hg (fun r e => ⟨by have := (hr r e).1; have := HS0'.out; omega, (hr r e).2⟩)
  case hIx =>
    intro _ _ _ _ _ hs _ _
    exact hs
  case hAx =>
    rintro x a' _ X Y row ⟨bx, A, c, h1, h2, h3, h4, h5⟩ hg hr
    refine ⟨bx, A, c, h1, h2, h3, h4, (hg.block bx (lt_of_block h5) (fun e => ?_)).trans h5⟩
    obtain ⟨o, ho, hc⟩ := (hr bx e.symm).2
    rw [h5] at ho
    cases ho
    cases hc
  case assign =>
    intro l pre x W K hIW hK
    obtain ⟨A5, c5, e5, he5⟩ := HENT.out x.1 x.2
    have hfin := hK { tmps := #[.pointer (some ⟨px, 0, none⟩), undef, .pointer (some ⟨w.heap.size, 0, none⟩), .pointer (some ⟨w.heap.size + 1, 0, none⟩), .pointer (some ⟨W.heap.size, 0, none⟩), undef, undef, .pointer (some ⟨px, 0, none⟩), .func (.func 104) #[] #[.pointer (some ⟨w.heap.size + 1 + 1, 0, none⟩)], .agg #[.string x.1.e.uri, .int .i64 x.1.e.ver, .slice A5 x.1.e.exs.length c5], undef, undef, undef, undef, undef, undef, undef, undef, undef, undef, undef, undef, undef, undef, undef, undef, undef, undef], defers := [] }
      (W.alloc (.cells #[.string x.1.e.uri, .int .i64 x.1.e.ver, .slice A5 x.1.e.exs.length c5] 55)) ⟨by simp, fun k o _ hk _ => (Below.heap_alloc _ _ _ (lt_of_block hk)).trans hk⟩
      ⟨by simp, fun k o hk _ _ => (Below.heap_alloc _ _ _ (lt_of_block hk)).trans hk, fun k hk => by
        have hzz := hIW.size
        rcases hk with rfl | ⟨v, hv, hk⟩
        · exact .inl (.inl rfl)
        · refine .inl (.inr ⟨v, ?_, hk⟩)
          rw [World.cell?_of_block (w := W) (a := ⟨w.heap.size + 1, 0, none⟩) (Below.heap_alloc _ _ _ (by show w.heap.size + 1 < W.heap.size; omega))] at hv
          exact hv⟩ (hIW.go (box_below W _)) ⟨W.heap.size, A5, c5, hIW.size, e5, he5, by dsimp only; rw [e5], heap_alloc_new W _⟩
    have HF := Lib.hid hfin
    clear hK hfin
    dsimp only [encE]
    rw [e5]
    clear e5 he5
    gi_wp2
    exact HF.out
  case body =>
    rintro l pre x a' W hl0 hloop hIW ⟨bx, A5, c5, hbx, e5, he5, rfl, hxb⟩ hlen
    obtain ⟨hokx, hrlx⟩ := HOK.out x.1 x.2
    obtain ⟨v1, us1, hv1, hr1, hs1⟩ := hIW.row
    have hzW := hIW.size
    have hpl : pre.length ≤ 10000 := by omega
    have hrec := record_any x.1.e (.agg #[.string x.1.e.uri, .int .i64 x.1.e.ver, .slice A5 x.1.e.exs.length c5]) W ⟨A5, c5, rfl, by have := okE_uri hokx; omega, he5.keep fun g (hg : g < w.heap.size) => ⟨by show g < W.heap.size; omega, hIW.below.block g hg⟩⟩
    obtain ⟨x0, x1, x2⟩ := box3 hxb
    obtain ⟨Al, cl, hlf, -, -⟩ := hr1.form
    have hrl : (recsOf pre).length = pre.length := by simp [recsOf]
    rw [hrl] at hlf
    have HRE : Hid (Calls Tryz.prog 38 #[.agg #[.string x.1.e.uri, .int .i64 x.1.e.ver, .slice A5 x.1.e.exs.length c5]] W fun e w2 => ∃ A2 c2, e = .returned (.tuple #[.slice A2 (recE x.1.e).length c2, .int .i64 0]) ∧ Hid (Par.Own w2 W.heap.size 5 (.slice A2 (recE x.1.e).length c2) (byteCells (recE x.1.e))) ∧ Hid (Below W.heap.size W w2)) := Lib.hid (by
      refine hrec.mono ?_
      rintro e w2 ⟨v2, rfl, hb2, ho2, -⟩
      have ho2 := ho2 hokx
      obtain ⟨A2, c2, hf2⟩ := ho2.form
      rw [byteCells_length] at hf2
      subst hf2
      rw [hokx]
      exact ⟨A2, c2, rfl, Lib.hid ho2, Lib.hid hb2⟩)
    have HV1 := Lib.hid hv1; have HR1 := Lib.hid hr1; have HS1 := Lib.hid hs1; have HI := Lib.hid hIW
    have hul : us1.length ≤ 10000 := by rw [hr1.len, hrl]; exact hpl
    have HSN : Hid (recsOf (pre ++ [x]) = recsOf pre ++ [recE x.1.e]) := Lib.hid (recsOf_snoc pre x)
    obtain ⟨NL, hNL⟩ : ∃ NL, NL = pre.length := ⟨_, rfl⟩
    rw [← hNL] at hlf
    have HNL := Lib.hid hNL
    clear hrec hv1 hr1 hs1 hIW hxb hokx he5 hrl hNL
    subst hlf
    dsimp only
    rw [e5]
    clear e5
    gi_wp2_with (refine ⟨trivial, ?_⟩; gi_at_call 38; refine (CallsIn.inRound l (callsIn_wide.2 HRE.out)).mono ?_)
    rintro e w2 ⟨A2, c2, rfl, HO2, HB2⟩
    have hz2 := HB2.out.size
    have q3 : w2.cell? ⟨w.heap.size + 1, 0, none⟩ = some (.slice Al NL cl) := (HB2.out.cell (p := ⟨w.heap.size + 1, 0, none⟩) (by show w.heap.size + 1 < W.heap.size; omega)).trans HV1.out.cell
    have hown4 : Par.Own (w2.alloc (.cells #[.slice A2 (recE x.1.e).length c2] 24)) (w.heap.size + 3) 24 (.slice Al NL cl) us1 := by
      have h1 := (RowK.below (R := SegC) SegC.keep HR1.out HB2.out).own
      rw [flat_slices HS1.out, ← HR1.out.len] at h1
      exact Par.Own.alloc (show Par.Own w2 (w.heap.size + 3) 24 (.slice Al NL cl) us1 from h1) _
    have HBS : Hid (w.heap.size + 3 ≤ (w2.alloc (.cells #[.slice A2 (recE x.1.e).length c2] 24)).heap.size) := Lib.hid (by simp; omega)
    have HBD : Hid (us1.length + [Value.slice A2 (recE x.1.e).length c2].length ≤ 2147483648) := Lib.hid (by simp; omega)
    have hsg2 := Seg.new w2 24 #[.slice A2 (recE x.1.e).length c2] [.slice A2 (recE x.1.e).length c2] rfl (by simp [maxLen])
    clear x0 x1 x2
    gi_wp2_with (gi_at_builtin; refine wpListIn_app _ rfl _ _ 22 rfl (w.heap.size + 3) 24 _ rowE _ _ rfl hown4 _ _ _ rfl hsg2 (fun y hy => by simp at hy; subst hy; rfl) HBD.out HBS.out ?_)
    intro v3 w3 hown3 hg3 hat3
    have HNX := Lib.hid (HI.out.next rfl HV1.out HR1.out HS1.out HB2.out HO2.out hown3 hg3 (by simpa using hat3))
    have hl3 : Boxed w3 (w.heap.size + 1) 22 (.slice Al NL cl) := (hg3.block _ (by simp; omega) (fun e => by have := (HR1.out.own.lt _ e.symm).1; omega)).trans ((Below.heap_alloc _ _ _ (by omega)).trans ((HB2.out.block _ (by omega)).trans HV1.out))
    have hf3 := hl3.frozen
    have hc3 := hl3.cell
    obtain ⟨A3, c3, hv3⟩ := hown3.form
    have hv3' : v3 = .slice A3 (us1.length + 1) c3 := by rw [hv3, List.length_append]; rfl
    clear hown3 hg3 hat3 hl3 hown4 hsg2 q3 hv3
    subst hv3'
    gi_wp2
    have := HNX.out
    rw [← HSN.out] at this
    rw [HS0'.out]
    exact this
  case done =>
    rintro D ys W hD rfl hIW hK
    have hzD := hD
    have hY := hIW.walk (grownBy_putObj' W D (.deferred none)) (fun r e => by cases e; exact ⟨by have := HS0'.out; omega, _, hK, rfl⟩)
    obtain ⟨v, us, hv, hr, hsl⟩ := hIW.row
    obtain ⟨Al, cl, hlf, -, -⟩ := hr.form
    obtain ⟨NL, hNL⟩ : ∃ NL, NL = (recsOf xs.attach).length := ⟨_, rfl⟩
    rw [← hNL] at hlf
    subst hlf
    have hz := hIW.size
    have hlt := HL.out
    have hbw := hIW.below
    have hix : IxAt W px pj mb xs S := HIX.out.keep (hbw.block _ hlt.1) (hbw.block _ hlt.2) (fun b hb => hbw.block b (HS.out b hb).1)
    have HSK : Hid (∀ W' : World, W'.heap[px]? = W.heap[px]? → W'.heap[w.heap.size + 1]? = W.heap[w.heap.size + 1]? → W'.cell? ⟨px, 0, none⟩ = some (.pointer (some ⟨pj, 0, none⟩)) ∧ W'.cell? ⟨w.heap.size + 1, 0, none⟩ = some (.slice Al NL cl)) := Lib.hid fun W' h1 h2 => ⟨by simp [World.cell?, h1, hix.head], Boxed.cell (h2.trans hv)⟩
    have HS0 := Lib.hid (HSK.out W.drew rfl rfl)
    have hrows : RowsAt (fun g => w.heap.size + 3 ≤ g ∧ g < W.heap.size) W (.slice Al NL cl) rows := by
      have h1 := RowK.rowsB hr (fun u hu => by obtain ⟨A, n, c, e⟩ := hsl u hu; rw [e]; rfl)
      rw [recsOf_all, ← HROWS.out] at h1
      have h2 : RowsAt (fun g => ((w.heap.size + 3 ≤ g ∨ w.heap.size + 3 ≤ g) ∧ g < W.heap.size)) W (.slice Al NL cl) rows := h1
      exact h2.keep fun b hb => ⟨⟨by omega, hb.2⟩, rfl⟩
    have HRW := Lib.hid hrows
    have HLY := Lib.hid (HLAY.out W.drew (.slice Al NL cl) (hbw.trans ((Below.refl w.heap.size W).drew)) (hrows.keep fun b hb => ⟨⟨hb.2, fun h => by have := HJ.out.fs.lt b h; omega, fun h => by have := HJ.out.js.lt b h; omega⟩, rfl⟩))
    have HBW := Lib.hid hbw; have HI := Lib.hid hIW; have HIXW := Lib.hid hix
    have HBD : Hid (Below w.heap.size w W.drew) := Lib.hid (hbw.trans ((Below.refl w.heap.size W).drew))
    have HK := Lib.hid hK
    clear hIW hv hr hsl hix hrows hbw hY hNL hK
    gi_wp2
    refine wpIn_wide_held (n := 7) (by decide) (S := fun w2 : World => w2.cell? ⟨px, 0, none⟩ = some (.pointer (some ⟨pj, 0, none⟩)) ∧ w2.cell? ⟨w.heap.size + 1, 0, none⟩ = some (.slice Al NL cl)) (by kernel_rfl) (by kernel_rfl) (by rintro ⟨a9, w9, h⟩; have h2 : P .outgrown w9 := h; rw [HPO.out] at h2; obtain ⟨r, _, e, _⟩ := h2; cases e) ?_
    refine wpAnyH_all (rs := [0, 4]) (by kernel_rfl) (by simp) ?_
    intro i hi
    simp only [List.mem_cons, List.not_mem_nil, or_false] at hi
    rcases hi with rfl | rfl
    · refine wpOp_of rfl rfl (fun K hK => ?_)
      obtain ⟨s0, s1⟩ := HS0.out
      go_simp
      clear s0 s1
      refine hK _ _ ⟨HS0.out, ?_⟩
      clear hK K
      refine wpAnyH_all (rs := [1, 4]) (by kernel_rfl) (by simp) ?_
      intro i hi
      simp only [List.mem_cons, List.not_mem_nil, or_false] at hi
      rcases hi with rfl | rfl
      · refine wpOp_of rfl rfl (fun K hK => ?_)
        obtain ⟨s0, s1⟩ := HS0.out
        go_simp
        clear s0 s1
        refine hK _ _ ⟨HS0.out, ?_⟩
        clear hK K
        refine wpAnyH_all (rs := [2, 4]) (by kernel_rfl) (by simp) ?_
        intro i hi
        simp only [List.mem_cons, List.not_mem_nil, or_false] at hi
        rcases hi with rfl | rfl
        · refine wpOp_of rfl rfl (fun K hK => ?_)
          obtain ⟨s0, s1⟩ := HS0.out
          go_simp
          clear s0 s1
          refine hK _ _ ⟨HS0.out, ?_⟩
          clear hK K
          refine wpAnyH_all (rs := [3, 4]) (by kernel_rfl) (by simp) ?_
          intro i hi
          simp only [List.mem_cons, List.not_mem_nil, or_false] at hi
          rcases hi with rfl | rfl
          · refine wpOp_of rfl rfl (fun K hK => ?_)
            obtain ⟨s0, s1⟩ := HS0.out
            go_simp
            clear s0 s1
            refine hK _ _ ⟨HS0.out, ?_⟩
            clear hK K
            refine wpAnyH_all (rs := [4]) (by kernel_rfl) (by simp) ?_
            intro i hi
            simp only [List.mem_cons, List.not_mem_nil, or_false] at hi
            subst hi
            refine wpOp_of rfl rfl (fun K hK => ?_)
            obtain ⟨s0, s1⟩ := HS0.out
            go_simp
            clear s0 s1
            refine hK _ _ ⟨HS0.out, ?_⟩
            clear hK K
            refine wpAnyH_all (rs := [5]) (by kernel_rfl) (by simp) ?_
            intro i hi
            simp only [List.mem_cons, List.not_mem_nil, or_false] at hi
            subst hi
            refine wpOp_of rfl rfl (fun K hK => ?_)
            go_simp
            refine HLY.out.mono ?_
            rintro e w3 ⟨r, hr, rfl, hjp⟩
            have hlt := HL.out
            have hz9 : w.heap.size + 3 ≤ W.heap.size := HI.out.size
            have hSW : ∀ k, S k → k < W.drew.heap.size ∧ ¬ F k ∧ ¬ H k := fun k hk => ⟨by have := (HS.out k hk).1; show k < W.heap.size; omega, (HS.out k hk).2⟩
            obtain ⟨hpost, hix3⟩ := XPost.journal (w := W.drew) (Below.refl _ _) (HIXW.out.keep (w' := W.drew) rfl rfl (fun _ _ => rfl)) HH.out hSW HN.out ⟨by show px < W.heap.size; omega, by show mb < W.heap.size; omega⟩ hjp
            have HPO3 := Lib.hid hpost; have HIX3 := Lib.hid hix3
            obtain ⟨F3, G3, -, hk3, -, -⟩ := hjp
            have hz3 : W.heap.size ≤ w3.heap.size := hk3.size
            have own : ∀ k, w.heap.size ≤ k → k < W.heap.size → w3.heap[k]? = W.heap[k]? := fun k h1 h2 => hk3.block k h2 (fun h => by
              rcases h with h | h
              · have := HJ.out.fs.lt k h; omega
              · have := HJ.out.js.lt k h; omega)
            have hres3 : w3.heap[w.heap.size]? = some (.cells #[.int .i64 0] 28 (0, 0)) := (own _ (Nat.le_refl _) (by omega)).trans HI.out.res
            have hD3 : w3.heap[D]? = some (.deferred (some [])) := (own D (by have := HS0'.out; omega) (lt_of_block HK.out)).trans HK.out
            have hbox3 : w3.cell? ⟨w.heap.size + 1, 0, none⟩ = some (.slice Al NL cl) := by
              rw [World.cell?_of_block (w := W) (a := ⟨w.heap.size + 1, 0, none⟩) (own (w.heap.size + 1) (by omega) (by omega))]
              exact HS0.out.2
            have HS3 : Hid (w3.cell? ⟨px, 0, none⟩ = some (.pointer (some ⟨pj, 0, none⟩)) ∧ w3.cell? ⟨w.heap.size + 1, 0, none⟩ = some (.slice Al NL cl)) := Lib.hid ⟨by simp [World.cell?, hix3.head], hbox3⟩
            have HS4 : Hid ((w3.setCell ⟨w.heap.size, 0, none⟩ (.int .i64 r.2)).cell? ⟨px, 0, none⟩ = some (.pointer (some ⟨pj, 0, none⟩)) ∧ (w3.setCell ⟨w.heap.size, 0, none⟩ (.int .i64 r.2)).cell? ⟨w.heap.size + 1, 0, none⟩ = some (.slice Al NL cl)) := Lib.hid ⟨(World.cell?_of_block (w := w3) (a := ⟨px, 0, none⟩) (setCell_block (a := ⟨w.heap.size, 0, none⟩) (show px ≠ w.heap.size by omega))).trans HS3.out.1, (World.cell?_of_block (w := w3) (a := ⟨w.heap.size + 1, 0, none⟩) (setCell_block (a := ⟨w.heap.size, 0, none⟩) (show w.heap.size + 1 ≠ w.heap.size by omega))).trans HS3.out.2⟩
            have hre := one_setJ (x := .int .i64 r.2) hres3
            have hD4 : (w3.setCell ⟨w.heap.size, 0, none⟩ (.int .i64 r.2)).heap[D]? = some (.deferred (some [])) := (setCell_block (a := ⟨w.heap.size, 0, none⟩) (show D ≠ w.heap.size by have := HS0'.out; omega)).trans hD3
            have hc3 : w3.cell? ⟨w.heap.size, 0, none⟩ = some (.int .i64 0) := by simp [World.cell?, hres3]
            have hf3 : w3.frozen? ⟨w.heap.size, 0, none⟩ = false := by simp [World.frozen?, hres3]
            obtain ⟨Wf, hWf⟩ : ∃ Wf, Wf = (w3.setCell ⟨w.heap.size, 0, none⟩ (.int .i64 r.2)).putObj D (.deferred none) := ⟨_, rfl⟩
            have hkf : Kept (fun k => w.heap.size ≤ k ∧ k < W.drew.heap.size) w3 Wf := by
              rw [hWf]
              have h1 : Kept (fun k => w.heap.size ≤ k ∧ k < W.drew.heap.size) w3 (w3.setCell ⟨w.heap.size, 0, none⟩ (.int .i64 r.2)) := (Kept.refl _ _).setCell (p := ⟨w.heap.size, 0, none⟩) (.inl ⟨Nat.le_refl _, by show w.heap.size < W.heap.size; omega⟩) _
              exact h1.grown (grownBy_putObj' _ D _) (fun k e => by cases e; exact .inl ⟨by have := HS0'.out; omega, by have := lt_of_block HK.out; exact this⟩)
            have hfc : Wf.cell? ⟨w.heap.size, 0, none⟩ = some (.int .i64 r.2) := by
              have h1 : Wf.heap[w.heap.size]? = some (.cells #[.int .i64 r.2] 28 (0, 0)) := by
                rw [hWf, putObj_heap _ D _ (show w.heap.size ≠ D by have := HS0'.out; omega)]; exact hre
              simp [World.cell?, h1]
            have HFIN : Hid (P (.returned (.int .i64 r.2)) Wf) := Lib.hid (by
              rw [HPO.out]
              refine ⟨r, by rw [← HROWS.out]; exact hr, rfl, ?_⟩
              rw [← HROWS.out]
              refine XPost.over HBD.out (fun k hk => ?_) HPO3.out hkf
              rcases hk with hk | hk | hk
              · exact HJ.out.fs.lt k hk
              · rcases (HH.out k).1 hk with h | h | h
                · exact HJ.out.js.lt k h
                · omega
                · omega
              · exact (HS.out k hk).1)
            have HWF := Lib.hid hWf; have HFC := Lib.hid hfc; have HD4 := Lib.hid hD4
            clear hpost hix3 hk3 own hres3 hD3 hbox3 hre hD4 hkf hfc hWf hr
            refine hK _ _ ⟨HS3.out, ?_⟩
            clear hK K
            refine wpAnyH_all (rs := [6]) (by kernel_rfl) (by simp) ?_
            intro i hi
            simp only [List.mem_cons, List.not_mem_nil, or_false] at hi
            subst hi
            refine wpOp_of rfl rfl (fun K hK => ?_)
            go_simp
            refine hK _ _ ⟨HS4.out, ?_⟩
            clear hK K
            refine wpAnyH_done (by kernel_rfl) ?_ _
            gi_wp2
            refine ⟨by simp, .inl ⟨_, _, rfl, run_takeDeferred HD4.out, ?_⟩⟩
            rw [← HWF.out]
            refine ⟨.int .i64 r.2, ?_, HFIN.out⟩
            have := HFC.out
            simp [results, Tryz.results23, go_sem, this]
          · refine wpOp_of rfl rfl (fun K hK => ?_)
            obtain ⟨s0, s1⟩ := HS0.out
            go_simp
            clear s0 s1
            refine hK _ _ ⟨HS0.out, ?_⟩
            clear hK K
            refine wpAnyH_all (rs := [3]) (by kernel_rfl) (by simp) ?_
            intro i hi
            simp only [List.mem_cons, List.not_mem_nil, or_false] at hi
            subst hi
            refine wpOp_of rfl rfl (fun K hK => ?_)
            obtain ⟨s0, s1⟩ := HS0.out
            go_simp
            clear s0 s1
            refine hK _ _ ⟨HS0.out, ?_⟩
            clear hK K
            refine wpAnyH_all (rs := [5]) (by kernel_rfl) (by simp) ?_
            intro i hi
            simp only [List.mem_cons, List.not_mem_nil, or_false] at hi
            subst hi
            refine wpOp_of rfl rfl (fun K hK => ?_)
            go_simp
            refine HLY.out.mono ?_
            rintro e w3 ⟨r, hr, rfl, hjp⟩
            have hlt := HL.out
            have hz9 : w.heap.size + 3 ≤ W.heap.size := HI.out.size
            have hSW : ∀ k, S k → k < W.drew.heap.size ∧ ¬ F k ∧ ¬ H k := fun k hk => ⟨by have := (HS.out k hk).1; show k < W.heap.size; omega, (HS.out k hk).2⟩
            obtain ⟨hpost, hix3⟩ := XPost.journal (w := W.drew) (Below.refl _ _) (HIXW.out.keep (w' := W.drew) rfl rfl (fun _ _ => rfl)) HH.out hSW HN.out ⟨by show px < W.heap.size; omega, by show mb < W.heap.size; omega⟩ hjp
            have HPO3 := Lib.hid hpost; have HIX3 := Lib.hid hix3
            obtain ⟨F3, G3, -, hk3, -, -⟩ := hjp
            have hz3 : W.heap.size ≤ w3.heap.size := hk3.size
            have own : ∀ k, w.heap.size ≤ k → k < W.heap.size → w3.heap[k]? = W.heap[k]? := fun k h1 h2 => hk3.block k h2 (fun h => by
              rcases h with h | h
              · have := HJ.out.fs.lt k h; omega
              · have := HJ.out.js.lt k h; omega)
            have hres3 : w3.heap[w.heap.size]? = some (.cells #[.int .i64 0] 28 (0, 0)) := (own _ (Nat.le_refl _) (by omega)).trans HI.out.res
            have hD3 : w3.heap[D]? = some (.deferred (some [])) := (own D (by have := HS0'.out; omega) (lt_of_block HK.out)).trans HK.out
            have hbox3 : w3.cell? ⟨w.heap.size + 1, 0, none⟩ = some (.slice Al NL cl) := by
              rw [World.cell?_of_block (w := W) (a := ⟨w.heap.size + 1, 0, none⟩) (own (w.heap.size + 1) (by omega) (by omega))]
              exact HS0.out.2
            have HS3 : Hid (w3.cell? ⟨px, 0, none⟩ = some (.pointer (some ⟨pj, 0, none⟩)) ∧ w3.cell? ⟨w.heap.size + 1, 0, none⟩ = some (.slice Al NL cl)) := Lib.hid ⟨by simp [World.cell?, hix3.head], hbox3⟩
            have HS4 : Hid ((w3.setCell ⟨w.heap.size, 0, none⟩ (.int .i64 r.2)).cell? ⟨px, 0, none⟩ = some (.pointer (some ⟨pj, 0, none⟩)) ∧ (w3.setCell ⟨w.heap.size, 0, none⟩ (.int .i64 r.2)).cell? ⟨w.heap.size + 1, 0, none⟩ = some (.slice Al NL cl)) := Lib.hid ⟨(World.cell?_of_block (w := w3) (a := ⟨px, 0, none⟩) (setCell_block (a := ⟨w.heap.size, 0, none⟩) (show px ≠ w.heap.size by omega))).trans HS3.out.1, (World.cell?_of_block (w := w3) (a := ⟨w.heap.size + 1, 0, none⟩) (setCell_block (a := ⟨w.heap.size, 0, none⟩) (show w.heap.size + 1 ≠ w.heap.size by omega))).trans HS3.out.2⟩
            have hre := one_setJ (x := .int .i64 r.2) hres3
            have hD4 : (w3.setCell ⟨w.heap.size, 0, none⟩ (.int .i64 r.2)).heap[D]? = some (.deferred (some [])) := (setCell_block (a := ⟨w.heap.size, 0, none⟩) (show D ≠ w.heap.size by have := HS0'.out; omega)).trans hD3
            have hc3 : w3.cell? ⟨w.heap.size, 0, none⟩ = some (.int .i64 0) := by simp [World.cell?, hres3]
            have hf3 : w3.frozen? ⟨w.heap.size, 0, none⟩ = false := by simp [World.frozen?, hres3]
            obtain ⟨Wf, hWf⟩ : ∃ Wf, Wf = (w3.setCell ⟨w.heap.size, 0, none⟩ (.int .i64 r.2)).putObj D (.deferred none) := ⟨_, rfl⟩
            have hkf : Kept (fun k => w.heap.size ≤ k ∧ k < W.drew.heap.size) w3 Wf := by
              rw [hWf]
              have h1 : Kept (fun k => w.heap.size ≤ k ∧ k < W.drew.heap.size) w3 (w3.setCell ⟨w.heap.size, 0, none⟩ (.int .i64 r.2)) := (Kept.refl _ _).setCell (p := ⟨w.heap.size, 0, none⟩) (.inl ⟨Nat.le_refl _, by show w.heap.size < W.heap.size; omega⟩) _
              exact h1.grown (grownBy_putObj' _ D _) (fun k e => by cases e; exact .inl ⟨by have := HS0'.out; omega, by have := lt_of_block HK.out; exact this⟩)
            have hfc : Wf.cell? ⟨w.heap.size, 0, none⟩ = some (.int .i64 r.2) := by
              have h1 : Wf.heap[w.heap.size]? = some (.cells #[.int .i64 r.2] 28 (0, 0)) := by
                rw [hWf, putObj_heap _ D _ (show w.heap.size ≠ D by have := HS0'.out; omega)]; exact hre
              simp [World.cell?, h1]
            have HFIN : Hid (P (.returned (.int .i64 r.2)) Wf) := Lib.hid (by
              rw [HPO.out]
              refine ⟨r, by rw [← HROWS.out]; exact hr, rfl, ?_⟩
              rw [← HROWS.out]
              refine XPost.over HBD.out (fun k hk => ?_) HPO3.out hkf
              rcases hk with hk | hk | hk
              · exact HJ.out.fs.lt k hk
              · rcases (HH.out k).1 hk with h | h | h
                · exact HJ.out.js.lt k h
                · omega
                · omega
              · exact (HS.out k hk).1)
            have HWF := Lib.hid hWf; have HFC := Lib.hid hfc; have HD4 := Lib.hid hD4
            clear hpost hix3 hk3 own hres3 hD3 hbox3 hre hD4 hkf hfc hWf hr
            refine hK _ _ ⟨HS3.out, ?_⟩
            clear hK K
            refine wpAnyH_all (rs := [6]) (by kernel_rfl) (by simp) ?_
            intro i hi
            simp only [List.mem_cons, List.not_mem_nil, or_false] at hi
            subst hi
            refine wpOp_of rfl rfl (fun K hK => ?_)
            go_simp
            refine hK _ _ ⟨HS4.out, ?_⟩
            clear hK K
            refine wpAnyH_done (by kernel_rfl) ?_ _
            gi_wp2
            refine ⟨by simp, .inl ⟨_, _, rfl, run_takeDeferred HD4.out, ?_⟩⟩
            rw [← HWF.out]
            refine ⟨.int .i64 r.2, ?_, HFIN.out⟩
            have := HFC.out
            simp [results, Tryz.results23, go_sem, this]
        · refine wpOp_of rfl rfl (fun K hK => ?_)
          obtain ⟨s0, s1⟩ := HS0.out
          go_simp
          clear s0 s1
          refine hK _ _ ⟨HS0.out, ?_⟩
          clear hK K
          refine wpAnyH_all (rs := [2]) (by kernel_rfl) (by simp) ?_
          intro i hi
          simp only [List.mem_cons, List.not_mem_nil, or_false] at hi
          subst hi
          refine wpOp_of rfl rfl (fun K hK => ?_)
          obtain ⟨s0, s1⟩ := HS0.out
          go_simp
          clear s0 s1
          refine hK _ _ ⟨HS0.out, ?_⟩
          clear hK K
          refine wpAnyH_all (rs := [3]) (by kernel_rfl) (by simp) ?_
          intro i hi
          simp only [List.mem_cons, List.not_mem_nil, or_false] at hi
          subst hi
          refine wpOp_of rfl rfl (fun K hK => ?_)
          obtain ⟨s0, s1⟩ := HS0.out
          go_simp
          clear s0 s1
          refine hK _ _ ⟨HS0.out, ?_⟩
          clear hK K
          refine wpAnyH_all (rs := [5]) (by kernel_rfl) (by simp) ?_
          intro i hi
          simp only [List.mem_cons, List.not_mem_nil, or_false] at hi
          subst hi
          refine wpOp_of rfl rfl (fun K hK => ?_)
          go_simp
          refine HLY.out.mono ?_
          rintro e w3 ⟨r, hr, rfl, hjp⟩
          have hlt := HL.out
          have hz9 : w.heap.size + 3 ≤ W.heap.size := HI.out.size
          have hSW : ∀ k, S k → k < W.drew.heap.size ∧ ¬ F k ∧ ¬ H k := fun k hk => ⟨by have := (HS.out k hk).1; show k < W.heap.size; omega, (HS.out k hk).2⟩
          obtain ⟨hpost, hix3⟩ := XPost.journal (w := W.drew) (Below.refl _ _) (HIXW.out.keep (w' := W.drew) rfl rfl (fun _ _ => rfl)) HH.out hSW HN.out ⟨by show px < W.heap.size; omega, by show mb < W.heap.size; omega⟩ hjp
          have HPO3 := Lib.hid hpost; have HIX3 := Lib.hid hix3
          obtain ⟨F3, G3, -, hk3, -, -⟩ := hjp
          have hz3 : W.heap.size ≤ w3.heap.size := hk3.size
          have own : ∀ k, w.heap.size ≤ k → k < W.heap.size → w3.heap[k]? = W.heap[k]? := fun k h1 h2 => hk3.block k h2 (fun h => by
            rcases h with h | h
            · have := HJ.out.fs.lt k h; omega
            · have := HJ.out.js.lt k h; omega)
          have hres3 : w3.heap[w.heap.size]? = some (.cells #[.int .i64 0] 28 (0, 0)) := (own _ (Nat.le_refl _) (by omega)).trans HI.out.res
          have hD3 : w3.heap[D]? = some (.deferred (some [])) := (own D (by have := HS0'.out; omega) (lt_of_block HK.out)).trans HK.out
          have hbox3 : w3.cell? ⟨w.heap.size + 1, 0, none⟩ = some (.slice Al NL cl) := by
            rw [World.cell?_of_block (w := W) (a := ⟨w.heap.size + 1, 0, none⟩) (own (w.heap.size + 1) (by omega) (by omega))]
            exact HS0.out.2
          have HS3 : Hid (w3.cell? ⟨px, 0, none⟩ = some (.pointer (some ⟨pj, 0, none⟩)) ∧ w3.cell? ⟨w.heap.size + 1, 0, none⟩ = some (.slice Al NL cl)) := Lib.hid ⟨by simp [World.cell?, hix3.head], hbox3⟩
          have HS4 : Hid ((w3.setCell ⟨w.heap.size, 0, none⟩ (.int .i64 r.2)).cell? ⟨px, 0, none⟩ = some (.pointer (some ⟨pj, 0, none⟩)) ∧ (w3.setCell ⟨w.heap.size, 0, none⟩ (.int .i64 r.2)).cell? ⟨w.heap.size + 1, 0, none⟩ = some (.slice Al NL cl)) := Lib.hid ⟨(World.cell?_of_block (w := w3) (a := ⟨px, 0, none⟩) (setCell_block (a := ⟨w.heap.size, 0, none⟩) (show px ≠ w.heap.size by omega))).trans HS3.out.1, (World.cell?_of_block (w := w3) (a := ⟨w.heap.size + 1, 0, none⟩) (setCell_block (a := ⟨w.heap.size, 0, none⟩) (show w.heap.size + 1 ≠ w.heap.size by omega))).trans HS3.out.2⟩
          have hre := one_setJ (x := .int .i64 r.2) hres3
          have hD4 : (w3.setCell ⟨w.heap.size, 0, none⟩ (.int .i64 r.2)).heap[D]? = some (.deferred (some [])) := (setCell_block (a := ⟨w.heap.size, 0, none⟩) (show D ≠ w.heap.size by have := HS0'.out; omega)).trans hD3
          have hc3 : w3.cell? ⟨w.heap.size, 0, none⟩ = some (.int .i64 0) := by simp [World.cell?, hres3]
          have hf3 : w3.frozen? ⟨w.heap.size, 0, none⟩ = false := by simp [World.frozen?, hres3]
          obtain ⟨Wf, hWf⟩ : ∃ Wf, Wf = (w3.setCell ⟨w.heap.size, 0, none⟩ (.int .i64 r.2)).putObj D (.deferred none) := ⟨_, rfl⟩
          have hkf : Kept (fun k => w.heap.size ≤ k ∧ k < W.drew.heap.size) w3 Wf := by
            rw [hWf]
            have h1 : Kept (fun k => w.heap.size ≤ k ∧ k < W.drew.heap.size) w3 (w3.setCell ⟨w.heap.size, 0, none⟩ (.int .i64 r.2)) := (Kept.refl _ _).setCell (p := ⟨w.heap.size, 0, none⟩) (.inl ⟨Nat.le_refl _, by show w.heap.size < W.heap.size; omega⟩) _
            exact h1.grown (grownBy_putObj' _ D _) (fun k e => by cases e; exact .inl ⟨by have := HS0'.out; omega, by have := lt_of_block HK.out; exact this⟩)
          have hfc : Wf.cell? ⟨w.heap.size, 0, none⟩ = some (.int .i64 r.2) := by
            have h1 : Wf.heap[w.heap.size]? = some (.cells #[.int .i64 r.2] 28 (0, 0)) := by
              rw [hWf, putObj_heap _ D _ (show w.heap.size ≠ D by have := HS0'.out; omega)]; exact hre
            simp [World.cell?, h1]
          have HFIN : Hid (P (.returned (.int .i64 r.2)) Wf) := Lib.hid (by
            rw [HPO.out]
            refine ⟨r, by rw [← HROWS.out]; exact hr, rfl, ?_⟩
            rw [← HROWS.out]
            refine XPost.over HBD.out (fun k hk => ?_) HPO3.out hkf
            rcases hk with hk | hk | hk
            · exact HJ.out.fs.lt k hk
            · rcases (HH.out k).1 hk with h | h | h
              · exact HJ.out.js.lt k h
              · omega
              · omega
            · exact (HS.out k hk).1)
          have HWF := Lib.hid hWf; have HFC := Lib.hid hfc; have HD4 := Lib.hid hD4
          clear hpost hix3 hk3 own hres3 hD3 hbox3 hre hD4 hkf hfc hWf hr
          refine hK _ _ ⟨HS3.out, ?_⟩
          clear hK K
          refine wpAnyH_all (rs := [6]) (by kernel_rfl) (by simp) ?_
          intro i hi
          simp only [List.mem_cons, List.not_mem_nil, or_false] at hi
          subst hi
          refine wpOp_of rfl rfl (fun K hK => ?_)
          go_simp
          refine hK _ _ ⟨HS4.out, ?_⟩
          clear hK K
          refine wpAnyH_done (by kernel_rfl) ?_ _
          gi_wp2
          refine ⟨by simp, .inl ⟨_, _, rfl, run_takeDeferred HD4.out, ?_⟩⟩
          rw [← HWF.out]
          refine ⟨.int .i64 r.2, ?_, HFIN.out⟩
          have := HFC.out
          simp [results, Tryz.results23, go_sem, this]
      · refine wpOp_of rfl rfl (fun K hK => ?_)
        obtain ⟨s0, s1⟩ := HS0.out
        go_simp
        clear s0 s1
        refine hK _ _ ⟨HS0.out, ?_⟩
        clear hK K
        refine wpAnyH_all (rs := [1]) (by kernel_rfl) (by simp) ?_
        intro i hi
        simp only [List.mem_cons, List.not_mem_nil, or_false] at hi
        subst hi
        refine wpOp_of rfl rfl (fun K hK => ?_)
        obtain ⟨s0, s1⟩ := HS0.out
        go_simp
        clear s0 s1
        refine hK _ _ ⟨HS0.out, ?_⟩
        clear hK K
        refine wpAnyH_all (rs := [2]) (by kernel_rfl) (by simp) ?_
        intro i hi
        simp only [List.mem_cons, List.not_mem_nil, or_false] at hi
        subst hi
        refine wpOp_of rfl rfl (fun K hK => ?_)
        obtain ⟨s0, s1⟩ := HS0.out
        go_simp
        clear s0 s1
        refine hK _ _ ⟨HS0.out, ?_⟩
        clear hK K
        refine wpAnyH_all (rs := [3]) (by kernel_rfl) (by simp) ?_
        intro i hi
        simp only [List.mem_cons, List.not_mem_nil, or_false] at hi
        subst hi
        refine wpOp_of rfl rfl (fun K hK => ?_)
        obtain ⟨s0, s1⟩ := HS0.out
        go_simp
        clear s0 s1
        refine hK _ _ ⟨HS0.out, ?_⟩
        clear hK K
        refine wpAnyH_all (rs := [5]) (by kernel_rfl) (by simp) ?_
        intro i hi
        simp only [List.mem_cons, List.not_mem_nil, or_false] at hi
        subst hi
        refine wpOp_of rfl rfl (fun K hK => ?_)
        go_simp
        refine HLY.out.mono ?_
        rintro e w3 ⟨r, hr, rfl, hjp⟩
        have hlt := HL.out
        have hz9 : w.heap.size + 3 ≤ W.heap.size := HI.out.size
        have hSW : ∀ k, S k → k < W.drew.heap.size ∧ ¬ F k ∧ ¬ H k := fun k hk => ⟨by have := (HS.out k hk).1; show k < W.heap.size; omega, (HS.out k hk).2⟩
        obtain ⟨hpost, hix3⟩ := XPost.journal (w := W.drew) (Below.refl _ _) (HIXW.out.keep (w' := W.drew) rfl rfl (fun _ _ => rfl)) HH.out hSW HN.out ⟨by show px < W.heap.size; omega, by show mb < W.heap.size; omega⟩ hjp
        have HPO3 := Lib.hid hpost; have HIX3 := Lib.hid hix3
        obtain ⟨F3, G3, -, hk3, -, -⟩ := hjp
        have hz3 : W.heap.size ≤ w3.heap.size := hk3.size
        have own : ∀ k, w.heap.size ≤ k → k < W.heap.size → w3.heap[k]? = W.heap[k]? := fun k h1 h2 => hk3.block k h2 (fun h => by
          rcases h with h | h
          · have := HJ.out.fs.lt k h; omega
          · have := HJ.out.js.lt k h; omega)
        have hres3 : w3.heap[w.heap.size]? = some (.cells #[.int .i64 0] 28 (0, 0)) := (own _ (Nat.le_refl _) (by omega)).trans HI.out.res
        have hD3 : w3.heap[D]? = some (.deferred (some [])) := (own D (by have := HS0'.out; omega) (lt_of_block HK.out)).trans HK.out
        have hbox3 : w3.cell? ⟨w.heap.size + 1, 0, none⟩ = some (.slice Al NL cl) := by
          rw [World.cell?_of_block (w := W) (a := ⟨w.heap.size + 1, 0, none⟩) (own (w.heap.size + 1) (by omega) (by omega))]
          exact HS0.out.2
        have HS3 : Hid (w3.cell? ⟨px, 0, none⟩ = some (.pointer (some ⟨pj, 0, none⟩)) ∧ w3.cell? ⟨w.heap.size + 1, 0, none⟩ = some (.slice Al NL cl)) := Lib.hid ⟨by simp [World.cell?, hix3.head], hbox3⟩
        have HS4 : Hid ((w3.setCell ⟨w.heap.size, 0, none⟩ (.int .i64 r.2)).cell? ⟨px, 0, none⟩ = some (.pointer (some ⟨pj, 0, none⟩)) ∧ (w3.setCell ⟨w.heap.size, 0, none⟩ (.int .i64 r.2)).cell? ⟨w.heap.size + 1, 0, none⟩ = some (.slice Al NL cl)) := Lib.hid ⟨(World.cell?_of_block (w := w3) (a := ⟨px, 0, none⟩) (setCell_block (a := ⟨w.heap.size, 0, none⟩) (show px ≠ w.heap.size by omega))).trans HS3.out.1, (World.cell?_of_block (w := w3) (a := ⟨w.heap.size + 1, 0, none⟩) (setCell_block (a := ⟨w.heap.size, 0, none⟩) (show w.heap.size + 1 ≠ w.heap.size by omega))).trans HS3.out.2⟩
        have hre := one_setJ (x := .int .i64 r.2) hres3
        have hD4 : (w3.setCell ⟨w.heap.size, 0, none⟩ (.int .i64 r.2)).heap[D]? = some (.deferred (some [])) := (setCell_block (a := ⟨w.heap.size, 0, none⟩) (show D ≠ w.heap.size by have := HS0'.out; omega)).trans hD3
        have hc3 : w3.cell? ⟨w.heap.size, 0, none⟩ = some (.int .i64 0) := by simp [World.cell?, hres3]
        have hf3 : w3.frozen? ⟨w.heap.size, 0, none⟩ = false := by simp [World.frozen?, hres3]
        obtain ⟨Wf, hWf⟩ : ∃ Wf, Wf = (w3.setCell ⟨w.heap.size, 0, none⟩ (.int .i64 r.2)).putObj D (.deferred none) := ⟨_, rfl⟩
        have hkf : Kept (fun k => w.heap.size ≤ k ∧ k < W.drew.heap.size) w3 Wf := by
          rw [hWf]
          have h1 : Kept (fun k => w.heap.size ≤ k ∧ k < W.drew.heap.size) w3 (w3.setCell ⟨w.heap.size, 0, none⟩ (.int .i64 r.2)) := (Kept.refl _ _).setCell (p := ⟨w.heap.size, 0, none⟩) (.inl ⟨Nat.le_refl _, by show w.heap.size < W.heap.size; omega⟩) _
          exact h1.grown (grownBy_putObj' _ D _) (fun k e => by cases e; exact .inl ⟨by have := HS0'.out; omega, by have := lt_of_block HK.out; exact this⟩)
        have hfc : Wf.cell? ⟨w.heap.size, 0, none⟩ = some (.int .i64 r.2) := by
          have h1 : Wf.heap[w.heap.size]? = some (.cells #[.int .i64 r.2] 28 (0, 0)) := by
            rw [hWf, putObj_heap _ D _ (show w.heap.size ≠ D by have := HS0'.out; omega)]; exact hre
          simp [World.cell?, h1]
        have HFIN : Hid (P (.returned (.int .i64 r.2)) Wf) := Lib.hid (by
          rw [HPO.out]
          refine ⟨r, by rw [← HROWS.out]; exact hr, rfl, ?_⟩
          rw [← HROWS.out]
          refine XPost.over HBD.out (fun k hk => ?_) HPO3.out hkf
          rcases hk with hk | hk | hk
          · exact HJ.out.fs.lt k hk
          · rcases (HH.out k).1 hk with h | h | h
            · exact HJ.out.js.lt k h
            · omega
            · omega
          · exact (HS.out k hk).1)
        have HWF := Lib.hid hWf; have HFC := Lib.hid hfc; have HD4 := Lib.hid hD4
        clear hpost hix3 hk3 own hres3 hD3 hbox3 hre hD4 hkf hfc hWf hr
        refine hK _ _ ⟨HS3.out, ?_⟩
        clear hK K
        refine wpAnyH_all (rs := [6]) (by kernel_rfl) (by simp) ?_
        intro i hi
        simp only [List.mem_cons, List.not_mem_nil, or_false] at hi
        subst hi
        refine wpOp_of rfl rfl (fun K hK => ?_)
        go_simp
        refine hK _ _ ⟨HS4.out, ?_⟩
        clear hK K
        refine wpAnyH_done (by kernel_rfl) ?_ _
        gi_wp2
        refine ⟨by simp, .inl ⟨_, _, rfl, run_takeDeferred HD4.out, ?_⟩⟩
        rw [← HWF.out]
        refine ⟨.int .i64 r.2, ?_, HFIN.out⟩
        have := HFC.out
        simp [results, Tryz.results23, go_sem, this]
    · refine wpOp_of rfl rfl (fun K hK => ?_)
      obtain ⟨s0, s1⟩ := HS0.out
      go_simp
      clear s0 s1
      refine hK _ _ ⟨HS0.out, ?_⟩
      clear hK K
      refine wpAnyH_all (rs := [0]) (by kernel_rfl) (by simp) ?_
      intro i hi
      simp only [List.mem_cons, List.not_mem_nil, or_false] at hi
      subst hi
      refine wpOp_of rfl rfl (fun K hK => ?_)
      obtain ⟨s0, s1⟩ := HS0.out
      go_simp
      clear s0 s1
      refine hK _ _ ⟨HS0.out, ?_⟩
      clear hK K
      refine wpAnyH_all (rs := [1]) (by kernel_rfl) (by simp) ?_
      intro i hi
      simp only [List.mem_cons, List.not_mem_nil, or_false] at hi
      subst hi
      refine wpOp_of rfl rfl (fun K hK => ?_)
      obtain ⟨s0, s1⟩ := HS0.out
      go_simp
      clear s0 s1
      refine hK _ _ ⟨HS0.out, ?_⟩
      clear hK K
      refine wpAnyH_all (rs := [2]) (by kernel_rfl) (by simp) ?_
      intro i hi
      simp only [List.mem_cons, List.not_mem_nil, or_false] at hi
      subst hi
      refine wpOp_of rfl rfl (fun K hK => ?_)
      obtain ⟨s0, s1⟩ := HS0.out
      go_simp
      clear s0 s1
      refine hK _ _ ⟨HS0.out, ?_⟩
      clear hK K
      refine wpAnyH_all (rs := [3]) (by kernel_rfl) (by simp) ?_
      intro i hi
      simp only [List.mem_cons, List.not_mem_nil, or_false] at hi
      subst hi
      refine wpOp_of rfl rfl (fun K hK => ?_)
      obtain ⟨s0, s1⟩ := HS0.out
      go_simp
      clear s0 s1
      refine hK _ _ ⟨HS0.out, ?_⟩
      clear hK K
      refine wpAnyH_all (rs := [5]) (by kernel_rfl) (by simp) ?_
      intro i hi
      simp only [List.mem_cons, List.not_mem_nil, or_false] at hi
      subst hi
      refine wpOp_of rfl rfl (fun K hK => ?_)
      go_simp
      refine HLY.out.mono ?_
      rintro e w3 ⟨r, hr, rfl, hjp⟩
      have hlt := HL.out
      have hz9 : w.heap.size + 3 ≤ W.heap.size := HI.out.size
      have hSW : ∀ k, S k → k < W.drew.heap.size ∧ ¬ F k ∧ ¬ H k := fun k hk => ⟨by have := (HS.out k hk).1; show k < W.heap.size; omega, (HS.out k hk).2⟩
      obtain ⟨hpost, hix3⟩ := XPost.journal (w := W.drew) (Below.refl _ _) (HIXW.out.keep (w' := W.drew) rfl rfl (fun _ _ => rfl)) HH.out hSW HN.out ⟨by show px < W.heap.size; omega, by show mb < W.heap.size; omega⟩ hjp
      have HPO3 := Lib.hid hpost; have HIX3 := Lib.hid hix3
      obtain ⟨F3, G3, -, hk3, -, -⟩ := hjp
      have hz3 : W.heap.size ≤ w3.heap.size := hk3.size
      have own : ∀ k, w.heap.size ≤ k → k < W.heap.size → w3.heap[k]? = W.heap[k]? := fun k h1 h2 => hk3.block k h2 (fun h => by
        rcases h with h | h
        · have := HJ.out.fs.lt k h; omega
        · have := HJ.out.js.lt k h; omega)
      have hres3 : w3.heap[w.heap.size]? = some (.cells #[.int .i64 0] 28 (0, 0)) := (own _ (Nat.le_refl _) (by omega)).trans HI.out.res
      have hD3 : w3.heap[D]? = some (.deferred (some [])) := (own D (by have := HS0'.out; omega) (lt_of_block HK.out)).trans HK.out
      have hbox3 : w3.cell? ⟨w.heap.size + 1, 0, none⟩ = some (.slice Al NL cl) := by
        rw [World.cell?_of_block (w := W) (a := ⟨w.heap.size + 1, 0, none⟩) (own (w.heap.size + 1) (by omega) (by omega))]
        exact HS0.out.2
      have HS3 : Hid (w3.cell? ⟨px, 0, none⟩ = some (.pointer (some ⟨pj, 0, none⟩)) ∧ w3.cell? ⟨w.heap.size + 1, 0, none⟩ = some (.slice Al NL cl)) := Lib.hid ⟨by simp [World.cell?, hix3.head], hbox3⟩
      have HS4 : Hid ((w3.setCell ⟨w.heap.size, 0, none⟩ (.int .i64 r.2)).cell? ⟨px, 0, none⟩ = some (.pointer (some ⟨pj, 0, none⟩)) ∧ (w3.setCell ⟨w.heap.size, 0, none⟩ (.int .i64 r.2)).cell? ⟨w.heap.size + 1, 0, none⟩ = some (.slice Al NL cl)) := Lib.hid ⟨(World.cell?_of_block (w := w3) (a := ⟨px, 0, none⟩) (setCell_block (a := ⟨w.heap.size, 0, none⟩) (show px ≠ w.heap.size by omega))).trans HS3.out.1, (World.cell?_of_block (w := w3) (a := ⟨w.heap.size + 1, 0, none⟩) (setCell_block (a := ⟨w.heap.size, 0, none⟩) (show w.heap.size + 1 ≠ w.heap.size by omega))).trans HS3.out.2⟩
      have hre := one_setJ (x := .int .i64 r.2) hres3
      have hD4 : (w3.setCell ⟨w.heap.size, 0, none⟩ (.int .i64 r.2)).heap[D]? = some (.deferred (some [])) := (setCell_block (a := ⟨w.heap.size, 0, none⟩) (show D ≠ w.heap.size by have := HS0'.out; omega)).trans hD3
      have hc3 : w3.cell? ⟨w.heap.size, 0, none⟩ = some (.int .i64 0) := by simp [World.cell?, hres3]
      have hf3 : w3.frozen? ⟨w.heap.size, 0, none⟩ = false := by simp [World.frozen?, hres3]
      obtain ⟨Wf, hWf⟩ : ∃ Wf, Wf = (w3.setCell ⟨w.heap.size, 0, none⟩ (.int .i64 r.2)).putObj D (.deferred none) := ⟨_, rfl⟩
      have hkf : Kept (fun k => w.heap.size ≤ k ∧ k < W.drew.heap.size) w3 Wf := by
        rw [hWf]
        have h1 : Kept (fun k => w.heap.size ≤ k ∧ k < W.drew.heap.size) w3 (w3.setCell ⟨w.heap.size, 0, none⟩ (.int .i64 r.2)) := (Kept.refl _ _).setCell (p := ⟨w.heap.size, 0, none⟩) (.inl ⟨Nat.le_refl _, by show w.heap.size < W.heap.size; omega⟩) _
        exact h1.grown (grownBy_putObj' _ D _) (fun k e => by cases e; exact .inl ⟨by have := HS0'.out; omega, by have := lt_of_block HK.out; exact this⟩)
      have hfc : Wf.cell? ⟨w.heap.size, 0, none⟩ = some (.int .i64 r.2) := by
        have h1 : Wf.heap[w.heap.size]? = some (.cells #[.int .i64 r.2] 28 (0, 0)) := by
          rw [hWf, putObj_heap _ D _ (show w.heap.size ≠ D by have := HS0'.out; omega)]; exact hre
        simp [World.cell?, h1]
      have HFIN : Hid (P (.returned (.int .i64 r.2)) Wf) := Lib.hid (by
        rw [HPO.out]
        refine ⟨r, by rw [← HROWS.out]; exact hr, rfl, ?_⟩
        rw [← HROWS.out]
        refine XPost.over HBD.out (fun k hk => ?_) HPO3.out hkf
        rcases hk with hk | hk | hk
        · exact HJ.out.fs.lt k hk
        · rcases (HH.out k).1 hk with h | h | h
          · exact HJ.out.js.lt k h
          · omega
          · omega
        · exact (HS.out k hk).1)
      have HWF := Lib.hid hWf; have HFC := Lib.hid hfc; have HD4 := Lib.hid hD4
      clear hpost hix3 hk3 own hres3 hD3 hbox3 hre hD4 hkf hfc hWf hr
      refine hK _ _ ⟨HS3.out, ?_⟩
      clear hK K
      refine wpAnyH_all (rs := [6]) (by kernel_rfl) (by simp) ?_
      intro i hi
      simp only [List.mem_cons, List.not_mem_nil, or_false] at hi
      subst hi
      refine wpOp_of rfl rfl (fun K hK => ?_)
      go_simp
      refine hK _ _ ⟨HS4.out, ?_⟩
      clear hK K
      refine wpAnyH_done (by kernel_rfl) ?_ _
      gi_wp2
      refine ⟨by simp, .inl ⟨_, _, rfl, run_takeDeferred HD4.out, ?_⟩⟩
      rw [← HWF.out]
      refine ⟨.int .i64 r.2, ?_, HFIN.out⟩
      have := HFC.out
      simp [results, Tryz.results23, go_sem, this]
  case stop =>
    rintro D c pre W _ _ h _
    exact h.elim
end Go.Proofs.YtaalbcfpacpgfaaGreat
