/- bodySize. -/
import Derived.Test.YtffblcefnckacaaDoorFS
import Derived.Test.YtffblcefnckacaaDoorFH
namespace Go.Proofs.YtffblcefnckacaaDoor
open Go.RowKit Go.Lib Go.Vfs Go.Par Go.Frm Go.Shelf
set_option linter.unusedVariables false
set_option linter.unusedSimpArgs false
attribute [local go_sem] Oper.semAt_some

/-- 'string(b)' -/
theorem conv_seg {w : World} {B : Nat} {v : Value} {l : List UInt8} (h : Seg w B v (Lib.byteCells l)) : (convert 22 9 v).run Tryd.prog w = .ok (.string ⟨l.toArray⟩) w := by
  obtain ⟨A, c, rfl, hc, hm, hat⟩ := h
  rw [Lib.byteCells_length] at hat ⊢
  rcases A with _ | a
  · have h0 : l.length = 0 := by
      rcases Nat.eq_zero_or_pos l.length with h | h
      · exact h
      · obtain ⟨_, _, e, _⟩ := hat h; cases e
    have : l = [] := List.eq_nil_of_length_eq_zero h0
    subst this
    rw [List.length_nil, run_convert_bytes_string _ 22 9 5 none 0 c Tryd.underlying22 Tryd.underlying5 Tryd.underlying9]
    rfl
  · refine run_convert_bytes_back (P := Tryd.prog) w 22 9 5 a c l Tryd.underlying22 Tryd.underlying5 Tryd.underlying9 (fun j hj => ?_)
    obtain ⟨b, off, e, _, hcell⟩ := hat (by omega)
    cases e
    rw [add_addr, hcell j hj]
    simp [Lib.byteCells, hj]

theorem scan_snoc : ∀ (ls : List (List UInt8)) (l : List UInt8) (s k : Nat), scan (ls ++ [l]) s k = match scan ls s k with
    | none => none
    | some (s', k') => match fieldV l with
      | none => none
      | some none => some (s', k')
      | some (some n) => some (n, k' + 1)
  | [], l, s, k => by
    show scan [l] s k = match some (s, k) with
      | none => none
      | some (s', k') => match fieldV l with
        | none => none
        | some none => some (s', k')
        | some (some n) => some (n, k' + 1)
    unfold scan
    cases fieldV l with
    | none => rfl
    | some o => cases o <;> rfl
  | x :: ls, l, s, k => by
    rw [List.cons_append]
    unfold scan
    cases fieldV x with
    | none => rfl
    | some o => cases o with
      | none => exact scan_snoc ls l s k
      | some n => exact scan_snoc ls l n (k + 1)
theorem scan_none_app : ∀ (ls rs : List (List UInt8)) (s k : Nat), scan ls s k = none → scan (ls ++ rs) s k = none
  | [], rs, s, k, h => by cases h
  | x :: ls, rs, s, k, h => by
    rw [List.cons_append]
    unfold scan at h ⊢
    cases hf : fieldV x with
    | none => rfl
    | some o => cases o with
      | none => rw [hf] at h; exact scan_none_app ls rs s k h
      | some n => rw [hf] at h; exact scan_none_app ls rs n (k + 1) h

/-- the cells behind the lines pre. -/
structure BI (w : World) (pre : List Ln) (s k : Nat) (W : World) : Prop where
  c2 : W.heap[w.heap.size]? = some (.cells #[.int .i64 0] 3 (0, 0))
  c3 : W.heap[w.heap.size + 1]? = some (.cells #[.int .i64 0] 25 (0, 0))
  c4 : W.heap[w.heap.size + 2]? = some (.cells #[.int .i64 (s : Nat)] 3 (0, 0))
  c5 : W.heap[w.heap.size + 3]? = some (.cells #[.int .i64 (k : Nat)] 3 (0, 0))
  sc : scan (pre.map (·.2.2)) 0 0 = some (s, k)
  sl : s < 1000000
  kl : k ≤ pre.length
  old : Below w.heap.size w W
  size : w.heap.size + 5 ≤ W.heap.size
/-- where a line was wrong. -/
structure BX (w : World) (pre : List Ln) (W : World) : Prop where
  c2 : W.heap[w.heap.size]? = some (.cells #[.int .i64 0] 3 (0, 0))
  c3 : W.heap[w.heap.size + 1]? = some (.cells #[.int .i64 30] 25 (0, 0))
  sc : scan (pre.map (·.2.2)) 0 0 = none
  old : Below w.heap.size w W
  size : w.heap.size + 5 ≤ W.heap.size
theorem below_kept {w W W' : World} {Bn : Nat} (h : Below w.heap.size w W) (k : Kept (· = Bn) W W') (hB : w.heap.size ≤ Bn) : Below w.heap.size w W' :=
  h.trans (k.below h.size fun x hx => by rw [hx]; exact hB)
theorem below_put {w W : World} {q : Nat} {o : Obj} (h : Below w.heap.size w W) (hq : w.heap.size ≤ q) : Below w.heap.size w (W.putObj q o) :=
  ⟨h.os, h.tape, h.output, by have := h.size; simpa using this, fun k hk => (World.putObj_heap_other (by omega)).trans (h.block k hk)⟩
theorem BI.mv {w : World} {pre : List Ln} {s k : Nat} {W W' : World} (h : BI w pre s k W) (hk : Kept (· = w.heap.size + 4) W W') : BI w pre s k W' :=
  ⟨(hk.block _ (lt_of_block h.c2) (by omega)).trans h.c2, (hk.block _ (lt_of_block h.c3) (by omega)).trans h.c3, (hk.block _ (lt_of_block h.c4) (by omega)).trans h.c4, (hk.block _ (lt_of_block h.c5) (by omega)).trans h.c5,
   h.sc, h.sl, h.kl, below_kept h.old hk (by omega), Nat.le_trans h.size hk.size⟩
theorem BI.put {w : World} {pre : List Ln} {s k : Nat} {W : World} {q : Nat} {o : Obj} (h : BI w pre s k W) (hq : w.heap.size + 5 ≤ q) : BI w pre s k (W.putObj q o) :=
  ⟨(World.putObj_heap_other (by omega)).trans h.c2, (World.putObj_heap_other (by omega)).trans h.c3, (World.putObj_heap_other (by omega)).trans h.c4, (World.putObj_heap_other (by omega)).trans h.c5,
   h.sc, h.sl, h.kl, below_put h.old (by omega), by have := h.size; simpa using this⟩
theorem BX.mv {w : World} {pre : List Ln} {W W' : World} (h : BX w pre W) (hk : Kept (· = w.heap.size + 4) W W') : BX w pre W' :=
  ⟨(hk.block _ (lt_of_block h.c2) (by omega)).trans h.c2, (hk.block _ (lt_of_block h.c3) (by omega)).trans h.c3, h.sc, below_kept h.old hk (by omega), Nat.le_trans h.size hk.size⟩
theorem BX.put {w : World} {pre : List Ln} {W : World} {q : Nat} {o : Obj} (h : BX w pre W) (hq : w.heap.size + 5 ≤ q) : BX w pre (W.putObj q o) :=
  ⟨(World.putObj_heap_other (by omega)).trans h.c2, (World.putObj_heap_other (by omega)).trans h.c3, h.sc, below_put h.old (by omega), by have := h.size; simpa using this⟩

set_option maxRecDepth 20000 in
theorem lines_any (A : Option Addr) (n c : Nat) (w : World) : Calls Tryd.prog 38 #[.slice A n c] w fun e w' => e = .returned (.func (.func 55) #[] #[.pointer (some ⟨w.heap.size, 0, none⟩)]) ∧ w' = w.alloc (.cells #[.slice A n c] 22) := by
  go_enter Tryd.func38, Tryd.ntmps38
  go_wp2
  go_ret
  exact ⟨rfl, rfl⟩

/-- the size and the error of a head. -/
def sizeE (l : List UInt8) : Int × Int := match lengthV l with
  | none => (0, 30)
  | some s => if 65536 < s then (0, 31) else (s, 0)

/-- the books lie as they lay. -/
theorem keepB_of {q : Nat} {W W' : World} (h : ∀ k, q ≤ k → k < W.heap.size → W'.heap[k]? = W.heap[k]?) : KeepB q W W' := fun r hr =>
  ⟨(h _ (by omega) (lt_of_block hr.loop)).trans hr.loop, (h _ (Nat.le_refl _) (lt_of_block hr.calls)).trans hr.calls⟩
def K5 (w : World) (k : Nat) : Prop := k = w.heap.size + 4 ∨ k < w.heap.size
theorem below_set {w X : World} {p : Addr} {u : Value} (h : Below w.heap.size w X) (hp : w.heap.size ≤ p.block) : Below w.heap.size w (X.setCell p u) :=
  ⟨h.os, h.tape, h.output, by have := h.size; simpa using this, fun k hk => (setCell_block (by omega)).trans (h.block k hk)⟩
theorem BI.ret {w : World} {pre : List Ln} {s k : Nat} {W X : World} (h : BI w pre s k W) (hb : Below W.heap.size W X) (x : Ln) (hx : fieldV x.2.2 = none) :
    KeepB (w.heap.size + 5) W ((X.setCell ⟨w.heap.size, 0, none⟩ (.int .i64 0)).setCell ⟨w.heap.size + 1, 0, none⟩ (.int .i64 30)) ∧ BX w (pre ++ [x]) ((X.setCell ⟨w.heap.size, 0, none⟩ (.int .i64 0)).setCell ⟨w.heap.size + 1, 0, none⟩ (.int .i64 30)) := by
  have hz := h.size
  have x2 := (hb.block _ (lt_of_block h.c2)).trans h.c2
  have x3 := (hb.block _ (lt_of_block h.c3)).trans h.c3
  refine ⟨keepB_of fun j hj hjl => ?_, ?_, ?_, ?_, ?_, ?_⟩
  · rw [setCell_block (by dsimp only; omega), setCell_block (by dsimp only; omega), hb.block j hjl]
  · rw [setCell_block (by show _ ≠ w.heap.size + 1; omega)]; exact one_setJ x2
  · exact one_setJ (by rw [setCell_block (by show _ ≠ w.heap.size; omega)]; exact x3)
  · rw [List.map_append, List.map_cons, List.map_nil, scan_snoc, h.sc]; simp only; rw [hx]
  · exact below_set (below_set (h.old.trans (hb.mono (by omega))) (Nat.le_refl _)) (by show _ ≤ w.heap.size + 1; omega)
  · have := hb.size; simp; omega
theorem BI.cont {w : World} {pre : List Ln} {s k : Nat} {W X : World} (h : BI w pre s k W) (hb : Below W.heap.size W X) (x : Ln) (hx : fieldV x.2.2 = some none) :
    KeepB (w.heap.size + 5) W X ∧ KpL (K5 w) W X ∧ BI w (pre ++ [x]) s k X := by
  have hz := h.size
  refine ⟨keepB_of fun j hj hjl => hb.block j hjl, ⟨hb.size, fun j hj => hb.block j (by rcases hj with rfl | hj <;> omega)⟩, ?_⟩
  refine ⟨(hb.block _ (lt_of_block h.c2)).trans h.c2, (hb.block _ (lt_of_block h.c3)).trans h.c3, (hb.block _ (lt_of_block h.c4)).trans h.c4, (hb.block _ (lt_of_block h.c5)).trans h.c5, ?_, h.sl, ?_, h.old.trans (hb.mono (by omega)), by have := hb.size; omega⟩
  · rw [List.map_append, List.map_cons, List.map_nil, scan_snoc, h.sc]; simp only; rw [hx]
  · have := h.kl; simp; omega
theorem BI.num {w : World} {pre : List Ln} {s k : Nat} {W X : World} (h : BI w pre s k W) (hb : Below W.heap.size W X) (x : Ln) (n : Nat) (hn : n < 1000000) (hx : fieldV x.2.2 = some (some n)) :
    KeepB (w.heap.size + 5) W ((X.setCell ⟨w.heap.size + 2, 0, none⟩ (.int .i64 (n : Nat))).setCell ⟨w.heap.size + 3, 0, none⟩ (.int .i64 ((k + 1 : Nat) : Nat))) ∧ KpL (K5 w) W ((X.setCell ⟨w.heap.size + 2, 0, none⟩ (.int .i64 (n : Nat))).setCell ⟨w.heap.size + 3, 0, none⟩ (.int .i64 ((k + 1 : Nat) : Nat))) ∧ BI w (pre ++ [x]) n (k + 1) ((X.setCell ⟨w.heap.size + 2, 0, none⟩ (.int .i64 (n : Nat))).setCell ⟨w.heap.size + 3, 0, none⟩ (.int .i64 ((k + 1 : Nat) : Nat))) := by
  have hz := h.size
  have x4 := (hb.block _ (lt_of_block h.c4)).trans h.c4
  have x5 := (hb.block _ (lt_of_block h.c5)).trans h.c5
  refine ⟨keepB_of fun j hj hjl => ?_, ⟨by have := hb.size; simpa using this, fun j hj => ?_⟩, ?_⟩
  · rw [setCell_block (by dsimp only; omega), setCell_block (by dsimp only; omega), hb.block j hjl]
  · rw [setCell_block (by dsimp only; rcases hj with rfl | hj <;> omega), setCell_block (by dsimp only; rcases hj with rfl | hj <;> omega), hb.block j (by rcases hj with rfl | hj <;> omega)]
  · refine ⟨?_, ?_, ?_, ?_, ?_, hn, ?_, ?_, ?_⟩
    · rw [setCell_block (by show _ ≠ w.heap.size + 3; omega), setCell_block (by show _ ≠ w.heap.size + 2; omega)]; exact (hb.block _ (lt_of_block h.c2)).trans h.c2
    · rw [setCell_block (by show _ ≠ w.heap.size + 3; omega), setCell_block (by show _ ≠ w.heap.size + 2; omega)]; exact (hb.block _ (lt_of_block h.c3)).trans h.c3
    · rw [setCell_block (by show _ ≠ w.heap.size + 3; omega)]; exact one_setJ x4
    · exact one_setJ (by rw [setCell_block (by show _ ≠ w.heap.size + 2; omega)]; exact x5)
    · rw [List.map_append, List.map_cons, List.map_nil, scan_snoc, h.sc]; simp only; rw [hx]
    · have := h.kl; simp; omega
    · exact below_set (below_set (h.old.trans (hb.mono (by omega))) (by show _ ≤ w.heap.size + 2; omega)) (by show _ ≤ w.heap.size + 3; omega)
    · have := hb.size; simp; omega
theorem BI.cells {w : World} {pre : List Ln} {s k : Nat} {W X : World} (h : BI w pre s k W) (hb : Below W.heap.size W X) :
    (X.cell? ⟨w.heap.size, 0, none⟩ = some (.int .i64 0) ∧ X.frozen? ⟨w.heap.size, 0, none⟩ = false) ∧ (X.cell? ⟨w.heap.size + 1, 0, none⟩ = some (.int .i64 0) ∧ X.frozen? ⟨w.heap.size + 1, 0, none⟩ = false) ∧
    (X.cell? ⟨w.heap.size + 2, 0, none⟩ = some (.int .i64 (s : Nat)) ∧ X.frozen? ⟨w.heap.size + 2, 0, none⟩ = false) ∧ (X.cell? ⟨w.heap.size + 3, 0, none⟩ = some (.int .i64 (k : Nat)) ∧ X.frozen? ⟨w.heap.size + 3, 0, none⟩ = false) :=
  ⟨one_cellJ ((hb.block _ (lt_of_block h.c2)).trans h.c2), one_cellJ ((hb.block _ (lt_of_block h.c3)).trans h.c3), one_cellJ ((hb.block _ (lt_of_block h.c4)).trans h.c4), one_cellJ ((hb.block _ (lt_of_block h.c5)).trans h.c5)⟩

theorem leftV_seg {S : Nat → Prop} {w : World} {A : Option Addr} {n c : Nat} {v : List UInt8} (h : SegS S w (.slice A n c) (byteCells v)) (hn : n = v.length) (hnil : A = none → c = 0) :
    ∃ A3 c3, leftV A (Lib.trimRightS v [32, 9]).length c ((Lib.trimRightS v [32, 9]).length - (Frm.trimB v).length) = .slice A3 (Frm.trimB v).length c3 ∧ SegS S w (.slice A3 (Frm.trimB v).length c3) (byteCells (Frm.trimB v)) := by
  subst hn
  have ht := trimRightS_eq_take v [32, 9]
  have hlen := trimRightS_len_le v [32, 9]
  have hs : Frm.trimB v <:+ Lib.trimRightS v [32, 9] := by rw [← trimS_eq]; exact List.dropWhile_suffix _
  have hd := List.suffix_iff_eq_drop.1 hs
  have hle := hs.length_le
  generalize Lib.trimRightS v [32, 9] = tr at *
  generalize Frm.trimB v = z at *
  unfold leftV
  by_cases h0 : tr.length - z.length = tr.length
  · rw [if_pos h0]
    have hz : z = [] := by
      rw [h0, List.drop_length] at hd; exact hd
    subst hz
    exact ⟨none, 0, rfl, none, 0, rfl, Nat.le_refl _, by simp [maxLen], fun h => by simp [byteCells] at h⟩
  · rw [if_neg h0]
    obtain ⟨-, hf⟩ := seg_front h rfl tr.length hlen
    rw [← ht] at hf
    obtain ⟨A2, e2, hs2, -⟩ := seg_from hf rfl (tr.length - z.length) (by omega) hnil
    rw [← hd] at e2 hs2
    exact ⟨A2, _, e2, hs2⟩
theorem fin_size {w W : World} {tm : Array Value} {q : Nat} {z e : Int} (t2 : tm.getD 2 undef = .pointer (some ⟨w.heap.size, 0, none⟩)) (t3 : tm.getD 3 undef = .pointer (some ⟨w.heap.size + 1, 0, none⟩)) (hq : w.heap.size + 5 = q)
    (hd : W.heap[q]? = some (.deferred (some []))) (h2 : W.heap[w.heap.size]? = some (.cells #[.int .i64 z] 3 (0, 0))) (h3 : W.heap[w.heap.size + 1]? = some (.cells #[.int .i64 e] 25 (0, 0))) (hb : Below w.heap.size w W) :
    bodyPostM Fence.wide 7 Tryd.prog Tryd.f32 (fun e' w' => e' = .returned (.tuple #[.int .i64 z, .int .i64 e]) ∧ Below w.heap.size w w') .ret { tmps := tm, defers := [{ target := .collected q, args := #[] }] } W := by
  refine ⟨by simp, .inl ⟨_, _, rfl, run_takeDeferred hd, ?_⟩⟩
  have k2 : (W.putObj q (.deferred none)).cell? ⟨w.heap.size, 0, none⟩ = some (.int .i64 z) := (one_cellJ ((World.putObj_heap_other (by omega)).trans h2)).1
  have k3 : (W.putObj q (.deferred none)).cell? ⟨w.heap.size + 1, 0, none⟩ = some (.int .i64 e) := (one_cellJ ((World.putObj_heap_other (by omega)).trans h3)).1
  refine ⟨.tuple #[.int .i64 z, .int .i64 e], ?_, rfl, below_put hb (by omega)⟩
  have hrs : Tryd.f32.results = #[.cell 2 3, .cell 3 25] := rfl
  have a3 := Tryd.isAgg3; have a25 := Tryd.isAgg25; have z3 := Tryd.sizeOf3; have z25 := Tryd.sizeOf25
  have t2' : tm[2]?.getD undef = .pointer (some ⟨w.heap.size, 0, none⟩) := by simpa using t2
  have t3' : tm[3]?.getD undef = .pointer (some ⟨w.heap.size + 1, 0, none⟩) := by simpa using t3
  simp [results, hrs, t2', t3', k2, k3, go_sem]

set_option maxRecDepth 100000 in
set_option maxHeartbeats 2000000 in
theorem bodySize_any (A : Option Addr) (c : Nat) (l : List UInt8) (w : World) (m : Int) (h : Seg w w.heap.size (.slice A l.length c) (Lib.byteCells l)) (hnil : A = none → c = 0) (h2 : 2 ≤ l.length) (hl : l.length ≤ 1024) (hends : l.take (l.length - 2) = [] ∨ EndsLn (l.take (l.length - 2))) (hT : Tabs w) (hm : w.cell? ⟨0, 0, none⟩ = some (.int .i64 m)) :
    Calls Tryd.prog 32 #[.slice A l.length c] w fun e w' => e = .returned (.tuple #[.int .i64 (sizeE l).1, .int .i64 (sizeE l).2]) ∧ Below w.heap.size w w' := by
  have hz : 0 < w.heap.size := World.block_lt_of_cell? _ _ hm
  obtain ⟨hc, hsf⟩ := seg_front (S := (· < w.heap.size)) h rfl (l.length - 2) (by omega)
  obtain ⟨b, hb⟩ : ∃ b, b = l.take (l.length - 2) := ⟨_, rfl⟩
  have hbl : b.length = l.length - 2 := by rw [hb, List.length_take]; omega
  rw [← hb] at hsf hends
  have HLV : Hid (lengthV l = match scan (lines b) 0 0 with
    | some (s, 1) => some s
    | _ => none) := Lib.hid (by rw [hb]; exact scan_len l)
  obtain ⟨r, hr⟩ : ∃ r, r = sizeE l := ⟨_, rfl⟩
  rw [← hr]
  have HR := Lib.hid hr
  clear hr hb h
  have e2 : (l.length : Int) - 2 = ((l.length - 2 : Nat) : Int) := by omega
  obtain ⟨n2, hn2⟩ : ∃ n2, n2 = l.length - 2 := ⟨_, rfl⟩
  rw [← hn2] at e2 hsf hbl hc
  have hl2 : l.length = n2 + 2 := by omega
  have HL2 := Lib.hid hl2
  refine (callsIn_wide (n := 7)).1 ?_
  refine callsIn_of_wp_marks Tryd.func32 rfl trivial ?_ rfl
  simp only [Tryd.ntmps32, List.size_toArray, List.length_cons, List.length_nil, Nat.reduceAdd, Nat.reduceSub, Array.replicate_succ, Array.replicate_zero, List.push_toArray, List.append_toArray, List.nil_append, List.cons_append]
  rw [hl2] at *
  clear hl2 hn2
  gi_wp2_with (refine ⟨trivial, ?_⟩; gi_at_call 38; refine (callsIn_wide.2 (lines_any _ _ _ _)).mono ?_; rintro e w1 ⟨rfl, rfl⟩)
  obtain ⟨W0, hW0⟩ : ∃ W0, W0 = (((((w.alloc (Obj.cells #[Value.int IntKind.i64 0] 3)).alloc (Obj.cells #[Value.int IntKind.i64 0] 25)).alloc (Obj.cells #[Value.int IntKind.i64 0] 3)).alloc (Obj.cells #[Value.int IntKind.i64 0] 3)).alloc (Obj.cells #[Value.slice A n2 c] 22)) := ⟨_, rfl⟩
  rw [← hW0]
  have hs0 : W0.heap.size = w.heap.size + 5 := by rw [hW0]; simp
  have hb0 : Below w.heap.size w W0 := by
    rw [hW0]
    exact (((((Below.refl _ w).alloc (Nat.le_refl _) _).alloc (by simp) _).alloc (by simp; omega) _).alloc (by simp; omega) _).alloc (by simp; omega) _
  have hk5 : W0.heap[w.heap.size]? = some (.cells #[.int .i64 0] 3 (0, 0)) ∧ W0.heap[w.heap.size + 1]? = some (.cells #[.int .i64 0] 25 (0, 0)) ∧ W0.heap[w.heap.size + 2]? = some (.cells #[.int .i64 0] 3 (0, 0)) ∧ W0.heap[w.heap.size + 3]? = some (.cells #[.int .i64 0] 3 (0, 0)) ∧ W0.heap[w.heap.size + 4]? = some (.cells #[.slice A n2 c] 22 (0, 0)) := by
    rw [hW0]
    simp only [World.alloc, Array.getElem?_push, Array.size_push]
    refine ⟨?_, ?_, ?_, ?_, ?_⟩ <;> simp <;> omega
  obtain ⟨k0, k1, k2, k3, k4⟩ := hk5
  clear hW0
  have hm0 : W0.cell? ⟨0, 0, none⟩ = some (.int .i64 m) := (hb0.cell (p := ⟨0, 0, none⟩) hz).trans hm
  subst hbl
  have hLT := lines_told W0 (w.heap.size + 4) A c b (K5 w) m (.inr hz) (.inl rfl) (fun k hk => by rcases hk with rfl | hk <;> omega) (by omega) k4 (hsf.keep fun k hk => ⟨⟨.inr hk, by omega⟩, hb0.block k hk⟩) hnil hends (by omega) hm0
  have hBI0 : BI w [] 0 0 W0 := ⟨k0, k1, k2, k3, rfl, by omega, by simp, hb0, by omega⟩
  have HLT := Lib.hid hLT; have HBI0 := Lib.hid hBI0; have HS0 := Lib.hid hs0; have HTB := Lib.hid hT; have HM := Lib.hid hm
  clear hLT hBI0 k0 k1 k2 k3 k4 hm0 hT hm hb0 hsf hends
  refine wpIn_range_told (F := Fence.wide) rfl (by omega) (gf := 55) (lb := #[.pointer (some ⟨w.heap.size + 1 + 1 + 1 + 1, 0, none⟩)]) rfl trivial (enters_of Tryd.func55 (by kernel_rfl) rfl)
    HLT.out (fun hb => Kept.of_below hb) ?hMk (fun h k => h.t k) ?hKb (fun _ => rfl)
    (fun pre W => ∃ s k, BI w pre s k W) (fun cd xs W => cd = .ret ∧ BX w xs W) ?hI ?hIp ?hIx ?hIxp ?hCp (fun _ _ _ => trivial) ⟨0, 0, HBI0.out⟩
    (fun x => { tmps := #[.slice A (b.length + 2) c, undef, .pointer (some ⟨w.heap.size, 0, none⟩), .pointer (some ⟨w.heap.size + 1, 0, none⟩), .pointer (some ⟨w.heap.size + 1 + 1, 0, none⟩), .pointer (some ⟨w.heap.size + 1 + 1 + 1, 0, none⟩), .slice x.1 x.2.2.length x.2.1, undef, undef, undef, undef, undef, .slice A (b.length + 2) c, .slice A (b.length + 2) c, .int .i64 ((b.length : Int) + 2), .int .i64 (b.length : Int), .slice A b.length c, .func (.func 55) #[] #[.pointer (some ⟨w.heap.size + 1 + 1 + 1 + 1, 0, none⟩)], .slice x.1 x.2.2.length x.2.1, undef, undef, undef, undef, undef, undef, undef, undef, undef, undef, undef, undef, undef, undef, undef, undef, undef, undef, undef, undef, undef, undef, undef, undef, undef, undef, undef, undef, undef, undef, undef, undef, undef, undef, undef, undef, undef, undef, undef], defers := [] }) ?assign ?body ?done ?stop
  case hMk =>
    intro X Y r hbk hk
    exact ⟨(hk.block _ (lt_of_block hbk.loop) (by have := HS0.out; omega)).trans hbk.loop, (hk.block _ (lt_of_block hbk.calls) (by have := HS0.out; omega)).trans hbk.calls⟩
  case hKb =>
    intro W r r' _
    exact ⟨by simp, fun k hk => World.putObj_heap_other (by have := HS0.out; rcases hk with rfl | hk <;> omega)⟩
  case hI =>
    rintro pre X Y ⟨s, k, hi⟩ hk
    exact ⟨s, k, hi.mv hk⟩
  case hIp =>
    rintro pre X r r' _ ⟨s, k, hi⟩
    exact ⟨s, k, hi.put (by have := HS0.out; omega)⟩
  case hIx =>
    rintro cd pre X Y ⟨h1, hi⟩ hk
    exact ⟨h1, hi.mv hk⟩
  case hIxp =>
    rintro cd pre X r r' _ ⟨h1, hi⟩
    exact ⟨h1, hi.put (by have := HS0.out; omega)⟩
  case hCp =>
    rintro x X r r' _ ⟨h1, h2⟩
    exact ⟨h1.keep fun k hk => ⟨hk, World.putObj_heap_other (by have := HS0.out; rcases hk.1 with rfl | hk <;> omega)⟩, h2⟩
  case assign =>
    rintro l0 ⟨Ax, cx, line⟩ W K hK
    have HK := Lib.hid hK; clear hK
    dsimp only [encL]
    gi_wp2
    exact HK.out
  case body =>
    rintro l0 pre ⟨Ax, cx, line⟩ W ⟨s, k, hi⟩ ⟨hxs, hxnil, hxl⟩ hlen ⟨rr, hbk⟩
    dsimp only at hxs hxnil hxl ⊢
    have hf39 : Fence.wide.fn 39 := trivial
    have hf40 : Fence.wide.fn 40 := trivial
    have hf41 : Fence.wide.fn 41 := trivial
    have hf42 : Fence.wide.fn 42 := trivial
    have hf43 : Fence.wide.fn 43 := trivial
    have hf44 : Fence.wide.fn 44 := trivial
    have hcv := fun (W : World) => Lib.run_convert_bytes_const (P := Tryd.prog) W 22 5 #[Value.int IntKind.u8 58] 1 1 Tryd.underlying22 Tryd.underlying5
    have hzW := hi.size
    have hSlt : ∀ k, (K5 w k ∧ k ≠ w.heap.size + 4) → k < W.heap.size := fun k hk => by rcases hk.1 with rfl | h <;> omega
    have hbl : Below W.heap.size W (W.alloc (Obj.cells #[Value.int IntKind.u8 58] 5 (1, 2))) := (Below.refl _ _).alloc (Nat.le_refl _) _
    have hmW : W.cell? ⟨0, 0, none⟩ = some (.int .i64 m) := (hi.old.cell (p := ⟨0, 0, none⟩) hz).trans HM.out
    have hTW : Tabs W := HTB.out.below hi.old
    have hcut := cut_seg Ax (some ⟨W.heap.size, 0, none⟩) cx 1 line [58] (W.heap.size + 1) (W.alloc (Obj.cells #[Value.int IntKind.u8 58] 5 (1, 2))) m
      (((hxs.seg hSlt).below hbl).more (by omega)) (Seg.lit W 5 (1, 2) _ (Lib.byteCells [58]) rfl (by simp [maxLen, Lib.byteCells])) hxnil (by omega) ((hbl.cell (p := ⟨0, 0, none⟩) (by show 0 < _; omega)).trans hmW)
    have hfv := progField_eq line
    rw [index_col] at hcut
    have HI := Lib.hid hi
    have hs7 := hi.kl
    have hkb : k < 2000 := by omega
    cases hv : val line with
    | nil =>
      rw [hv, if_pos rfl] at hcut
      have HF : Hid (fieldV line = none) := Lib.hid (by rw [← hfv]; unfold progField; rw [hv])
      have HCUT : Hid (Calls Tryd.prog 39 #[.slice Ax line.length cx, .slice (some ⟨W.heap.size, 0, none⟩) 1 1] (W.alloc (Obj.cells #[Value.int IntKind.u8 58] 5 (1, 2))) fun e w1 => e = .returned (.tuple #[.slice Ax line.length cx, .slice none 0 0, .bool false]) ∧ Hid (Below W.heap.size W w1) ∧ ((w1.cell? ⟨w.heap.size, 0, none⟩ = some (.int .i64 0) ∧ w1.frozen? ⟨w.heap.size, 0, none⟩ = false) ∧ (w1.cell? ⟨w.heap.size + 1, 0, none⟩ = some (.int .i64 0) ∧ w1.frozen? ⟨w.heap.size + 1, 0, none⟩ = false))) := Lib.hid (by
        refine hcut.mono ?_
        rintro e w1 ⟨rfl, q, rfl⟩
        have hb1 := below_drewN hbl q
        have hce := hi.cells hb1
        exact ⟨rfl, Lib.hid hb1, hce.1, hce.2.1⟩)
      clear hcut hfv hi hxs hxnil hbl hmW hTW hSlt hv hbk hs7
      gi_wp2_with (gi_at_call 39; refine (CallsIn.inRound l0 (callsIn_wide.2 HCUT.out)).mono ?_; rintro e w1 ⟨rfl, HB1, ⟨q0, f0⟩, ⟨q1, f1⟩⟩)
      obtain ⟨y1, y2⟩ := HI.out.ret HB1.out (Ax, cx, line) HF.out
      rw [HS0.out]
      exact ⟨y1, rfl, y2⟩
    | cons c0 v =>
      rw [hv, if_neg (by simp)] at hcut
      have hcv58 : c0 = 58 := by
        have h := List.head?_dropWhile_not (· != 58) line
        rw [show List.dropWhile (· != 58) line = c0 :: v from hv] at h
        simpa using h
      have hlc : (col line).length + (v.length + 1) = line.length := by
        have := congrArg List.length (col_val line); rw [hv] at this; simpa using this
      have hcol : line.take (col line).length = col line := by
        conv => lhs; arg 2; rw [← col_val line]
        rw [List.take_left]
      have hval : line.drop ((col line).length + 1) = v := by
        have h1 : line.drop (col line).length = c0 :: v := by
          conv => lhs; arg 2; rw [← col_val line]
          rw [List.drop_left, hv]
        rw [← List.drop_drop, h1]; rfl
      obtain ⟨J, hJ⟩ : ∃ J, J = (col line).length := ⟨_, rfl⟩
      rw [← hJ] at hcut hlc hcol hval
      obtain ⟨-, hsn⟩ := seg_front hxs rfl J (by omega)
      obtain ⟨A2, e2, hsv, hnil2⟩ := seg_from hxs rfl (J + 1) (by omega) hxnil
      rw [hcol] at hsn
      rw [hval] at e2 hsv
      obtain ⟨A3, c3, e3, hst⟩ := leftV_seg hsv rfl hnil2
      obtain ⟨c2, hc2⟩ : ∃ c2, c2 = cx - (J + 1) := ⟨_, rfl⟩
      rw [← hc2] at e2 hsv hnil2 e3
      have hcut2 : Lib.cutV Ax line.length cx ([58] : List UInt8).length (J : Int) = .tuple #[.slice Ax J cx, .slice A2 v.length c2, .bool true] := by
        unfold Lib.cutV
        rw [if_pos (by omega), show ([58] : List UInt8).length = 1 from rfl, Int.toNat_natCast, e2]
      rw [hcut2] at hcut
      have HCUT : Hid (Calls Tryd.prog 39 #[.slice Ax line.length cx, .slice (some ⟨W.heap.size, 0, none⟩) 1 1] (W.alloc (Obj.cells #[Value.int IntKind.u8 58] 5 (1, 2))) fun e w1 => e = .returned (.tuple #[.slice Ax J cx, .slice A2 v.length c2, .bool true]) ∧ Hid (Below W.heap.size W w1) ∧ ((w1.cell? ⟨w.heap.size, 0, none⟩ = some (.int .i64 0) ∧ w1.frozen? ⟨w.heap.size, 0, none⟩ = false) ∧ (w1.cell? ⟨w.heap.size + 1, 0, none⟩ = some (.int .i64 0) ∧ w1.frozen? ⟨w.heap.size + 1, 0, none⟩ = false))) := Lib.hid (by
        refine hcut.mono ?_
        rintro e w1 ⟨rfl, q, rfl⟩
        have hb1 := below_drewN hbl q
        have hce := hi.cells hb1
        exact ⟨rfl, Lib.hid hb1, hce.1, hce.2.1⟩)
      have HSEG : Hid (∀ X, Below W.heap.size W X → Seg X X.heap.size (.slice Ax J cx) (byteCells (col line)) ∧ Seg X X.heap.size (.slice A2 v.length c2) (byteCells v) ∧ Seg X X.heap.size (.slice A3 (Frm.trimB v).length c3) (byteCells (Frm.trimB v))) := Lib.hid fun X hX => ⟨((hsn.seg hSlt).below hX).more hX.size, ((hsv.seg hSlt).below hX).more hX.size, ((hst.seg hSlt).below hX).more hX.size⟩
      have HTX : Hid (∀ X, Below W.heap.size W X → Tabs X ∧ X.cell? ⟨0, 0, none⟩ = some (.int .i64 m)) := Lib.hid fun X hX => ⟨hTW.below hX, (hX.cell (p := ⟨0, 0, none⟩) (by show 0 < _; omega)).trans hmW⟩
      have H40 : Hid (∀ X, Below W.heap.size W X → Calls Tryd.prog 40 #[.slice Ax J cx] X fun e w' => e = .returned (.bool (isNm (col line))) ∧ w' = X) := Lib.hid fun X hX => isNm_any _ _ _ X (HSEG.out X hX).1
      have H41 : Hid (∀ X, Below W.heap.size W X → Calls Tryd.prog 41 #[.slice A2 v.length c2, .string ⟨#[13, 10]⟩] X fun e w' => e = .returned (.bool (v.any crlf)) ∧ Hid (Below W.heap.size W w') ∧ ((w'.cell? ⟨w.heap.size, 0, none⟩ = some (.int .i64 0) ∧ w'.frozen? ⟨w.heap.size, 0, none⟩ = false) ∧ (w'.cell? ⟨w.heap.size + 1, 0, none⟩ = some (.int .i64 0) ∧ w'.frozen? ⟨w.heap.size + 1, 0, none⟩ = false))) := Lib.hid fun X hX => by
        obtain ⟨t1, t2⟩ := HTX.out X hX
        refine (containsAny_any A2 c2 v X.heap.size X m (HSEG.out X hX).2.1 (Nat.le_refl _) t1 t2).mono ?_
        rintro e w' ⟨rfl, hb⟩
        have hb2 := hX.trans (hb.mono hX.size)
        have hce := HI.out.cells hb2
        exact ⟨rfl, Lib.hid hb2, hce.1, hce.2.1⟩
      have HFD : Hid (fieldV line = if isNm (col line) = false then none else if v.any crlf then none else if (col line).map foldB = clen then (sizeV (Frm.trimB v)).map some else some none) := Lib.hid (by rw [← hfv]; unfold progField; rw [hv]; rfl)
      clear hcut hcut2 hfv hi hxs hxnil hbl hmW hTW hSlt hbk hs7 hsn hsv hst hcol hval hlc hcv58 hnil2 e2 hc2 hv hJ
      by_cases hnm : isNm (col line) = false
      · have HF : Hid (fieldV line = none) := Lib.hid (by rw [HFD.out, if_pos hnm])
        rw [hnm] at H40
        clear HSEG HTX HFD H41 hnm
        gi_wp2_with (first
          | (gi_at_call 39; refine (CallsIn.inRound l0 (callsIn_wide.2 HCUT.out)).mono ?_; rintro e w1 ⟨rfl, HB1, ⟨q0, f0⟩, ⟨q1, f1⟩⟩)
          | (gi_at_call 40; refine (CallsIn.inRound l0 (callsIn_wide.2 (H40.out _ HB1.out))).mono ?_; rintro e w2 ⟨rfl, rfl⟩))
        obtain ⟨y1, y2⟩ := HI.out.ret HB1.out (Ax, cx, line) HF.out
        rw [HS0.out]
        exact ⟨y1, rfl, y2⟩
      have hnm1 : isNm (col line) = true := by simpa using hnm
      by_cases hcr : v.any crlf = true
      · have HF : Hid (fieldV line = none) := Lib.hid (by rw [HFD.out, if_neg hnm, if_pos hcr])
        rw [hnm1] at H40
        rw [hcr] at H41
        clear HSEG HTX HFD hnm hnm1 hcr
        gi_wp2_with (first
          | (gi_at_call 39; refine (CallsIn.inRound l0 (callsIn_wide.2 HCUT.out)).mono ?_; rintro e w1 ⟨rfl, HB1, ⟨q0, f0⟩, ⟨q1, f1⟩⟩)
          | (gi_at_call 40; refine (CallsIn.inRound l0 (callsIn_wide.2 (H40.out _ HB1.out))).mono ?_; rintro e w2 ⟨rfl, rfl⟩)
          | (gi_at_call 41; refine (CallsIn.inRound l0 (callsIn_wide.2 (H41.out _ HB1.out))).mono ?_; rintro e w3 ⟨rfl, HB3, ⟨q2, f2⟩, ⟨q3, f3⟩⟩))
        obtain ⟨y1, y2⟩ := HI.out.ret HB3.out (Ax, cx, line) HF.out
        rw [HS0.out]
        exact ⟨y1, rfl, y2⟩
      have hcr0 : v.any crlf = false := by simpa using hcr
      rw [hnm1] at H40
      rw [hcr0] at H41
      obtain ⟨E, hE⟩ : ∃ E : ByteArray, E = ⟨((col line).map foldB).toArray⟩ := ⟨_, rfl⟩
      have hEl : E.toList = (col line).map foldB := by rw [hE, Lib.toList_data]
      have HCV : Hid (∀ X, Below W.heap.size W X → (convert 22 9 (.slice Ax J cx)).run Tryd.prog X = .ok (.string ⟨(col line).toArray⟩) X) := Lib.hid fun X hX => conv_seg (HSEG.out X hX).1
      have hasc : ∀ (j : Nat) (b : UInt8), (col line)[j]? = some b → b.toNat < 128 := fun j b hb => by
        have h1 : (col line).all nmB = true := by
          unfold isNm at hnm1
          rw [Bool.and_eq_true] at hnm1
          exact hnm1.2
        have h2 := List.all_eq_true.1 h1 b (List.mem_of_getElem? hb)
        rw [nmB_nat, decide_eq_true_iff] at h2
        omega
      have hcl : (col line).length ≤ line.length := by
        have := congrArg List.length (col_val line); rw [List.length_append] at this; omega
      have H42 : Hid (∀ X, Below W.heap.size W X → Calls Tryd.prog 42 #[.string ⟨(col line).toArray⟩] X fun e w' => e = .returned (.string E) ∧ Hid (Below W.heap.size W w')) := Lib.hid fun X hX => by
        refine (Tryd.strings_ToLower_ascii ⟨(col line).toArray⟩ X (by rw [Lib.size_eq]; simp; omega) (fun j b hb => hasc j b (by simpa using hb))).mono ?_
        rintro e w' ⟨rfl, hb⟩
        refine ⟨?_, Lib.hid (hX.trans (hb.mono hX.size))⟩
        rw [hE]
        simp only [fold_lower]
      have HSZ : Hid (isNm (col line) = true ∧ v.any crlf = false) := Lib.hid ⟨hnm1, hcr0⟩
      clear hnm hnm1 hcr hcr0 hasc hcl hE
      by_cases hcn : (col line).map foldB = clen
      · have heq : (E.toList == [99, 111, 110, 116, 101, 110, 116, 45, 108, 101, 110, 103, 116, 104]) = true := by rw [hEl, hcn]; rfl
        have hsv0 : ∀ t : List UInt8, ∀ n, sizeV t = some n → n < 1000000 := fun t n h => by
          unfold sizeV at h
          split at h
          · rename_i hc
            injection h with h
            rw [← h]
            have := numD_lt (l := t) (k := t.length) (Nat.le_refl _) (by rw [List.take_length]; exact hc.2.2)
            rw [List.take_length] at this
            have h6 : 10 ^ t.length ≤ 10 ^ 6 := Nat.pow_le_pow_right (by decide) hc.2.1
            omega
          · cases h
        have H44 : Hid (∀ X, Below W.heap.size W X → Calls Tryd.prog 44 #[.slice A2 v.length c2, .string ⟨#[32, 9]⟩] X fun e w' => e = .returned (.slice A3 (Frm.trimB v).length c3) ∧ Hid (Below W.heap.size W w') ∧ ((w'.cell? ⟨w.heap.size, 0, none⟩ = some (.int .i64 0) ∧ w'.frozen? ⟨w.heap.size, 0, none⟩ = false) ∧ (w'.cell? ⟨w.heap.size + 1, 0, none⟩ = some (.int .i64 0) ∧ w'.frozen? ⟨w.heap.size + 1, 0, none⟩ = false) ∧ (w'.cell? ⟨w.heap.size + 1 + 1, 0, none⟩ = some (.int .i64 (s : Nat)) ∧ w'.frozen? ⟨w.heap.size + 1 + 1, 0, none⟩ = false) ∧ (w'.cell? ⟨w.heap.size + 1 + 1 + 1, 0, none⟩ = some (.int .i64 (k : Nat)) ∧ w'.frozen? ⟨w.heap.size + 1 + 1 + 1, 0, none⟩ = false))) := Lib.hid fun X hX => by
          refine (trim_seg A2 c2 v X.heap.size X (HSEG.out X hX).2.1).mono ?_
          rintro e w' ⟨rfl, hb⟩
          have hb2 := hX.trans (hb.mono hX.size)
          refine ⟨by rw [e3], Lib.hid hb2, HI.out.cells hb2⟩
        have H43 : Hid (∀ X, Below W.heap.size W X → Calls Tryd.prog 43 #[.slice A3 (Frm.trimB v).length c3] X fun e w' => e = .returned (.tuple #[.int .i64 ((sizeV (Frm.trimB v)).getD 0 : Nat), .bool (sizeV (Frm.trimB v)).isSome]) ∧ w' = X) := Lib.hid fun X hX => number_any _ _ _ X (HSEG.out X hX).2.2
        have HFE : Hid (fieldV line = (sizeV (Frm.trimB v)).map some) := Lib.hid (by rw [HFD.out, HSZ.out.1, HSZ.out.2, hcn]; simp)
        clear HSEG HTX HFD e3 hEl hcn HSZ
        have hsv1 := hsv0 (Frm.trimB v)
        clear hsv0
        generalize sizeV (Frm.trimB v) = sz at H43 HFE hsv1
        cases sz with
        | none =>
          have HF : Hid (fieldV line = none) := Lib.hid (by rw [HFE.out]; rfl)
          clear HFE hsv1
          simp only [Option.getD_none, Option.isSome_none] at H43
          gi_wp2_with (first
            | (gi_at_call 39; refine (CallsIn.inRound l0 (callsIn_wide.2 HCUT.out)).mono ?_; rintro e w1 ⟨rfl, HB1, ⟨q0, f0⟩, ⟨q1, f1⟩⟩)
            | (gi_at_call 40; refine (CallsIn.inRound l0 (callsIn_wide.2 (H40.out _ HB1.out))).mono ?_; rintro e w2 ⟨rfl, rfl⟩)
            | (gi_at_call 41; refine (CallsIn.inRound l0 (callsIn_wide.2 (H41.out _ HB1.out))).mono ?_; rintro e w3 ⟨rfl, HB3, ⟨q2, f2⟩, ⟨q3, f3⟩⟩; have hcv3 := HCV.out _ HB3.out)
            | (gi_at_call 42; refine (CallsIn.inRound l0 (callsIn_wide.2 (H42.out _ HB3.out))).mono ?_; rintro e w4 ⟨rfl, HB4⟩)
            | (gi_at_call 44; refine (CallsIn.inRound l0 (callsIn_wide.2 (H44.out _ HB4.out))).mono ?_; rintro e w5 ⟨rfl, HB5, ⟨r0, g0⟩, ⟨r1, g1⟩, ⟨r2, g2⟩, ⟨r3, g3⟩⟩)
            | (gi_at_call 43; refine (CallsIn.inRound l0 (callsIn_wide.2 (H43.out _ HB5.out))).mono ?_; rintro e w6 ⟨rfl, rfl⟩))
          obtain ⟨y1, y2⟩ := HI.out.ret HB5.out (Ax, cx, line) HF.out
          rw [HS0.out]
          exact ⟨y1, rfl, y2⟩
        | some n =>
          have HF : Hid (fieldV line = some (some n)) := Lib.hid (by rw [HFE.out]; rfl)
          have hn6 := hsv1 n rfl
          clear HFE hsv1
          simp only [Option.getD_some, Option.isSome_some] at H43
          gi_wp2_with (first
            | (gi_at_call 39; refine (CallsIn.inRound l0 (callsIn_wide.2 HCUT.out)).mono ?_; rintro e w1 ⟨rfl, HB1, ⟨q0, f0⟩, ⟨q1, f1⟩⟩)
            | (gi_at_call 40; refine (CallsIn.inRound l0 (callsIn_wide.2 (H40.out _ HB1.out))).mono ?_; rintro e w2 ⟨rfl, rfl⟩)
            | (gi_at_call 41; refine (CallsIn.inRound l0 (callsIn_wide.2 (H41.out _ HB1.out))).mono ?_; rintro e w3 ⟨rfl, HB3, ⟨q2, f2⟩, ⟨q3, f3⟩⟩; have hcv3 := HCV.out _ HB3.out)
            | (gi_at_call 42; refine (CallsIn.inRound l0 (callsIn_wide.2 (H42.out _ HB3.out))).mono ?_; rintro e w4 ⟨rfl, HB4⟩)
            | (gi_at_call 44; refine (CallsIn.inRound l0 (callsIn_wide.2 (H44.out _ HB4.out))).mono ?_; rintro e w5 ⟨rfl, HB5, ⟨r0, g0⟩, ⟨r1, g1⟩, ⟨r2, g2⟩, ⟨r3, g3⟩⟩)
            | (gi_at_call 43; refine (CallsIn.inRound l0 (callsIn_wide.2 (H43.out _ HB5.out))).mono ?_; rintro e w6 ⟨rfl, rfl⟩))
          obtain ⟨y1, y2, y3⟩ := HI.out.num HB5.out (Ax, cx, line) n hn6 HF.out
          rw [HS0.out]
          exact ⟨y1, y2, n, k + 1, y3⟩
      · have heq : (E.toList == [99, 111, 110, 116, 101, 110, 116, 45, 108, 101, 110, 103, 116, 104]) = false := by rw [hEl, beq_eq_false_iff_ne]; exact hcn
        have HF : Hid (fieldV line = some none) := Lib.hid (by rw [HFD.out, HSZ.out.1, HSZ.out.2, if_neg hcn]; simp)
        clear HSEG HTX HFD e3 hEl hcn HSZ
        gi_wp2_with (first
          | (gi_at_call 39; refine (CallsIn.inRound l0 (callsIn_wide.2 HCUT.out)).mono ?_; rintro e w1 ⟨rfl, HB1, ⟨q0, f0⟩, ⟨q1, f1⟩⟩)
          | (gi_at_call 40; refine (CallsIn.inRound l0 (callsIn_wide.2 (H40.out _ HB1.out))).mono ?_; rintro e w2 ⟨rfl, rfl⟩)
          | (gi_at_call 41; refine (CallsIn.inRound l0 (callsIn_wide.2 (H41.out _ HB1.out))).mono ?_; rintro e w3 ⟨rfl, HB3, ⟨q2, f2⟩, ⟨q3, f3⟩⟩; have hcv3 := HCV.out _ HB3.out)
          | (gi_at_call 42; refine (CallsIn.inRound l0 (callsIn_wide.2 (H42.out _ HB3.out))).mono ?_; rintro e w4 ⟨rfl, HB4⟩))
        obtain ⟨y1, y2, y3⟩ := HI.out.cont HB4.out (Ax, cx, line) HF.out
        rw [HS0.out]
        exact ⟨y1, y2, s, k, y3⟩
  case done =>
    rintro xs W hxs ⟨s, k, hi⟩ hK
    obtain ⟨⟨q0, f0⟩, ⟨q1, f1⟩, ⟨q2, f2⟩, ⟨q3, f3⟩⟩ := hi.cells (Below.refl _ _)
    have HSC : Hid (scan (lines b) 0 0 = some (s, k)) := Lib.hid (by rw [← hxs]; exact hi.sc)
    have HI := Lib.hid hi; clear hi hxs
    have hs6 := HI.out.sl
    by_cases hk1 : k = 1
    · have g1 : ((k : Int) != 1) = false := by simp [hk1]
      by_cases h6 : 65536 < s
      · have g2 : (65536 : Int) < (s : Int) := by omega
        gi_wp2
        rw [HS0.out] at hK
        have HE : sizeE l = (0, 31) := by unfold sizeE; rw [HLV.out, HSC.out, hk1]; exact if_pos h6
        rw [HR.out, HE]
        refine fin_size rfl rfl rfl ?_ ?_ ?_ ?_
        · rw [setCell_block (by dsimp only; omega), setCell_block (by dsimp only; omega)]; exact hK
        · rw [setCell_block (by dsimp only; omega)]; exact one_setJ HI.out.c2
        · exact one_setJ (by rw [setCell_block (by dsimp only; omega)]; exact HI.out.c3)
        · exact below_set (below_set HI.out.old (Nat.le_refl _)) (by dsimp only; omega)
      · have g2 : ¬ (65536 : Int) < (s : Int) := by omega
        gi_wp2
        rw [HS0.out] at hK
        have HE : sizeE l = (((s : Nat) : Int), 0) := by unfold sizeE; rw [HLV.out, HSC.out, hk1]; exact if_neg h6
        rw [HR.out, HE]
        refine fin_size rfl rfl rfl ?_ ?_ ?_ ?_
        · rw [setCell_block (by dsimp only; omega), setCell_block (by dsimp only; omega)]; exact hK
        · rw [setCell_block (by dsimp only; omega)]; exact one_setJ HI.out.c2
        · exact one_setJ (by rw [setCell_block (by dsimp only; omega)]; exact HI.out.c3)
        · exact below_set (below_set HI.out.old (Nat.le_refl _)) (by dsimp only; omega)
    · have g1 : ((k : Int) != 1) = true := by simp; omega
      gi_wp2
      rw [HS0.out] at hK
      have HE : sizeE l = (0, 30) := by
        unfold sizeE; rw [HLV.out, HSC.out]
        have : (match some (s, k) with
          | some (s, 1) => some s
          | _ => none) = none := by
          split
          · rename_i e; injection e with e; injection e with e1 e2; exact absurd e2 hk1
          · rfl
        rw [this]
      rw [HR.out, HE]
      refine fin_size rfl rfl rfl ?_ ?_ ?_ ?_
      · rw [setCell_block (by dsimp only; omega), setCell_block (by dsimp only; omega)]; exact hK
      · rw [setCell_block (by dsimp only; omega)]; exact one_setJ HI.out.c2
      · exact one_setJ (by rw [setCell_block (by dsimp only; omega)]; exact HI.out.c3)
      · exact below_set (below_set HI.out.old (Nat.le_refl _)) (by dsimp only; omega)
  case stop =>
    rintro cd xs W ⟨rs, hrs⟩ ⟨rfl, hi⟩ hK
    have HE : sizeE l = (0, 30) := by
      unfold sizeE
      rw [HLV.out, ← hrs, scan_none_app _ _ _ _ hi.sc]
    rw [HS0.out] at hK
    gi_wp2
    rw [HR.out, HE]
    exact fin_size rfl rfl rfl hK hi.c2 hi.c3 hi.old
end Go.Proofs.YtffblcefnckacaaDoor
