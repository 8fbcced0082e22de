/- append onto a row of the call's own, of one-cell elements, from any source; what it leaves. No function of the program in sight. -/
import Derived.Test.YtbhicpjhijondaaDoorMem
import Derived.Maps.AppendAt
import Derived.RegionTactic
import Derived.OwnWalk
namespace Go.Par
open Go.RowKit Go.Lib

/-- the element type e (of the slice type t) has one cell, z its zero, and few bytes. -/
structure Elem (P : Program) (t e : TypeId) (z : Value) : Prop where
  und : P.underlying t = some (.slice e)
  info : ∃ i bytes, P.info? e = some i ∧ i.zero = some z ∧ i.size = 1 ∧ i.bytes = bytes ∧ bytes ≤ 64
  one : z.cells.size = 1

theorem elem_of {P : Program} {t e : TypeId} {z : Value} {b : Nat} (ht : P.underlying t = some (.slice e)) (h : (P.info? e).map (fun i => (i.zero, i.size, i.bytes)) = some (some z, 1, b)) (hb : b ≤ 64) (h1 : z.cells.size = 1) : Elem P t e z := by
  obtain ⟨i, hi, h0, h2, h3⟩ := info_parts h
  exact ⟨ht, ⟨i, b, hi, h0, h2, h3, hb⟩, h1⟩

/-- v is a row of the call's own, from block base on: the values xs. -/
def Own (w : World) (base : Nat) (e : TypeId) (v : Value) (xs : List Value) : Prop := w.ownsRow base e 1 v xs.length xs

theorem Own.nil (w : World) (base : Nat) (e : TypeId) : Own w base e (.slice none 0 0) [] := World.ownsRow_nil w base e 1
theorem Own.alloc {w : World} {base : Nat} {e : TypeId} {v : Value} {xs : List Value} (h : Own w base e v xs) (o : Obj) : Own (w.alloc o) base e v xs := World.ownsRow.alloc h o
theorem Own.drew {w : World} {base : Nat} {e : TypeId} {v : Value} {xs : List Value} (h : Own w base e v xs) : Own w.drew base e v xs := h
theorem Own.drewN {w : World} {base : Nat} {e : TypeId} {v : Value} {xs : List Value} (h : Own w base e v xs) (n : Nat) : Own (w.drewN n) base e v xs := h
theorem Own.form {w : World} {base : Nat} {e : TypeId} {v : Value} {xs : List Value} (h : Own w base e v xs) : ∃ A c, v = .slice A xs.length c := by
  rcases h.2 with ⟨rfl, h0⟩ | ⟨g, cap, cur, rfl, _⟩
  · exact ⟨none, 0, by rw [h0]⟩
  · exact ⟨_, cap, rfl⟩
theorem Own.lt {w : World} {base : Nat} {e : TypeId} {v : Value} {xs : List Value} (h : Own w base e v xs) (k : Nat) (hk : v.ownBlock = some k) : base ≤ k ∧ k < w.heap.size := World.ownsRow.lt h k hk
theorem Own.seg {w : World} {base : Nat} {e : TypeId} {v : Value} {xs : List Value} (h : Own w base e v xs) : Seg w w.heap.size v xs := by
  have hlt := h.lt
  rcases h.2 with ⟨rfl, h0⟩ | ⟨g, cap, cur, rfl, hg, hh, hnc, hcm, hsz, htake⟩
  · have : xs = [] := List.eq_nil_of_length_eq_zero h0
    subst this
    exact Seg.nil w _
  · refine ⟨_, cap, rfl, hnc, hcm, fun _ => ⟨g, 0, rfl, (hlt g rfl).2, fun i hi => ?_⟩⟩
    have hc := World.ownsRow.cells (g := g) h rfl i (xs[i]'hi) (List.getElem?_eq_getElem hi)
    have e : ((⟨g, 0, none⟩ : Addr).add i) = ⟨g, 0 + i, none⟩ := by unfold Addr.add; split <;> simp_all
    rw [← e, hc, List.getElem?_eq_getElem hi]
theorem Own.below {w w' : World} {base : Nat} {e : TypeId} {v : Value} {xs : List Value} (h : Own w base e v xs) (hb : Below w.heap.size w w') : Own w' base e v xs :=
  World.ownsRow.kept (row := none) h ⟨hb.os, hb.tape, hb.output, hb.size, fun k hk _ => hb.block k hk⟩ (by cases v.ownBlock <;> simp)
theorem Own.base {w : World} {base base' : Nat} {e : TypeId} {v : Value} {xs : List Value} (h : Own w base e v xs) (hb : base' ≤ base) : Own w base' e v xs := by
  refine ⟨h.1, ?_⟩
  rcases h.2 with h0 | ⟨g, cap, cur, hv, hg, r⟩
  · exact .inl h0
  · exact .inr ⟨g, cap, cur, hv, by omega, r⟩

/-- a new row of written values. -/
theorem Own.new (w : World) (base : Nat) (e : TypeId) (cs : Array Value) (xs : List Value) (hx : cs = xs.toArray) (hb : base ≤ w.heap.size) (hm : xs.length ≤ maxLen) :
    Own (w.alloc (.cells cs e)) base e (.slice (some ⟨w.heap.size, 0, none⟩) xs.length xs.length) xs := by
  subst hx
  refine ⟨by simp, .inr ⟨w.heap.size, xs.length, xs.toArray, rfl, hb, heap_alloc_new w _, Nat.le_refl _, hm, by simp, ?_⟩⟩
  rw [Nat.mul_one]
  exact List.take_of_length_le (Nat.le_refl _)

theorem Seg.new (w : World) (e : TypeId) (cs : Array Value) (xs : List Value) (hx : cs = xs.toArray) (hm : xs.length ≤ maxLen) :
    Seg (w.alloc (.cells cs e)) (w.heap.size + 1) (.slice (some ⟨w.heap.size, 0, none⟩) xs.length xs.length) xs := by
  subst hx
  refine ⟨_, xs.length, rfl, Nat.le_refl _, hm, fun _ => ⟨w.heap.size, 0, rfl, by omega, fun i hi => ?_⟩⟩
  rw [World.cell?_alloc_new]
  simp

theorem add_addr (b off i : Nat) : ((⟨b, off, none⟩ : Addr).add i) = ⟨b, off + i, none⟩ := by unfold Addr.add; split <;> simp_all

section
variable {P : Program} (w : World)

theorem run_app_nil (base : Nat) (t ty e : TypeId) (z : Value) (E : Elem P t e z) (v : Value) (xs : List Value) (hown : Own w base e v xs) (c : Nat) :
    (Builtin.append_ #[t, t] ty #[v, .slice none 0 c]).run P w = .ok v w := by
  obtain ⟨i, _, hi, _, _, _, _⟩ := E.info
  rcases hown.2 with ⟨rfl, h0⟩ | ⟨g, cap, cur, rfl, _, _, hnc, _⟩
  · simp [Builtin.append_, run_underlying E.und, sizeOf, typeInfo, hi, Builtin.lenOf, Builtin.firstCells]
  · simp [Builtin.append_, run_underlying E.und, sizeOf, typeInfo, hi, Builtin.lenOf, Builtin.firstCells, hnc, storeCells]

/-- what append leaves. -/
theorem run_app (base : Nat) (t ty e : TypeId) (z : Value) (E : Elem P t e z) (v : Value) (xs : List Value) (hown : Own w base e v xs)
    (B : Nat) (u : Value) (news : List Value) (hs : Seg w B u news) (h1 : ∀ x ∈ news, x.oneCell' = true)
    (hbd : xs.length + news.length ≤ 2147483648) (hbase : base ≤ w.heap.size) :
    ∃ v' w', (Builtin.append_ #[t, t] ty #[v, u]).run P w = .ok v' w' ∧ Own w' base e v' (xs ++ news) ∧ w.grownBy w' v.ownBlock ∧
      (v'.ownBlock = v.ownBlock ∨ v'.ownBlock = some w.heap.size) := by
  obtain ⟨i, bytes, hi, hz, hsz, hby, hbb⟩ := E.info
  obtain ⟨A, c, rfl, hc, hm, ha⟩ := hs
  have key : ∀ ad : Addr, A = some ad → (∀ j x, news[j]? = some x → w.cell? (ad.add j) = some x) → ∃ v' w', (Builtin.append_ #[t, t] ty #[v, .slice A news.length c]).run P w = .ok v' w' ∧ Own w' base e v' (xs ++ news) ∧ w.grownBy w' v.ownBlock ∧
      (v'.ownBlock = v.ownBlock ∨ v'.ownBlock = some w.heap.size) := by
    rintro ad rfl hcells
    have hb2 : (xs.length + news.length) * bytes ≤ 140737488355328 :=
      Nat.le_trans (Nat.mul_le_mul hbd hbb) (by decide)
    obtain ⟨v', w', hr, h2, h3, _, h5⟩ := run_append_own_at (P := P) w base t ty e i z 1 bytes E.und hi hz hsz hby E.one (by decide) v xs.length xs hown ad news.length c news (by simp) hcells h1 (by simp only [maxLen]; omega) hb2 hbase
    refine ⟨v', w', hr, ?_, h3, h5⟩
    unfold Own
    rw [List.length_append]
    exact h2
  rcases Nat.eq_zero_or_pos news.length with h0 | hp
  · have hn : news = [] := List.eq_nil_of_length_eq_zero h0
    subst hn
    rcases A with _ | ad
    · exact ⟨v, w, run_app_nil w base t ty e z E v xs hown c, by simpa using hown, World.grownBy.refl w _, .inl rfl⟩
    · exact key ad rfl (fun j x hj => by simp at hj)
  · obtain ⟨b, off, rfl, _, hcell⟩ := ha hp
    refine key _ rfl (fun j x hj => ?_)
    rw [add_addr, hcell j (List.getElem?_eq_some_iff.1 hj).1]
    exact hj

theorem wp_app {o : Oper} {a : Act} {K : Act → World → Prop} {Q : Exit → Act → World → Prop} (s x : Operand) (t : TypeId)
    (ho : o.op = .call { callee := .builtin .append, args := #[s, x], argTypes := #[t, t] })
    (base : Nat) (e : TypeId) (z : Value) (E : Elem P t e z) (v : Value) (xs : List Value) (hs : a.eval s = v) (hown : Own w base e v xs)
    (B : Nat) (u : Value) (news : List Value) (hx : a.eval x = u) (hsg : Seg w B u news) (h1 : ∀ x ∈ news, x.oneCell' = true)
    (hbd : xs.length + news.length ≤ 2147483648) (hbase : base ≤ w.heap.size)
    (h : ∀ v' w', Own w' base e v' (xs ++ news) → w.grownBy w' v.ownBlock → (v'.ownBlock = v.ownBlock ∨ v'.ownBlock = some w.heap.size) → K (a.put o.dst v') w') : o.wp P a w K Q := by
  obtain ⟨v', w', hrun, h2, h3, h4⟩ := run_app (P := P) w base t o.type e z E v xs hown B u news hsg h1 hbd hbase
  unfold Oper.wp execOp
  simp only [ho, resolve, invoke, builtin, Sem.run_bind, Sem.run_pure, Result.andThen_ok, List.map_toArray, List.map_cons, List.map_nil, hs, hx, hrun]
  exact h v' w' h2 h3 h4

theorem wpList_app {ops : Array Oper} {rest : List Oper} {o : Oper} {a : Act} {Q : Exit → Act → World → Prop} (hgd : o.guard = none) (s x : Operand) (t : TypeId)
    (ho : o.op = .call { callee := .builtin .append, args := #[s, x], argTypes := #[t, t] })
    (base : Nat) (e : TypeId) (z : Value) (E : Elem P t e z) (v : Value) (xs : List Value) (hs : a.eval s = v) (hown : Own w base e v xs)
    (B : Nat) (u : Value) (news : List Value) (hx : a.eval x = u) (hsg : Seg w B u news) (h1 : ∀ x ∈ news, x.oneCell' = true)
    (hbd : xs.length + news.length ≤ 2147483648) (hbase : base ≤ w.heap.size)
    (h : ∀ v' w', Own w' base e v' (xs ++ news) → w.grownBy w' v.ownBlock → (v'.ownBlock = v.ownBlock ∨ v'.ownBlock = some w.heap.size) → wpList P ops Q rest (a.put o.dst v') w') : wpList P ops Q (o :: rest) a w :=
  wpList_plain hgd fun _ hK => wp_app w s x t ho base e z E v xs hs hown B u news hx hsg h1 hbd hbase fun v' w' h2 h3 h4 => hK _ _ (h v' w' h2 h3 h4)

theorem wpList_app_g {ops : Array Oper} {rest : List Oper} {o : Oper} {a : Act} {Q : Exit → Act → World → Prop} (hw : Region.wanted o (yielded ops a.tmps) = true) (s x : Operand) (t : TypeId)
    (ho : o.op = .call { callee := .builtin .append, args := #[s, x], argTypes := #[t, t] })
    (base : Nat) (e : TypeId) (z : Value) (E : Elem P t e z) (v : Value) (xs : List Value) (hs : a.eval s = v) (hown : Own w base e v xs)
    (B : Nat) (u : Value) (news : List Value) (hx : a.eval x = u) (hsg : Seg w B u news) (h1 : ∀ x ∈ news, x.oneCell' = true)
    (hbd : xs.length + news.length ≤ 2147483648) (hbase : base ≤ w.heap.size)
    (h : ∀ v' w', Own w' base e v' (xs ++ news) → w.grownBy w' v.ownBlock → (v'.ownBlock = v.ownBlock ∨ v'.ownBlock = some w.heap.size) → wpList P ops Q rest (a.put o.dst v') w') : wpList P ops Q (o :: rest) a w :=
  wpList_step fun K hK => by
    rw [if_pos hw]
    exact wp_app w s x t ho base e z E v xs hs hown B u news hx hsg h1 hbd hbase fun v' w' h2 h3 h4 => hK _ _ (h v' w' h2 h3 h4)
end

theorem one_ints (zs : List Int) : ∀ x ∈ ints zs, x.oneCell' = true := by
  intro x hx
  obtain ⟨z, _, rfl⟩ := List.mem_map.1 hx
  rfl
theorem one_bytes (l : List UInt8) : ∀ x ∈ byteCells l, x.oneCell' = true := by
  intro x hx
  obtain ⟨z, _, rfl⟩ := List.mem_map.1 hx
  rfl
theorem below_app {base : Nat} {w0 w w' : World} {e : TypeId} {v : Value} {xs : List Value} (hb : Below base w0 w) (hown : Own w base e v xs) (hg : w.grownBy w' v.ownBlock) (hB : base ≤ w.heap.size) : Below base w0 w' :=
  hb.grown hg hB (fun k hk => (hown.lt k hk).1)
end Go.Par
