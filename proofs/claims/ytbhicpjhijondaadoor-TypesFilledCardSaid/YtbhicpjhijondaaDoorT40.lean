/- Maps keyed by two addresses and a count, in memory that bears no mark: what a look-up answers, what a further entry leaves. -/
import Derived.Test.YtbhicpjhijondaaDoorT33
import Derived.LaidEqlPtr
import Derived.WideKeyRuns
import Derived.Laws.StructEq
namespace Go.Typ
open Go.RowKit Go.Lib Go.Vfs Go.Par
/-- a block of cells that bears no mark. -/
def CleanB (W : World) (b : Nat) : Prop := ∃ cs t, W.heap[b]? = some (.cells cs t (0, 0))
theorem CleanB.keep {W W' : World} {b : Nat} (h : CleanB W b) (hk : W'.heap[b]? = W.heap[b]?) : CleanB W' b := by
  obtain ⟨cs, t, h⟩ := h; exact ⟨cs, t, hk.trans h⟩
/-- two rows of as many parts, by where they lie. -/
structure Rk where
  b : Nat
  o : Nat
  b' : Nat
  o' : Nat
  n : Nat
deriving DecidableEq
def Rk.val (x : Rk) : Value := .agg #[.pointer (some ⟨x.b, x.o, none⟩), .pointer (some ⟨x.b', x.o', none⟩), .int .i64 x.n]
def Rk.clean (W : World) (x : Rk) : Prop := CleanB W x.b ∧ CleanB W x.b'
/-- the map in block p holds these rows, each with a one. -/
def MapR (W : World) (p : Nat) (xs : List Rk) : Prop := ∃ es clk, W.heap[p]? = some (.map es clk) ∧ es.toList.map (fun e => (e.key, e.val)) = xs.map fun x => (x.val, Value.int .i64 1)
theorem MapR.lt {W : World} {p : Nat} {xs : List Rk} (h : MapR W p xs) : p < W.heap.size := by obtain ⟨es, clk, h, _⟩ := h; exact lt_blk h
theorem MapR.keep {W W' : World} {p : Nat} {xs : List Rk} (h : MapR W p xs) (hk : W'.heap[p]? = W.heap[p]?) : MapR W' p xs := by
  obtain ⟨es, clk, h, h2⟩ := h; exact ⟨es, clk, hk.trans h, h2⟩
theorem MapR.of_int {W : World} {p : Nat} (h : MapI W p []) : MapR W p [] := by
  obtain ⟨es, clk, h, h2⟩ := h; exact ⟨es, clk, h, h2⟩
end Go.Typ
namespace Go.Proofs.YtbhicpjhijondaaDoor
open Go.RowKit Go.Lib Go.Vfs Go.Par Go.Typ Go.Shelf
set_option linter.unusedVariables false
set_option linter.unusedSimpArgs false

theorem und_rows : Tryd.prog.underlying 109 = some (.struct (Tryd.prog.fieldsOf 109)) := by kernel_rfl
theorem fields_rows : (Tryd.prog.fieldsOf 109).toList.map (fun f => (f.name == "_", f.type, f.offset)) = [(false, 107, 0), (false, 107, 1), (false, 3, 2)] := by kernel_rfl
theorem und_pType : Tryd.prog.underlying 107 = some (.pointer 24) := by kernel_rfl
theorem info_Type : ∃ j, Tryd.prog.info? 24 = some j ∧ j.size ≠ 0 := by
  have h : (Tryd.prog.info? 24).map (fun i => i.size) = some 4 := by kernel_rfl
  cases hi : Tryd.prog.info? 24 with
  | none => rw [hi] at h; cases h
  | some j => rw [hi] at h; injection h with h; exact ⟨j, rfl, fun e => by have h : j.size = 4 := h; omega⟩
theorem list3 {α : Type} {l : List α} {β : Type} {f : α → β} {a b c : β} (h : l.map f = [a, b, c]) : ∃ x y z, l = [x, y, z] ∧ f x = a ∧ f y = b ∧ f z = c := by
  rcases l with _ | ⟨x, _ | ⟨y, _ | ⟨z, _ | ⟨u, l⟩⟩⟩⟩
  · simp at h
  · simp at h
  · simp at h
  · simp at h; exact ⟨x, y, z, rfl, h.1, h.2.1, h.2.2⟩
  · simp at h
theorem rows_fields : ∃ f0 f1 f2 : Field, (Tryd.prog.fieldsOf 109).toList = [f0, f1, f2] ∧ (f0.name ≠ "_" ∧ f0.type = 107 ∧ f0.offset = 0) ∧ (f1.name ≠ "_" ∧ f1.type = 107 ∧ f1.offset = 1) ∧ (f2.name ≠ "_" ∧ f2.type = 3 ∧ f2.offset = 2) := by
  obtain ⟨f0, f1, f2, h, h0, h1, h2⟩ := list3 fields_rows
  simp only [Prod.mk.injEq, beq_eq_false_iff_ne] at h0 h1 h2
  exact ⟨f0, f1, f2, h, h0, h1, h2⟩
theorem part_one (W : World) {t : TypeId} {cs : Array Value} {off : Nat} {v : Value} (ht : (isAgg t).run Tryd.prog W = .ok false W) (hv : cs[off]? = some v) : (part t cs off).run Tryd.prog W = .ok v W := by
  simp [part, ht, hv, Result.andThen]
theorem agg_p (W : World) : (isAgg 107).run Tryd.prog W = .ok false W := by kernel_rfl
theorem agg_i (W : World) : (isAgg 3).run Tryd.prog W = .ok false W := by kernel_rfl
theorem eq_addr (W : World) (d : Nat) {a b : Addr} {ca cb : Array Value} {ta tb : TypeId} (ha : W.heap[a.block]? = some (.cells ca ta (0, 0))) (hb : W.heap[b.block]? = some (.cells cb tb (0, 0))) :
    (Op.equalIn (d + 1) 107 (.pointer (some a)) (.pointer (some b))).run Tryd.prog W = .ok (decide (a = b)) W := by
  obtain ⟨j, hj, hs⟩ := info_Type
  by_cases e : a = b
  · subst e
    simp [Op.equalIn, run_underlying und_pType, sizeOf, typeInfo, hj, hs, run_sameAddr_same]
  · simp [Op.equalIn, run_underlying und_pType, sizeOf, typeInfo, hj, hs, run_sameAddr_other W e ha hb, e]
theorem eql_addr (W : World) {a b : Addr} (ha : CleanB W a.block) (hb : CleanB W b.block) : (binOp .eql 107 (.pointer (some a)) (.pointer (some b))).run Tryd.prog W = .ok (.bool (decide (a = b))) W := by
  obtain ⟨ca, ta, ha⟩ := ha
  obtain ⟨cb, tb, hb⟩ := hb
  simp only [binOp]
  simp [Op.equal, Op.maxDepth, eq_addr W 9999 ha hb]
theorem eq_rows (W : World) {x y : Rk} (hx : x.clean W) (hy : y.clean W) : (Op.equal 109 x.val y.val).run Tryd.prog W = .ok (decide (x = y)) W := by
  obtain ⟨f0, f1, f2, hf, ⟨n0, t0, o0⟩, ⟨n1, t1, o1⟩, ⟨n2, t2, o2⟩⟩ := rows_fields
  obtain ⟨⟨c0, u0, h0⟩, c1, u1, h1⟩ := hx
  obtain ⟨⟨d0, w0, k0⟩, d1, w1, k1⟩ := hy
  obtain ⟨b, o, b', o', n⟩ := x
  obtain ⟨e, p, e', p', m⟩ := y
  have e0 := eq_addr W 9998 (a := ⟨b, o, none⟩) (b := ⟨e, p, none⟩) h0 k0
  have e1 := eq_addr W 9998 (a := ⟨b', o', none⟩) (b := ⟨e', p', none⟩) h1 k1
  have e2 := run_equalIn_int (P := Tryd.prog) W 9998 3 .i64 .i64 n m Tryd.underlying3
  unfold Op.equal Op.maxDepth Rk.val
  have hr := run_equalIn_struct (P := Tryd.prog) W 9999 109 #[.pointer (some ⟨b, o, none⟩), .pointer (some ⟨b', o', none⟩), .int .i64 n] #[.pointer (some ⟨e, p, none⟩), .pointer (some ⟨e', p', none⟩), .int .i64 m] und_rows (by kernel_rfl)
  rw [hf] at hr
  refine hr.trans ?_
  have q0 := fun (a b c : Value) => part_one W (cs := #[a, b, c]) (off := 0) (v := a) (agg_p W) rfl
  have q1 := fun (a b c : Value) => part_one W (cs := #[a, b, c]) (off := 1) (v := b) (agg_p W) rfl
  have q2 := fun (a b c : Value) => part_one W (cs := #[a, b, c]) (off := 2) (v := c) (agg_i W) rfl
  simp only [Op.eqFields, n0, n1, n2, t0, t1, t2, o0, o1, o2, not_false_eq_true, ne_eq, if_true, Sem.run_bind, q0, q1, q2, Result.andThen_ok, e0, e1, e2, Sem.run_ite]
  by_cases g0 : b = e <;> by_cases g1 : o = p <;> by_cases g2 : b' = e' <;> by_cases g3 : o' = p' <;> by_cases g4 : n = m <;> simp [g0, g1, g2, g3, g4]
  all_goals (intro h; exact absurd (Int.ofNat.inj h) g4)
theorem find_rows (W : World) {x : Rk} (hx : x.clean W) : ∀ (es : List MapEntry) (xs : List Rk) (i : Nat), es.map (fun e => (e.key, e.val)) = xs.map (fun x => (x.val, Value.int .i64 1)) → (∀ y ∈ xs, y.clean W) →
    (x ∈ xs → ∃ j, (Instr.findAsking 109 x.val es i).run Tryd.prog W = .ok (some (j, .int .i64 1)) W) ∧ (x ∉ xs → (Instr.findAsking 109 x.val es i).run Tryd.prog W = .ok none W) := by
  intro es
  induction es with
  | nil =>
    intro xs i h _
    cases xs with
    | nil => exact ⟨fun h => by simp at h, fun _ => by simp [Instr.findAsking]⟩
    | cons y ys => simp at h
  | cons e es ih =>
    intro xs i h hc
    cases xs with
    | nil => simp at h
    | cons y ys =>
      simp only [List.map_cons, List.cons.injEq, Prod.mk.injEq] at h
      obtain ⟨⟨h1, h2⟩, h3⟩ := h
      have he := eq_rows W hx (hc y List.mem_cons_self)
      obtain ⟨i1, i2⟩ := ih ys (i + 1) h3 (fun z hz => hc z (List.mem_cons_of_mem _ hz))
      by_cases g : x = y
      · subst g
        refine ⟨fun _ => ⟨i, ?_⟩, fun h => by simp at h⟩
        simp [Instr.findAsking, h1, h2, he, Result.andThen]
      · refine ⟨fun hm => ?_, fun hm => ?_⟩
        · obtain ⟨j, hj⟩ := i1 (by rcases List.mem_cons.1 hm with h | h; exact absurd h g; exact h)
          exact ⟨j, by simp [Instr.findAsking, h1, he, g, hj, Result.andThen]⟩
        · have := i2 (fun h => hm (List.mem_cons_of_mem _ h))
          simp [Instr.findAsking, h1, he, g, this, Result.andThen]
theorem check_rows (W : World) (em : Bool) (x : Rk) : (Instr.checkKey em 10000 109 x.val).run Tryd.prog W = .ok () W := by
  obtain ⟨f0, f1, f2, hf, ⟨n0, t0, o0⟩, ⟨n1, t1, o1⟩, ⟨n2, t2, o2⟩⟩ := rows_fields
  have q0 := fun (a b c : Value) => part_one W (cs := #[a, b, c]) (off := 0) (v := a) (agg_p W) rfl
  have q1 := fun (a b c : Value) => part_one W (cs := #[a, b, c]) (off := 1) (v := b) (agg_p W) rfl
  have q2 := fun (a b c : Value) => part_one W (cs := #[a, b, c]) (off := 2) (v := c) (agg_i W) rfl
  have key : ∀ d : Nat, (Instr.checkKey em (d + 2) 109 x.val).run Tryd.prog W = .ok () W := by
    intro d
    unfold Rk.val
    have c0 : ∀ a : Option Addr, (Instr.checkKey em (d + 1) 107 (.pointer a)).run Tryd.prog W = .ok () W := fun a => by simp [Instr.checkKey, run_underlying und_pType]
    have c2 : ∀ n : Int, (Instr.checkKey em (d + 1) 3 (.int .i64 n)).run Tryd.prog W = .ok () W := fun n => by simp [Instr.checkKey, run_underlying Tryd.underlying3]
    rw [Instr.checkKey]
    simp only [Sem.run_bind, run_underlying und_rows, Result.andThen_ok]
    rw [← Array.forIn_toList, hf]
    simp only [List.forIn_cons, List.forIn_nil, n0, n1, n2, t0, t1, t2, o0, o1, o2, not_false_eq_true, ne_eq, if_true, Sem.run_bind, Sem.run_pure, q0, q1, q2, Result.andThen_ok, c0, c2]
  exact key 9998
theorem zeroI_run (W : World) : (zeroValue 3).run Tryd.prog W = .ok (.int .i64 0) W := by kernel_rfl
theorem look_R {W : World} {p : Nat} {xs : List Rk} (h : MapR W p xs) {x : Rk} (hx : x.clean W) (hc : ∀ y ∈ xs, y.clean W) :
    (Instr.lookup 69 (.map (some p)) x.val false).run Tryd.prog W = .ok (.int .i64 (if x ∈ xs then 1 else 0)) W := by
  obtain ⟨es, clk, hb, hm⟩ := h
  obtain ⟨f1, f2⟩ := find_rows W hx es.toList xs 0 hm hc
  have hw := run_findKey_eq (P := Tryd.prog) W (k := 109) (by rw [und_rows]) x.val es.toList
  by_cases hl : x ∈ xs
  · obtain ⟨j, hj⟩ := f1 hl
    simp [Instr.lookup, run_underlying Tryd.underlying69, MapKept.run_getObj_map hb, check_rows, hw, hj, Result.andThen, hl]
  · simp [Instr.lookup, run_underlying Tryd.underlying69, MapKept.run_getObj_map hb, check_rows, hw, f2 hl, Result.andThen, hl, zeroI_run]
theorem put_R {W : World} {p : Nat} {xs : List Rk} (h : MapR W p xs) {x : Rk} (hx : x.clean W) (hc : ∀ y ∈ xs, y.clean W) (hl : x ∉ xs) :
    ∃ W', (Instr.mapUpdate 69 (.map (some p)) x.val (.int .i64 1)).run Tryd.prog W = .ok () W' ∧ MapR W' p (xs ++ [x]) ∧ Kept (· = p) W W' := by
  obtain ⟨es, clk, hb, hm⟩ := h
  obtain ⟨f1, f2⟩ := find_rows W hx es.toList xs 0 hm hc
  have hw := run_findKey_eq (P := Tryd.prog) W (k := 109) (by rw [und_rows]) x.val es.toList
  refine ⟨ChangeMaps.setBlock W p (.map (es.push ⟨x.val, .int .i64 1, clk⟩) (clk + 1)), ?_, ⟨_, _, ChangeMaps.heap_setBlock_same hb _, by simp [hm]⟩, ⟨rfl, rfl, rfl, by simp [ChangeMaps.setBlock], fun g hg hp => ChangeMaps.heap_setBlock_other hb _ hp⟩⟩
  simp [Instr.mapUpdate, run_underlying Tryd.underlying69, MapKept.run_getObj_map hb, check_rows, hw, f2 hl, MapKept.run_setObj_map _ hb, Result.andThen, ChangeMaps.setBlock]
end Go.Proofs.YtbhicpjhijondaaDoor
