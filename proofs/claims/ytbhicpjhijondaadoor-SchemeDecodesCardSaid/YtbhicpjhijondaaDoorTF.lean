/- Merged of T40 T41 T42 T43 T44. -/
import Derived.Test.YtbhicpjhijondaaDoorTD
import Derived.LaidEqlPtr
import Derived.WideKeyRuns
import Derived.Laws.StructEq
import Derived.BigRegion
/- T40 -/
/- Maps keyed by two addresses and a count, in memory that bears no mark: what a look-up answers, what a further entry leaves. -/
namespace Go.Typ
open Go.RowKit Go.Lib Go.Vfs Go.Par
/-- a block of cells that bears no mark. -/
def CleanB (W : World) (b : Nat) : Prop := ∃ cs t, W.heap[b]? = some (.cells cs t (0, 0))
theorem CleanB.keep {W W' : World} {b : Nat} (h : CleanB W b) (hk : W'.heap[b]? = W.heap[b]?) : CleanB W' b := by
  obtain ⟨cs, t, h⟩ := h; exact ⟨cs, t, hk.trans h⟩
/-- two rows of as many parts, by where they lie. -/
structure Rk where
  b : Nat
  o : Nat
  b' : Nat
  o' : Nat
  n : Nat
deriving DecidableEq
def Rk.val (x : Rk) : Value := .agg #[.pointer (some ⟨x.b, x.o, none⟩), .pointer (some ⟨x.b', x.o', none⟩), .int .i64 x.n]
def Rk.clean (W : World) (x : Rk) : Prop := CleanB W x.b ∧ CleanB W x.b'
/-- the map in block p holds these rows, each with a one. -/
def MapR (W : World) (p : Nat) (xs : List Rk) : Prop := ∃ es clk, W.heap[p]? = some (.map es clk) ∧ es.toList.map (fun e => (e.key, e.val)) = xs.map fun x => (x.val, Value.int .i64 1)
theorem MapR.lt {W : World} {p : Nat} {xs : List Rk} (h : MapR W p xs) : p < W.heap.size := by obtain ⟨es, clk, h, _⟩ := h; exact lt_blk h
theorem MapR.keep {W W' : World} {p : Nat} {xs : List Rk} (h : MapR W p xs) (hk : W'.heap[p]? = W.heap[p]?) : MapR W' p xs := by
  obtain ⟨es, clk, h, h2⟩ := h; exact ⟨es, clk, hk.trans h, h2⟩
theorem MapR.of_int {W : World} {p : Nat} (h : MapI W p []) : MapR W p [] := by
  obtain ⟨es, clk, h, h2⟩ := h; exact ⟨es, clk, h, h2⟩
end Go.Typ
namespace Go.Proofs.YtbhicpjhijondaaDoor
open Go.RowKit Go.Lib Go.Vfs Go.Par Go.Typ Go.Shelf
set_option linter.unusedVariables false
set_option linter.unusedSimpArgs false

theorem und_rows : Tryd.prog.underlying 109 = some (.struct (Tryd.prog.fieldsOf 109)) := by kernel_rfl
theorem fields_rows : (Tryd.prog.fieldsOf 109).toList.map (fun f => (f.name == "_", f.type, f.offset)) = [(false, 107, 0), (false, 107, 1), (false, 3, 2)] := by kernel_rfl
theorem und_pType : Tryd.prog.underlying 107 = some (.pointer 24) := by kernel_rfl
theorem info_Type : ∃ j, Tryd.prog.info? 24 = some j ∧ j.size ≠ 0 := by
  have h : (Tryd.prog.info? 24).map (fun i => i.size) = some 4 := by kernel_rfl
  cases hi : Tryd.prog.info? 24 with
  | none => rw [hi] at h; cases h
  | some j => rw [hi] at h; injection h with h; exact ⟨j, rfl, fun e => by have h : j.size = 4 := h; omega⟩
theorem list3 {α : Type} {l : List α} {β : Type} {f : α → β} {a b c : β} (h : l.map f = [a, b, c]) : ∃ x y z, l = [x, y, z] ∧ f x = a ∧ f y = b ∧ f z = c := by
  rcases l with _ | ⟨x, _ | ⟨y, _ | ⟨z, _ | ⟨u, l⟩⟩⟩⟩
  · simp at h
  · simp at h
  · simp at h
  · simp at h; exact ⟨x, y, z, rfl, h.1, h.2.1, h.2.2⟩
  · simp at h
theorem rows_fields : ∃ f0 f1 f2 : Field, (Tryd.prog.fieldsOf 109).toList = [f0, f1, f2] ∧ (f0.name ≠ "_" ∧ f0.type = 107 ∧ f0.offset = 0) ∧ (f1.name ≠ "_" ∧ f1.type = 107 ∧ f1.offset = 1) ∧ (f2.name ≠ "_" ∧ f2.type = 3 ∧ f2.offset = 2) := by
  obtain ⟨f0, f1, f2, h, h0, h1, h2⟩ := list3 fields_rows
  simp only [Prod.mk.injEq, beq_eq_false_iff_ne] at h0 h1 h2
  exact ⟨f0, f1, f2, h, h0, h1, h2⟩
theorem part_one (W : World) {t : TypeId} {cs : Array Value} {off : Nat} {v : Value} (ht : (isAgg t).run Tryd.prog W = .ok false W) (hv : cs[off]? = some v) : (part t cs off).run Tryd.prog W = .ok v W := by
  simp [part, ht, hv, Result.andThen]
theorem agg_p (W : World) : (isAgg 107).run Tryd.prog W = .ok false W := by kernel_rfl
theorem agg_i (W : World) : (isAgg 3).run Tryd.prog W = .ok false W := by kernel_rfl
theorem eq_addr (W : World) (d : Nat) {a b : Addr} {ca cb : Array Value} {ta tb : TypeId} (ha : W.heap[a.block]? = some (.cells ca ta (0, 0))) (hb : W.heap[b.block]? = some (.cells cb tb (0, 0))) :
    (Op.equalIn (d + 1) 107 (.pointer (some a)) (.pointer (some b))).run Tryd.prog W = .ok (decide (a = b)) W := by
  obtain ⟨j, hj, hs⟩ := info_Type
  by_cases e : a = b
  · subst e
    simp [Op.equalIn, run_underlying und_pType, sizeOf, typeInfo, hj, hs, run_sameAddr_same]
  · simp [Op.equalIn, run_underlying und_pType, sizeOf, typeInfo, hj, hs, run_sameAddr_other W e ha hb, e]
theorem eql_addr (W : World) {a b : Addr} (ha : CleanB W a.block) (hb : CleanB W b.block) : (binOp .eql 107 (.pointer (some a)) (.pointer (some b))).run Tryd.prog W = .ok (.bool (decide (a = b))) W := by
  obtain ⟨ca, ta, ha⟩ := ha
  obtain ⟨cb, tb, hb⟩ := hb
  simp only [binOp]
  simp [Op.equal, Op.maxDepth, eq_addr W 9999 ha hb]
theorem eq_rows (W : World) {x y : Rk} (hx : x.clean W) (hy : y.clean W) : (Op.equal 109 x.val y.val).run Tryd.prog W = .ok (decide (x = y)) W := by
  obtain ⟨f0, f1, f2, hf, ⟨n0, t0, o0⟩, ⟨n1, t1, o1⟩, ⟨n2, t2, o2⟩⟩ := rows_fields
  obtain ⟨⟨c0, u0, h0⟩, c1, u1, h1⟩ := hx
  obtain ⟨⟨d0, w0, k0⟩, d1, w1, k1⟩ := hy
  obtain ⟨b, o, b', o', n⟩ := x
  obtain ⟨e, p, e', p', m⟩ := y
  have e0 := eq_addr W 9998 (a := ⟨b, o, none⟩) (b := ⟨e, p, none⟩) h0 k0
  have e1 := eq_addr W 9998 (a := ⟨b', o', none⟩) (b := ⟨e', p', none⟩) h1 k1
  have e2 := run_equalIn_int (P := Tryd.prog) W 9998 3 .i64 .i64 n m Tryd.underlying3
  unfold Op.equal Op.maxDepth Rk.val
  have hr := run_equalIn_struct (P := Tryd.prog) W 9999 109 #[.pointer (some ⟨b, o, none⟩), .pointer (some ⟨b', o', none⟩), .int .i64 n] #[.pointer (some ⟨e, p, none⟩), .pointer (some ⟨e', p', none⟩), .int .i64 m] und_rows (by kernel_rfl)
  rw [hf] at hr
  refine hr.trans ?_
  have q0 := fun (a b c : Value) => part_one W (cs := #[a, b, c]) (off := 0) (v := a) (agg_p W) rfl
  have q1 := fun (a b c : Value) => part_one W (cs := #[a, b, c]) (off := 1) (v := b) (agg_p W) rfl
  have q2 := fun (a b c : Value) => part_one W (cs := #[a, b, c]) (off := 2) (v := c) (agg_i W) rfl
  simp only [Op.eqFields, n0, n1, n2, t0, t1, t2, o0, o1, o2, not_false_eq_true, ne_eq, if_true, Sem.run_bind, q0, q1, q2, Result.andThen_ok, e0, e1, e2, Sem.run_ite]
  by_cases g0 : b = e <;> by_cases g1 : o = p <;> by_cases g2 : b' = e' <;> by_cases g3 : o' = p' <;> by_cases g4 : n = m <;> simp [g0, g1, g2, g3, g4]
  all_goals (intro h; exact absurd (Int.ofNat.inj h) g4)
theorem find_rows (W : World) {x : Rk} (hx : x.clean W) : ∀ (es : List MapEntry) (xs : List Rk) (i : Nat), es.map (fun e => (e.key, e.val)) = xs.map (fun x => (x.val, Value.int .i64 1)) → (∀ y ∈ xs, y.clean W) →
    (x ∈ xs → ∃ j, (Instr.findAsking 109 x.val es i).run Tryd.prog W = .ok (some (j, .int .i64 1)) W) ∧ (x ∉ xs → (Instr.findAsking 109 x.val es i).run Tryd.prog W = .ok none W) := by
  intro es
  induction es with
  | nil =>
    intro xs i h _
    cases xs with
    | nil => exact ⟨fun h => by simp at h, fun _ => by simp [Instr.findAsking]⟩
    | cons y ys => simp at h
  | cons e es ih =>
    intro xs i h hc
    cases xs with
    | nil => simp at h
    | cons y ys =>
      simp only [List.map_cons, List.cons.injEq, Prod.mk.injEq] at h
      obtain ⟨⟨h1, h2⟩, h3⟩ := h
      have he := eq_rows W hx (hc y List.mem_cons_self)
      obtain ⟨i1, i2⟩ := ih ys (i + 1) h3 (fun z hz => hc z (List.mem_cons_of_mem _ hz))
      by_cases g : x = y
      · subst g
        refine ⟨fun _ => ⟨i, ?_⟩, fun h => by simp at h⟩
        simp [Instr.findAsking, h1, h2, he, Result.andThen]
      · refine ⟨fun hm => ?_, fun hm => ?_⟩
        · obtain ⟨j, hj⟩ := i1 (by rcases List.mem_cons.1 hm with h | h; exact absurd h g; exact h)
          exact ⟨j, by simp [Instr.findAsking, h1, he, g, hj, Result.andThen]⟩
        · have := i2 (fun h => hm (List.mem_cons_of_mem _ h))
          simp [Instr.findAsking, h1, he, g, this, Result.andThen]
theorem check_rows (W : World) (em : Bool) (x : Rk) : (Instr.checkKey em 10000 109 x.val).run Tryd.prog W = .ok () W := by
  obtain ⟨f0, f1, f2, hf, ⟨n0, t0, o0⟩, ⟨n1, t1, o1⟩, ⟨n2, t2, o2⟩⟩ := rows_fields
  have q0 := fun (a b c : Value) => part_one W (cs := #[a, b, c]) (off := 0) (v := a) (agg_p W) rfl
  have q1 := fun (a b c : Value) => part_one W (cs := #[a, b, c]) (off := 1) (v := b) (agg_p W) rfl
  have q2 := fun (a b c : Value) => part_one W (cs := #[a, b, c]) (off := 2) (v := c) (agg_i W) rfl
  have key : ∀ d : Nat, (Instr.checkKey em (d + 2) 109 x.val).run Tryd.prog W = .ok () W := by
    intro d
    unfold Rk.val
    have c0 : ∀ a : Option Addr, (Instr.checkKey em (d + 1) 107 (.pointer a)).run Tryd.prog W = .ok () W := fun a => by simp [Instr.checkKey, run_underlying und_pType]
    have c2 : ∀ n : Int, (Instr.checkKey em (d + 1) 3 (.int .i64 n)).run Tryd.prog W = .ok () W := fun n => by simp [Instr.checkKey, run_underlying Tryd.underlying3]
    rw [Instr.checkKey]
    simp only [Sem.run_bind, run_underlying und_rows, Result.andThen_ok]
    rw [← Array.forIn_toList, hf]
    simp only [List.forIn_cons, List.forIn_nil, n0, n1, n2, t0, t1, t2, o0, o1, o2, not_false_eq_true, ne_eq, if_true, Sem.run_bind, Sem.run_pure, q0, q1, q2, Result.andThen_ok, c0, c2]
  exact key 9998
theorem zeroI_run (W : World) : (zeroValue 3).run Tryd.prog W = .ok (.int .i64 0) W := by kernel_rfl
theorem look_R {W : World} {p : Nat} {xs : List Rk} (h : MapR W p xs) {x : Rk} (hx : x.clean W) (hc : ∀ y ∈ xs, y.clean W) :
    (Instr.lookup 69 (.map (some p)) x.val false).run Tryd.prog W = .ok (.int .i64 (if x ∈ xs then 1 else 0)) W := by
  obtain ⟨es, clk, hb, hm⟩ := h
  obtain ⟨f1, f2⟩ := find_rows W hx es.toList xs 0 hm hc
  have hw := run_findKey_eq (P := Tryd.prog) W (k := 109) (by rw [und_rows]) x.val es.toList
  by_cases hl : x ∈ xs
  · obtain ⟨j, hj⟩ := f1 hl
    simp [Instr.lookup, run_underlying Tryd.underlying69, MapKept.run_getObj_map hb, check_rows, hw, hj, Result.andThen, hl]
  · simp [Instr.lookup, run_underlying Tryd.underlying69, MapKept.run_getObj_map hb, check_rows, hw, f2 hl, Result.andThen, hl, zeroI_run]
theorem put_R {W : World} {p : Nat} {xs : List Rk} (h : MapR W p xs) {x : Rk} (hx : x.clean W) (hc : ∀ y ∈ xs, y.clean W) (hl : x ∉ xs) :
    ∃ W', (Instr.mapUpdate 69 (.map (some p)) x.val (.int .i64 1)).run Tryd.prog W = .ok () W' ∧ MapR W' p (xs ++ [x]) ∧ Kept (· = p) W W' := by
  obtain ⟨es, clk, hb, hm⟩ := h
  obtain ⟨f1, f2⟩ := find_rows W hx es.toList xs 0 hm hc
  have hw := run_findKey_eq (P := Tryd.prog) W (k := 109) (by rw [und_rows]) x.val es.toList
  refine ⟨ChangeMaps.setBlock W p (.map (es.push ⟨x.val, .int .i64 1, clk⟩) (clk + 1)), ?_, ⟨_, _, ChangeMaps.heap_setBlock_same hb _, by simp [hm]⟩, ⟨rfl, rfl, rfl, by simp [ChangeMaps.setBlock], fun g hg hp => ChangeMaps.heap_setBlock_other hb _ hp⟩⟩
  simp [Instr.mapUpdate, run_underlying Tryd.underlying69, MapKept.run_getObj_map hb, check_rows, hw, f2 hl, MapKept.run_setObj_map _ hb, Result.andThen, ChangeMaps.setBlock]
end Go.Proofs.YtbhicpjhijondaaDoor
/- T41 -/
/- types.alike at clean memory. -/
namespace Go.Typ
open Go.RowKit Go.Lib Go.Vfs Go.Par
/-- an entry of alike's map: two rows of types, that are the same unless it is still asked. -/
def Ent (S : Nat → Prop) (O : Ty → Ty → Prop) (W : World) (x : Rk) : Prop :=
  ∃ T U k num name c k' num' name' c', TyAt S W (tyV k num name (some ⟨x.b, x.o, none⟩) x.n c) T ∧ TyAt S W (tyV k' num' name' (some ⟨x.b', x.o', none⟩) x.n c') U ∧ 0 < x.n ∧ (T.args = U.args ∨ O T U)
def KSeen (S : Nat → Prop) (O : Ty → Ty → Prop) (W : World) (m : Nat) : Prop := ∃ xs, MapR W m xs ∧ ∀ x ∈ xs, Ent S O W x
section
variable {S : Nat → Prop} {O O' : Ty → Ty → Prop} {W W' : World} {m : Nat} {x : Rk}
theorem Ent.keep (h : Ent S O W x) (hk : ∀ g, S g → W'.heap[g]? = W.heap[g]?) : Ent S O W' x := by
  obtain ⟨T, U, k, num, name, c, k', num', name', c', h1, h2, h3⟩ := h
  exact ⟨T, U, k, num, name, c, k', num', name', c', h1.keep fun g hg => ⟨hg, hk g hg⟩, h2.keep fun g hg => ⟨hg, hk g hg⟩, h3⟩
theorem Ent.mono (h : Ent S O W x) (hO : ∀ T U, O T U → T.args = U.args ∨ O' T U) : Ent S O' W x := by
  obtain ⟨T, U, k, num, name, c, k', num', name', c', h1, h2, h3, h4⟩ := h
  exact ⟨T, U, k, num, name, c, k', num', name', c', h1, h2, h3, h4.elim .inl (hO T U)⟩
theorem KSeen.keep (h : KSeen S O W m) (hp : W'.heap[m]? = W.heap[m]?) (hk : ∀ g, S g → W'.heap[g]? = W.heap[g]?) : KSeen S O W' m := by
  obtain ⟨xs, h1, h2⟩ := h
  exact ⟨xs, h1.keep hp, fun x hx => (h2 x hx).keep hk⟩
theorem KSeen.mono (h : KSeen S O W m) (hO : ∀ T U, O T U → T.args = U.args ∨ O' T U) : KSeen S O' W m := by
  obtain ⟨xs, h1, h2⟩ := h
  exact ⟨xs, h1, fun x hx => (h2 x hx).mono hO⟩
theorem KSeen.lt (h : KSeen S O W m) : m < W.heap.size := by obtain ⟨xs, h1, _⟩ := h; exact h1.lt
theorem TyAt.addr {S : Nat → Prop} {W : World} {k num : Int} {name : ByteArray} {b o n c : Nat} {T : Ty} (h : TyAt S W (tyV k num name (some ⟨b, o, none⟩) n c) T) (hn : 0 < n) : S b := by
  obtain ⟨_, _, _, e, _⟩ := h.tail
  obtain ⟨b', off, A', c', eA, hb, _⟩ := h.arg (i := 0) (by omega)
  injection eA with eA
  injection eA with eb eo
  subst eb
  exact hb
theorem Ent.clean (h : Ent S O W x) (hS : ∀ g, S g → CleanB W g) : x.clean W := by
  obtain ⟨T, U, k, num, name, c, k', num', name', c', h1, h2, h3, h4⟩ := h
  exact ⟨hS _ (h1.addr h3), hS _ (h2.addr h3)⟩
/-- rows that were seen, and are not asked any more, are the same. -/
theorem Ent.same (h : Ent S O W x) {T U : Ty} {k num k' num' : Int} {name name' : ByteArray} {c c' : Nat} (h1 : TyAt S W (tyV k num name (some ⟨x.b, x.o, none⟩) x.n c) T) (h2 : TyAt S W (tyV k' num' name' (some ⟨x.b', x.o', none⟩) x.n c') U)
    (hO : ∀ T' U', O T' U' → T.parts < T'.parts) : T.args = U.args := by
  obtain ⟨T', U', _, _, _, _, _, _, _, _, g1, g2, g3, g4⟩ := h
  have e1 := h1.same_row g1 rfl
  have e2 := h2.same_row g2 rfl
  rcases g4 with g4 | g4
  · rw [e1, e2, g4]
  · have := hO _ _ g4
    rw [T.parts_eq, T'.parts_eq, e1] at this
    omega
end
theorem put3 {w : World} {b : Nat} {u0 u1 u2 v0 v1 v2 : Value} {t : TypeId} (h : w.heap[b]? = some (.cells #[u0, u1, u2] t (0, 0))) :
    (((w.setCell ⟨b, 0, none⟩ v0).setCell ⟨b, 1, none⟩ v1).setCell ⟨b, 2, none⟩ v2).heap[b]? = some (.cells #[v0, v1, v2] t (0, 0)) := by
  have := cells_put (cells_put (cells_put h 0 v0) 1 v1) 2 v2
  simpa using this
theorem kept3 {F : Nat → Prop} {w0 w : World} {b : Nat} {v0 v1 v2 : Value} (h : Kept F w0 w) (hp : F b ∨ w0.heap.size ≤ b) :
    Kept F w0 (((w.setCell ⟨b, 0, none⟩ v0).setCell ⟨b, 1, none⟩ v1).setCell ⟨b, 2, none⟩ v2) :=
  ((h.setCell (p := ⟨b, 0, none⟩) hp v0).setCell (p := ⟨b, 1, none⟩) hp v1).setCell (p := ⟨b, 2, none⟩) hp v2
theorem box3 {W : World} {b : Nat} {v0 v1 v2 : Value} {t : TypeId} (h : W.heap[b]? = some (.cells #[v0, v1, v2] t (0, 0))) :
    (W.cell? ⟨b, 0, none⟩ = some v0 ∧ W.cell? ⟨b, 1, none⟩ = some v1 ∧ W.cell? ⟨b, 2, none⟩ = some v2) := by
  simp [World.cell?, h]
theorem box3_frozen {W : World} {b : Nat} {v0 v1 v2 : Value} {t : TypeId} (h : W.heap[b]? = some (.cells #[v0, v1, v2] t (0, 0))) :
    (W.frozen? ⟨b, 0, none⟩ = false ∧ W.frozen? ⟨b, 1, none⟩ = false ∧ W.frozen? ⟨b, 2, none⟩ = false) := by
  simp [World.frozen?, h]
end Go.Typ
namespace Go.Proofs.YtbhicpjhijondaaDoor
open Go.RowKit Go.Lib Go.Vfs Go.Par Go.Typ Go.Shelf
set_option linter.unusedVariables false
set_option linter.unusedSimpArgs false

set_option maxRecDepth 20000 in
set_option maxHeartbeats 4000000 in
theorem alike_any (n₀ m : Nat) (W0 : World) (S : Nat → Prop) (hS : ∀ g, S g → g < n₀ ∧ CleanB W0 g) (hm : n₀ ≤ m) (T : Ty) :
    ∀ (U : Ty) (O : Ty → Ty → Prop) (v u : Value) (w : World), Below n₀ W0 w → TyAt S w v T → TyAt S w u U → KSeen S O w m → (∀ T' U', O T' U' → T.parts < T'.parts) →
      Calls Tryd.prog 55 #[v, u, .map (some m)] w fun e w' => e = .returned (.bool (same T U)) ∧ Kept (· = m) w w' ∧ (same T U = true → KSeen S O w' m) := by
  induction T using Ty.ind with
  | h T ih =>
    intro U O v u w hB hT hU hK hO
    have IH := Lib.hid ih
    clear ih
    by_cases hleaf : T.args = []
    · refine (alike_leaf T U hleaf S v u _ w hT hU).mono fun e w' ⟨h1, h2⟩ => ⟨h1, Kept.of_below h2, fun _ => ?_⟩
      exact hK.keep (h2.block _ hK.lt) fun g hg => h2.block g (by have := (hS g hg).1; have := hK.lt; omega)
    obtain ⟨A, c, rfl, hc, hmx, hn⟩ := hT.form
    obtain ⟨A', c', rfl, hc', hmx', hn'⟩ := hU.form
    have hl0 : 0 < T.args.length := by
      cases h : T.args with
      | nil => exact absurd h hleaf
      | cons a l => simp
    have hpl := hK.lt
    obtain ⟨W1, hW1⟩ : ∃ W1, W1 = (w.alloc (.cells #[.int .i64 T.kind, .int .i64 T.num, .string T.name, .slice A T.args.length c] 24)).alloc (.cells #[.int .i64 U.kind, .int .i64 U.num, .string U.name, .slice A' U.args.length c'] 24) := ⟨_, rfl⟩
    have hb1 : Below w.heap.size w W1 := by rw [hW1]; exact ((Below.refl _ _).alloc (Nat.le_refl _) _).alloc (by simp) _
    have hbg : W1.heap[w.heap.size]? = some (.cells #[.int .i64 T.kind, .int .i64 T.num, .string T.name, .slice A T.args.length c] 24 (0, 0)) := by
      rw [hW1, Below.heap_alloc _ _ _ (by simp)]
      exact heap_alloc_new _ _
    have hbt : W1.heap[w.heap.size + 1]? = some (.cells #[.int .i64 U.kind, .int .i64 U.num, .string U.name, .slice A' U.args.length c'] 24 (0, 0)) := by
      rw [hW1]
      have := heap_alloc_new (w.alloc (.cells #[.int .i64 T.kind, .int .i64 T.num, .string T.name, .slice A T.args.length c] 24)) (.cells #[.int .i64 U.kind, .int .i64 U.num, .string U.name, .slice A' U.args.length c'] 24)
      simpa using this
    have hz1 : W1.heap.size = w.heap.size + 2 := by rw [hW1]; simp
    have hT1 := hT.keep (S' := S) (W' := W1) fun g hg => ⟨hg, hb1.block g (by have := (hS g hg).1; omega)⟩
    have hU1 := hU.keep (S' := S) (W' := W1) fun g hg => ⟨hg, hb1.block g (by have := (hS g hg).1; omega)⟩
    have hK1 := hK.keep (W' := W1) (hb1.block m hpl) fun g hg => hb1.block g (by have := (hS g hg).1; omega)
    have hB1 : Below n₀ W0 W1 := hB.trans (hb1.mono (by omega))
    have HB1 := Lib.hid hb1; have HT1 := Lib.hid hT1; have HU1 := Lib.hid hU1; have HK1 := Lib.hid hK1; have HN1 := Lib.hid hB1; have HBG := Lib.hid hbg; have HBT := Lib.hid hbt; have HZ1 := Lib.hid hz1; have HO := Lib.hid hO; have HLF := Lib.hid hleaf
    have hla : T.args.length ≤ 9223372036854775807 := by simp only [maxLen] at hmx; omega
    have hla' : U.args.length ≤ 9223372036854775807 := by simp only [maxLen] at hmx'; omega
    clear hT hU hK hB hb1 hT1 hU1 hK1 hB1 hc hmx hn hc' hmx' hn' hO hleaf
    obtain ⟨y0, y1, y2, y3⟩ := box4 hbg
    obtain ⟨z0, z1, z2, z3⟩ := box4 hbt
    rw [hW1] at y0 y1 y2 y3 z0 z1 z2 z3
    clear hbg hbt hz1
    unfold tyV
    by_cases e1 : T.kind = U.kind
    · by_cases e2 : T.num = U.num
      · by_cases e3 : T.name = U.name
        · by_cases e4 : T.args.length = U.args.length
          · obtain ⟨b, off, A2, c2, rfl, hSb, -⟩ := HT1.out.arg (i := 0) (by omega)
            obtain ⟨b', off', A2', c2', rfl, hSb', -⟩ := HU1.out.arg (i := 0) (by omega)
            have h1 : (T.kind != U.kind) = false := by simp [e1]
            have h2 : (T.num != U.num) = false := by simp [e2]
            have h3 : (T.name.toList == U.name.toList) = true := (beqS _ _).2 e3
            have h4 : ((T.args.length : Int) != (U.args.length : Int)) = false := by simp [e4]
            have h5 : ((T.args.length : Int) == 0) = false := by simp; exact HLF.out
            have E4 := Lib.hid e4; have HL0 := Lib.hid hl0
            have HEQ : Hid (T.args = U.args → same T U = true) := Lib.hid fun h => same_true (Ty.ext' e1 e2 e3 h)
            obtain ⟨W3, hW3⟩ : ∃ W3, W3 = (W1.alloc (.cells #[.pointer (some ⟨b, off, none⟩), .pointer (some ⟨b', off', none⟩), .int .i64 T.args.length] 109)).drew := ⟨_, rfl⟩
            have hb3 : Below W1.heap.size W1 W3 := by rw [hW3]; exact ((Below.refl _ _).alloc (Nat.le_refl _) _).drew
            have hrk : W3.heap[w.heap.size + 1 + 1]? = some (.cells #[.pointer (some ⟨b, off, none⟩), .pointer (some ⟨b', off', none⟩), .int .i64 T.args.length] 109 (0, 0)) := by
              rw [hW3]
              have := heap_alloc_new W1 (.cells #[.pointer (some ⟨b, off, none⟩), .pointer (some ⟨b', off', none⟩), .int .i64 T.args.length] 109)
              rw [HZ1.out] at this
              exact this
            have hT3 := HT1.out.keep (S' := S) (W' := W3) fun g hg => ⟨hg, hb3.block g (by have := (hS g hg).1; have := HZ1.out; omega)⟩
            have hU3 := HU1.out.keep (S' := S) (W' := W3) fun g hg => ⟨hg, hb3.block g (by have := (hS g hg).1; have := HZ1.out; omega)⟩
            have hK3 := HK1.out.keep (W' := W3) (hb3.block m HK1.out.lt) fun g hg => hb3.block g (by have := (hS g hg).1; have := HZ1.out; omega)
            have hN3 : Below n₀ W0 W3 := HN1.out.trans (hb3.mono (by have := HZ1.out; omega))
            have hcl : ∀ g, S g → CleanB W3 g := fun g hg => (hS g hg).2.keep (hN3.block g (hS g hg).1)
            obtain ⟨xs, hm3, hx3⟩ := hK3
            obtain ⟨x, hx⟩ : ∃ x : Rk, x = ⟨b, off, b', off', T.args.length⟩ := ⟨_, rfl⟩
            have hxc : x.clean W3 := by rw [hx]; exact ⟨hcl _ hSb, hcl _ hSb'⟩
            have hxs : ∀ y ∈ xs, y.clean W3 := fun y hy => (hx3 y hy).clean hcl
            have hcmp := eql_addr W3 (a := ⟨b, off, none⟩) (b := ⟨b', off', none⟩) (hcl _ hSb) (hcl _ hSb')
            have hlook := look_R hm3 hxc hxs
            have HK13 : Hid (Kept (· = m) w W3) := Lib.hid ((Kept.of_below HB1.out).trans' (Kept.of_below hb3))
            have HW3 := Lib.hid hW3
            obtain ⟨r0, r1, r2⟩ := box3 hrk
            obtain ⟨t0, t1, t2, t3⟩ := box4 ((hb3.block _ (by have := HZ1.out; omega)).trans HBG.out)
            have HRK := Lib.hid hrk; have HT3 := Lib.hid hT3; have HU3 := Lib.hid hU3; have HM3 := Lib.hid hm3; have HX3 := Lib.hid hx3; have HXC := Lib.hid hxc; have HXS := Lib.hid hxs; have HN3 := Lib.hid hN3; have HB3 := Lib.hid hb3; have HCL := Lib.hid hcl
            rw [hx] at hlook
            simp only [Rk.val] at hlook
            have hl0' : 0 < U.args.length := by omega
            clear e1 e2 e3 e4 hSb hSb' hb3 hrk hT3 hU3 hm3 hx3 hxc hxs hN3 hcl hW3
            go_enter Tryd.func55, Tryd.ntmps55
            go_wp2_with fail
            go_region
            rw [← hW1, ← HW3.out]
            clear hW1 y0 y1 y2 y3 z0 z1 z2 z3 h1 h2 h3 h4 h5
            by_cases ha : (⟨b, off, none⟩ : Addr) = ⟨b', off', none⟩
            · have HR : Hid (same T U = true) := Lib.hid (HEQ.out (by
                have h2 := HU3.out
                rw [← ha, ← E4.out] at h2
                exact HT3.out.same_row h2 rfl))
              rw [decide_eq_true ha] at hcmp
              clear ha hlook
              go_wp2
              go_ret
              rw [HR.out]
              exact ⟨rfl, HK13.out, fun _ => ⟨xs, HM3.out, HX3.out⟩⟩
            · rw [decide_eq_false ha] at hcmp
              by_cases hin : (⟨b, off, b', off', T.args.length⟩ : Rk) ∈ xs
              · rw [if_pos hin] at hlook
                have HR : Hid (same T U = true) := Lib.hid (HEQ.out (by
                  have h2 := HU3.out
                  rw [← E4.out] at h2
                  exact (HX3.out _ hin).same HT3.out h2 HO.out))
                clear ha hin
                go_wp2
                go_ret
                rw [HR.out]
                exact ⟨rfl, HK13.out, fun _ => ⟨xs, HM3.out, HX3.out⟩⟩
              · rw [if_neg hin] at hlook
                obtain ⟨W4, hput, hm4, hk4⟩ := put_R HM3.out HXC.out HXS.out (by rw [hx]; exact hin)
                have HP4 : Hid (KSeen S (fun T' U' => O T' U' ∨ (T'.args = T.args ∧ U'.args = U.args)) W4 m) := Lib.hid (by
                  refine ⟨_, hm4, fun y hy => ?_⟩
                  have hke : ∀ g, S g → W4.heap[g]? = W3.heap[g]? := fun g hg => hk4.block g (by have := (hS g hg).1; have := HM3.out.lt; omega) (by have := (hS g hg).1; omega)
                  rcases List.mem_append.1 hy with hy | hy
                  · exact ((HX3.out y hy).mono fun T' U' h => .inr (.inl h)).keep hke
                  · rw [List.mem_singleton.1 hy, hx]
                    have h1 := HT3.out.keep (S' := S) (W' := W4) fun g hg => ⟨hg, hke g hg⟩
                    have h2 := HU3.out.keep (S' := S) (W' := W4) fun g hg => ⟨hg, hke g hg⟩
                    rw [← E4.out] at h2
                    exact ⟨T, U, _, _, _, _, _, _, _, _, h1, h2, HL0.out, .inr (.inr ⟨rfl, rfl⟩)⟩)
                have HK34 : Hid (Kept (· = m) W3 W4) := Lib.hid hk4
                have HZ3 : Hid (w.heap.size + 3 ≤ W3.heap.size) := Lib.hid (by have := lt_blk HRK.out; omega)
                have HML : Hid (m < w.heap.size) := Lib.hid hpl
                have s3 : W4.cell? ⟨w.heap.size, 3, none⟩ = some (.slice (some ⟨b, off, none⟩) T.args.length c) := by
                  rw [World.cell?_of_block (w := W3) (a := ⟨w.heap.size, 3, none⟩) (hk4.block w.heap.size (by have := lt_blk HRK.out; omega) (by omega))]
                  exact t3
                rw [hx] at hput
                simp only [Rk.val] at hput
                clear ha hin hm4 hk4 hx hpl
                go_wp2
                clear r0 r1 r2 t0 t1 t2 t3 hput hcmp hlook s3
                go_loopw [67] (fun iv W => ∃ (k : Nat), k ≤ T.args.length ∧ iv = .int .i64 k ∧ Hid (T.args.take k = U.args.take k) ∧ Hid (Kept (· = m) W3 W) ∧ Hid (KSeen S (fun T' U' => O T' U' ∨ (T'.args = T.args ∧ U'.args = U.args)) W m)) (fun iv _ => T.args.length - (RowKit.intOf iv).toNat)
                case atStart => exact ⟨0, by omega, rfl, Lib.hid (by simp), HK34, HP4⟩
                case round =>
                  obtain ⟨k, hk, rfl, HA, HKR, HKN⟩ := hrel
                  by_cases hlt : k < T.args.length
                  · have hlt' : k < U.args.length := by have := E4.out; omega
                    have hml := HML.out
                    have hz3 := HZ3.out
                    have hzr := HKR.out.size
                    have hTr := HT3.out.keep (S' := S) (W' := wr) fun g hg => ⟨hg, HKR.out.block g (by have := (hS g hg).1; omega) (by have := (hS g hg).1; omega)⟩
                    have hUr := HU3.out.keep (S' := S) (W' := wr) fun g hg => ⟨hg, HKR.out.block g (by have := (hS g hg).1; omega) (by have := (hS g hg).1; omega)⟩
                    obtain ⟨bb, oo, A2, c2, eA, hb, ht, x0, x1, x2, x3⟩ := hTr.arg hlt
                    obtain ⟨bb', oo', A2', c2', eA', hb', ht', x0', x1', x2', x3'⟩ := hUr.arg hlt'
                    injection eA with eA
                    injection eA with eb eo
                    injection eA' with eA'
                    injection eA' with eb' eo'
                    subst eb eo eb' eo'
                    have hgb : ∀ g, g < W3.heap.size → g ≠ m → wr.heap[g]? = W3.heap[g]? := fun g h1 h2 => HKR.out.block g h1 h2
                    obtain ⟨y0, y1, y2, y3⟩ := box4 (((hgb w.heap.size (by omega) (by omega)).trans (HB3.out.block _ (by have := HZ1.out; omega))).trans HBG.out)
                    obtain ⟨z0, z1, z2, z3⟩ := box4 (((hgb (w.heap.size + 1) (by omega) (by omega)).trans (HB3.out.block _ (by have := HZ1.out; omega))).trans HBT.out)
                    have hih := fun U' O' v u w => IH.out k hlt U' O' v u w
                    have HOS : Hid (∀ T' U', (O T' U' ∨ (T'.args = T.args ∧ U'.args = U.args)) → (T.args[k]).parts < T'.parts) := Lib.hid fun T' U' h => by
                      have h0 := Ty.parts_arg hlt
                      rcases h with h | h
                      · have := HO.out _ _ h; omega
                      · have e1 := T'.parts_eq; have e2 := T.parts_eq; rw [h.1] at e1; omega
                    have HNE : Hid (¬ T.args[k] = U.args[k] → same T U = false) := Lib.hid fun h => same_false fun e => h (by subst e; rfl)
                    have HTK : Hid (T.args[k] = U.args[k] → T.args.take (k + 1) = U.args.take (k + 1)) := Lib.hid fun h => by rw [List.take_succ_eq_append_getElem hlt, List.take_succ_eq_append_getElem hlt', HA.out, h]
                    have hbn : ∀ W2, Kept (· = m) W3 W2 → Below n₀ W0 W2 := fun W2 h => HN3.out.trans (below_of_kept h hm (by omega))
                    generalize T.args[k] = X at *
                    generalize U.args[k] = Y at *
                    have hca := hih Y _ _ _ wr.drew (hbn _ (HKR.out.trans' (Kept.of_below ((Below.refl wr.heap.size _).drew)))) (ht.keep fun g hg => ⟨hg, rfl⟩) (ht'.keep fun g hg => ⟨hg, rfl⟩) (HKN.out.keep rfl fun g hg => rfl) HOS.out
                    have HSK : Hid (∀ W', Kept (· = m) wr W' → W'.cell? ⟨w.heap.size, 3, none⟩ = some (.slice (some ⟨b, off, none⟩) T.args.length c) ∧ W'.cell? ⟨w.heap.size + 1, 3, none⟩ = some (.slice (some ⟨b', off', none⟩) U.args.length c') ∧
                        W'.cell? ⟨b, off + k * 4, none⟩ = some (.int .i64 X.kind) ∧ W'.cell? ⟨b, off + k * 4 + 1, none⟩ = some (.int .i64 X.num) ∧ W'.cell? ⟨b, off + k * 4 + 2, none⟩ = some (.string X.name) ∧ W'.cell? ⟨b, off + k * 4 + 3, none⟩ = some (.slice A2 X.args.length c2) ∧
                        W'.cell? ⟨b', off' + k * 4, none⟩ = some (.int .i64 Y.kind) ∧ W'.cell? ⟨b', off' + k * 4 + 1, none⟩ = some (.int .i64 Y.num) ∧ W'.cell? ⟨b', off' + k * 4 + 2, none⟩ = some (.string Y.name) ∧ W'.cell? ⟨b', off' + k * 4 + 3, none⟩ = some (.slice A2' Y.args.length c2')) := Lib.hid fun W' h => by
                      have n1 := (hS b hb).1
                      have n2 := (hS b' hb').1
                      have q1 := fun o => World.cell?_of_block (w := wr) (w' := W') (a := ⟨w.heap.size, o, none⟩) (h.block w.heap.size (by omega) (by omega))
                      have q2 := fun o => World.cell?_of_block (w := wr) (w' := W') (a := ⟨w.heap.size + 1, o, none⟩) (h.block (w.heap.size + 1) (by omega) (by omega))
                      have q3 := fun o => World.cell?_of_block (w := wr) (w' := W') (a := ⟨b, o, none⟩) (h.block b (by omega) (by omega))
                      have q4 := fun o => World.cell?_of_block (w := wr) (w' := W') (a := ⟨b', o, none⟩) (h.block b' (by omega) (by omega))
                      rw [q1, q2, q3, q3, q3, q3, q4, q4, q4, q4]
                      exact ⟨y3, z3, x0, x1, x2, x3, x0', x1', x2', x3'⟩
                    have HBW : Hid (Kept (· = m) wr wr.drew) := Lib.hid (Kept.of_below ((Below.refl wr.heap.size _).drew))
                    unfold tyV at hca
                    obtain ⟨q, hq⟩ : ∃ q, q = same X Y := ⟨_, rfl⟩
                    rw [← hq] at hca
                    have HQ := Lib.hid hq
                    have HCA := Lib.hid hca
                    clear hca hih ht ht' hTr hUr y0 y1 y2 z0 z1 z2 hgb hbn hq hml hz3 hzr hb hb'
                    go_wp2_with fail
                    go_region_held (fun W' => W'.cell? ⟨w.heap.size, 3, none⟩ = some (.slice (some ⟨b, off, none⟩) T.args.length c) ∧ W'.cell? ⟨w.heap.size + 1, 3, none⟩ = some (.slice (some ⟨b', off', none⟩) U.args.length c') ∧
                        W'.cell? ⟨b, off + k * 4, none⟩ = some (.int .i64 X.kind) ∧ W'.cell? ⟨b, off + k * 4 + 1, none⟩ = some (.int .i64 X.num) ∧ W'.cell? ⟨b, off + k * 4 + 2, none⟩ = some (.string X.name) ∧ W'.cell? ⟨b, off + k * 4 + 3, none⟩ = some (.slice A2 X.args.length c2) ∧
                        W'.cell? ⟨b', off' + k * 4, none⟩ = some (.int .i64 Y.kind) ∧ W'.cell? ⟨b', off' + k * 4 + 1, none⟩ = some (.int .i64 Y.num) ∧ W'.cell? ⟨b', off' + k * 4 + 2, none⟩ = some (.string Y.name) ∧ W'.cell? ⟨b', off' + k * 4 + 3, none⟩ = some (.slice A2' Y.args.length c2'))
                        (first | exact HSK.out _ HBW.out | exact HSK.out _ (by assumption)) ((go_at_call 55; refine HCA.out.mono ?_; rintro e w3 ⟨rfl, HK3, HM4⟩; have HK4 := HBW.out.trans' HK3))
                    cases q
                    · have HR : Hid (same T U = false) := Lib.hid (HNE.out fun e => by have h := HQ.out; rw [same_true e] at h; cases h)
                      go_wp2
                      go_ret
                      rw [HR.out]
                      exact ⟨rfl, (HK13.out.trans' HKR.out).trans' HK4, fun h => by cases h⟩
                    · have HX := same_iff.1 HQ.out.symm
                      have HM5 := Lib.hid (HM4 rfl)
                      clear HM4
                      go_wp2
                      go_roundw
                      case rel => exact ⟨k + 1, by omega, by go_num, Lib.hid (HTK.out HX), Lib.hid (HKR.out.trans' HK4), HM5⟩
                      case measure => simp [RowKit.intOf]; omega
                  · have hkl : k = T.args.length := by omega
                    have hte : T.args = U.args := by
                      have h := HA.out
                      rw [hkl, List.take_length] at h
                      rw [h, E4.out, List.take_length]
                    have HTE := Lib.hid hte
                    have HR : Hid (same T U = true) := Lib.hid (HEQ.out hte)
                    clear hte
                    go_wp2
                    go_ret
                    rw [HR.out]
                    refine ⟨rfl, HK13.out.trans' HKR.out, fun _ => HKN.out.mono fun T' U' h => ?_⟩
                    rcases h with h | h
                    · exact .inr h
                    · exact .inl (by rw [h.1, h.2, HTE.out])
          · have HR : Hid (same T U = false) := Lib.hid (same_false fun e => e4 (by rw [e]))
            have h1 : (T.kind != U.kind) = false := by simp [e1]
            have h2 : (T.num != U.num) = false := by simp [e2]
            have h3 : (T.name.toList == U.name.toList) = true := (beqS _ _).2 e3
            have h4 : ((T.args.length : Int) != (U.args.length : Int)) = true := by simp; omega
            clear e1 e2 e3 e4
            go_enter Tryd.func55, Tryd.ntmps55
            go_wp2
            go_ret
            rw [HR.out, ← hW1]
            exact ⟨rfl, Kept.of_below HB1.out, fun h => by cases h⟩
        · have HR : Hid (same T U = false) := Lib.hid (same_false fun e => e3 (by rw [e]))
          have h1 : (T.kind != U.kind) = false := by simp [e1]
          have h2 : (T.num != U.num) = false := by simp [e2]
          have h3 : (T.name.toList == U.name.toList) = false := beqS_ne e3
          clear e1 e2 e3
          go_enter Tryd.func55, Tryd.ntmps55
          go_wp2
          go_ret
          rw [HR.out, ← hW1]
          exact ⟨rfl, Kept.of_below HB1.out, fun h => by cases h⟩
      · have HR : Hid (same T U = false) := Lib.hid (same_false fun e => e2 (by rw [e]))
        have h1 : (T.kind != U.kind) = false := by simp [e1]
        have h2 : (T.num != U.num) = true := by simp [e2]
        clear e1 e2
        go_enter Tryd.func55, Tryd.ntmps55
        go_wp2
        go_ret
        rw [HR.out, ← hW1]
        exact ⟨rfl, Kept.of_below HB1.out, fun h => by cases h⟩
    · have HR : Hid (same T U = false) := Lib.hid (same_false fun e => e1 (by rw [e]))
      have h1 : (T.kind != U.kind) = true := by simp [e1]
      clear e1
      go_enter Tryd.func55, Tryd.ntmps55
      go_wp2
      go_ret
      rw [HR.out, ← hW1]
      exact ⟨rfl, Kept.of_below HB1.out, fun h => by cases h⟩
end Go.Proofs.YtbhicpjhijondaaDoor
/- T42 -/
/- Copies of types lie in clean memory; types.Same and types.Instance there. -/
namespace Go.Typ
open Go.RowKit Go.Lib Go.Vfs Go.Par
/-- as TyAt; and no block of its rows bears a mark. -/
def TyC (S : Nat → Prop) (W : World) (v : Value) (T : Ty) : Prop := TyAt (fun g => S g ∧ CleanB W g) W v T
theorem TyC.keep {S S' : Nat → Prop} {w w' : World} {v : Value} {x : Ty} (h : TyC S w v x) (hk : ∀ b, S b → S' b ∧ w'.heap[b]? = w.heap[b]?) : TyC S' w' v x :=
  TyAt.keep h fun b hb => ⟨⟨(hk b hb.1).1, hb.2.keep (hk b hb.1).2⟩, (hk b hb.1).2⟩
theorem TyC.at_ {S : Nat → Prop} {w : World} {v : Value} {x : Ty} (h : TyC S w v x) : TyAt S w v x := TyAt.sub h fun _ hg => hg.1
theorem TyC.blw {w w' : World} {v : Value} {x : Ty} (h : TyC (· < w.heap.size) w v x) (hb : Below w.heap.size w w') : TyC (· < w'.heap.size) w' v x :=
  h.keep fun b hk => ⟨Nat.lt_of_lt_of_le hk hb.size, hb.block b hk⟩
theorem TyC.nil (S : Nat → Prop) (w : World) (k num : Int) (name : ByteArray) (A : Option Addr) (c : Nat) (hm : c ≤ maxLen) (hn : name.size ≤ 9223372036854775807) : TyC S w (tyV k num name A 0 c) (.mk k num name []) :=
  TyAt.mk k num name [] A c (fun _ => .bool false) (Nat.zero_le _) hm hn (fun h => by simp at h) (fun i h => by simp at h)
theorem TyC.leaf {S : Nat → Prop} {w : World} {v : Value} {x : Ty} (h : TyAt S w v x) (hl : x.args = []) (S' : Nat → Prop) (w' : World) : TyC S' w' v x := by
  obtain ⟨A, c, rfl, _, hm, hn⟩ := h.form
  obtain ⟨k, num, name, ts⟩ := x
  simp only [Ty.args] at hl
  subst hl
  exact TyC.nil S' w' k num name A c hm hn
theorem RowK.tyC {e L B : Nat} {w : World} {ts : List Ty} {v : Value} {us : List Value} (h : RowK e 4 TyC L B w ts v us) (k num : Int) (name : ByteArray) (hn : name.size ≤ 9223372036854775807) :
    ∃ A c, v = .slice A ts.length c ∧ TyC (fun g => (L ≤ g ∨ B ≤ g) ∧ g < w.heap.size) w (tyV k num name A ts.length c) (.mk k num name ts) := by
  obtain ⟨A, c, rfl, hc, hm⟩ := h.form
  refine ⟨A, c, rfl, .mk k num name ts A c (fun i => us.getD i (.bool false)) hc hm hn (fun h0 => ?_) (fun i hi => TyC.keep (h.each i hi) fun g hg => ⟨⟨.inl hg.1, hg.2.1⟩, rfl⟩)⟩
  obtain ⟨g, c', e, hb, hlt, hat⟩ := h.cells h0
  have hcl : CleanB w g := by
    rcases h.own.2 with ⟨e', h0'⟩ | ⟨g', cap, cur, e', _, hh, _⟩
    · omega
    · rw [e] at e'
      injection e' with e1 _ _
      injection e1 with e1
      injection e1 with e1 _
      subst e1
      exact ⟨cur, _, hh⟩
  injection e with e1 _ _
  refine ⟨g, 0, e1, ⟨⟨.inr hb, hlt⟩, hcl⟩, fun i hi j hj => ?_⟩
  rw [hat i hi j hj]
  obtain ⟨A', c', e, _⟩ := (TyC.at_ (h.each i hi)).form
  rw [e]
  have : j = 0 ∨ j = 1 ∨ j = 2 ∨ j = 3 := by omega
  rcases this with rfl | rfl | rfl | rfl <;> rfl
end Go.Typ
namespace Go.Proofs.YtbhicpjhijondaaDoor
open Go.RowKit Go.Lib Go.Vfs Go.Par Go.Typ
set_option linter.unusedVariables false
set_option linter.unusedSimpArgs false

set_option maxRecDepth 20000 in
set_option maxHeartbeats 400000 in
theorem copyTypeC_any (T : Ty) : ∀ (v : Value) (w : World), TyAt (· < w.heap.size) w v T → T.parts ≤ 1099511627776 →
    Calls Tryd.prog 17 #[v] w fun e w' => ∃ A c, e = .returned (tyV T.kind T.num T.name A T.args.length c) ∧ TyC (fun g => w.heap.size ≤ g ∧ g < w'.heap.size) w' (tyV T.kind T.num T.name A T.args.length c) T ∧ Below w.heap.size w w' := by
  induction T using Ty.ind with
  | h T ih =>
    intro v w hT hp
    have IH := Lib.hid ih
    clear ih
    obtain ⟨A, c, rfl, hc, hm, hn⟩ := hT.form
    have hla : T.args.length ≤ 1099511627776 := by have := length_parts T.args; rw [T.parts_eq] at hp; omega
    obtain ⟨W1, hW1⟩ : ∃ W1, W1 = (w.alloc (.cells #[.int .i64 T.kind, .int .i64 T.num, .string T.name, .slice A T.args.length c] 24)).alloc (.cells #[.int .i64 0, .int .i64 0, .string ⟨#[]⟩, .slice none 0 0] 24) := ⟨_, rfl⟩
    have hL : Loop4 w W1 w.heap.size T A c := by
      refine ⟨?_, by rw [hW1]; simp; omega, Nat.le_refl _, by rw [hW1]; exact ((Below.refl _ _).alloc (Nat.le_refl _) _).alloc (by simp) _, hT⟩
      rw [hW1, Below.heap_alloc _ _ _ (by simp)]
      exact heap_alloc_new _ _
    have hres : W1.heap[w.heap.size + 1]? = some (.cells #[.int .i64 0, .int .i64 0, .string ⟨#[]⟩, .slice none 0 0] 24 (0, 0)) := by
      rw [hW1]
      have := heap_alloc_new (w.alloc (.cells #[.int .i64 T.kind, .int .i64 T.num, .string T.name, .slice A T.args.length c] 24)) (.cells #[.int .i64 0, .int .i64 0, .string ⟨#[]⟩, .slice none 0 0] 24)
      simpa using this
    have hz1 : W1.heap.size = w.heap.size + 2 := by rw [hW1]; simp
    have HL := Lib.hid hL; have HRS := Lib.hid hres; have HP := Lib.hid hp; have HZ1 := Lib.hid hz1
    clear hT hL hres hp hz1
    unfold tyV
    go_enter Tryd.func17, Tryd.ntmps17
    go_wp2
    rw [← hW1]
    go_loopw [3, 4] (fun sv iv W => ∃ (k : Nat) (us : List Value), k ≤ T.args.length ∧ iv = .int .i64 k ∧ Hid (RowK 24 4 TyC W1.heap.size W1.heap.size W (T.args.take k) sv us) ∧ Hid (Below W1.heap.size W1 W)) (fun _ iv _ => T.args.length - (RowKit.intOf iv).toNat)
    case atStart =>
      refine ⟨0, [], by omega, rfl, Lib.hid ?_, Lib.hid ((Below.refl _ _).alloc (Nat.le_refl _) _)⟩
      have h := RowK.made (e := 24) (k := 4) (R := TyC) (L := W1.heap.size) (B := W1.heap.size) W1 (Nat.le_refl _)
      rw [HZ1.out] at h ⊢
      exact h
    case round =>
      obtain ⟨k, us, hk, rfl, HR, HB⟩ := hrel
      obtain ⟨y0, y1, y2, y3⟩ := box4 (HL.out.in_ HB.out)
      obtain ⟨q0, q1, q2, q3⟩ := box4_frozen (HL.out.in_ HB.out)
      by_cases hlt : k < T.args.length
      · obtain ⟨b, off, A', c', rfl, hb, ht, x0, x1, x2, x3⟩ := (HL.out.ty' HB.out).arg hlt
        have hca := IH.out k hlt _ wr ht (by have := Ty.parts_arg hlt; have := HP.out; omega)
        have HTK : Hid (T.args.take (k + 1) = T.args.take k ++ [T.args[k]]) := Lib.hid (by rw [List.take_succ_eq_append_getElem hlt])
        have hlk : (T.args.take k).length = k := by rw [List.length_take]; omega
        have HLK := Lib.hid hlk
        clear ht hlk
        generalize T.args[k] = U at *
        unfold tyV at hca
        have HCA := Lib.hid hca
        have hzb := HB.out.size
        clear hca
        go_wp2_with fail
        refine HCA.out.mono ?_
        rintro e w2 ⟨A2, c2, rfl, hu, HB2⟩
        have hr2 := RowK.below (R := TyC) TyC.keep HR.out HB2
        have HR2 := Lib.hid hr2; have HU := Lib.hid hu
        have hown := hr2.own
        rw [HLK.out] at hown
        obtain ⟨us', hus⟩ : ∃ us', us' = us.flatMap flatC := ⟨_, rfl⟩
        rw [← hus] at hown
        have hz2 := HB2.size
        clear hr2 hu
        go_wp2_with (at_builtin; refine wpList_appK _ rfl _ _ _ rfl W1.heap.size _ 4 tyE _ k us' rfl (World.ownsRow.alloc hown _) ⟨w2.heap.size, 0, none⟩ 1 1 [.int .i64 U.kind, .int .i64 U.num, .string U.name, .slice A2 U.args.length c2] rfl rfl (cells_new _ _ _) (one4 _ _ _ _ _ _) (by omega) (by simp; omega) ?_; intro v3 w3 hown3 hg3 hat3)
        go_roundw
        case rel =>
          refine ⟨k + 1, us ++ [.agg #[.int .i64 U.kind, .int .i64 U.num, .string U.name, .slice A2 U.args.length c2]], by omega, by go_num, Lib.hid ?_, Lib.hid ?_⟩
          · rw [HTK.out]
            refine RowK.next (R := TyC) TyC.keep HR2.out HU.out (fun g hg => ⟨by omega, hg.2, fun e => ?_⟩) rfl _ ?_ hg3 hat3
            · have := HR.out.lt g e; omega
            · rw [HLK.out, ← hus]; exact hown3
          · exact below_grow (HB.out.trans (HB2.mono hzb)) (by omega) _ hg3 (fun g e => (hown.lt g e).1)
        case measure => simp [RowKit.intOf]; omega
      · have hkl : k = T.args.length := by omega
        subst hkl
        have hr := HR.out
        rw [List.take_length] at hr
        obtain ⟨A2, c2, rfl, hty⟩ := hr.tyC T.kind T.num T.name hn
        have hres : wr.heap[w.heap.size + 1]? = some (.cells #[.int .i64 0, .int .i64 0, .string ⟨#[]⟩, .slice none 0 0] 24 (0, 0)) := by
          rw [HB.out.block _ (by have := HZ1.out; omega)]; exact HRS.out
        obtain ⟨r0, r1, r2, r3⟩ := box4 hres
        obtain ⟨s0, s1, s2, s3⟩ := box4_frozen hres
        have HTY := Lib.hid hty
        have HRB := Lib.hid hres
        clear hty hr hres
        go_wp2
        obtain ⟨Wf, hWf⟩ : ∃ Wf, Wf = (((((wr.setCell ⟨w.heap.size, 3, none⟩ (.slice A2 T.args.length c2)).setCell ⟨w.heap.size + 1, 0, none⟩ (.int .i64 T.kind)).setCell ⟨w.heap.size + 1, 1, none⟩ (.int .i64 T.num)).setCell ⟨w.heap.size + 1, 2, none⟩ (.string T.name)).setCell ⟨w.heap.size + 1, 3, none⟩ (.slice A2 T.args.length c2)) := ⟨_, rfl⟩
        have hkp : Kept (fun g => g = w.heap.size ∨ g = w.heap.size + 1) wr Wf := by
          rw [hWf]
          exact kept4 ((Kept.refl _ _).setCell (p := ⟨w.heap.size, 3, none⟩) (.inl (.inl rfl)) _) (.inl (.inr rfl))
        have hbx : Wf.heap[w.heap.size + 1]? = some (.cells #[.int .i64 T.kind, .int .i64 T.num, .string T.name, .slice A2 T.args.length c2] 24 (0, 0)) := by
          rw [hWf]
          refine put4 (u0 := .int .i64 0) (u1 := .int .i64 0) (u2 := .string ⟨#[]⟩) (u3 := .slice none 0 0) ?_
          rw [Below.heap_setCell _ _ _ _ (by simp)]
          exact HRB.out
        have hz1 := HZ1.out
        have hzr := HB.out.size
        have hzf := hkp.size
        rw [← hWf]
        obtain ⟨f0, f1, f2, f3⟩ := box4 hbx
        refine bodyPost_ret (v := .agg #[.int .i64 T.kind, .int .i64 T.num, .string T.name, .slice A2 T.args.length c2]) (by simp [results, Tryd.results17, go_sem, f0, f1, f2, f3]) rfl ?_
        refine ⟨A2, c2, rfl, ?_, (HL.out.all HB.out).trans (hkp.below (by omega) (fun g hg => by omega))⟩
        rw [← T.eta] at HTY
        exact TyC.keep HTY.out fun g hg => ⟨by omega, hkp.block g hg.2 (by omega)⟩

theorem meets_true (G T : Ty) : meetsT (fun _ _ => True) G T := by
  induction G using Ty.ind generalizing T with
  | h G ih =>
    rw [meetsT_eq]
    split
    · trivial
    · have key : ∀ (gs ts : List Ty), (∀ g ∈ gs, ∀ T, meetsT (fun _ _ => True) g T) → meetsL (fun _ _ => True) gs ts := by
        intro gs
        induction gs with
        | nil => intro ts _; rw [meetsL]; trivial
        | cons g gs ih2 =>
          intro ts h
          cases ts with
          | nil => rw [meetsL]; trivial
          | cons t ts => rw [meetsL]; exact ⟨h g (by simp) t, ih2 ts fun x hx => h x (by simp [hx])⟩
      exact key _ _ fun g hg T => by obtain ⟨i, hi, rfl⟩ := List.getElem_of_mem hg; exact ih i hi T

/-- what a copy is, for whoever reads on: it bears no mark. -/
theorem copy_c {T : Ty} {v : Value} {w : World} (hT : TyAt (· < w.heap.size) w v T) (hp : T.parts ≤ 1000) :
    Calls Tryd.prog 17 #[v] w fun e w' => ∃ A c, e = .returned (tyV T.kind T.num T.name A T.args.length c) ∧ TyC (· < w'.heap.size) w' (tyV T.kind T.num T.name A T.args.length c) T ∧ Below w.heap.size w w' :=
  (copyTypeC_any T v w hT (by omega)).mono fun e w' ⟨A, c, h1, h2, h3⟩ => ⟨A, c, h1, h2.keep fun g hg => ⟨hg.2, rfl⟩, h3⟩
/-- Same at clean memory. -/
theorem sameC_any (T U : Ty) (n₀ : Nat) (W0 : World) (S : Nat → Prop) (hS : ∀ g, S g → g < n₀ ∧ CleanB W0 g) (v u : Value) (w : World) (hb : Below n₀ W0 w) (hn : n₀ ≤ w.heap.size) (hT : TyAt S w v T) (hU : TyAt S w u U) :
    Calls Tryd.prog 20 #[v, u] w fun e w' => e = .returned (.bool (same T U)) ∧ Below w.heap.size w w' :=
  same_by T U S v u w _ hT hU fun W hbw hz hm =>
    (alike_any n₀ (w.heap.size + 2) W0 S hS (by omega) T U (fun _ _ => False) v u W (hb.trans (hbw.mono hn)) (hT.keep fun g hg => ⟨hg, hbw.block g (by have := (hS g hg).1; omega)⟩) (hU.keep fun g hg => ⟨hg, hbw.block g (by have := (hS g hg).1; omega)⟩)
      ⟨[], MapR.of_int hm, fun x hx => by simp at hx⟩ (fun _ _ h => h.elim)).mono fun e w' ⟨h1, h2, _⟩ => ⟨h1, below_of_kept h2 (by omega) hz⟩
/-- Same of two clean types. -/
theorem same_c {T U : Ty} {v u : Value} {w : World} (hT : TyC (· < w.heap.size) w v T) (hU : TyC (· < w.heap.size) w u U) :
    Calls Tryd.prog 20 #[v, u] w fun e w' => e = .returned (.bool (same T U)) ∧ Below w.heap.size w w' :=
  sameC_any T U w.heap.size w (fun g => g < w.heap.size ∧ CleanB w g) (fun g hg => hg) v u w (Below.refl _ _) (Nat.le_refl _) hT hU
/-- Instance, where the second type is clean. -/
theorem inst_c {G T : Ty} {v u : Value} {w : World} (hG : TyAt (· < w.heap.size) w v G) (hT : TyC (· < w.heap.size) w u T) :
    Calls Tryd.prog 18 #[v, u] w fun e w' => e = .returned (.bool (instT G T)) ∧ Below w.heap.size w w' :=
  instance_any (fun g => g < w.heap.size ∧ CleanB w g) (fun _ _ => True) G T v u w (fun g hg => hg.1)
    (fun n U U' v v' W hb hz _ _ hU hU' => sameC_any U U' w.heap.size w _ (fun g hg => hg) v v' W hb hz hU hU') hG hT fun _ _ => meets_true G T
end Go.Proofs.YtbhicpjhijondaaDoor
/- T43 -/
/- A type with types in the places of its variables: law12.filled. -/
namespace Go.Typ
open Go.RowKit Go.Lib Go.Vfs Go.Par
/-- what a variable becomes. -/
def fillV (ws : List Ty) (n : Int) : Ty := match ws[n.toNat % ws.length]? with | some U => U | none => .mk 1 n ⟨#[]⟩ []
mutual
def fillT (ws : List Ty) : Ty → Ty
  | .mk k n s ts => if k = 1 then (match ws[n.toNat % ws.length]? with | some U => U | none => .mk k n s ts) else .mk k n s (fillL ws ts)
def fillL (ws : List Ty) : List Ty → List Ty
  | [] => []
  | t :: ts => fillT ws t :: fillL ws ts
end
theorem fillL_map (ws ts : List Ty) : fillL ws ts = ts.map (fillT ws) := by
  induction ts with
  | nil => rfl
  | cons t ts ih => rw [fillL, ih, List.map_cons]
theorem fillT_other (ws : List Ty) {T : Ty} (h : ¬ T.kind = 1) : fillT ws T = .mk T.kind T.num T.name (T.args.map (fillT ws)) := by
  obtain ⟨k, n, s, ts⟩ := T
  have h : ¬ k = 1 := h
  rw [fillT, if_neg h, fillL_map]; rfl
theorem fillT_none {T : Ty} (h : T.kind = 1) : fillT [] T = T := by
  obtain ⟨k, n, s, ts⟩ := T
  have h : k = 1 := h
  rw [fillT, if_pos h]; rfl
theorem fillT_some {ws : List Ty} {T : Ty} (h : T.kind = 1) (hk : T.num.toNat % ws.length < ws.length) : fillT ws T = ws[T.num.toNat % ws.length] := by
  obtain ⟨k, n, s, ts⟩ := T
  have h : k = 1 := h
  have hk : n.toNat % ws.length < ws.length := hk
  rw [fillT, if_pos h, List.getElem?_eq_getElem hk]
  rfl
/-- a row of types. -/
def RowsT (S : Nat → Prop) (W : World) (v : Value) (ts : List Ty) : Prop := ∃ A c, v = .slice A ts.length c ∧ TyAt S W (tyV 3 0 ⟨#[]⟩ A ts.length c) (.mk 3 0 ⟨#[]⟩ ts)
theorem RowsT.blw {W W' : World} {v : Value} {ts : List Ty} (h : RowsT (· < W.heap.size) W v ts) (hb : Below W.heap.size W W') : RowsT (· < W'.heap.size) W' v ts := by
  obtain ⟨A, c, e, h⟩ := h; exact ⟨A, c, e, h.blw hb⟩
theorem RowsT.keep {S S' : Nat → Prop} {W W' : World} {v : Value} {ts : List Ty} (h : RowsT S W v ts) (hk : ∀ b, S b → S' b ∧ W'.heap[b]? = W.heap[b]?) : RowsT S' W' v ts := by
  obtain ⟨A, c, e, h⟩ := h; exact ⟨A, c, e, h.keep hk⟩
theorem RowsT.arg {S : Nat → Prop} {W : World} {A : Option Addr} {n c : Nat} {ts : List Ty} (h : RowsT S W (.slice A n c) ts) {i : Nat} (hi : i < ts.length) :
    ∃ b off A' c', A = some ⟨b, off, none⟩ ∧ S b ∧ TyAt S W (tyV ts[i].kind ts[i].num ts[i].name A' ts[i].args.length c') ts[i] ∧
      W.cell? ⟨b, off + i * 4, none⟩ = some (.int .i64 ts[i].kind) ∧ W.cell? ⟨b, off + i * 4 + 1, none⟩ = some (.int .i64 ts[i].num) ∧
      W.cell? ⟨b, off + i * 4 + 2, none⟩ = some (.string ts[i].name) ∧ W.cell? ⟨b, off + i * 4 + 3, none⟩ = some (.slice A' ts[i].args.length c') := by
  obtain ⟨A0, c0, e, h⟩ := h
  injection e with e1 e2 e3
  subst e1 e2 e3
  exact h.arg (i := i) hi
theorem RowsT.form {S : Nat → Prop} {W : World} {v : Value} {ts : List Ty} (h : RowsT S W v ts) : ∃ A c, v = .slice A ts.length c ∧ ts.length ≤ c ∧ c ≤ maxLen := by
  obtain ⟨A, c, e, h⟩ := h
  obtain ⟨_, _, _, _, h1, h2⟩ := h.tail
  exact ⟨A, c, e, h1, h2⟩
end Go.Typ
namespace Go.Proofs.YtbhicpjhijondaaDoor
open Go.RowKit Go.Lib Go.Vfs Go.Par Go.Typ
set_option linter.unusedVariables false
set_option linter.unusedSimpArgs false

set_option maxRecDepth 20000 in
set_option maxHeartbeats 1000000 in
theorem filled_any (ws : List Ty) (hw : ∀ t ∈ ws, t.parts ≤ 1000) (hwl : ws.length ≤ 1000) (T : Ty) : ∀ (v u : Value) (w : World), TyAt (· < w.heap.size) w v T → RowsT (· < w.heap.size) w u ws → (∀ x ∈ T.list, fitsT x = true) → T.parts ≤ 1099511627776 →
    Calls Tryd.prog 26 #[v, u] w fun e w' => ∃ A c, e = .returned (tyV (fillT ws T).kind (fillT ws T).num (fillT ws T).name A (fillT ws T).args.length c) ∧
      TyC (fun g => w.heap.size ≤ g ∧ g < w'.heap.size) w' (tyV (fillT ws T).kind (fillT ws T).num (fillT ws T).name A (fillT ws T).args.length c) (fillT ws T) ∧ Below w.heap.size w w' := by
  induction T using Ty.ind with
  | h T ih =>
    intro v u w hT hU hF hp
    have IH := Lib.hid ih
    clear ih
    obtain ⟨A, c, rfl, hc, hm, hn⟩ := hT.form
    obtain ⟨Aw, cw, rfl, hcw, hmw⟩ := hU.form
    have hla : T.args.length ≤ 1099511627776 := by have := length_parts T.args; rw [T.parts_eq] at hp; omega
    obtain ⟨W1, hW1⟩ : ∃ W1, W1 = (w.alloc (.cells #[.int .i64 T.kind, .int .i64 T.num, .string T.name, .slice A T.args.length c] 24)).alloc (.cells #[.int .i64 0, .int .i64 0, .string ⟨#[]⟩, .slice none 0 0] 24) := ⟨_, rfl⟩
    have hL : Loop4 w W1 w.heap.size T A c := by
      refine ⟨?_, by rw [hW1]; simp; omega, Nat.le_refl _, by rw [hW1]; exact ((Below.refl _ _).alloc (Nat.le_refl _) _).alloc (by simp) _, hT⟩
      rw [hW1, Below.heap_alloc _ _ _ (by simp)]
      exact heap_alloc_new _ _
    have hres : W1.heap[w.heap.size + 1]? = some (.cells #[.int .i64 0, .int .i64 0, .string ⟨#[]⟩, .slice none 0 0] 24 (0, 0)) := by
      rw [hW1]
      have := heap_alloc_new (w.alloc (.cells #[.int .i64 T.kind, .int .i64 T.num, .string T.name, .slice A T.args.length c] 24)) (.cells #[.int .i64 0, .int .i64 0, .string ⟨#[]⟩, .slice none 0 0] 24)
      simpa using this
    have hz1 : W1.heap.size = w.heap.size + 2 := by rw [hW1]; simp
    have hfs := hF T (by rw [T.list_eq]; exact List.mem_cons_self)
    have hFa : ∀ i (h : i < T.args.length), ∀ x ∈ (T.args[i]).list, fitsT x = true := fun i h x hx => hF x (by
      rw [T.list_eq]
      exact List.mem_cons_of_mem _ (mem_listL (List.getElem_mem h) hx))
    have HL := Lib.hid hL; have HRS := Lib.hid hres; have HP := Lib.hid hp; have HZ1 := Lib.hid hz1; have HU := Lib.hid hU; have HFA := Lib.hid hFa
    obtain ⟨y0, y1, y2, y3⟩ := box4 hL.box
    obtain ⟨r0, r1, r2, r3⟩ := box4 hres
    obtain ⟨s0, s1, s2, s3⟩ := box4_frozen hres
    rw [hW1] at y0 y1 y2 y3 r0 r1 r2 r3 s0 s1 s2 s3
    clear hT hL hres hp hz1 hU hF hFa
    unfold tyV
    by_cases k1 : T.kind = 1
    · have hv : T.args = [] ∧ 0 ≤ T.num ∧ T.num < 1073741824 := by
        obtain ⟨k, n, nm, ts⟩ := T
        rcases fits_kinds hfs with ⟨_, h1, h2, _, h3⟩ | ⟨h, _⟩ | ⟨h, _⟩ | ⟨h, _⟩
        · exact ⟨List.eq_nil_of_length_eq_zero h3, h1, h2⟩
        all_goals (rw [k1] at h; cases h)
      have HB1 : Hid (Below w.heap.size w W1) := Lib.hid HL.out.below
      have h1 : (T.kind == 1) = true := by simp [k1]
      have K1 := Lib.hid k1
      rw [k1] at h1 y0 y1 y2 y3 r0 r1 r2 r3 s0 s1 s2 s3 hW1 ⊢
      clear k1
      by_cases hw0 : ws.length = 0
      · obtain rfl : ws = [] := List.eq_nil_of_length_eq_zero hw0
        rw [fillT_none K1.out, K1.out]
        have HC0 : Hid (∀ S W, TyC S W (tyV T.kind T.num T.name A T.args.length c) T) := Lib.hid fun S W => TyC.leaf HL.out.ty hv.1 S W
        have h2 : (((([] : List Ty).length : Nat) : Int) == 0) = true := by simp
        clear hw0 hv hfs
        go_enter Tryd.func26, Tryd.ntmps26
        go_wp2
        obtain ⟨Wf, hWf⟩ : ∃ Wf, Wf = (w.alloc (.cells #[.int .i64 1, .int .i64 T.num, .string T.name, .slice A T.args.length c] 24)).alloc (.cells #[.int .i64 1, .int .i64 T.num, .string T.name, .slice A T.args.length c] 24) := ⟨_, rfl⟩
        have hbf : Below w.heap.size w Wf := by rw [hWf]; exact ((Below.refl _ _).alloc (Nat.le_refl _) _).alloc (by simp) _
        have hbx : Wf.heap[w.heap.size + 1]? = some (.cells #[.int .i64 1, .int .i64 T.num, .string T.name, .slice A T.args.length c] 24 (0, 0)) := by
          rw [hWf]
          have := heap_alloc_new (w.alloc (.cells #[.int .i64 1, .int .i64 T.num, .string T.name, .slice A T.args.length c] 24)) (.cells #[.int .i64 1, .int .i64 T.num, .string T.name, .slice A T.args.length c] 24)
          simpa using this
        rw [← hWf]
        obtain ⟨f0, f1, f2, f3⟩ := box4 hbx
        refine bodyPost_ret (v := .agg #[.int .i64 1, .int .i64 T.num, .string T.name, .slice A T.args.length c]) (by simp [results, Tryd.results26, go_sem, f0, f1, f2, f3]) rfl ?_
        refine ⟨A, c, rfl, ?_, hbf⟩
        have h := HC0.out (fun g => w.heap.size ≤ g ∧ g < Wf.heap.size) Wf
        rw [K1.out] at h
        exact h
      · have hk : T.num.toNat % ws.length < ws.length := Nat.mod_lt _ (by omega)
        rw [fillT_some K1.out hk]
        have hrem : T.num.tmod (ws.length : Int) = ((T.num.toNat % ws.length : Nat) : Int) := by
          obtain ⟨m, hm⟩ : ∃ m : Nat, T.num = (m : Int) := ⟨T.num.toNat, by omega⟩
          rw [hm, Int.toNat_natCast]
          exact (Int.ofNat_tmod _ _).symm
        have h2 : ((ws.length : Int) == 0) = false := by simp; intro h; exact hw0 (by rw [h]; rfl)
        obtain ⟨b, off, A', c', rfl, hb, ht, x0, x1, x2, x3⟩ := (HU.out.blw HB1.out).arg hk
        obtain ⟨k, hkd⟩ : ∃ k, k = T.num.toNat % ws.length := ⟨_, rfl⟩
        have hpw := hw ws[T.num.toNat % ws.length] (List.getElem_mem hk)
        generalize ws[T.num.toNat % ws.length] = X at *
        have hca := copyTypeC_any X _ W1 ht (by omega)
        rw [← hkd] at hk hrem x0 x1 x2 x3
        rw [hW1] at x0 x1 x2 x3
        unfold tyV at hca
        have HCA := Lib.hid hca
        have HK1 := Lib.hid hkd
        obtain ⟨tl, htl⟩ : ∃ tl, tl = T.args.length := ⟨_, rfl⟩
        have hnm := T.name
        clear hkd hca ht hv hpw
        go_enter Tryd.func26, Tryd.ntmps26
        go_wp2_with fail
        rw [← hW1]
        refine HCA.out.mono ?_
        rintro e w2 ⟨A2, c2, rfl, hT2, hb2⟩
        have hbx2 := (hb2.block (w.heap.size + 1) (by have := HZ1.out; omega)).trans HRS.out
        have HT2 := Lib.hid hT2
        have HB2 := Lib.hid hb2
        obtain ⟨u0, u1, u2, u3⟩ := box4 hbx2
        obtain ⟨v0, v1, v2, v3⟩ := box4_frozen hbx2
        have HBX2 := Lib.hid hbx2
        clear hT2 hb2 hbx2 x0 x1 x2 x3 y0 y1 y2 y3 r0 r1 r2 r3 s0 s1 s2 s3
        go_wp2
        obtain ⟨Wf, hWf⟩ : ∃ Wf, Wf = ((((w2.setCell ⟨w.heap.size + 1, 0, none⟩ (.int .i64 X.kind)).setCell ⟨w.heap.size + 1, 1, none⟩ (.int .i64 X.num)).setCell ⟨w.heap.size + 1, 2, none⟩ (.string X.name)).setCell ⟨w.heap.size + 1, 3, none⟩ (.slice A2 X.args.length c2)) := ⟨_, rfl⟩
        have hkp : Kept (fun g => g = w.heap.size + 1) w2 Wf := by
          rw [hWf]
          exact kept4 (Kept.refl _ _) (.inl rfl)
        have hbx : Wf.heap[w.heap.size + 1]? = some (.cells #[.int .i64 X.kind, .int .i64 X.num, .string X.name, .slice A2 X.args.length c2] 24 (0, 0)) := by
          rw [hWf]
          exact put4 HBX2.out
        have hz1 := HZ1.out
        have hz2 := HB2.out.size
        have hzf := hkp.size
        rw [← hWf]
        obtain ⟨f0, f1, f2, f3⟩ := box4 hbx
        refine bodyPost_ret (v := .agg #[.int .i64 X.kind, .int .i64 X.num, .string X.name, .slice A2 X.args.length c2]) (by simp [results, Tryd.results26, go_sem, f0, f1, f2, f3]) rfl ?_
        exact ⟨A2, c2, rfl, HT2.out.keep fun g hg => ⟨by omega, hkp.block g hg.2 (by omega)⟩, (HB1.out.trans (HB2.out.mono (by omega))).trans (hkp.below (by omega) (fun g hg => by omega))⟩
    · rw [fillT_other ws k1]
      change Calls Tryd.prog 26 _ w fun e w' => ∃ A c, e = .returned (.agg #[.int .i64 T.kind, .int .i64 T.num, .string T.name, .slice A (T.args.map (fillT ws)).length c]) ∧
        TyC (fun g => w.heap.size ≤ g ∧ g < w'.heap.size) w' (.agg #[.int .i64 T.kind, .int .i64 T.num, .string T.name, .slice A (T.args.map (fillT ws)).length c]) (.mk T.kind T.num T.name (T.args.map (fillT ws))) ∧ Below w.heap.size w w'
      rw [List.length_map]
      have h1 : (T.kind == 1) = false := by simp [k1]
      have HNM : Hid (T.name.size ≤ 9223372036854775807) := Lib.hid hn
      clear hfs
      go_enter Tryd.func26, Tryd.ntmps26
      go_wp2
      rw [← hW1]
      clear y0 y1 y2 y3 r0 r1 r2 r3 s0 s1 s2 s3 h1
      go_loopw [5, 6] (fun sv iv W => ∃ (k : Nat) (us : List Value), k ≤ T.args.length ∧ iv = .int .i64 k ∧ Hid (RowK 24 4 TyC W1.heap.size W1.heap.size W ((T.args.map (fillT ws)).take k) sv us) ∧ Hid (Below W1.heap.size W1 W)) (fun _ iv _ => T.args.length - (RowKit.intOf iv).toNat)
      case atStart =>
        refine ⟨0, [], by omega, rfl, Lib.hid ?_, Lib.hid ((Below.refl _ _).alloc (Nat.le_refl _) _)⟩
        have h := RowK.made (e := 24) (k := 4) (R := TyC) (L := W1.heap.size) (B := W1.heap.size) W1 (Nat.le_refl _)
        rw [HZ1.out] at h ⊢
        exact h
      case round =>
        obtain ⟨k, us, hk, rfl, HR, HB⟩ := hrel
        obtain ⟨y0, y1, y2, y3⟩ := box4 (HL.out.in_ HB.out)
        obtain ⟨q0, q1, q2, q3⟩ := box4_frozen (HL.out.in_ HB.out)
        by_cases hlt : k < T.args.length
        · obtain ⟨b, off, A', c', rfl, hb, ht, x0, x1, x2, x3⟩ := (HL.out.ty' HB.out).arg hlt
          have hbw : Below w.heap.size w wr := HL.out.all HB.out
          have hca := IH.out k hlt _ _ wr ht (HU.out.blw hbw) (HFA.out k hlt) (by have := Ty.parts_arg hlt; have := HP.out; omega)
          have hmk : (T.args.map (fillT ws))[k]? = some (fillT ws T.args[k]) := by rw [List.getElem?_map, List.getElem?_eq_getElem hlt]; rfl
          have HTK : Hid ((T.args.map (fillT ws)).take (k + 1) = (T.args.map (fillT ws)).take k ++ [fillT ws T.args[k]]) := Lib.hid (by rw [List.take_add_one, hmk]; rfl)
          have hlk : ((T.args.map (fillT ws)).take k).length = k := by rw [List.length_take, List.length_map]; omega
          have HLK := Lib.hid hlk
          clear ht hlk hmk
          generalize fillT ws T.args[k] = U at *
          generalize T.args[k] = V at *
          unfold tyV at hca
          have HCA := Lib.hid hca
          have hzb := HB.out.size
          clear hca hbw
          go_wp2_with fail
          refine HCA.out.mono ?_
          rintro e w2 ⟨A2, c2, rfl, hu, HB2⟩
          have hr2 := RowK.below (R := TyC) TyC.keep HR.out HB2
          have HR2 := Lib.hid hr2; have HU2 := Lib.hid hu
          have hown := hr2.own
          rw [HLK.out] at hown
          obtain ⟨us', hus⟩ : ∃ us', us' = us.flatMap flatC := ⟨_, rfl⟩
          rw [← hus] at hown
          have hz2 := HB2.size
          clear hr2 hu
          go_wp2_with (at_builtin; refine wpList_appK _ rfl _ _ _ rfl W1.heap.size _ 4 tyE _ k us' rfl (World.ownsRow.alloc hown _) ⟨w2.heap.size, 0, none⟩ 1 1 [.int .i64 U.kind, .int .i64 U.num, .string U.name, .slice A2 U.args.length c2] rfl rfl (cells_new _ _ _) (one4 _ _ _ _ _ _) (by omega) (by simp; omega) ?_; intro v3 w3 hown3 hg3 hat3)
          go_roundw
          case rel =>
            refine ⟨k + 1, us ++ [.agg #[.int .i64 U.kind, .int .i64 U.num, .string U.name, .slice A2 U.args.length c2]], by omega, by go_num, Lib.hid ?_, Lib.hid ?_⟩
            · rw [HTK.out]
              refine RowK.next (R := TyC) TyC.keep HR2.out HU2.out (fun g hg => ⟨by omega, hg.2, fun e => ?_⟩) rfl _ ?_ hg3 hat3
              · have := HR.out.lt g e; omega
              · rw [HLK.out, ← hus]; exact hown3
            · exact below_grow (HB.out.trans (HB2.mono hzb)) (by omega) _ hg3 (fun g e => (hown.lt g e).1)
          case measure => simp [RowKit.intOf]; omega
        · have hkl : k = T.args.length := by omega
          subst hkl
          have hr := HR.out
          rw [show (T.args.map (fillT ws)).take T.args.length = T.args.map (fillT ws) from List.take_of_length_le (by simp)] at hr
          obtain ⟨A2, c2, rfl, hty⟩ := hr.tyC T.kind T.num T.name HNM.out
          have hlm : (T.args.map (fillT ws)).length = T.args.length := by simp
          have hres : wr.heap[w.heap.size + 1]? = some (.cells #[.int .i64 0, .int .i64 0, .string ⟨#[]⟩, .slice none 0 0] 24 (0, 0)) := by
            rw [HB.out.block _ (by have := HZ1.out; omega)]; exact HRS.out
          obtain ⟨r0, r1, r2, r3⟩ := box4 hres
          obtain ⟨s0, s1, s2, s3⟩ := box4_frozen hres
          rw [hlm] at hty
          have HTY := Lib.hid hty
          have HRB := Lib.hid hres
          clear hty hr hres hlm
          go_wp2
          obtain ⟨Wf, hWf⟩ : ∃ Wf, Wf = (((((wr.setCell ⟨w.heap.size, 3, none⟩ (.slice A2 T.args.length c2)).setCell ⟨w.heap.size + 1, 0, none⟩ (.int .i64 T.kind)).setCell ⟨w.heap.size + 1, 1, none⟩ (.int .i64 T.num)).setCell ⟨w.heap.size + 1, 2, none⟩ (.string T.name)).setCell ⟨w.heap.size + 1, 3, none⟩ (.slice A2 T.args.length c2)) := ⟨_, rfl⟩
          have hkp : Kept (fun g => g = w.heap.size ∨ g = w.heap.size + 1) wr Wf := by
            rw [hWf]
            exact kept4 ((Kept.refl _ _).setCell (p := ⟨w.heap.size, 3, none⟩) (.inl (.inl rfl)) _) (.inl (.inr rfl))
          have hbx : Wf.heap[w.heap.size + 1]? = some (.cells #[.int .i64 T.kind, .int .i64 T.num, .string T.name, .slice A2 T.args.length c2] 24 (0, 0)) := by
            rw [hWf]
            refine put4 (u0 := .int .i64 0) (u1 := .int .i64 0) (u2 := .string ⟨#[]⟩) (u3 := .slice none 0 0) ?_
            rw [Below.heap_setCell _ _ _ _ (by simp)]
            exact HRB.out
          have hz1 := HZ1.out
          have hzr := HB.out.size
          have hzf := hkp.size
          rw [← hWf]
          obtain ⟨f0, f1, f2, f3⟩ := box4 hbx
          refine bodyPost_ret (v := .agg #[.int .i64 T.kind, .int .i64 T.num, .string T.name, .slice A2 T.args.length c2]) (by simp [results, Tryd.results26, go_sem, f0, f1, f2, f3]) rfl ?_
          refine ⟨A2, c2, rfl, ?_, (HL.out.all HB.out).trans (hkp.below (by omega) (fun g hg => by omega))⟩
          exact TyC.keep HTY.out fun g hg => ⟨by omega, hkp.block g hg.2 (by omega)⟩
end Go.Proofs.YtbhicpjhijondaaDoor
/- T44 -/
/- A type is an instance of itself, of any variable, and of what it fills: plain, and types.Instance of a variable. -/
namespace Go.Typ
open Go.RowKit Go.Lib Go.Vfs Go.Par
/-- what is known is what the variables become. -/
def KnS (σ : Int → Ty) (kn : List (Int × Ty)) : Prop := ∀ n U, kn.lookup n = some U → U = σ n
theorem KnS.nil (σ : Int → Ty) : KnS σ [] := fun n U h => by cases h
theorem KnS.snoc {σ : Int → Ty} {kn : List (Int × Ty)} (h : KnS σ kn) {n : Int} {U : Ty} (hU : U = σ n) : KnS σ (kn ++ [(n, U)]) := by
  intro m V hl
  rw [List.lookup_append] at hl
  cases hk : kn.lookup m with
  | some X => rw [hk] at hl; simp at hl; subst hl; exact h m X hk
  | none =>
    rw [hk] at hl
    simp only [Option.none_or] at hl
    by_cases e : m = n
    · subst e; simp at hl; subst hl; exact hU
    · have hb : (m == n) = false := by simpa using e
      simp only [List.lookup_cons, hb] at hl
      cases hl
theorem stands_sub (σ : Int → Ty) (F : Ty → Ty) (G : Ty) : (∀ x ∈ G.list, x.kind = 1 → F x = σ x.num) → (∀ x ∈ G.list, ¬ x.kind = 1 → F x = .mk x.kind x.num x.name (x.args.map F)) →
    ∀ kn, KnS σ kn → (standsT G (F G) kn).1 = true ∧ KnS σ (standsT G (F G) kn).2 := by
  induction G using Ty.ind with
  | h G ih =>
    intro h1 h2 kn hk
    have hself : G ∈ G.list := by rw [G.list_eq]; exact List.mem_cons_self
    by_cases k1 : G.kind = 1
    · have hF := h1 G hself k1
      rw [standsT_eq, if_pos k1]
      cases hl : kn.lookup G.num with
      | none => exact ⟨rfl, hk.snoc hF⟩
      | some U =>
        have := hk _ _ hl
        exact ⟨same_true (this.trans hF.symm), hk⟩
    · have hF := h2 G hself k1
      rw [standsT_eq, if_neg k1, hF]
      rw [if_pos ⟨rfl, rfl, by show G.args.length = (G.args.map F).length; rw [List.length_map]⟩]
      show (standsL G.args (G.args.map F) kn).1 = true ∧ _
      have key : ∀ (gs : List Ty), (∀ g ∈ gs, ∀ kn, KnS σ kn → (standsT g (F g) kn).1 = true ∧ KnS σ (standsT g (F g) kn).2) → ∀ kn, KnS σ kn → (standsL gs (gs.map F) kn).1 = true ∧ KnS σ (standsL gs (gs.map F) kn).2 := by
        intro gs
        induction gs with
        | nil => intro _ kn hk; exact ⟨by rw [List.map_nil, standsL], by rw [List.map_nil, standsL]; exact hk⟩
        | cons g gs ih2 =>
          intro h kn hk
          obtain ⟨g1, g2⟩ := h g (by simp) kn hk
          rw [List.map_cons, standsL, if_pos g1]
          exact ih2 (fun x hx => h x (by simp [hx])) _ g2
      refine key _ (fun g hg => ?_) kn hk
      obtain ⟨i, hi, rfl⟩ := List.getElem_of_mem hg
      exact ih i hi (fun x hx => h1 x (by rw [G.list_eq]; exact List.mem_cons_of_mem _ (mem_listL hg hx))) (fun x hx => h2 x (by rw [G.list_eq]; exact List.mem_cons_of_mem _ (mem_listL hg hx)))
end Go.Typ
namespace Go.Proofs.YtbhicpjhijondaaDoor
open Go.RowKit Go.Lib Go.Vfs Go.Par Go.Typ
set_option linter.unusedVariables false
set_option linter.unusedSimpArgs false

theorem fit_var {x : Ty} (h : fitsT x = true) (hk : x.kind = 1) : x = .mk 1 x.num ⟨#[]⟩ [] := by
  obtain ⟨k, n, s, ts⟩ := x
  rcases fits_kinds h with ⟨h1, _, _, h2, h3⟩ | ⟨h, _⟩ | ⟨h, _⟩ | ⟨h, _⟩
  · have h1 : k = 1 := h1
    have h2 : s = ⟨#[]⟩ := by
      apply ByteArray.ext
      apply Array.toList_inj.mp
      rw [← ByteArray.toList_eq]
      exact h2
    have h3 : ts = [] := List.eq_nil_of_length_eq_zero h3
    rw [h1, h2, h3]; rfl
  all_goals (rw [hk] at h; cases h)
theorem inst_self {T : Ty} (h : rightT T = true) : instT T T = true := by
  have hF := (rightT_iff.1 h).2
  unfold instT
  rw [h, Bool.true_and, Bool.true_and]
  refine (stands_sub (fun n => .mk 1 n ⟨#[]⟩ []) id T (fun x hx hk => fit_var (hF x hx) hk) (fun x hx hk => ?_) [] (KnS.nil _)).1
  rw [List.map_id]
  exact x.eta
theorem inst_fill {T : Ty} (ws : List Ty) (h : rightT T = true) : instT T (fillT ws T) = rightT (fillT ws T) := by
  have hF := (rightT_iff.1 h).2
  unfold instT
  rw [h, Bool.true_and]
  cases hr : rightT (fillT ws T) with
  | false => rfl
  | true =>
    rw [Bool.true_and]
    refine (stands_sub (fillV ws) (fillT ws) T (fun x hx hk => ?_) (fun x hx hk => fillT_other ws hk) [] (KnS.nil _)).1
    obtain ⟨n, hn⟩ : ∃ n, n = x.num := ⟨_, rfl⟩
    rw [fit_var (hF x hx) hk, ← hn]
    show fillT ws (.mk 1 n ⟨#[]⟩ []) = fillV ws n
    rw [fillT, if_pos rfl]
    rfl
def var0 : Ty := .mk 1 0 ⟨#[]⟩ []
theorem right_var0 : rightT var0 = true := by kernel_rfl
theorem inst_var0 {T : Ty} (h : rightT T = true) : instT var0 T = true := by
  unfold instT
  rw [right_var0, h, Bool.true_and, Bool.true_and]
  rfl

set_option maxRecDepth 20000 in
set_option maxHeartbeats 2000000 in
theorem instance_by (S : Nat → Prop) (G T : Ty) (v u : Value) (w : World) (hS : ∀ g, S g → g < w.heap.size) (hG : TyAt (· < w.heap.size) w v G) (hT : TyAt S w u T)
    (hST0 : rightT G = true → rightT T = true → ∀ W, Below w.heap.size w W → w.heap.size ≤ W.heap.size → Calls Tryd.prog 53 #[v, u, .map (some W.heap.size)] (W.alloc (.map #[] 0)) fun e w' =>
      e = .returned (.bool (standsT G T []).1) ∧ Kept (· = W.heap.size) (W.alloc (.map #[] 0)) w' ∧ True) :
    Calls Tryd.prog 18 #[v, u] w fun e w' => e = .returned (.bool (instT G T)) ∧ Below w.heap.size w w' := by
  obtain ⟨A, c, rfl, hc, hm, hn⟩ := hG.form
  obtain ⟨A', c', rfl, hc', hm', hn'⟩ := hT.form
  obtain ⟨W1, hW1⟩ : ∃ W1, W1 = (w.alloc (.cells #[.int .i64 G.kind, .int .i64 G.num, .string G.name, .slice A G.args.length c] 24)).alloc (.cells #[.int .i64 T.kind, .int .i64 T.num, .string T.name, .slice A' T.args.length c'] 24) := ⟨_, rfl⟩
  have hb1 : Below w.heap.size w W1 := by rw [hW1]; exact ((Below.refl _ _).alloc (Nat.le_refl _) _).alloc (by simp) _
  have hz1 : W1.heap.size = w.heap.size + 2 := by rw [hW1]; simp
  have hbg : W1.heap[w.heap.size]? = some (.cells #[.int .i64 G.kind, .int .i64 G.num, .string G.name, .slice A G.args.length c] 24 (0, 0)) := by
    rw [hW1, Below.heap_alloc _ _ _ (by simp)]
    exact heap_alloc_new _ _
  have hbt : W1.heap[w.heap.size + 1]? = some (.cells #[.int .i64 T.kind, .int .i64 T.num, .string T.name, .slice A' T.args.length c'] 24 (0, 0)) := by
    rw [hW1]
    have := heap_alloc_new (w.alloc (.cells #[.int .i64 G.kind, .int .i64 G.num, .string G.name, .slice A G.args.length c] 24)) (.cells #[.int .i64 T.kind, .int .i64 T.num, .string T.name, .slice A' T.args.length c'] 24)
    simpa using this
  obtain ⟨y0, y1, y2, y3⟩ := box4 hbg
  obtain ⟨z0, z1, z2, z3⟩ := box4 hbt
  have hmm := @run_makeMap Tryd.prog
  have hGW : ∀ W, Below w.heap.size w W → TyAt (· < w.heap.size) W (tyV G.kind G.num G.name A G.args.length c) G := fun W h => hG.keep fun g hg => ⟨hg, h.block g hg⟩
  have hTW : ∀ W, Below w.heap.size w W → TyAt S W (tyV T.kind T.num T.name A' T.args.length c') T := fun W h => hT.keep fun g hg => ⟨hg, h.block g (hS g hg)⟩
  have hRG : ∀ W, Below w.heap.size w W → w.heap.size ≤ W.heap.size → _ := fun W h hz => right_any G _ W ((hGW W h).sub (S' := (· < W.heap.size)) fun g (hg : g < w.heap.size) => by omega)
  have hRT : ∀ W, Below w.heap.size w W → w.heap.size ≤ W.heap.size → _ := fun W h hz => right_any T _ W ((hTW W h).sub (S' := (· < W.heap.size)) fun g hg => by have := hS g hg; omega)
  have hST := hST0
  have HRG := Lib.hid hRG; have HRT := Lib.hid hRT; have HST := Lib.hid hST; have HB1 := Lib.hid hb1; have HBG := Lib.hid hbg; have HBT := Lib.hid hbt; have HZ1 := Lib.hid hz1
  rw [hW1] at y0 y1 y2 y3 z0 z1 z2 z3
  clear hGW hTW hRG hRT hST hc hm hn hc' hm' hn' hb1 hbg hbt hG hT hS hz1 hST0
  unfold tyV at HRG HRT HST ⊢
  go_enter Tryd.func18, Tryd.ntmps18
  go_wp2_with fail
  rw [← hW1]
  clear hW1 y0 y1 y2 y3 z0 z1 z2 z3
  refine (HRG.out W1 HB1.out (by have := HZ1.out; omega)).mono ?_
  rintro e w2 ⟨rfl, hb2⟩
  have HB2 := Lib.hid (HB1.out.trans (hb2.mono (by have := HZ1.out; omega)))
  have hz2 := hb2.size
  have HZ2 : Hid (w.heap.size + 2 ≤ w2.heap.size) := Lib.hid (by have := HZ1.out; omega)
  have HBT2 := Lib.hid ((hb2.block _ (lt_blk HBT.out)).trans HBT.out)
  have HBG2 := Lib.hid ((hb2.block _ (lt_blk HBG.out)).trans HBG.out)
  obtain ⟨y0, y1, y2, y3⟩ := box4 HBG2.out
  obtain ⟨z0, z1, z2, z3⟩ := box4 HBT2.out
  clear hb2 hz2
  cases hq1 : rightT G with
  | false =>
    have HR : Hid (instT G T = false) := Lib.hid (by unfold instT; rw [hq1]; rfl)
    clear hq1
    go_wp2
    go_ret
    rw [HR.out]
    exact ⟨rfl, HB2.out⟩
  | true =>
    have HQ1 := Lib.hid hq1
    clear hq1
    go_wp2_with fail
    clear y0 y1 y2 y3 z0 z1 z2 z3
    refine (HRT.out w2 HB2.out (by have := HZ2.out; omega)).mono ?_
    rintro e w3 ⟨rfl, hb3⟩
    have HB3 := Lib.hid (HB2.out.trans (hb3.mono (by have := HZ2.out; omega)))
    have hz3 := hb3.size
    have HZ3 : Hid (w.heap.size + 2 ≤ w3.heap.size) := Lib.hid (by have := HZ2.out; omega)
    obtain ⟨y0, y1, y2, y3⟩ := box4 ((hb3.block _ (lt_blk HBG2.out)).trans HBG2.out)
    obtain ⟨z0, z1, z2, z3⟩ := box4 ((hb3.block _ (lt_blk HBT2.out)).trans HBT2.out)
    clear hb3 hz3
    cases hq2 : rightT T with
    | false =>
      have HR : Hid (instT G T = false) := Lib.hid (by unfold instT; rw [hq2, Bool.false_and, Bool.and_false])
      clear hq2
      go_wp2
      go_ret
      rw [HR.out]
      exact ⟨rfl, HB3.out⟩
    | true =>
      have HR : Hid (instT G T = (standsT G T []).1) := Lib.hid (by unfold instT; rw [hq2, HQ1.out]; rfl)
      have HS3 := Lib.hid (HST.out HQ1.out hq2 w3 HB3.out (by have := HZ3.out; omega))
      clear hq2
      go_wp2_with fail
      refine HS3.out.mono ?_
      rintro e w4 ⟨rfl, hk4, -⟩
      have hb4 : Below w.heap.size w w4 := (HB3.out.trans ((((Below.refl w3.heap.size w3).alloc (Nat.le_refl _) _).mono (by have := HZ3.out; omega)))).trans (below_of_kept hk4 (by have := HZ3.out; omega) (by have := HZ3.out; simp; omega))
      have HB4 := Lib.hid hb4
      clear hk4 hb4
      go_wp2
      go_ret
      rw [HR.out]
      exact ⟨rfl, HB4.out⟩

set_option maxRecDepth 20000 in
set_option maxHeartbeats 2000000 in
theorem stands_var (T : Ty) (p : Nat) (S : Nat → Prop) (u : Value) (w : World) (hS : ∀ g, S g → g < p) (hT : TyAt S w u T) (hM : MapI w p []) :
    Calls Tryd.prog 53 #[tyV 1 0 ⟨#[]⟩ none 0 0, u, .map (some p)] w fun e w' => e = .returned (.bool true) ∧ Kept (· = p) w w' := by
  obtain ⟨A', c', rfl, hc', hm', hn'⟩ := hT.form
  have hpl := hM.lt
  obtain ⟨W1, hW1⟩ : ∃ W1, W1 = (w.alloc (.cells #[.int .i64 1, .int .i64 0, .string ⟨#[]⟩, .slice none 0 0] 24)).alloc (.cells #[.int .i64 T.kind, .int .i64 T.num, .string T.name, .slice A' T.args.length c'] 24) := ⟨_, rfl⟩
  have hb1 : Below w.heap.size w W1 := by rw [hW1]; exact ((Below.refl _ _).alloc (Nat.le_refl _) _).alloc (by simp) _
  have hbg : W1.heap[w.heap.size]? = some (.cells #[.int .i64 1, .int .i64 0, .string ⟨#[]⟩, .slice none 0 0] 24 (0, 0)) := by
    rw [hW1, Below.heap_alloc _ _ _ (by simp)]
    exact heap_alloc_new _ _
  have hbt : W1.heap[w.heap.size + 1]? = some (.cells #[.int .i64 T.kind, .int .i64 T.num, .string T.name, .slice A' T.args.length c'] 24 (0, 0)) := by
    rw [hW1]
    have := heap_alloc_new (w.alloc (.cells #[.int .i64 1, .int .i64 0, .string ⟨#[]⟩, .slice none 0 0] 24)) (.cells #[.int .i64 T.kind, .int .i64 T.num, .string T.name, .slice A' T.args.length c'] 24)
    simpa using this
  have hm1 := hM.keep (W' := W1) (hb1.block p hpl)
  have hlook := look_T hm1 0
  simp only [List.lookup_nil] at hlook
  obtain ⟨W2, hW2⟩ : ∃ W2, W2 = W1.alloc zero4 := ⟨_, rfl⟩
  have hb2 : Below W1.heap.size W1 W2 := by rw [hW2]; exact (Below.refl _ _).alloc (Nat.le_refl _) _
  obtain ⟨W3, hrun, hK3, hk3⟩ := put_T (hm1.keep (W' := W2) (hb2.block p hm1.lt)) 0 (tyV T.kind T.num T.name A' T.args.length c') rfl
  have HKF := Lib.hid (((Kept.of_below (F := (· = p)) hb1).trans' (Kept.of_below hb2)).trans' hk3)
  obtain ⟨y0, y1, y2, y3⟩ := box4 hbg
  obtain ⟨z0, z1, z2, z3⟩ := box4 hbt
  obtain ⟨t0, t1, t2, t3⟩ := box4 ((hb2.block _ (lt_blk hbg)).trans hbg)
  obtain ⟨u0, u1, u2, u3⟩ := box4 ((hb2.block _ (lt_blk hbt)).trans hbt)
  unfold tyV at hrun ⊢
  unfold zero4 at hW2
  rw [hW2] at hrun t0 t1 t2 t3 u0 u1 u2 u3
  rw [hW1] at hlook hrun t0 t1 t2 t3 u0 u1 u2 u3 y0 y1 y2 y3 z0 z1 z2 z3
  clear hm1 hK3 hk3 hW2 hW1 hb2 hb1 hbg hbt hM hT hpl hc' hm' hn'
  go_enter Tryd.func53, Tryd.ntmps53
  go_wp2
  go_ret
  exact ⟨rfl, HKF.out⟩
/-- Instance of a variable, wherever the other type lies. -/
theorem inst_v {T : Ty} {u : Value} {w : World} (hT : TyAt (· < w.heap.size) w u T) :
    Calls Tryd.prog 18 #[tyV 1 0 ⟨#[]⟩ none 0 0, u] w fun e w' => e = .returned (.bool (instT var0 T)) ∧ Below w.heap.size w w' :=
  instance_by (· < w.heap.size) var0 T _ u w (fun g hg => hg) (TyAt.leaf _ w 1 0 ⟨#[]⟩ none 0 (by simp [maxLen]) (by decide)) hT fun _ _ W hb hz =>
    (stands_var T W.heap.size (· < w.heap.size) u (W.alloc (.map #[] 0)) (fun g hg => by omega) (hT.keep fun g hg => ⟨hg, (Below.heap_alloc _ _ _ (by omega)).trans (hb.block g hg)⟩) (MapI.new W)).mono fun e w' ⟨h1, h2⟩ => ⟨h1, h2, trivial⟩
end Go.Proofs.YtbhicpjhijondaaDoor
