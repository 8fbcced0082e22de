/- Maps that a call makes, keyed by integers: what a look-up answers, what a further entry leaves. -/
import Derived.Test.YtbhicpjhijondaaDoorT30
import Derived.ChangeMaps5
namespace Go.Typ
open Go.RowKit Go.Lib Go.Vfs Go.Par
/-- the map in block p holds these, in the order in which they came. -/
def MapI (W : World) (p : Nat) (kvs : List (Int × Value)) : Prop := ∃ es clk, W.heap[p]? = some (.map es clk) ∧ es.toList.map (fun e => (e.key, e.val)) = kvs.map fun x => (Value.int .i64 x.1, x.2)
theorem MapI.lt {W : World} {p : Nat} {kvs : List (Int × Value)} (h : MapI W p kvs) : p < W.heap.size := by obtain ⟨es, clk, h, _⟩ := h; exact lt_blk h
theorem MapI.keep {W W' : World} {p : Nat} {kvs : List (Int × Value)} (h : MapI W p kvs) (hk : W'.heap[p]? = W.heap[p]?) : MapI W' p kvs := by
  obtain ⟨es, clk, h, h2⟩ := h; exact ⟨es, clk, hk.trans h, h2⟩
theorem MapI.new (W : World) : MapI (W.alloc (.map #[] 0)) W.heap.size [] := ⟨#[], 0, heap_alloc_new _ _, rfl⟩
theorem findNow_int (n : Int) : ∀ (es : List MapEntry) (kvs : List (Int × Value)) (i : Nat), es.map (fun e => (e.key, e.val)) = kvs.map (fun x => (Value.int .i64 x.1, x.2)) →
    (kvs.lookup n = none → Instr.findNow (.int .i64) (.int .i64 n) es i = some none) ∧ (∀ v, kvs.lookup n = some v → ∃ j, Instr.findNow (.int .i64) (.int .i64 n) es i = some (some (j, v))) := by
  intro es
  induction es with
  | nil =>
    intro kvs i h
    cases kvs with
    | nil => exact ⟨fun _ => rfl, fun v h => by cases h⟩
    | cons x xs => simp at h
  | cons e es ih =>
    intro kvs i h
    cases kvs with
    | nil => simp at h
    | cons x xs =>
      obtain ⟨k, u⟩ := x
      simp only [List.map_cons, List.cons.injEq, Prod.mk.injEq] at h
      obtain ⟨⟨h1, h2⟩, h3⟩ := h
      by_cases hk : n = k
      · subst hk
        refine ⟨fun h => by simp at h, fun v hv => ⟨i, ?_⟩⟩
        simp only [List.lookup_cons, beq_self_eq_true] at hv
        injection hv with hv
        simp [Instr.findNow, h1, Instr.sameNow, h2, hv]
      · have hb : (n == k) = false := by simpa using hk
        obtain ⟨i1, i2⟩ := ih xs (i + 1) h3
        refine ⟨fun hv => ?_, fun v hv => ?_⟩
        · simp only [List.lookup_cons, hb] at hv
          simp [Instr.findNow, h1, Instr.sameNow, hb, i1 hv]
        · simp only [List.lookup_cons, hb] at hv
          obtain ⟨j, hj⟩ := i2 v hv
          exact ⟨j, by simp [Instr.findNow, h1, Instr.sameNow, hb, hj]⟩
section
variable {P : Program} {W : World} {p : Nat} {kvs : List (Int × Value)} {t k e : TypeId}
theorem MapI.look (h : MapI W p kvs) (ht : P.underlying t = some (.map k e)) (hk : P.underlying k = some (.int .i64)) {z : Value} (hz : (zeroValue e).run P W = .ok z W) (n : Int) :
    (Instr.lookup t (.map (some p)) (.int .i64 n) true).run P W = .ok (.tuple (match kvs.lookup n with | some v => #[v, .bool true] | none => #[z, .bool false])) W := by
  obtain ⟨es, clk, hb, hm⟩ := h
  obtain ⟨f1, f2⟩ := findNow_int n es.toList kvs 0 hm
  have hkey : MapKept.IsKey (.int .i64) (.int .i64 n) := by simp [MapKept.IsKey]
  cases hl : kvs.lookup n with
  | none =>
    simp [Instr.lookup, run_underlying ht, MapKept.run_getObj_map hb, MapKept.run_checkKey hk hkey, MapKept.run_findKey hk (f1 hl), hz, Result.andThen]
  | some v =>
    obtain ⟨j, hj⟩ := f2 v hl
    simp [Instr.lookup, run_underlying ht, MapKept.run_getObj_map hb, MapKept.run_checkKey hk hkey, MapKept.run_findKey hk hj, Result.andThen]
theorem MapI.put (h : MapI W p kvs) (ht : P.underlying t = some (.map k e)) (hk : P.underlying k = some (.int .i64)) (n : Int) (v : Value) (hl : kvs.lookup n = none) :
    ∃ W', (Instr.mapUpdate t (.map (some p)) (.int .i64 n) v).run P W = .ok () W' ∧ MapI W' p (kvs ++ [(n, v)]) ∧ Kept (· = p) W W' := by
  obtain ⟨es, clk, hb, hm⟩ := h
  obtain ⟨f1, f2⟩ := findNow_int n es.toList kvs 0 hm
  have hkey : MapKept.IsKey (.int .i64) (.int .i64 n) := by simp [MapKept.IsKey]
  refine ⟨ChangeMaps.setBlock W p (.map (es.push ⟨.int .i64 n, v, clk⟩) (clk + 1)), ?_, ⟨_, _, ChangeMaps.heap_setBlock_same hb _, by simp [hm]⟩, ⟨rfl, rfl, rfl, by simp [ChangeMaps.setBlock], fun g hg hp => ChangeMaps.heap_setBlock_other hb _ hp⟩⟩
  simp [Instr.mapUpdate, run_underlying ht, MapKept.run_getObj_map hb, MapKept.run_checkKey hk hkey, MapKept.run_findKey hk (f1 hl), MapKept.run_setObj_map _ hb, Result.andThen, ChangeMaps.setBlock]
end
end Go.Typ
namespace Go.Proofs.YtbhicpjhijondaaDoor
open Go.RowKit Go.Lib Go.Vfs Go.Par Go.Typ Go.Shelf
theorem zeroT_run (W : World) : (zeroValue 24).run Tryd.prog W = .ok (.agg #[.int .i64 0, .int .i64 0, .string ⟨#[]⟩, .slice none 0 0]) W := by kernel_rfl
theorem look_T {W : World} {p : Nat} {kvs : List (Int × Value)} (h : MapI W p kvs) (n : Int) :
    (Instr.lookup 65 (.map (some p)) (.int .i64 n) true).run Tryd.prog W = .ok (.tuple (match kvs.lookup n with | some v => #[v, .bool true] | none => #[.agg #[.int .i64 0, .int .i64 0, .string ⟨#[]⟩, .slice none 0 0], .bool false])) W :=
  h.look Tryd.underlying65 Tryd.underlying3 (zeroT_run W) n
theorem put_T {W : World} {p : Nat} {kvs : List (Int × Value)} (h : MapI W p kvs) (n : Int) (v : Value) (hl : kvs.lookup n = none) :
    ∃ W', (Instr.mapUpdate 65 (.map (some p)) (.int .i64 n) v).run Tryd.prog W = .ok () W' ∧ MapI W' p (kvs ++ [(n, v)]) ∧ Kept (· = p) W W' := h.put Tryd.underlying65 Tryd.underlying3 n v hl
end Go.Proofs.YtbhicpjhijondaaDoor
