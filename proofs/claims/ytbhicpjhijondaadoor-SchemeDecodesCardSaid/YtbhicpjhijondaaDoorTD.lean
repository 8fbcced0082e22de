/- Merged of T31 T32 T33 T34 T35 T36. -/
import Derived.Test.YtbhicpjhijondaaDoorTC
import Derived.ChangeMaps5
import Derived.Carry
/- T31 -/
/- Maps that a call makes, keyed by integers: what a look-up answers, what a further entry leaves. -/
namespace Go.Typ
open Go.RowKit Go.Lib Go.Vfs Go.Par
/-- the map in block p holds these, in the order in which they came. -/
def MapI (W : World) (p : Nat) (kvs : List (Int × Value)) : Prop := ∃ es clk, W.heap[p]? = some (.map es clk) ∧ es.toList.map (fun e => (e.key, e.val)) = kvs.map fun x => (Value.int .i64 x.1, x.2)
theorem MapI.lt {W : World} {p : Nat} {kvs : List (Int × Value)} (h : MapI W p kvs) : p < W.heap.size := by obtain ⟨es, clk, h, _⟩ := h; exact lt_blk h
theorem MapI.keep {W W' : World} {p : Nat} {kvs : List (Int × Value)} (h : MapI W p kvs) (hk : W'.heap[p]? = W.heap[p]?) : MapI W' p kvs := by
  obtain ⟨es, clk, h, h2⟩ := h; exact ⟨es, clk, hk.trans h, h2⟩
theorem MapI.new (W : World) : MapI (W.alloc (.map #[] 0)) W.heap.size [] := ⟨#[], 0, heap_alloc_new _ _, rfl⟩
theorem findNow_int (n : Int) : ∀ (es : List MapEntry) (kvs : List (Int × Value)) (i : Nat), es.map (fun e => (e.key, e.val)) = kvs.map (fun x => (Value.int .i64 x.1, x.2)) →
    (kvs.lookup n = none → Instr.findNow (.int .i64) (.int .i64 n) es i = some none) ∧ (∀ v, kvs.lookup n = some v → ∃ j, Instr.findNow (.int .i64) (.int .i64 n) es i = some (some (j, v))) := by
  intro es
  induction es with
  | nil =>
    intro kvs i h
    cases kvs with
    | nil => exact ⟨fun _ => rfl, fun v h => by cases h⟩
    | cons x xs => simp at h
  | cons e es ih =>
    intro kvs i h
    cases kvs with
    | nil => simp at h
    | cons x xs =>
      obtain ⟨k, u⟩ := x
      simp only [List.map_cons, List.cons.injEq, Prod.mk.injEq] at h
      obtain ⟨⟨h1, h2⟩, h3⟩ := h
      by_cases hk : n = k
      · subst hk
        refine ⟨fun h => by simp at h, fun v hv => ⟨i, ?_⟩⟩
        simp only [List.lookup_cons, beq_self_eq_true] at hv
        injection hv with hv
        simp [Instr.findNow, h1, Instr.sameNow, h2, hv]
      · have hb : (n == k) = false := by simpa using hk
        obtain ⟨i1, i2⟩ := ih xs (i + 1) h3
        refine ⟨fun hv => ?_, fun v hv => ?_⟩
        · simp only [List.lookup_cons, hb] at hv
          simp [Instr.findNow, h1, Instr.sameNow, hb, i1 hv]
        · simp only [List.lookup_cons, hb] at hv
          obtain ⟨j, hj⟩ := i2 v hv
          exact ⟨j, by simp [Instr.findNow, h1, Instr.sameNow, hb, hj]⟩
section
variable {P : Program} {W : World} {p : Nat} {kvs : List (Int × Value)} {t k e : TypeId}
theorem MapI.look (h : MapI W p kvs) (ht : P.underlying t = some (.map k e)) (hk : P.underlying k = some (.int .i64)) {z : Value} (hz : (zeroValue e).run P W = .ok z W) (n : Int) :
    (Instr.lookup t (.map (some p)) (.int .i64 n) true).run P W = .ok (.tuple (match kvs.lookup n with | some v => #[v, .bool true] | none => #[z, .bool false])) W := by
  obtain ⟨es, clk, hb, hm⟩ := h
  obtain ⟨f1, f2⟩ := findNow_int n es.toList kvs 0 hm
  have hkey : MapKept.IsKey (.int .i64) (.int .i64 n) := by simp [MapKept.IsKey]
  cases hl : kvs.lookup n with
  | none =>
    simp [Instr.lookup, run_underlying ht, MapKept.run_getObj_map hb, MapKept.run_checkKey hk hkey, MapKept.run_findKey hk (f1 hl), hz, Result.andThen]
  | some v =>
    obtain ⟨j, hj⟩ := f2 v hl
    simp [Instr.lookup, run_underlying ht, MapKept.run_getObj_map hb, MapKept.run_checkKey hk hkey, MapKept.run_findKey hk hj, Result.andThen]
theorem MapI.put (h : MapI W p kvs) (ht : P.underlying t = some (.map k e)) (hk : P.underlying k = some (.int .i64)) (n : Int) (v : Value) (hl : kvs.lookup n = none) :
    ∃ W', (Instr.mapUpdate t (.map (some p)) (.int .i64 n) v).run P W = .ok () W' ∧ MapI W' p (kvs ++ [(n, v)]) ∧ Kept (· = p) W W' := by
  obtain ⟨es, clk, hb, hm⟩ := h
  obtain ⟨f1, f2⟩ := findNow_int n es.toList kvs 0 hm
  have hkey : MapKept.IsKey (.int .i64) (.int .i64 n) := by simp [MapKept.IsKey]
  refine ⟨ChangeMaps.setBlock W p (.map (es.push ⟨.int .i64 n, v, clk⟩) (clk + 1)), ?_, ⟨_, _, ChangeMaps.heap_setBlock_same hb _, by simp [hm]⟩, ⟨rfl, rfl, rfl, by simp [ChangeMaps.setBlock], fun g hg hp => ChangeMaps.heap_setBlock_other hb _ hp⟩⟩
  simp [Instr.mapUpdate, run_underlying ht, MapKept.run_getObj_map hb, MapKept.run_checkKey hk hkey, MapKept.run_findKey hk (f1 hl), MapKept.run_setObj_map _ hb, Result.andThen, ChangeMaps.setBlock]
end
end Go.Typ
namespace Go.Proofs.YtbhicpjhijondaaDoor
open Go.RowKit Go.Lib Go.Vfs Go.Par Go.Typ Go.Shelf
theorem zeroT_run (W : World) : (zeroValue 24).run Tryd.prog W = .ok (.agg #[.int .i64 0, .int .i64 0, .string ⟨#[]⟩, .slice none 0 0]) W := by kernel_rfl
theorem look_T {W : World} {p : Nat} {kvs : List (Int × Value)} (h : MapI W p kvs) (n : Int) :
    (Instr.lookup 65 (.map (some p)) (.int .i64 n) true).run Tryd.prog W = .ok (.tuple (match kvs.lookup n with | some v => #[v, .bool true] | none => #[.agg #[.int .i64 0, .int .i64 0, .string ⟨#[]⟩, .slice none 0 0], .bool false])) W :=
  h.look Tryd.underlying65 Tryd.underlying3 (zeroT_run W) n
theorem put_T {W : World} {p : Nat} {kvs : List (Int × Value)} (h : MapI W p kvs) (n : Int) (v : Value) (hl : kvs.lookup n = none) :
    ∃ W', (Instr.mapUpdate 65 (.map (some p)) (.int .i64 n) v).run Tryd.prog W = .ok () W' ∧ MapI W' p (kvs ++ [(n, v)]) ∧ Kept (· = p) W W' := h.put Tryd.underlying65 Tryd.underlying3 n v hl
end Go.Proofs.YtbhicpjhijondaaDoor
/- T32 -/
/- types.stands: is a type general with types in the places of its variables? -/
namespace Go.Typ
open Go.RowKit Go.Lib Go.Vfs Go.Par
mutual
/-- is T the type G with types in the places of its variables, of which some are known? -/
noncomputable def standsT : Ty → Ty → List (Int × Ty) → Bool × List (Int × Ty)
  | .mk k n s gs, T, kn => if k = 1 then (match kn.lookup n with | some U => (same U T, kn) | none => (true, kn ++ [(n, T)]))
      else if k = T.kind ∧ s = T.name ∧ gs.length = T.args.length then standsL gs T.args kn else (false, kn)
noncomputable def standsL : List Ty → List Ty → List (Int × Ty) → Bool × List (Int × Ty)
  | [], _, kn => (true, kn)
  | _ :: _, [], kn => (false, kn)
  | g :: gs, t :: ts, kn => if (standsT g t kn).1 = true then standsL gs ts (standsT g t kn).2 else (false, (standsT g t kn).2)
end
mutual
/-- each type that stands where a variable stands is as asked. -/
def meetsT (Q : Int → Ty → Prop) : Ty → Ty → Prop
  | .mk k n _ gs, T => if k = 1 then Q n T else meetsL Q gs T.args
def meetsL (Q : Int → Ty → Prop) : List Ty → List Ty → Prop
  | [], _ => True
  | _ :: _, [] => True
  | g :: gs, t :: ts => meetsT Q g t ∧ meetsL Q gs ts
end
theorem standsT_eq (G T : Ty) (kn : List (Int × Ty)) : standsT G T kn = if G.kind = 1 then (match kn.lookup G.num with | some U => (same U T, kn) | none => (true, kn ++ [(G.num, T)]))
      else if G.kind = T.kind ∧ G.name = T.name ∧ G.args.length = T.args.length then standsL G.args T.args kn else (false, kn) := by cases G; rw [standsT]; rfl
theorem meetsT_eq (Q : Int → Ty → Prop) (G T : Ty) : meetsT Q G T = if G.kind = 1 then Q G.num T else meetsL Q G.args T.args := by cases G; rw [meetsT]; rfl
theorem standsL_step {gs ts : List Ty} {k : Nat} (h : k < gs.length) (h' : k < ts.length) (kn : List (Int × Ty)) :
    standsL (gs.drop k) (ts.drop k) kn = if (standsT gs[k] ts[k] kn).1 = true then standsL (gs.drop (k + 1)) (ts.drop (k + 1)) (standsT gs[k] ts[k] kn).2 else (false, (standsT gs[k] ts[k] kn).2) := by
  rw [List.drop_eq_getElem_cons h, List.drop_eq_getElem_cons h', standsL]
theorem standsL_end {gs ts : List Ty} {k : Nat} (h : gs.length ≤ k) (kn : List (Int × Ty)) : standsL (gs.drop k) (ts.drop k) kn = (true, kn) := by
  rw [List.drop_eq_nil_of_le h, standsL]
theorem meetsL_step {Q : Int → Ty → Prop} {gs ts : List Ty} {k : Nat} (h : k < gs.length) (h' : k < ts.length) (hm : meetsL Q (gs.drop k) (ts.drop k)) : meetsT Q gs[k] ts[k] ∧ meetsL Q (gs.drop (k + 1)) (ts.drop (k + 1)) := by
  rw [List.drop_eq_getElem_cons h, List.drop_eq_getElem_cons h', meetsL] at hm
  exact hm
/-- entries of a map, and the types that they are. -/
inductive KV (R : Int → Value → Ty → Prop) : List (Int × Value) → List (Int × Ty) → Prop
  | nil : KV R [] []
  | cons (n : Int) (v : Value) (T : Ty) (xs : List (Int × Value)) (ys : List (Int × Ty)) : R n v T → KV R xs ys → KV R ((n, v) :: xs) ((n, T) :: ys)
theorem KV.mono {R R' : Int → Value → Ty → Prop} {xs : List (Int × Value)} {ys : List (Int × Ty)} (h : KV R xs ys) (hR : ∀ n v T, R n v T → R' n v T) : KV R' xs ys := by
  induction h with
  | nil => exact .nil
  | cons n v T xs ys h _ ih => exact .cons n v T xs ys (hR _ _ _ h) ih
theorem KV.snoc {R : Int → Value → Ty → Prop} {xs : List (Int × Value)} {ys : List (Int × Ty)} (h : KV R xs ys) {n : Int} {v : Value} {T : Ty} (hn : R n v T) : KV R (xs ++ [(n, v)]) (ys ++ [(n, T)]) := by
  induction h with
  | nil => exact .cons _ _ _ _ _ hn .nil
  | cons m u U xs ys h _ ih => exact .cons _ _ _ _ _ h ih
theorem KV.miss {R : Int → Value → Ty → Prop} {xs : List (Int × Value)} {ys : List (Int × Ty)} (h : KV R xs ys) {n : Int} (hl : ys.lookup n = none) : xs.lookup n = none := by
  induction h with
  | nil => rfl
  | cons m u U xs ys h _ ih =>
    by_cases e : n = m
    · subst e; simp at hl
    · have hb : (n == m) = false := by simpa using e
      simp only [List.lookup_cons, hb] at hl ⊢
      exact ih hl
theorem KV.hit {R : Int → Value → Ty → Prop} {xs : List (Int × Value)} {ys : List (Int × Ty)} (h : KV R xs ys) {n : Int} {T : Ty} (hl : ys.lookup n = some T) : ∃ v, xs.lookup n = some v ∧ R n v T := by
  induction h with
  | nil => cases hl
  | cons m u U xs ys h _ ih =>
    by_cases e : n = m
    · subst e
      simp only [List.lookup_cons, beq_self_eq_true] at hl ⊢
      injection hl with hl
      subst hl
      exact ⟨u, rfl, h⟩
    · have hb : (n == m) = false := by simpa using e
      simp only [List.lookup_cons, hb] at hl ⊢
      exact ih hl
/-- the map in block p knows these types. -/
def KMap (S : Nat → Prop) (Q : Int → Ty → Prop) (W : World) (p : Nat) (kn : List (Int × Ty)) : Prop := ∃ kvs, MapI W p kvs ∧ KV (fun n v T => TyAt S W v T ∧ Q n T) kvs kn
theorem KMap.lt {S : Nat → Prop} {Q : Int → Ty → Prop} {W : World} {p : Nat} {kn : List (Int × Ty)} (h : KMap S Q W p kn) : p < W.heap.size := by obtain ⟨_, h, _⟩ := h; exact h.lt
theorem KMap.keep {S : Nat → Prop} {Q : Int → Ty → Prop} {W W' : World} {p : Nat} {kn : List (Int × Ty)} (h : KMap S Q W p kn) (hp : W'.heap[p]? = W.heap[p]?) (hS : ∀ g, S g → W'.heap[g]? = W.heap[g]?) : KMap S Q W' p kn := by
  obtain ⟨kvs, h1, h2⟩ := h
  exact ⟨kvs, h1.keep hp, h2.mono fun n v T h => ⟨h.1.keep fun g hg => ⟨hg, hS g hg⟩, h.2⟩⟩
end Go.Typ
namespace Go.Proofs.YtbhicpjhijondaaDoor
open Go.RowKit Go.Lib Go.Vfs Go.Par Go.Typ Go.Shelf
set_option linter.unusedVariables false
set_option linter.unusedSimpArgs false

theorem put_K {S : Nat → Prop} {Q : Int → Ty → Prop} {W : World} {p : Nat} {kn : List (Int × Ty)} (h : KMap S Q W p kn) (hS : ∀ g, S g → g < p) (n : Int) (v : Value) (T : Ty) (hv : TyAt S W v T) (hq : Q n T) (hl : kn.lookup n = none) :
    ∃ W', (Instr.mapUpdate 65 (.map (some p)) (.int .i64 n) v).run Tryd.prog W = .ok () W' ∧ KMap S Q W' p (kn ++ [(n, T)]) ∧ Kept (· = p) W W' := by
  obtain ⟨kvs, h1, h2⟩ := h
  obtain ⟨W', hr, hm, hk⟩ := put_T h1 n v (h2.miss hl)
  refine ⟨W', hr, ⟨_, hm, ?_⟩, hk⟩
  have hlt := h1.lt
  have hke : ∀ g, S g → W'.heap[g]? = W.heap[g]? := fun g hg => hk.block g (by have := hS g hg; omega) (by have := hS g hg; omega)
  exact (h2.mono fun n v T h => ⟨h.1.keep fun g hg => ⟨hg, hke g hg⟩, h.2⟩).snoc ⟨hv.keep fun g hg => ⟨hg, hke g hg⟩, hq⟩

set_option maxRecDepth 20000 in
set_option maxHeartbeats 2000000 in
theorem stands_any (n₀ p : Nat) (W0 : World) (S : Nat → Prop) (Q : Int → Ty → Prop) (hS : ∀ g, S g → g < n₀) (hp : n₀ ≤ p)
    (HS : ∀ n U U' v v' W, Below n₀ W0 W → n₀ ≤ W.heap.size → Q n U → Q n U' → TyAt S W v U → TyAt S W v' U' → Calls Tryd.prog 20 #[v, v'] W fun e W' => e = .returned (.bool (same U U')) ∧ Below W.heap.size W W') (G : Ty) :
    ∀ (T : Ty) (kn : List (Int × Ty)) (v u : Value) (w : World), Below n₀ W0 w → TyAt (· < n₀) w v G → TyAt S w u T → KMap S Q w p kn → meetsT Q G T →
      Calls Tryd.prog 53 #[v, u, .map (some p)] w fun e w' => e = .returned (.bool (standsT G T kn).1) ∧ Kept (· = p) w w' ∧ ((standsT G T kn).1 = true → KMap S Q w' p (standsT G T kn).2) := by
  induction G using Ty.ind with
  | h G ih =>
    intro T kn v u w hB hG hT hK hQ
    have IH := Lib.hid ih
    clear ih
    obtain ⟨A, c, rfl, hc, hm, hn⟩ := hG.form
    obtain ⟨A', c', rfl, hc', hm', hn'⟩ := hT.form
    have hpl := hK.lt
    obtain ⟨W1, hW1⟩ : ∃ W1, W1 = (w.alloc (.cells #[.int .i64 G.kind, .int .i64 G.num, .string G.name, .slice A G.args.length c] 24)).alloc (.cells #[.int .i64 T.kind, .int .i64 T.num, .string T.name, .slice A' T.args.length c'] 24) := ⟨_, rfl⟩
    have hb1 : Below w.heap.size w W1 := by rw [hW1]; exact ((Below.refl _ _).alloc (Nat.le_refl _) _).alloc (by simp) _
    have hbg : W1.heap[w.heap.size]? = some (.cells #[.int .i64 G.kind, .int .i64 G.num, .string G.name, .slice A G.args.length c] 24 (0, 0)) := by
      rw [hW1, Below.heap_alloc _ _ _ (by simp)]
      exact heap_alloc_new _ _
    have hbt : W1.heap[w.heap.size + 1]? = some (.cells #[.int .i64 T.kind, .int .i64 T.num, .string T.name, .slice A' T.args.length c'] 24 (0, 0)) := by
      rw [hW1]
      have := heap_alloc_new (w.alloc (.cells #[.int .i64 G.kind, .int .i64 G.num, .string G.name, .slice A G.args.length c] 24)) (.cells #[.int .i64 T.kind, .int .i64 T.num, .string T.name, .slice A' T.args.length c'] 24)
      simpa using this
    have hk1 : Kept (· = p) w W1 := Kept.of_below hb1
    have hn0 : n₀ ≤ w.heap.size := by omega
    have hG1 := hG.keep (S' := (· < n₀)) (W' := W1) fun g hg => ⟨hg, hb1.block g (by omega)⟩
    have hT1 := hT.keep (S' := S) (W' := W1) fun g hg => ⟨hg, hb1.block g (by have := hS g hg; omega)⟩
    have hK1 := hK.keep (W' := W1) (hb1.block p hpl) fun g hg => hb1.block g (by have := hS g hg; omega)
    have hB1 : Below n₀ W0 W1 := hB.trans (hb1.mono hn0)
    have HG1 := Lib.hid hG1; have HT1 := Lib.hid hT1; have HK1 := Lib.hid hK1; have HB1 := Lib.hid hB1; have HBG := Lib.hid hbg; have HBT := Lib.hid hbt; have HKW := Lib.hid hk1; have HQ := Lib.hid hQ; have HSM := Lib.hid HS; have HZ1 := Lib.hid hb1.size
    have hla : G.args.length ≤ 9223372036854775807 := by simp only [maxLen] at hm; omega
    have hla' : T.args.length ≤ 9223372036854775807 := by simp only [maxLen] at hm'; omega
    clear hG hT hK hB hb1 hk1 hG1 hT1 hK1 hB1 hQ HS hc hm hn hc' hm' hn' hbg hbt
    unfold tyV
    by_cases k1 : G.kind = 1
    · have HQ1 : Hid (Q G.num T) := Lib.hid (by have h := HQ.out; rw [meetsT_eq, if_pos k1] at h; exact h)
      have hse : standsT G T kn = (match kn.lookup G.num with | some U => (same U T, kn) | none => (true, kn ++ [(G.num, T)])) := by rw [standsT_eq, if_pos k1]
      rw [k1] at hW1 HBG
      rw [k1]
      clear k1 IH HQ
      obtain ⟨y0, y1, y2, y3⟩ := box4 HBG.out
      obtain ⟨z0, z1, z2, z3⟩ := box4 HBT.out
      obtain ⟨kvs, hm1, hkv⟩ := HK1.out
      cases hl : kn.lookup G.num with
      | none =>
        have HR : Hid (standsT G T kn = (true, kn ++ [(G.num, T)])) := Lib.hid (by rw [hse, hl])
        have hlook := look_T hm1 G.num
        rw [hkv.miss hl] at hlook
        simp only at hlook
        obtain ⟨W2, hW2⟩ : ∃ W2, W2 = W1.alloc zero4 := ⟨_, rfl⟩
        have hb2 : Below W1.heap.size W1 W2 := by rw [hW2]; exact (Below.refl _ _).alloc (Nat.le_refl _) _
        have hpl1 := HK1.out.lt
        have hK2 := HK1.out.keep (W' := W2) (hb2.block p hpl1) fun g hg => hb2.block g (by have := hS g hg; omega)
        have hT2 := HT1.out.keep (S' := S) (W' := W2) fun g hg => ⟨hg, hb2.block g (by have := hS g hg; omega)⟩
        obtain ⟨W3, hrun, hK3, hk3⟩ := put_K hK2 (fun g hg => by have := hS g hg; omega) G.num _ T hT2 HQ1.out hl
        have HK3 := Lib.hid hK3
        have HKF := Lib.hid ((HKW.out.trans' (Kept.of_below hb2)).trans' hk3)
        obtain ⟨t0, t1, t2, t3⟩ := box4 ((hb2.block _ (lt_blk HBG.out)).trans HBG.out)
        obtain ⟨u0, u1, u2, u3⟩ := box4 ((hb2.block _ (lt_blk HBT.out)).trans HBT.out)
        unfold tyV at hrun
        unfold zero4 at hW2
        rw [hW2] at hrun t0 t1 t2 t3 u0 u1 u2 u3
        rw [hW1] at hlook hrun t0 t1 t2 t3 u0 u1 u2 u3 y0 y1 y2 y3 z0 z1 z2 z3
        clear hl hse hm1 hkv hK2 hT2 hK3 hk3 hW2 hW1 hb2
        go_enter Tryd.func53, Tryd.ntmps53
        go_wp2
        go_ret
        rw [HR.out]
        exact ⟨rfl, HKF.out, fun _ => HK3.out⟩
      | some U =>
        have HR : Hid (standsT G T kn = (same U T, kn)) := Lib.hid (by rw [hse, hl])
        have hlook := look_T hm1 G.num
        obtain ⟨v, hv, hvU, hvQ⟩ := hkv.hit hl
        rw [hv] at hlook
        simp only at hlook
        obtain ⟨A2, c2, rfl, -, -, -⟩ := hvU.form
        obtain ⟨W2, hW2⟩ : ∃ W2, W2 = W1.alloc (.cells #[.int .i64 U.kind, .int .i64 U.num, .string U.name, .slice A2 U.args.length c2] 24) := ⟨_, rfl⟩
        have hb2 : Below W1.heap.size W1 W2 := by rw [hW2]; exact (Below.refl _ _).alloc (Nat.le_refl _) _
        have hpl1 := HK1.out.lt
        have HK2 := Lib.hid (HK1.out.keep (W' := W2) (hb2.block p hpl1) fun g hg => hb2.block g (by have := hS g hg; omega))
        have hT2 := HT1.out.keep (S' := S) (W' := W2) fun g hg => ⟨hg, hb2.block g (by have := hS g hg; omega)⟩
        have hU2 := hvU.keep (S' := S) (W' := W2) fun g hg => ⟨hg, hb2.block g (by have := hS g hg; omega)⟩
        have hsz2 := hb2.size
        have hSA := HSM.out G.num U T _ _ W2 (HB1.out.trans (hb2.mono (by omega))) (by omega) hvQ HQ1.out hU2 hT2
        unfold tyV at hSA hlook
        have HSA := Lib.hid hSA
        have HKF := Lib.hid (HKW.out.trans' (Kept.of_below hb2))
        obtain ⟨u0, u1, u2, u3⟩ := box4 ((hb2.block _ (lt_blk HBT.out)).trans HBT.out)
        obtain ⟨x0, x1, x2, x3⟩ := box4 (show W2.heap[W1.heap.size]? = some (.cells #[.int .i64 U.kind, .int .i64 U.num, .string U.name, .slice A2 U.args.length c2] 24 (0, 0)) by rw [hW2]; exact heap_alloc_new _ _)
        rw [show W1.heap.size = w.heap.size + 1 + 1 by rw [hW1]; simp] at x0 x1 x2 x3
        have hW2' := hW2
        rw [hW1] at hW2'
        rw [hW2'] at u0 u1 u2 u3 x0 x1 x2 x3
        rw [hW1] at hlook y0 y1 y2 y3 z0 z1 z2 z3
        clear hl hse hm1 hkv hT2 hU2 hW2 hW1 hb2 hv hvU hvQ hSA
        go_enter Tryd.func53, Tryd.ntmps53
        go_wp2_with fail
        rw [← hW2']
        clear hW2' hlook y0 y1 y2 y3 z0 z1 z2 z3 u0 u1 u2 u3 x0 x1 x2 x3
        refine HSA.out.mono ?_
        rintro e w3 ⟨rfl, hb3⟩
        have HB3 := Lib.hid hb3
        clear hb3
        go_wp2
        go_ret
        rw [HR.out]
        refine ⟨rfl, HKF.out.trans' (Kept.of_below HB3.out), fun _ => HK2.out.keep (HB3.out.block p HK2.out.lt) fun g hg => HB3.out.block g (by have := hS g hg; have := HK2.out.lt; omega)⟩
    · have hse : standsT G T kn = if G.kind = T.kind ∧ G.name = T.name ∧ G.args.length = T.args.length then standsL G.args T.args kn else (false, kn) := by rw [standsT_eq, if_neg k1]
      have HQ1 : Hid (meetsL Q G.args T.args) := Lib.hid (by have h := HQ.out; rw [meetsT_eq, if_neg k1] at h; exact h)
      have hg1 : (G.kind == 1) = false := by simp [k1]
      clear HQ
      by_cases e1 : G.kind = T.kind
      · by_cases e3 : G.name = T.name
        · by_cases e4 : G.args.length = T.args.length
          · have HR : Hid (standsT G T kn = standsL G.args T.args kn) := Lib.hid (by rw [hse, if_pos ⟨e1, e3, e4⟩])
            have h1 : (G.kind != T.kind) = false := by simp [e1]
            have h3 : (G.name.toList == T.name.toList) = true := (beqS _ _).2 e3
            have h4 : ((G.args.length : Int) != (T.args.length : Int)) = false := by simp [e4]
            have E4 := Lib.hid e4
            obtain ⟨y0, y1, y2, y3⟩ := box4 HBG.out
            obtain ⟨z0, z1, z2, z3⟩ := box4 HBT.out
            rw [hW1] at y0 y1 y2 y3 z0 z1 z2 z3
            clear hse e1 e3 e4 k1
            go_enter Tryd.func53, Tryd.ntmps53
            go_wp2
            rw [← hW1]
            have hws : W1.heap.size = w.heap.size + 2 := by rw [hW1]; simp
            clear y0 y1 y2 y3 z0 z1 z2 z3 hW1 h1 h3 h4 hg1
            go_loopw [53] (fun iv W => ∃ (k : Nat) (kn' : List (Int × Ty)), k ≤ G.args.length ∧ iv = .int .i64 k ∧ Hid (KMap S Q W p kn') ∧ Hid (Kept (· = p) W1 W) ∧ Hid (standsL (G.args.drop k) (T.args.drop k) kn' = standsL G.args T.args kn) ∧ Hid (meetsL Q (G.args.drop k) (T.args.drop k))) (fun iv _ => G.args.length - (RowKit.intOf iv).toNat)
            case atStart => exact ⟨0, kn, by omega, rfl, HK1, Lib.hid (Kept.refl _ _), Lib.hid rfl, Lib.hid HQ1.out⟩
            case round =>
              obtain ⟨k, kn', hk, rfl, HKN, HKR, HST, HME⟩ := hrel
              by_cases hlt : k < G.args.length
              · have hlt' : k < T.args.length := by have := E4.out; omega
                have hpw := HKN.out.lt
                have hsz := HKR.out.size
                have hGr := HG1.out.keep (S' := (· < n₀)) (W' := wr) fun g hg => ⟨hg, HKR.out.block g (by omega) (by omega)⟩
                have hTr := HT1.out.keep (S' := S) (W' := wr) fun g hg => ⟨hg, HKR.out.block g (by have := hS g hg; omega) (by have := hS g hg; omega)⟩
                obtain ⟨b, off, A2, c2, rfl, hb, ht, x0, x1, x2, x3⟩ := hGr.arg hlt
                obtain ⟨b', off', A2', c2', rfl, hb', ht', x0', x1', x2', x3'⟩ := hTr.arg hlt'
                have hb'' := hS b' hb'
                obtain ⟨z0, z1, z2, z3⟩ := box4 ((HKR.out.block _ (by omega) (by omega)).trans HBT.out)
                have hstep := standsL_step hlt hlt' kn'
                have hmeet := meetsL_step hlt hlt' HME.out
                have hih := fun kn v u w => IH.out k hlt T.args[k] kn v u w
                generalize G.args[k] = X at *
                generalize T.args[k] = Y at *
                obtain ⟨W2, hW2⟩ : ∃ W2, W2 = wr.alloc (.cells #[.int .i64 X.kind, .int .i64 X.num, .string X.name, .slice A2 X.args.length c2] 24) := ⟨_, rfl⟩
                have hb2 : Below wr.heap.size wr W2 := by rw [hW2]; exact (Below.refl _ _).alloc (Nat.le_refl _) _
                have hbx2 : W2.heap[wr.heap.size]? = some (.cells #[.int .i64 X.kind, .int .i64 X.num, .string X.name, .slice A2 X.args.length c2] 24 (0, 0)) := by rw [hW2]; exact heap_alloc_new _ _
                have hca := hih kn' _ _ W2.drew (((HB1.out.trans (below_of_kept HKR.out hp (by omega))).trans (hb2.mono (by omega))).trans (Below.refl _ _).drew) (ht.keep fun g hg => ⟨hg, hb2.block g (by omega)⟩) (ht'.keep fun g hg => ⟨hg, hb2.block g (by have := hS g hg; omega)⟩)
                  (HKN.out.keep (hb2.block p hpw) fun g hg => hb2.block g (by have := hS g hg; omega)) hmeet.1
                obtain ⟨v0, v1, v2, v3⟩ := box4 hbx2
                have hwrb := lt_blk hbx2
                have HSK : Hid (∀ W', Kept (· = p) W2 W' → W'.cell? ⟨wr.heap.size, 0, none⟩ = some (.int .i64 X.kind) ∧ W'.cell? ⟨wr.heap.size, 1, none⟩ = some (.int .i64 X.num) ∧ W'.cell? ⟨wr.heap.size, 2, none⟩ = some (.string X.name) ∧ W'.cell? ⟨wr.heap.size, 3, none⟩ = some (.slice A2 X.args.length c2) ∧
                    W'.cell? ⟨w.heap.size + 1, 3, none⟩ = some (.slice (some ⟨b', off', none⟩) T.args.length c') ∧
                    W'.cell? ⟨b', off' + k * 4, none⟩ = some (.int .i64 Y.kind) ∧ W'.cell? ⟨b', off' + k * 4 + 1, none⟩ = some (.int .i64 Y.num) ∧ W'.cell? ⟨b', off' + k * 4 + 2, none⟩ = some (.string Y.name) ∧ W'.cell? ⟨b', off' + k * 4 + 3, none⟩ = some (.slice A2' Y.args.length c2')) := Lib.hid fun W' h => by
                  have hs2 := hb2.size
                  have q1 := fun o => World.cell?_of_block (w := W2) (w' := W') (a := ⟨wr.heap.size, o, none⟩) (h.block _ hwrb (by show ¬ wr.heap.size = p; omega))
                  have q2 := fun o => World.cell?_of_block (w := wr) (w' := W') (a := ⟨w.heap.size + 1, o, none⟩) ((h.block (w.heap.size + 1) (by omega) (by omega)).trans (hb2.block (w.heap.size + 1) (by omega)))
                  have q3 := fun o => World.cell?_of_block (w := wr) (w' := W') (a := ⟨b', o, none⟩) ((h.block b' (by omega) (by omega)).trans (hb2.block b' (by omega)))
                  rw [q1, q1, q1, q1, q2, q3, q3, q3, q3]
                  exact ⟨v0, v1, v2, v3, z3, x0', x1', x2', x3'⟩
                have HBW : Hid (Kept (· = p) W2 W2.drew) := Lib.hid (Kept.of_below ((Below.refl W2.heap.size _).drew))
                unfold tyV at hca
                obtain ⟨q, hq⟩ : ∃ q, q = (standsT X Y kn').1 := ⟨_, rfl⟩
                rw [← hq] at hca hstep
                have HCA := Lib.hid hca; have HSTEP := Lib.hid hstep; have HMT := Lib.hid hmeet.2; have HB2 := Lib.hid hb2
                clear hca hstep hmeet hih ht ht' hGr hTr hq v0 v1 v2 v3 hbx2 hb2 z0 z1 z2 z3 x0' x1' x2' x3' HK1 HQ1 HG1 HT1
                go_wp2_with fail
                rw [← hW2]
                clear hW2
                go_region_held (fun W' => W'.cell? ⟨wr.heap.size, 0, none⟩ = some (.int .i64 X.kind) ∧ W'.cell? ⟨wr.heap.size, 1, none⟩ = some (.int .i64 X.num) ∧ W'.cell? ⟨wr.heap.size, 2, none⟩ = some (.string X.name) ∧ W'.cell? ⟨wr.heap.size, 3, none⟩ = some (.slice A2 X.args.length c2) ∧
                    W'.cell? ⟨w.heap.size + 1, 3, none⟩ = some (.slice (some ⟨b', off', none⟩) T.args.length c') ∧
                    W'.cell? ⟨b', off' + k * 4, none⟩ = some (.int .i64 Y.kind) ∧ W'.cell? ⟨b', off' + k * 4 + 1, none⟩ = some (.int .i64 Y.num) ∧ W'.cell? ⟨b', off' + k * 4 + 2, none⟩ = some (.string Y.name) ∧ W'.cell? ⟨b', off' + k * 4 + 3, none⟩ = some (.slice A2' Y.args.length c2'))
                    (first | exact HSK.out _ HBW.out | exact HSK.out _ (by assumption)) ((go_at_call 53; refine HCA.out.mono ?_; rintro e w3 ⟨rfl, HK3, HM3⟩; have HK4 := HBW.out.trans' HK3))
                cases q
                · have HE : Hid (standsL G.args T.args kn = (false, (standsT X Y kn').2)) := Lib.hid (by rw [← HST.out, HSTEP.out]; rfl)
                  go_wp2
                  go_ret
                  rw [HR.out, HE.out]
                  exact ⟨rfl, (HKW.out.trans' HKR.out).trans' ((Kept.of_below HB2.out).trans' HK4), fun h => by cases h⟩
                · have HKN2 := Lib.hid (HM3 rfl)
                  clear HM3
                  go_wp2
                  go_roundw
                  case rel => exact ⟨k + 1, _, by omega, by go_num, HKN2, Lib.hid (HKR.out.trans' ((Kept.of_below HB2.out).trans' HK4)), Lib.hid (by rw [← HST.out, HSTEP.out]; rfl), HMT⟩
                  case measure => simp [RowKit.intOf]; omega
              · have hkl : k = G.args.length := by omega
                have HE : Hid (standsL G.args T.args kn = (true, kn')) := Lib.hid (by rw [← HST.out]; exact standsL_end (by omega) _)
                go_wp2
                go_ret
                rw [HR.out, HE.out]
                exact ⟨rfl, HKW.out.trans' HKR.out, fun _ => HKN.out⟩
          · have HR : Hid (standsT G T kn = (false, kn)) := Lib.hid (by rw [hse, if_neg (fun h => e4 h.2.2)])
            have h1 : (G.kind != T.kind) = false := by simp [e1]
            have h3 : (G.name.toList == T.name.toList) = true := (beqS _ _).2 e3
            have h4 : ((G.args.length : Int) != (T.args.length : Int)) = true := by simp; omega
            obtain ⟨y0, y1, y2, y3⟩ := box4 HBG.out
            obtain ⟨z0, z1, z2, z3⟩ := box4 HBT.out
            rw [hW1] at y0 y1 y2 y3 z0 z1 z2 z3
            clear hse e1 e3 e4 k1
            go_enter Tryd.func53, Tryd.ntmps53
            go_wp2
            go_ret
            rw [HR.out, ← hW1]
            exact ⟨rfl, HKW.out, fun h => by cases h⟩
        · have HR : Hid (standsT G T kn = (false, kn)) := Lib.hid (by rw [hse, if_neg (fun h => e3 h.2.1)])
          have h1 : (G.kind != T.kind) = false := by simp [e1]
          have h3 : (G.name.toList == T.name.toList) = false := beqS_ne e3
          obtain ⟨y0, y1, y2, y3⟩ := box4 HBG.out
          obtain ⟨z0, z1, z2, z3⟩ := box4 HBT.out
          rw [hW1] at y0 y1 y2 y3 z0 z1 z2 z3
          clear hse e1 e3 k1
          go_enter Tryd.func53, Tryd.ntmps53
          go_wp2
          go_ret
          rw [HR.out, ← hW1]
          exact ⟨rfl, HKW.out, fun h => by cases h⟩
      · have HR : Hid (standsT G T kn = (false, kn)) := Lib.hid (by rw [hse, if_neg (fun h => e1 h.1)])
        have h1 : (G.kind != T.kind) = true := by simp [e1]
        obtain ⟨y0, y1, y2, y3⟩ := box4 HBG.out
        obtain ⟨z0, z1, z2, z3⟩ := box4 HBT.out
        rw [hW1] at y0 y1 y2 y3 z0 z1 z2 z3
        clear hse e1 k1
        go_enter Tryd.func53, Tryd.ntmps53
        go_wp2
        go_ret
        rw [HR.out, ← hW1]
        exact ⟨rfl, HKW.out, fun h => by cases h⟩
end Go.Proofs.YtbhicpjhijondaaDoor
/- T33 -/
/- types.alike and types.Same at types without arguments. -/
namespace Go.Proofs.YtbhicpjhijondaaDoor
open Go.RowKit Go.Lib Go.Vfs Go.Par Go.Typ Go.Shelf
set_option linter.unusedVariables false
set_option linter.unusedSimpArgs false

set_option maxRecDepth 20000 in
set_option maxHeartbeats 2000000 in
theorem alike_leaf (T U : Ty) (hl : T.args = []) (S : Nat → Prop) (v u m : Value) (w : World) (hT : TyAt S w v T) (hU : TyAt S w u U) :
    Calls Tryd.prog 55 #[v, u, m] w fun e w' => e = .returned (.bool (same T U)) ∧ Below w.heap.size w w' := by
  obtain ⟨A, c, rfl, hc, hm, hn⟩ := hT.form
  obtain ⟨A', c', rfl, hc', hm', hn'⟩ := hU.form
  obtain ⟨W1, hW1⟩ : ∃ W1, W1 = (w.alloc (.cells #[.int .i64 T.kind, .int .i64 T.num, .string T.name, .slice A T.args.length c] 24)).alloc (.cells #[.int .i64 U.kind, .int .i64 U.num, .string U.name, .slice A' U.args.length c'] 24) := ⟨_, rfl⟩
  have hb1 : Below w.heap.size w W1 := by rw [hW1]; exact ((Below.refl _ _).alloc (Nat.le_refl _) _).alloc (by simp) _
  have hbg : W1.heap[w.heap.size]? = some (.cells #[.int .i64 T.kind, .int .i64 T.num, .string T.name, .slice A T.args.length c] 24 (0, 0)) := by
    rw [hW1, Below.heap_alloc _ _ _ (by simp)]
    exact heap_alloc_new _ _
  have hbt : W1.heap[w.heap.size + 1]? = some (.cells #[.int .i64 U.kind, .int .i64 U.num, .string U.name, .slice A' U.args.length c'] 24 (0, 0)) := by
    rw [hW1]
    have := heap_alloc_new (w.alloc (.cells #[.int .i64 T.kind, .int .i64 T.num, .string T.name, .slice A T.args.length c] 24)) (.cells #[.int .i64 U.kind, .int .i64 U.num, .string U.name, .slice A' U.args.length c'] 24)
    simpa using this
  have HB1 := Lib.hid hb1
  have ht0 : T.args.length = 0 := by rw [hl]; rfl
  obtain ⟨y0, y1, y2, y3⟩ := box4 hbg
  obtain ⟨z0, z1, z2, z3⟩ := box4 hbt
  rw [hW1] at y0 y1 y2 y3 z0 z1 z2 z3
  have HTL := Lib.hid hl
  clear hT hU hc hm hn hc' hm' hn' hb1 hbg hbt hl
  unfold tyV
  by_cases e1 : T.kind = U.kind
  · by_cases e2 : T.num = U.num
    · by_cases e3 : T.name = U.name
      · by_cases e4 : T.args.length = U.args.length
        · have h1 : (T.kind != U.kind) = false := by simp [e1]
          have h2 : (T.num != U.num) = false := by simp [e2]
          have h3 : (T.name.toList == U.name.toList) = true := (beqS _ _).2 e3
          have h4 : ((T.args.length : Int) != (U.args.length : Int)) = false := by simp [e4]
          have h5 : ((T.args.length : Int) == 0) = true := by simp [ht0]
          have HR : Hid (same T U = true) := Lib.hid (same_true (Ty.ext' e1 e2 e3 (by rw [HTL.out]; exact (List.length_eq_zero_iff.1 (by omega)).symm)))
          clear e1 e2 e3 e4 ht0
          generalize T.args.length = tl at *
          go_enter Tryd.func55, Tryd.ntmps55
          go_wp2
          go_ret
          rw [HR.out, ← hW1]
          exact ⟨rfl, HB1.out⟩
        · have HR : Hid (same T U = false) := Lib.hid (same_false fun e => e4 (by rw [e]))
          have h1 : (T.kind != U.kind) = false := by simp [e1]
          have h2 : (T.num != U.num) = false := by simp [e2]
          have h3 : (T.name.toList == U.name.toList) = true := (beqS _ _).2 e3
          have h4 : ((T.args.length : Int) != (U.args.length : Int)) = true := by simp; omega
          clear e1 e2 e3 e4 ht0
          go_enter Tryd.func55, Tryd.ntmps55
          go_wp2
          go_ret
          rw [HR.out, ← hW1]
          exact ⟨rfl, HB1.out⟩
      · have HR : Hid (same T U = false) := Lib.hid (same_false fun e => e3 (by rw [e]))
        have h1 : (T.kind != U.kind) = false := by simp [e1]
        have h2 : (T.num != U.num) = false := by simp [e2]
        have h3 : (T.name.toList == U.name.toList) = false := beqS_ne e3
        clear e1 e2 e3 ht0
        go_enter Tryd.func55, Tryd.ntmps55
        go_wp2
        go_ret
        rw [HR.out, ← hW1]
        exact ⟨rfl, HB1.out⟩
    · have HR : Hid (same T U = false) := Lib.hid (same_false fun e => e2 (by rw [e]))
      have h1 : (T.kind != U.kind) = false := by simp [e1]
      have h2 : (T.num != U.num) = true := by simp [e2]
      clear e1 e2 ht0
      go_enter Tryd.func55, Tryd.ntmps55
      go_wp2
      go_ret
      rw [HR.out, ← hW1]
      exact ⟨rfl, HB1.out⟩
  · have HR : Hid (same T U = false) := Lib.hid (same_false fun e => e1 (by rw [e]))
    have h1 : (T.kind != U.kind) = true := by simp [e1]
    clear e1 ht0
    go_enter Tryd.func55, Tryd.ntmps55
    go_wp2
    go_ret
    rw [HR.out, ← hW1]
    exact ⟨rfl, HB1.out⟩

set_option maxRecDepth 20000 in
set_option maxHeartbeats 2000000 in
/-- Same, whatever alike is: the boxes, then an empty map, then alike. -/
theorem same_by (T U : Ty) (S : Nat → Prop) (v u : Value) (w : World) (r : Bool) (hT : TyAt S w v T) (hU : TyAt S w u U)
    (HA : ∀ W, Below w.heap.size w W → w.heap.size ≤ W.heap.size → MapI W (w.heap.size + 2) [] → Calls Tryd.prog 55 #[v, u, .map (some (w.heap.size + 2))] W fun e w' => e = .returned (.bool r) ∧ Below w.heap.size W w') :
    Calls Tryd.prog 20 #[v, u] w fun e w' => e = .returned (.bool r) ∧ Below w.heap.size w w' := by
  obtain ⟨A, c, rfl, hc, hm, hn⟩ := hT.form
  obtain ⟨A', c', rfl, hc', hm', hn'⟩ := hU.form
  obtain ⟨W1, hW1⟩ : ∃ W1, W1 = (w.alloc (.cells #[.int .i64 T.kind, .int .i64 T.num, .string T.name, .slice A T.args.length c] 24)).alloc (.cells #[.int .i64 U.kind, .int .i64 U.num, .string U.name, .slice A' U.args.length c'] 24) := ⟨_, rfl⟩
  have hb1 : Below w.heap.size w W1 := by rw [hW1]; exact ((Below.refl _ _).alloc (Nat.le_refl _) _).alloc (by simp) _
  have hz1 : W1.heap.size = w.heap.size + 2 := by rw [hW1]; simp
  obtain ⟨W2, hW2⟩ : ∃ W2, W2 = W1.alloc (.map #[] 0) := ⟨_, rfl⟩
  have hb2 : Below W1.heap.size W1 W2 := by rw [hW2]; exact (Below.refl _ _).alloc (Nat.le_refl _) _
  have hm2 : MapI W2 (w.heap.size + 2) [] := by rw [hW2, ← hz1]; exact MapI.new W1
  have hb3 : Below w.heap.size w W2 := hb1.trans (hb2.mono (by omega))
  have hbg : W1.heap[w.heap.size]? = some (.cells #[.int .i64 T.kind, .int .i64 T.num, .string T.name, .slice A T.args.length c] 24 (0, 0)) := by
    rw [hW1, Below.heap_alloc _ _ _ (by simp)]
    exact heap_alloc_new _ _
  have hbt : W1.heap[w.heap.size + 1]? = some (.cells #[.int .i64 U.kind, .int .i64 U.num, .string U.name, .slice A' U.args.length c'] 24 (0, 0)) := by
    rw [hW1]
    have := heap_alloc_new (w.alloc (.cells #[.int .i64 T.kind, .int .i64 T.num, .string T.name, .slice A T.args.length c] 24)) (.cells #[.int .i64 U.kind, .int .i64 U.num, .string U.name, .slice A' U.args.length c'] 24)
    simpa using this
  obtain ⟨y0, y1, y2, y3⟩ := box4 hbg
  obtain ⟨z0, z1, z2, z3⟩ := box4 hbt
  have HA2 := HA W2 hb3 (by have := hb2.size; omega) hm2
  unfold tyV at HA2
  have HAL := Lib.hid HA2
  have HB3 := Lib.hid hb3
  rw [hW1] at y0 y1 y2 y3 z0 z1 z2 z3 hW2
  clear hT hU hc hm hn hc' hm' hn' hb1 hbg hbt HA HA2 hb2 hb3 hm2 hz1 hW1
  unfold tyV
  have hmm := @run_makeMap Tryd.prog
  go_enter Tryd.func20, Tryd.ntmps20
  go_wp2_with fail
  rw [← hW2]
  clear hW2
  refine HAL.out.mono ?_
  rintro e w3 ⟨rfl, hb4⟩
  have HB4 := Lib.hid hb4
  clear hb4
  go_wp2
  go_ret
  exact ⟨rfl, HB3.out.trans HB4.out⟩
theorem same_leaf (n₀ : Nat) (T U : Ty) (hl : T.args = []) (S : Nat → Prop) (hS : ∀ g, S g → g < n₀) (v u : Value) (w : World) (hT : TyAt S w v T) (hU : TyAt S w u U) (hn : n₀ ≤ w.heap.size) :
    Calls Tryd.prog 20 #[v, u] w fun e w' => e = .returned (.bool (same T U)) ∧ Below w.heap.size w w' :=
  same_by T U S v u w _ hT hU fun W hb hz hm => (alike_leaf T U hl S v u _ W (hT.keep fun g hg => ⟨hg, hb.block g (by have := hS g hg; omega)⟩) (hU.keep fun g hg => ⟨hg, hb.block g (by have := hS g hg; omega)⟩)).mono fun e w' h => ⟨h.1, h.2.mono hz⟩
end Go.Proofs.YtbhicpjhijondaaDoor
/- T34 -/
/- types.Instance. -/
namespace Go.Typ
/-- is T an instance of G? -/
noncomputable def instT (G T : Ty) : Bool := rightT G && (rightT T && (standsT G T []).1)
end Go.Typ
namespace Go.Proofs.YtbhicpjhijondaaDoor
open Go.RowKit Go.Lib Go.Vfs Go.Par Go.Typ Go.Shelf
set_option linter.unusedVariables false
set_option linter.unusedSimpArgs false

set_option maxRecDepth 20000 in
set_option maxHeartbeats 2000000 in
theorem instance_any (S : Nat → Prop) (Q : Int → Ty → Prop) (G T : Ty) (v u : Value) (w : World) (hS : ∀ g, S g → g < w.heap.size)
    (HS : ∀ n U U' v v' W, Below w.heap.size w W → w.heap.size ≤ W.heap.size → Q n U → Q n U' → TyAt S W v U → TyAt S W v' U' → Calls Tryd.prog 20 #[v, v'] W fun e W' => e = .returned (.bool (same U U')) ∧ Below W.heap.size W W')
    (hG : TyAt (· < w.heap.size) w v G) (hT : TyAt S w u T) (hQ : rightT G = true → rightT T = true → meetsT Q G T) :
    Calls Tryd.prog 18 #[v, u] w fun e w' => e = .returned (.bool (instT G T)) ∧ Below w.heap.size w w' := by
  obtain ⟨A, c, rfl, hc, hm, hn⟩ := hG.form
  obtain ⟨A', c', rfl, hc', hm', hn'⟩ := hT.form
  obtain ⟨W1, hW1⟩ : ∃ W1, W1 = (w.alloc (.cells #[.int .i64 G.kind, .int .i64 G.num, .string G.name, .slice A G.args.length c] 24)).alloc (.cells #[.int .i64 T.kind, .int .i64 T.num, .string T.name, .slice A' T.args.length c'] 24) := ⟨_, rfl⟩
  have hb1 : Below w.heap.size w W1 := by rw [hW1]; exact ((Below.refl _ _).alloc (Nat.le_refl _) _).alloc (by simp) _
  have hz1 : W1.heap.size = w.heap.size + 2 := by rw [hW1]; simp
  have hbg : W1.heap[w.heap.size]? = some (.cells #[.int .i64 G.kind, .int .i64 G.num, .string G.name, .slice A G.args.length c] 24 (0, 0)) := by
    rw [hW1, Below.heap_alloc _ _ _ (by simp)]
    exact heap_alloc_new _ _
  have hbt : W1.heap[w.heap.size + 1]? = some (.cells #[.int .i64 T.kind, .int .i64 T.num, .string T.name, .slice A' T.args.length c'] 24 (0, 0)) := by
    rw [hW1]
    have := heap_alloc_new (w.alloc (.cells #[.int .i64 G.kind, .int .i64 G.num, .string G.name, .slice A G.args.length c] 24)) (.cells #[.int .i64 T.kind, .int .i64 T.num, .string T.name, .slice A' T.args.length c'] 24)
    simpa using this
  obtain ⟨y0, y1, y2, y3⟩ := box4 hbg
  obtain ⟨z0, z1, z2, z3⟩ := box4 hbt
  have hmm := @run_makeMap Tryd.prog
  have hGW : ∀ W, Below w.heap.size w W → TyAt (· < w.heap.size) W (tyV G.kind G.num G.name A G.args.length c) G := fun W h => hG.keep fun g hg => ⟨hg, h.block g hg⟩
  have hTW : ∀ W, Below w.heap.size w W → TyAt S W (tyV T.kind T.num T.name A' T.args.length c') T := fun W h => hT.keep fun g hg => ⟨hg, h.block g (hS g hg)⟩
  have hRG : ∀ W, Below w.heap.size w W → w.heap.size ≤ W.heap.size → _ := fun W h hz => right_any G _ W ((hGW W h).sub (S' := (· < W.heap.size)) fun g (hg : g < w.heap.size) => by omega)
  have hRT : ∀ W, Below w.heap.size w W → w.heap.size ≤ W.heap.size → _ := fun W h hz => right_any T _ W ((hTW W h).sub (S' := (· < W.heap.size)) fun g hg => by have := hS g hg; omega)
  have hST : rightT G = true → rightT T = true → ∀ W, Below w.heap.size w W → w.heap.size ≤ W.heap.size → _ := fun h1 h2 W h hz =>
    stands_any w.heap.size W.heap.size w S Q hS hz HS G T [] _ _ (W.alloc (.map #[] 0)) (h.trans (((Below.refl _ _).alloc (Nat.le_refl _) _).mono hz)) ((hGW W h).keep fun g hg => ⟨hg, Below.heap_alloc _ _ _ (by omega)⟩) ((hTW W h).keep fun g hg => ⟨hg, Below.heap_alloc _ _ _ (by have := hS g hg; omega)⟩) ⟨[], MapI.new W, .nil⟩ (hQ h1 h2)
  have HRG := Lib.hid hRG; have HRT := Lib.hid hRT; have HST := Lib.hid hST; have HB1 := Lib.hid hb1; have HBG := Lib.hid hbg; have HBT := Lib.hid hbt; have HZ1 := Lib.hid hz1
  rw [hW1] at y0 y1 y2 y3 z0 z1 z2 z3
  clear hGW hTW hRG hRT hST hc hm hn hc' hm' hn' hb1 hbg hbt hG hT hQ HS hS hz1
  unfold tyV at HRG HRT HST ⊢
  go_enter Tryd.func18, Tryd.ntmps18
  go_wp2_with fail
  rw [← hW1]
  clear hW1 y0 y1 y2 y3 z0 z1 z2 z3
  refine (HRG.out W1 HB1.out (by have := HZ1.out; omega)).mono ?_
  rintro e w2 ⟨rfl, hb2⟩
  have HB2 := Lib.hid (HB1.out.trans (hb2.mono (by have := HZ1.out; omega)))
  have hz2 := hb2.size
  have HZ2 : Hid (w.heap.size + 2 ≤ w2.heap.size) := Lib.hid (by have := HZ1.out; omega)
  have HBT2 := Lib.hid ((hb2.block _ (lt_blk HBT.out)).trans HBT.out)
  have HBG2 := Lib.hid ((hb2.block _ (lt_blk HBG.out)).trans HBG.out)
  obtain ⟨y0, y1, y2, y3⟩ := box4 HBG2.out
  obtain ⟨z0, z1, z2, z3⟩ := box4 HBT2.out
  clear hb2 hz2
  cases hq1 : rightT G with
  | false =>
    have HR : Hid (instT G T = false) := Lib.hid (by unfold instT; rw [hq1]; rfl)
    clear hq1
    go_wp2
    go_ret
    rw [HR.out]
    exact ⟨rfl, HB2.out⟩
  | true =>
    have HQ1 := Lib.hid hq1
    clear hq1
    go_wp2_with fail
    clear y0 y1 y2 y3 z0 z1 z2 z3
    refine (HRT.out w2 HB2.out (by have := HZ2.out; omega)).mono ?_
    rintro e w3 ⟨rfl, hb3⟩
    have HB3 := Lib.hid (HB2.out.trans (hb3.mono (by have := HZ2.out; omega)))
    have hz3 := hb3.size
    have HZ3 : Hid (w.heap.size + 2 ≤ w3.heap.size) := Lib.hid (by have := HZ2.out; omega)
    obtain ⟨y0, y1, y2, y3⟩ := box4 ((hb3.block _ (lt_blk HBG2.out)).trans HBG2.out)
    obtain ⟨z0, z1, z2, z3⟩ := box4 ((hb3.block _ (lt_blk HBT2.out)).trans HBT2.out)
    clear hb3 hz3
    cases hq2 : rightT T with
    | false =>
      have HR : Hid (instT G T = false) := Lib.hid (by unfold instT; rw [hq2, Bool.false_and, Bool.and_false])
      clear hq2
      go_wp2
      go_ret
      rw [HR.out]
      exact ⟨rfl, HB3.out⟩
    | true =>
      have HR : Hid (instT G T = (standsT G T []).1) := Lib.hid (by unfold instT; rw [hq2, HQ1.out]; rfl)
      have HS3 := Lib.hid (HST.out HQ1.out hq2 w3 HB3.out (by have := HZ3.out; omega))
      clear hq2
      go_wp2_with fail
      refine HS3.out.mono ?_
      rintro e w4 ⟨rfl, hk4, -⟩
      have hb4 : Below w.heap.size w w4 := (HB3.out.trans ((((Below.refl w3.heap.size w3).alloc (Nat.le_refl _) _).mono (by have := HZ3.out; omega)))).trans (below_of_kept hk4 (by have := HZ3.out; omega) (by have := HZ3.out; simp; omega))
      have HB4 := Lib.hid hb4
      clear hk4 hb4
      go_wp2
      go_ret
      rw [HR.out]
      exact ⟨rfl, HB4.out⟩
end Go.Proofs.YtbhicpjhijondaaDoor
/- T35 -/
/- law12.alive. -/
namespace Go.Proofs.YtbhicpjhijondaaDoor
open Go.RowKit Go.Lib Go.Vfs Go.Par Go.Typ Go.Shelf
set_option linter.unusedVariables false
set_option linter.unusedSimpArgs false
def tyA : Ty := .mk 1 0 ⟨#[]⟩ []
def tyInt : Ty := .mk 2 0 ⟨#[105, 110, 116]⟩ []
def ty1 : Ty := .mk 4 0 ⟨#[]⟩ [.mk 3 0 ⟨#[]⟩ [tyA, tyInt], .mk 2 0 ⟨#[108, 105, 115, 116]⟩ [tyA]]
def txt1 : ByteArray := ⟨#[39, 97, 32, 42, 32, 105, 110, 116, 32, 45, 62, 32, 39, 97, 32, 108, 105, 115, 116]⟩
theorem read1 : readT txt1 = some ty1 := by kernel_rfl
def ty2 : Ty := .mk 4 0 ⟨#[]⟩ [.mk 1 27 ⟨#[]⟩ [], .mk 1 27 ⟨#[]⟩ []]
def txt2 : ByteArray := ⟨#[39, 98, 49, 32, 45, 62, 32, 39, 98, 49]⟩
theorem read2 : readT txt2 = some ty2 := by kernel_rfl
def txt3 : ByteArray := ⟨#[105, 110, 116, 32, 45, 62, 32, 105, 110, 116]⟩
def ty3 : Ty := .mk 4 0 ⟨#[]⟩ [tyInt, tyInt]
theorem read3 : readT txt3 = some ty3 := by kernel_rfl
theorem right1 : rightT ty1 = true := by kernel_rfl
theorem right2 : rightT ty2 = true := by kernel_rfl
theorem right3 : rightT ty3 = true := by kernel_rfl
theorem say1 : sayT ty1 = [39, 97, 32, 42, 32, 105, 110, 116, 32, 45, 62, 32, 39, 97, 32, 108, 105, 115, 116] := by kernel_rfl
theorem inst23 : instT ty2 ty3 = true := by
  unfold instT
  rw [right2, right3, standsT_eq]
  simp only [ty2, ty3, Ty.kind, Ty.name, Ty.args, List.length_cons, List.length_nil]
  rw [if_neg (by decide), if_pos (by decide)]
  rw [standsL, standsT_eq]
  simp [Ty.kind, Ty.num, standsL, standsT_eq, same_refl]
theorem inst32 : instT ty3 ty2 = false := by
  unfold instT
  rw [right2, right3, standsT_eq]
  simp only [ty2, ty3, Ty.kind, Ty.name, Ty.args, List.length_cons, List.length_nil]
  rw [if_neg (by decide), if_pos (by decide)]
  rw [standsL, standsT_eq]
  simp [Ty.kind, Ty.num, standsL, standsT_eq, same_refl, tyInt]
/-- a type of a text that is one. -/
theorem read_some {s : ByteArray} {X : Ty} (h : readT s = some X) {w w' : World} {e : Ending} (hp : ReadPost s w e w') :
    ∃ (A : Option Addr) (cc : Nat), e = .returned (.tuple #[tyV X.kind X.num X.name A X.args.length cc, .int .i64 0]) ∧ TyAt (fun g => w.heap.size ≤ g ∧ g < w'.heap.size) w' (tyV X.kind X.num X.name A X.args.length cc) X ∧ Below w.heap.size w w' := by
  obtain ⟨T, A, cc, he, hT, hb, rfl⟩ := hp
  rw [h] at he hT
  exact ⟨A, cc, he, hT, hb⟩
end Go.Proofs.YtbhicpjhijondaaDoor
/- T36 -/
/- law12.alive: the walk. -/
namespace Go.Proofs.YtbhicpjhijondaaDoor
open Go.RowKit Go.Lib Go.Vfs Go.Par Go.Typ Go.Shelf
set_option linter.unusedVariables false
set_option linter.unusedSimpArgs false

theorem inst_leaf (G T : Ty) (v u : Value) (w : World) (hG : TyAt (· < w.heap.size) w v G) (hT : TyAt (· < w.heap.size) w u T) (hQ : meetsT (fun _ U => U.args = []) G T) :
    Calls Tryd.prog 18 #[v, u] w fun e w' => e = .returned (.bool (instT G T)) ∧ Below w.heap.size w w' :=
  instance_any (· < w.heap.size) (fun _ U => U.args = []) G T v u w (fun g hg => hg) (fun n U U' v v' W hb hz q q' hU hU' => same_leaf w.heap.size U U' q (· < w.heap.size) (fun g hg => hg) v v' W hU hU' hz) hG hT fun _ _ => hQ
theorem meet23 : meetsT (fun _ U => U.args = []) ty2 ty3 := by
  rw [meetsT_eq]
  simp [ty2, ty3, Ty.kind, Ty.args, Ty.num, meetsL, meetsT_eq, tyInt]
theorem meet32 : meetsT (fun _ U => U.args = []) ty3 ty2 := by
  rw [meetsT_eq]
  simp [ty2, ty3, Ty.kind, Ty.args, Ty.num, meetsL, meetsT_eq, tyInt]
/-- a type in a box, between calls. -/
structure BX (w : World) (b : Nat) (T : Ty) (A : Option Addr) (cc : Nat) (W : World) : Prop where
  box : W.heap[b]? = some (.cells #[.int .i64 T.kind, .int .i64 T.num, .string T.name, .slice A T.args.length cc] 24 (0, 0))
  ty : TyAt (· < W.heap.size) W (tyV T.kind T.num T.name A T.args.length cc) T
  below : Below w.heap.size w W
theorem BX.t {w : World} {b : Nat} {T : Ty} {A : Option Addr} {cc : Nat} {W W' : World} (h : BX w b T A cc W) (hb : Below W.heap.size W W') : BX w b T A cc W' :=
  ⟨(hb.block _ (lt_blk h.box)).trans h.box, h.ty.blw hb, h.below.trans (hb.mono h.below.size)⟩
theorem BX.new {w W : World} {T : Ty} {A : Option Addr} {cc : Nat} (hb : Below w.heap.size w W) (hT : TyAt (· < W.heap.size) W (tyV T.kind T.num T.name A T.args.length cc) T) :
    BX w W.heap.size T A cc (W.alloc (.cells #[.int .i64 T.kind, .int .i64 T.num, .string T.name, .slice A T.args.length cc] 24)) :=
  ⟨heap_alloc_new _ _, hT.blw ((Below.refl _ _).alloc (Nat.le_refl _) _), hb.trans (((Below.refl _ _).alloc (Nat.le_refl _) _).mono hb.size)⟩

set_option maxRecDepth 20000 in
set_option maxHeartbeats 2000000 in
theorem alive12_any (w : World) (htb : Tb w) : Calls Tryd.prog 15 #[] w fun e w' => e = .returned (.bool true) ∧ Below w.heap.size w w' := by
  obtain ⟨X1, hX1⟩ : ∃ X, X = ty1 := ⟨_, rfl⟩
  obtain ⟨X2, hX2⟩ : ∃ X, X = ty2 := ⟨_, rfl⟩
  obtain ⟨X3, hX3⟩ : ∃ X, X = ty3 := ⟨_, rfl⟩
  have HX1 : Hid (readT txt1 = some X1 ∧ showT X1 = ([39, 97, 32, 42, 32, 105, 110, 116, 32, 45, 62, 32, 39, 97, 32, 108, 105, 115, 116], 0) ∧ (sayT X1).length ≤ 100) := Lib.hid ⟨by rw [hX1]; exact read1, by rw [hX1]; unfold showT; rw [right1, if_pos rfl, say1], by rw [hX1, say1]; decide⟩
  have HX2 : Hid (readT txt2 = some X2) := Lib.hid (by rw [hX2]; exact read2)
  have HX3 : Hid (readT txt3 = some X3) := Lib.hid (by rw [hX3]; exact read3)
  have HI : Hid (instT X2 X3 = true ∧ instT X3 X2 = false ∧ meetsT (fun _ U => U.args = []) X2 X3 ∧ meetsT (fun _ U => U.args = []) X3 X2) := Lib.hid (by rw [hX2, hX3]; exact ⟨inst23, inst32, meet23, meet32⟩)
  have HTB := Lib.hid htb
  have HRD := Lib.hid (read_any txt1 (by decide) w htb)
  unfold txt1 at HRD
  clear hX1 hX2 hX3 htb
  go_enter Tryd.func15, Tryd.ntmps15
  go_wp2_with fail
  refine HRD.out.mono ?_
  intro e w1 hp1
  obtain ⟨A1, c1, rfl, hT1, hb1⟩ := read_some HX1.out.1 hp1
  obtain ⟨W1, hW1⟩ : ∃ W1, W1 = w1.alloc (.cells #[.int .i64 X1.kind, .int .i64 X1.num, .string X1.name, .slice A1 X1.args.length c1] 24) := ⟨_, rfl⟩
  have hx1 : BX w w1.heap.size X1 A1 c1 W1 := by rw [hW1]; exact BX.new hb1 (hT1.sub fun g hg => hg.2)
  have HBX1 := Lib.hid hx1
  have hsh := show_any X1 _ W1 hx1.ty (HTB.out.below hx1.below) fun _ => by have := HX1.out.2.2; omega
  rw [HX1.out.2.1] at hsh
  have hsh' : Calls Tryd.prog 22 _ W1 fun e w' => e = .returned (.tuple #[.string ⟨#[39, 97, 32, 42, 32, 105, 110, 116, 32, 45, 62, 32, 39, 97, 32, 108, 105, 115, 116]⟩, .int .i64 0]) ∧ Below W1.heap.size W1 w' := hsh
  have HSH := Lib.hid hsh'
  clear hsh hsh'
  obtain ⟨y0, y1, y2, y3⟩ := box4 hx1.box
  rw [hW1] at y0 y1 y2 y3
  clear hp1 hT1 hb1 hx1
  unfold tyV at HSH ⊢
  go_wp2_with fail
  rw [← hW1]
  clear hW1 y0 y1 y2 y3
  refine HSH.out.mono ?_
  rintro e w2 ⟨rfl, hb2⟩
  have HBX2 := Lib.hid (HBX1.out.t hb2)
  have HRD2 := Lib.hid (read_any txt2 (by decide) w2 (HTB.out.below HBX2.out.below))
  unfold txt2 at HRD2
  clear hb2
  go_wp2_with fail
  refine HRD2.out.mono ?_
  intro e w3 hp3
  obtain ⟨A2, c2, rfl, hT3, hb3⟩ := read_some HX2.out hp3
  have hbb : Below w.heap.size w w3 := HBX2.out.below.trans (hb3.mono HBX2.out.below.size)
  obtain ⟨W3, hW3⟩ : ∃ W3, W3 = w3.alloc (.cells #[.int .i64 X2.kind, .int .i64 X2.num, .string X2.name, .slice A2 X2.args.length c2] 24) := ⟨_, rfl⟩
  have hx3 : BX w w3.heap.size X2 A2 c2 W3 := by rw [hW3]; exact BX.new hbb (hT3.sub fun g hg => hg.2)
  have HBX3 := Lib.hid hx3
  have HRD3 := Lib.hid (read_any txt3 (by decide) W3 (HTB.out.below hx3.below))
  unfold txt3 at HRD3
  clear hp3 hT3 hb3 hbb hx3
  unfold tyV
  go_wp2_with fail
  rw [← hW3]
  clear hW3
  refine HRD3.out.mono ?_
  intro e w4 hp4
  obtain ⟨A3, c3, rfl, hT4, hb4⟩ := read_some HX3.out hp4
  obtain ⟨W4, hW4⟩ : ∃ W4, W4 = w4.alloc (.cells #[.int .i64 X3.kind, .int .i64 X3.num, .string X3.name, .slice A3 X3.args.length c3] 24) := ⟨_, rfl⟩
  have hba : Below w4.heap.size w4 W4 := by rw [hW4]; exact (Below.refl _ _).alloc (Nat.le_refl _) _
  have hy4 : BX w w3.heap.size X2 A2 c2 W4 := (HBX3.out.t hb4).t hba
  have hx4 : BX w w4.heap.size X3 A3 c3 W4 := by rw [hW4]; exact BX.new (HBX3.out.t hb4).below (hT4.sub fun g hg => hg.2)
  have HY4 := Lib.hid hy4; have HX4 := Lib.hid hx4
  obtain ⟨y0, y1, y2, y3⟩ := box4 hy4.box
  obtain ⟨z0, z1, z2, z3⟩ := box4 hx4.box
  have hi := inst_leaf X2 X3 _ _ W4 hy4.ty hx4.ty HI.out.2.2.1
  rw [HI.out.1] at hi
  have HIA := Lib.hid hi
  rw [hW4] at y0 y1 y2 y3 z0 z1 z2 z3
  clear hp4 hT4 hb4 hba hy4 hx4 hi
  unfold tyV at HIA ⊢
  go_wp2_with fail
  rw [← hW4]
  clear hW4 y0 y1 y2 y3 z0 z1 z2 z3
  refine HIA.out.mono ?_
  rintro e w5 ⟨rfl, hb5⟩
  have hy5 := HY4.out.t hb5
  have hx5 := HX4.out.t hb5
  obtain ⟨y0, y1, y2, y3⟩ := box4 hy5.box
  obtain ⟨z0, z1, z2, z3⟩ := box4 hx5.box
  have hi := inst_leaf X3 X2 _ _ w5 hx5.ty hy5.ty HI.out.2.2.2
  rw [HI.out.2.1] at hi
  have HIB := Lib.hid hi
  have HB5 := Lib.hid hx5.below
  clear hi hy5 hx5 hb5
  unfold tyV at HIB
  go_wp2_with fail
  refine HIB.out.mono ?_
  rintro e w6 ⟨rfl, hb6⟩
  have HB6 := Lib.hid (HB5.out.trans (hb6.mono HB5.out.size))
  clear hb6
  go_wp2
  go_ret
  exact ⟨rfl, HB6.out⟩
end Go.Proofs.YtbhicpjhijondaaDoor
