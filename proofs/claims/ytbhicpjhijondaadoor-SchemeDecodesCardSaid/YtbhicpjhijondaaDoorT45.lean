/- types.Close: variables numbered in the order in which they first stand. -/
import Derived.Test.YtbhicpjhijondaaDoorTF
import Derived.WideLaws
namespace Go.Typ
open Go.RowKit Go.Lib Go.Vfs Go.Par
/-- variables met, with one more. -/
def metV (met : List Int) (n : Int) : List Int := if n ∈ met then met else met ++ [n]
mutual
def closeT : Ty → List Int → Ty × List Int
  | .mk k n s ts, met => if k = 1 then (.mk 1 (met.idxOf n) ⟨#[]⟩ [], metV met n) else (.mk k 0 s (closeL ts met).1, (closeL ts met).2)
def closeL : List Ty → List Int → List Ty × List Int
  | [], met => ([], met)
  | t :: ts, met => ((closeT t met).1 :: (closeL ts (closeT t met).2).1, (closeL ts (closeT t met).2).2)
end
theorem closeT_eq (T : Ty) (met : List Int) : closeT T met = if T.kind = 1 then (.mk 1 (met.idxOf T.num) ⟨#[]⟩ [], metV met T.num) else (.mk T.kind 0 T.name (closeL T.args met).1, (closeL T.args met).2) := by
  obtain ⟨k, n, s, ts⟩ := T; rw [closeT]; rfl
theorem closeL_len : ∀ (ts : List Ty) (met : List Int), (closeL ts met).1.length = ts.length
  | [], met => rfl
  | t :: ts, met => by rw [closeL]; simp [closeL_len ts]
/-- what a loop has closed, and what is still to close. -/
theorem closeL_step {ts : List Ty} {k : Nat} (hk : k < ts.length) (met : List Int) : closeL (ts.drop k) met = ((closeT ts[k] met).1 :: (closeL (ts.drop (k + 1)) (closeT ts[k] met).2).1, (closeL (ts.drop (k + 1)) (closeT ts[k] met).2).2) := by
  rw [List.drop_eq_getElem_cons hk, closeL]
/-- the numbers of the variables that were met, in a map. -/
def numKV (met : List Int) : List (Int × Value) := met.zipIdx.map fun x => (x.1, .int .i64 x.2)
theorem lookup_num (n : Int) : ∀ (met : List Int) (i : Nat), ((met.zipIdx i).map fun x => (x.1, Value.int .i64 x.2)).lookup n = if n ∈ met then some (.int .i64 (i + met.idxOf n : Nat)) else none
  | [], i => by simp
  | m :: met, i => by
    rw [List.zipIdx_cons, List.map_cons, List.lookup_cons]
    by_cases e : n = m
    · subst e; simp
    · have hb : (n == m) = false := by simpa using e
      have hb' : (m == n) = false := by simpa using fun h => e h.symm
      rw [hb]
      simp only
      rw [lookup_num n met (i + 1)]
      simp only [List.mem_cons, e, false_or, List.idxOf_cons, hb', cond_false]
      split
      · rw [show i + 1 + List.idxOf n met = i + (List.idxOf n met + 1) by omega]
      · rfl
theorem numKV_lookup (n : Int) (met : List Int) : (numKV met).lookup n = if n ∈ met then some (.int .i64 (met.idxOf n : Nat)) else none := by
  have := lookup_num n met 0
  simpa [numKV] using this
theorem numKV_snoc (met : List Int) (n : Int) : numKV met ++ [(n, .int .i64 met.length)] = numKV (met ++ [n]) := by
  simp [numKV, List.zipIdx_append]
theorem numKV_length (met : List Int) : (numKV met).length = met.length := by simp [numKV]
/-- the map in block p, the box of its variable b. -/
structure NumAt (W : World) (p b : Nat) (t : TypeId) (met : List Int) : Prop where
  map : MapI W p (numKV met)
  box : W.heap[b]? = some (.cells #[.map (some p)] t (0, 0))
theorem NumAt.keep {W W' : World} {p b : Nat} {t : TypeId} {met : List Int} (h : NumAt W p b t met) (hp : W'.heap[p]? = W.heap[p]?) (hb : W'.heap[b]? = W.heap[b]?) : NumAt W' p b t met :=
  ⟨h.map.keep hp, hb.trans h.box⟩
theorem NumAt.ne {W : World} {p b : Nat} {t : TypeId} {met : List Int} (h : NumAt W p b t met) : b ≠ p := by
  intro e
  obtain ⟨es, clk, h1, _⟩ := h.map
  have h2 := h.box
  rw [e, h1] at h2
  cases h2
theorem NumAt.below {W W' : World} {p b : Nat} {t : TypeId} {met : List Int} (h : NumAt W p b t met) (hb : Below W.heap.size W W') : NumAt W' p b t met :=
  h.keep (hb.block _ h.map.lt) (hb.block _ (lt_blk h.box))
theorem box1 {W : World} {b : Nat} {v : Value} {t : TypeId} (h : W.heap[b]? = some (.cells #[v] t (0, 0))) : W.cell? ⟨b, 0, none⟩ = some v := by simp [World.cell?, h]
theorem MapI.es {W : World} {p : Nat} {kvs : List (Int × Value)} (h : MapI W p kvs) : ∃ es clk, W.heap[p]? = some (.map es clk) ∧ es.size = kvs.length := by
  obtain ⟨es, clk, h1, h2⟩ := h
  have := congrArg List.length h2
  simp at this
  exact ⟨es, clk, h1, this⟩
theorem idxOf_new {n : Int} {met : List Int} (h : n ∉ met) : met.idxOf n = met.length := List.idxOf_eq_length h
end Go.Typ
namespace Go.Proofs.YtbhicpjhijondaaDoor
open Go.RowKit Go.Lib Go.Vfs Go.Par Go.Typ
set_option linter.unusedVariables false
set_option linter.unusedSimpArgs false

theorem lookN {W : World} {p : Nat} {kvs : List (Int × Value)} (h : MapI W p kvs) (n : Int) :
    (Instr.lookup 82 (.map (some p)) (.int .i64 n) true).run Tryd.prog W = .ok (.tuple (match kvs.lookup n with | some v => #[v, .bool true] | none => #[.int .i64 0, .bool false])) W :=
  h.look Tryd.underlying82 Tryd.underlying3 (show (zeroValue 3).run Tryd.prog W = .ok (.int .i64 0) W by kernel_rfl) n
theorem putN {W : World} {p : Nat} {kvs : List (Int × Value)} (h : MapI W p kvs) (n : Int) (v : Value) (hl : kvs.lookup n = none) :
    ∃ W', (Instr.mapUpdate 82 (.map (some p)) (.int .i64 n) v).run Tryd.prog W = .ok () W' ∧ MapI W' p (kvs ++ [(n, v)]) ∧ Kept (· = p) W W' := h.put Tryd.underlying82 Tryd.underlying3 n v hl

set_option maxRecDepth 20000 in
set_option maxHeartbeats 1000000 in
theorem closeC_any (p b : Nat) (n : Int) (met : List Int) (hml : met.length ≤ 1099511627776) (w : World) (h : NumAt w p b 82 met) :
    Calls Tryd.prog 62 #[.int .i64 n, .pointer (some ⟨b, 0, none⟩)] w fun e w' => e = .returned (.agg #[.int .i64 1, .int .i64 (met.idxOf n : Nat), .string ⟨#[]⟩, .slice none 0 0]) ∧ NumAt w' p b 82 (metV met n) ∧ Kept (· = p) w w' := by
  obtain ⟨W1, hW1⟩ : ∃ W1, W1 = w.alloc (.cells #[.int .i64 0, .int .i64 0, .string ⟨#[]⟩, .slice none 0 0] 24) := ⟨_, rfl⟩
  have hb1 : Below w.heap.size w W1 := by rw [hW1]; exact (Below.refl _ _).alloc (Nat.le_refl _) _
  have h1 := h.below hb1
  have hres : W1.heap[w.heap.size]? = some (.cells #[.int .i64 0, .int .i64 0, .string ⟨#[]⟩, .slice none 0 0] 24 (0, 0)) := by rw [hW1]; exact heap_alloc_new _ _
  obtain ⟨r0, r1, r2, r3⟩ := box4 hres
  obtain ⟨s0, s1, s2, s3⟩ := box4_frozen hres
  have y0 := box1 h1.box
  have hlook := lookN h1.map n
  rw [numKV_lookup] at hlook
  have HB1 := Lib.hid hb1
  have HRES := Lib.hid hres
  have hpl := h.map.lt
  have hne := h.ne
  have hbl := lt_blk h.box
  have HPL := Lib.hid hpl
  have HNE := Lib.hid hne
  have HBL := Lib.hid hbl
  by_cases hin : n ∈ met
  · rw [if_pos hin] at hlook
    simp only at hlook
    have HM : Hid (metV met n = met) := Lib.hid (by unfold metV; rw [if_pos hin])
    have H0 := Lib.hid h
    rw [hW1] at r0 r1 r2 r3 s0 s1 s2 s3 y0 hlook
    obtain ⟨ix, hix⟩ : ∃ ix, ix = met.idxOf n := ⟨_, rfl⟩
    rw [← hix] at hlook ⊢
    clear hin h h1 hres hb1 hpl hne hbl hix
    go_enter Tryd.func62, Tryd.ntmps62
    go_wp2
    obtain ⟨Wf, hWf⟩ : ∃ Wf, Wf = w.alloc (.cells #[.int .i64 1, .int .i64 ix, .string ⟨#[]⟩, .slice none 0 0] 24) := ⟨_, rfl⟩
    have hbf : Below w.heap.size w Wf := by rw [hWf]; exact (Below.refl _ _).alloc (Nat.le_refl _) _
    have hbx : Wf.heap[w.heap.size]? = some (.cells #[.int .i64 1, .int .i64 ix, .string ⟨#[]⟩, .slice none 0 0] 24 (0, 0)) := by rw [hWf]; exact heap_alloc_new _ _
    rw [← hWf]
    obtain ⟨f0, f1, f2, f3⟩ := box4 hbx
    refine bodyPost_ret (v := .agg #[.int .i64 1, .int .i64 ix, .string ⟨#[]⟩, .slice none 0 0]) (by simp [results, Tryd.results62, go_sem, f0, f1, f2, f3]) rfl ?_
    rw [HM.out]
    exact ⟨rfl, H0.out.below hbf, Kept.of_below hbf⟩
  · rw [if_neg hin] at hlook
    simp only at hlook
    have HM : Hid (metV met n = met ++ [n]) := Lib.hid (by unfold metV; rw [if_neg hin])
    rw [idxOf_new hin]
    obtain ⟨es, clk, hes, hsz⟩ := h1.map.es
    rw [numKV_length] at hsz
    obtain ⟨W2, hput, hm2, hk2⟩ := putN h1.map n (.int .i64 met.length) (by rw [numKV_lookup, if_neg hin])
    rw [numKV_snoc] at hm2
    have hz1 : w.heap.size < W1.heap.size := by rw [hW1]; simp
    have h2 : NumAt W2 p b 82 (met ++ [n]) := ⟨hm2, (hk2.block b (by omega) hne).trans h1.box⟩
    have hr2 := (hk2.block w.heap.size hz1 (by omega)).trans hres
    obtain ⟨Wf, hWf, hbx, hkf⟩ := end4 (.int .i64 1) (.int .i64 met.length) (.string ⟨#[]⟩) (.slice none 0 0) hr2
    obtain ⟨u0, u1, u2, u3⟩ := box4 hr2
    obtain ⟨v0, v1, v2, v3⟩ := box4_frozen hr2
    have HKF : Hid (Kept (· = p) w Wf ∧ NumAt Wf p b 82 (met ++ [n])) := Lib.hid (by
      have hzf := hkf.size
      have hz2 := hk2.size
      refine ⟨((Kept.of_below hb1).trans' hk2).trans (F' := (· = w.heap.size)) hkf (fun k hk => .inr (by show w.heap.size ≤ k; have : k = w.heap.size := hk; omega)), h2.keep (hkf.block p (by omega) (by show ¬ p = _; omega)) (hkf.block b (by omega) (by show ¬ b = _; omega))⟩)
    have HBX := Lib.hid hbx
    have HWF := Lib.hid hWf
    have hlen : (Builtin.len_ #[82] 3 #[.map (some p)]).run Tryd.prog W1 = .ok (.int .i64 met.length) W1 := by
      rw [run_len_map (P := Tryd.prog) W1 82 3 p es clk (by kernel_rfl) hes, hsz]
      rfl
    obtain ⟨ml, hmle⟩ : ∃ ml, ml = met.length := ⟨_, rfl⟩
    have HML := Lib.hid hmle
    rw [← hmle] at hml hput hlen
    rw [hW1] at r0 r1 r2 r3 s0 s1 s2 s3 y0 hlook hput hlen
    clear hes hsz hmle
    clear hin h h1 hres hb1 hpl hne hbl hm2 hk2 h2 hr2 hbx hkf hWf hW1 hz1
    go_enter Tryd.func62, Tryd.ntmps62
    go_wp2
    rw [HML.out, ← HWF.out]
    obtain ⟨f0, f1, f2, f3⟩ := box4 HBX.out
    refine bodyPost_ret (v := .agg #[.int .i64 1, .int .i64 met.length, .string ⟨#[]⟩, .slice none 0 0]) (by simp [results, Tryd.results62, go_sem, f0, f1, f2, f3]) rfl ?_
    rw [HM.out]
    exact ⟨rfl, HKF.out.2, HKF.out.1⟩
end Go.Proofs.YtbhicpjhijondaaDoor
