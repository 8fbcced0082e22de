/- Exports in memory; rows of exports. -/
import Derived.Test.YtbhicpjhijondaaDoorT48
namespace Go.Typ
open Go.RowKit Go.Lib Go.Vfs Go.Par
/-- an export: a name and its type. -/
structure Ex where
  name : ByteArray
  ty : Ty
theorem Ex.ext' {x y : Ex} (h1 : x.name = y.name) (h2 : x.ty = y.ty) : x = y := by cases x; cases y; simp_all
def exV (x : Ex) (A : Option Addr) (c : Nat) : Value := .agg #[.string x.name, .int .i64 x.ty.kind, .int .i64 x.ty.num, .string x.ty.name, .slice A x.ty.args.length c]
def ExAt (S : Nat → Prop) (W : World) (v : Value) (x : Ex) : Prop := ∃ A c, v = exV x A c ∧ x.name.size ≤ 9223372036854775807 ∧ TyAt S W (tyV x.ty.kind x.ty.num x.ty.name A x.ty.args.length c) x.ty
theorem ExAt.keep {S S' : Nat → Prop} {w w' : World} {v : Value} {x : Ex} (h : ExAt S w v x) (hk : ∀ b, S b → S' b ∧ w'.heap[b]? = w.heap[b]?) : ExAt S' w' v x := by
  obtain ⟨A, c, e, hn, ht⟩ := h; exact ⟨A, c, e, hn, ht.keep hk⟩
theorem ExAt.blw {w w' : World} {v : Value} {x : Ex} (h : ExAt (· < w.heap.size) w v x) (hb : Below w.heap.size w w') : ExAt (· < w'.heap.size) w' v x :=
  h.keep fun b hk => ⟨Nat.lt_of_lt_of_le hk hb.size, hb.block b hk⟩
/-- a row of exports. -/
def ExsAt (S : Nat → Prop) (W : World) (v : Value) (xs : List Ex) : Prop :=
  ∃ A c, v = .slice A xs.length c ∧ xs.length ≤ c ∧ c ≤ maxLen ∧ ∃ vs : Nat → Value,
    (0 < xs.length → ∃ b off, A = some ⟨b, off, none⟩ ∧ S b ∧ ∀ i, i < xs.length → ∀ j, j < 5 → W.cell? ⟨b, off + i * 5 + j, none⟩ = some (fld (vs i) j)) ∧ ∀ i (h : i < xs.length), ExAt S W (vs i) xs[i]
section
variable {S S' : Nat → Prop} {W W' : World} {v : Value} {xs : List Ex}
theorem ExsAt.keep (h : ExsAt S W v xs) (hk : ∀ b, S b → S' b ∧ W'.heap[b]? = W.heap[b]?) : ExsAt S' W' v xs := by
  obtain ⟨A, c, e, h1, h2, vs, h3, h4⟩ := h
  refine ⟨A, c, e, h1, h2, vs, fun h0 => ?_, fun i hi => (h4 i hi).keep hk⟩
  obtain ⟨b, off, e, hb, hat⟩ := h3 h0
  exact ⟨b, off, e, (hk b hb).1, fun i hi j hj => by rw [World.cell?_of_block (w := W) (a := ⟨b, _, none⟩) (hk b hb).2]; exact hat i hi j hj⟩
theorem ExsAt.sub (h : ExsAt S W v xs) (hS : ∀ b, S b → S' b) : ExsAt S' W v xs := h.keep fun b hb => ⟨hS b hb, rfl⟩
theorem ExsAt.blw (h : ExsAt (· < W.heap.size) W v xs) (hb : Below W.heap.size W W') : ExsAt (· < W'.heap.size) W' v xs :=
  h.keep fun b hk => ⟨Nat.lt_of_lt_of_le hk hb.size, hb.block b hk⟩
theorem ExsAt.form (h : ExsAt S W v xs) : ∃ A c, v = .slice A xs.length c ∧ xs.length ≤ c ∧ c ≤ maxLen := by
  obtain ⟨A, c, e, h1, h2, _⟩ := h; exact ⟨A, c, e, h1, h2⟩
theorem ExsAt.arg {A : Option Addr} {n c : Nat} (h : ExsAt S W (.slice A n c) xs) {i : Nat} (hi : i < xs.length) :
    ∃ b off A' c', A = some ⟨b, off, none⟩ ∧ S b ∧ xs[i].name.size ≤ 9223372036854775807 ∧ TyAt S W (tyV xs[i].ty.kind xs[i].ty.num xs[i].ty.name A' xs[i].ty.args.length c') xs[i].ty ∧
      W.cell? ⟨b, off + i * 5, none⟩ = some (.string xs[i].name) ∧ W.cell? ⟨b, off + i * 5 + 1, none⟩ = some (.int .i64 xs[i].ty.kind) ∧ W.cell? ⟨b, off + i * 5 + 2, none⟩ = some (.int .i64 xs[i].ty.num) ∧
      W.cell? ⟨b, off + i * 5 + 3, none⟩ = some (.string xs[i].ty.name) ∧ W.cell? ⟨b, off + i * 5 + 4, none⟩ = some (.slice A' xs[i].ty.args.length c') := by
  obtain ⟨A0, c0, e, h1, h2, vs, h3, h4⟩ := h
  injection e with e1 e2 e3
  subst e1 e2 e3
  obtain ⟨b, off, e, hb, hat⟩ := h3 (by omega)
  obtain ⟨A', c', ev, hn, ht⟩ := h4 i hi
  have g0 := hat i hi 0 (by omega)
  have g1 := hat i hi 1 (by omega)
  have g2 := hat i hi 2 (by omega)
  have g3 := hat i hi 3 (by omega)
  have g4 := hat i hi 4 (by omega)
  rw [ev] at g0 g1 g2 g3 g4
  exact ⟨b, off, A', c', e, hb, hn, ht, g0, g1, g2, g3, g4⟩
theorem ExsAt.nil (S : Nat → Prop) (W : World) (A : Option Addr) (c : Nat) (hc : c ≤ maxLen) : ExsAt S W (.slice A 0 c) [] :=
  ⟨A, c, rfl, Nat.zero_le _, hc, fun _ => .bool false, fun h => by simp at h, fun i h => by simp at h⟩
/-- a row that was made, as a row of exports. -/
theorem RowK.exs {e L B : Nat} {w : World} {us : List Value} (h : RowK e 5 ExAt L B w xs v us) : ExsAt (fun g => (L ≤ g ∨ B ≤ g) ∧ g < w.heap.size) w v xs := by
  obtain ⟨A, c, rfl, hc, hm⟩ := h.form
  refine ⟨A, c, rfl, hc, hm, fun i => us.getD i (.bool false), fun h0 => ?_, fun i hi => ExAt.keep (h.each i hi) fun g hg => ⟨⟨.inl hg.1, hg.2.1⟩, rfl⟩⟩
  obtain ⟨g, c', e, hb, hlt, hat⟩ := h.cells h0
  injection e with e1 _ _
  refine ⟨g, 0, e1, ⟨.inr hb, hlt⟩, fun i hi j hj => ?_⟩
  rw [hat i hi j hj]
  show _ = some (fld (us.getD i (.bool false)) j)
  obtain ⟨A', c', e, _⟩ := h.each i hi
  rw [e]
  have : j = 0 ∨ j = 1 ∨ j = 2 ∨ j = 3 ∨ j = 4 := by omega
  rcases this with rfl | rfl | rfl | rfl | rfl <;> rfl
end
/-- an export in a box. -/
theorem box5 {W : World} {b : Nat} {v0 v1 v2 v3 v4 : Value} {t : TypeId} (h : W.heap[b]? = some (.cells #[v0, v1, v2, v3, v4] t (0, 0))) :
    (W.cell? ⟨b, 0, none⟩ = some v0 ∧ W.cell? ⟨b, 1, none⟩ = some v1 ∧ W.cell? ⟨b, 2, none⟩ = some v2 ∧ W.cell? ⟨b, 3, none⟩ = some v3 ∧ W.cell? ⟨b, 4, none⟩ = some v4) := by
  simp [World.cell?, h]
theorem box5_frozen {W : World} {b : Nat} {v0 v1 v2 v3 v4 : Value} {t : TypeId} (h : W.heap[b]? = some (.cells #[v0, v1, v2, v3, v4] t (0, 0))) :
    (W.frozen? ⟨b, 0, none⟩ = false ∧ W.frozen? ⟨b, 1, none⟩ = false ∧ W.frozen? ⟨b, 2, none⟩ = false ∧ W.frozen? ⟨b, 3, none⟩ = false ∧ W.frozen? ⟨b, 4, none⟩ = false) := by
  simp [World.frozen?, h]
/-- a box with a number. -/
def CellI (W : World) (q : Nat) (t : TypeId) (m : Int) : Prop := W.heap[q]? = some (.cells #[.int .i64 m] t (0, 0))
theorem CellI.keep {W W' : World} {q : Nat} {t : TypeId} {m : Int} (h : CellI W q t m) (hk : W'.heap[q]? = W.heap[q]?) : CellI W' q t m := hk.trans h
theorem CellI.lt {W : World} {q : Nat} {t : TypeId} {m : Int} (h : CellI W q t m) : q < W.heap.size := lt_blk h
theorem CellI.cell {W : World} {q : Nat} {t : TypeId} {m : Int} (h : CellI W q t m) : W.cell? ⟨q, 0, none⟩ = some (.int .i64 m) := box1 h
theorem CellI.free {W : World} {q : Nat} {t : TypeId} {m : Int} (h : CellI W q t m) : W.frozen? ⟨q, 0, none⟩ = false := by
  have h : W.heap[q]? = some (.cells #[.int .i64 m] t (0, 0)) := h
  simp [World.frozen?, h]
theorem CellI.put {W : World} {q : Nat} {t : TypeId} {m : Int} (h : CellI W q t m) (m' : Int) : CellI (W.setCell ⟨q, 0, none⟩ (.int .i64 m')) q t m' := by
  have := cells_put (i := 0) (x := .int .i64 m') h
  simpa [CellI] using this
mutual
/-- do the variables have the numbers from m on, in the order in which they first stand? -/
def risT : Ty → Int → Bool × Int
  | .mk k n _ ts, m => if k = 1 then (if n = m then (true, m + 1) else (decide (n < m), m)) else risL ts m
def risL : List Ty → Int → Bool × Int
  | [], m => (true, m)
  | t :: ts, m => if (risT t m).1 = true then risL ts (risT t m).2 else (false, (risT t m).2)
end
theorem risT_eq (T : Ty) (m : Int) : risT T m = if T.kind = 1 then (if T.num = m then (true, m + 1) else (decide (T.num < m), m)) else risL T.args m := by
  obtain ⟨k, n, s, ts⟩ := T; rw [risT]; rfl
theorem risL_step {ts : List Ty} {k : Nat} (hk : k < ts.length) (m : Int) : risL (ts.drop k) m = if (risT ts[k] m).1 = true then risL (ts.drop (k + 1)) (risT ts[k] m).2 else (false, (risT ts[k] m).2) := by
  rw [List.drop_eq_getElem_cons hk, risL]
theorem risT_le (T : Ty) : ∀ m : Int, m ≤ (risT T m).2 ∧ (risT T m).2 ≤ m + T.parts := by
  induction T using Ty.ind with
  | h T ih =>
    intro m
    rw [risT_eq]
    have hp := T.parts_pos
    split
    · split
      · simp only; omega
      · simp only; omega
    · have key : ∀ ts : List Ty, (∀ t ∈ ts, ∀ m : Int, m ≤ (risT t m).2 ∧ (risT t m).2 ≤ m + t.parts) → ∀ m : Int, m ≤ (risL ts m).2 ∧ (risL ts m).2 ≤ m + partsL ts := by
        intro ts
        induction ts with
        | nil => intro _ m; rw [risL, partsL]; simp
        | cons t ts ih2 =>
          intro h m
          rw [risL, partsL]
          have h1 := h t (by simp) m
          have h2 := ih2 (fun x hx => h x (by simp [hx])) (risT t m).2
          split
          · push_cast; omega
          · simp only; push_cast; omega
      have := key T.args (fun t ht => by obtain ⟨i, hi, rfl⟩ := List.getElem_of_mem ht; exact ih i hi) m
      have := T.parts_eq
      omega
mutual
/-- have names and rows a length that a byte can tell? -/
def shortT : Ty → Bool
  | .mk _ _ s ts => decide (s.size ≤ 255) && (decide (ts.length ≤ 255) && shortL ts)
def shortL : List Ty → Bool
  | [] => true
  | t :: ts => shortT t && shortL ts
end
theorem shortT_eq (T : Ty) : shortT T = (decide (T.name.size ≤ 255) && (decide (T.args.length ≤ 255) && shortL T.args)) := by
  obtain ⟨k, n, s, ts⟩ := T; rw [shortT]; rfl
theorem shortL_step {ts : List Ty} {k : Nat} (hk : k < ts.length) : shortL (ts.drop k) = (shortT ts[k] && shortL (ts.drop (k + 1))) := by
  rw [List.drop_eq_getElem_cons hk, shortL]
end Go.Typ
