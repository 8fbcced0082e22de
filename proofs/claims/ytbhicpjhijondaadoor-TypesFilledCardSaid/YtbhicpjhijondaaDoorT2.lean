/- Rows of elements of several cells that a call has made, with what the elements hold; append onto them. No function of the program in sight. -/
import Derived.Test.YtbhicpjhijondaaDoorT1
namespace Go.Typ
open Go.RowKit Go.Lib Go.Vfs Go.Par
set_option linter.unusedVariables false

/-- the element type e (of the slice type t) has k cells, z its zero. -/
structure ElemK (P : Program) (t e : TypeId) (k : Nat) : Prop where
  und : P.underlying t = some (.slice e)
  info : ∃ i z bytes, P.info? e = some i ∧ i.zero = some z ∧ i.size = k ∧ i.bytes = bytes ∧ bytes ≤ 128 ∧ z.cells.size = k
  pos : 0 < k
theorem elemK_of {P : Program} {t e : TypeId} {k b : Nat} {z : Value} (ht : P.underlying t = some (.slice e)) (h : (P.info? e).map (fun i => (i.zero, i.size, i.bytes)) = some (some z, k, b)) (hb : b ≤ 128) (h1 : z.cells.size = k) (hk : 0 < k) : ElemK P t e k := by
  obtain ⟨i, hi, h0, h2, h3⟩ := info_parts h
  exact ⟨ht, ⟨i, z, b, hi, h0, h2, h3, hb, h1⟩, hk⟩

/-- the cells of a struct's value. -/
def flatC : Value → List Value
  | .agg xs => xs.toList
  | v => [v]

section
variable {P : Program} (w : World)
/-- append of one written element. -/
theorem run_appK (base : Nat) (t ty e : TypeId) (k : Nat) (E : ElemK P t e k) (v : Value) (n : Nat) (xs : List Value) (hown : w.ownsRow base e k v n xs)
    (ad : Addr) (m c : Nat) (news : List Value) (hl : news.length = m * k) (hcells : ∀ j u, news[j]? = some u → w.cell? (ad.add j) = some u) (h1 : ∀ u ∈ news, u.oneCell' = true)
    (hbd : n + m ≤ 1099511627776) (hbase : base ≤ w.heap.size) :
    ∃ v' w', (Builtin.append_ #[t, t] ty #[v, .slice (some ad) m c]).run P w = .ok v' w' ∧ w'.ownsRow base e k v' (n + m) (xs ++ news) ∧ w.grownBy w' v.ownBlock ∧
      (v'.ownBlock = v.ownBlock ∨ v'.ownBlock = some w.heap.size) := by
  obtain ⟨i, z, bytes, hi, hz, hsz, hby, hbb, hzs⟩ := E.info
  have hb2 : (n + m) * bytes ≤ 140737488355328 := Nat.le_trans (Nat.mul_le_mul hbd hbb) (by decide)
  obtain ⟨v', w', hr, h2, h3, _, h5⟩ := run_append_own_at (P := P) w base t ty e i z k bytes E.und hi hz hsz hby hzs E.pos v n xs hown ad m c news hl hcells h1 (by simp only [maxLen]; omega) hb2 hbase
  exact ⟨v', w', hr, h2, h3, h5⟩

theorem wpList_appK {ops : Array Oper} {rest : List Oper} {o : Oper} {a : Act} {Q : Exit → Act → World → Prop} (hgd : o.guard = none) (s x : Operand) (t : TypeId)
    (ho : o.op = .call { callee := .builtin .append, args := #[s, x], argTypes := #[t, t] })
    (base : Nat) (e : TypeId) (k : Nat) (E : ElemK P t e k) (v : Value) (n : Nat) (xs : List Value) (hs : a.eval s = v) (hown : w.ownsRow base e k v n xs)
    (ad : Addr) (m c : Nat) (news : List Value) (hx : a.eval x = .slice (some ad) m c) (hl : news.length = m * k) (hcells : ∀ j u, news[j]? = some u → w.cell? (ad.add j) = some u) (h1 : ∀ u ∈ news, u.oneCell' = true)
    (hbd : n + m ≤ 1099511627776) (hbase : base ≤ w.heap.size)
    (h : ∀ v' w', w'.ownsRow base e k v' (n + m) (xs ++ news) → w.grownBy w' v.ownBlock → (v'.ownBlock = v.ownBlock ∨ v'.ownBlock = some w.heap.size) → wpList P ops Q rest (a.put o.dst v') w') : wpList P ops Q (o :: rest) a w :=
  wpList_plain hgd fun _ hK => by
    obtain ⟨v', w', hrun, h2, h3, h4⟩ := run_appK (P := P) w base t o.type e k E v n xs hown ad m c news hl hcells h1 hbd hbase
    unfold Oper.wp execOp
    simp only [ho, resolve, invoke, builtin, Sem.run_bind, Sem.run_pure, Result.andThen_ok, List.map_toArray, List.map_cons, List.map_nil, hs, hx, hrun]
    exact hK _ _ (h v' w' h2 h3 h4)
end

/-- the cells of a block that was just made. -/
theorem cells_new (w : World) (cs : List Value) (t : TypeId) : ∀ j u, cs[j]? = some u → (w.alloc (.cells cs.toArray t)).cell? ((⟨w.heap.size, 0, none⟩ : Addr).add j) = some u := by
  intro j u h
  rw [add_addr, Nat.zero_add, World.cell?_alloc_new]
  simpa using h

theorem lt_blk {w : World} {b : Nat} {o : Obj} (h : w.heap[b]? = some o) : b < w.heap.size := (Array.getElem?_eq_some_iff.1 h).1
theorem cells_put {w : World} {b : Nat} {xs : Array Value} {t : TypeId} (h : w.heap[b]? = some (.cells xs t (0, 0))) (i : Nat) (x : Value) : (w.setCell ⟨b, i, none⟩ x).heap[b]? = some (.cells (xs.setIfInBounds i x) t (0, 0)) := by
  have hlt := lt_blk h
  have h' : w.heap[b] = .cells xs t (0, 0) := by simpa [Array.getElem?_eq_getElem hlt] using h
  show (w.heap.modify b _)[b]? = _
  rw [Array.getElem?_eq_getElem (by simpa using hlt), Array.getElem_modify_self, h']
  rfl
/-- a type stored into a box. -/
theorem put4 {w : World} {b : Nat} {u0 u1 u2 u3 v0 v1 v2 v3 : Value} {t : TypeId} (h : w.heap[b]? = some (.cells #[u0, u1, u2, u3] t (0, 0))) :
    ((((w.setCell ⟨b, 0, none⟩ v0).setCell ⟨b, 1, none⟩ v1).setCell ⟨b, 2, none⟩ v2).setCell ⟨b, 3, none⟩ v3).heap[b]? = some (.cells #[v0, v1, v2, v3] t (0, 0)) := by
  have := cells_put (cells_put (cells_put (cells_put h 0 v0) 1 v1) 2 v2) 3 v3
  simpa using this
theorem kept4 {F : Nat → Prop} {w0 w : World} {b : Nat} {v0 v1 v2 v3 : Value} (h : Kept F w0 w) (hp : F b ∨ w0.heap.size ≤ b) :
    Kept F w0 ((((w.setCell ⟨b, 0, none⟩ v0).setCell ⟨b, 1, none⟩ v1).setCell ⟨b, 2, none⟩ v2).setCell ⟨b, 3, none⟩ v3) :=
  (((h.setCell (p := ⟨b, 0, none⟩) hp v0).setCell (p := ⟨b, 1, none⟩) hp v1).setCell (p := ⟨b, 2, none⟩) hp v2).setCell (p := ⟨b, 3, none⟩) hp v3

/-- a row of elements, made by the call from block B on; what belongs to the elements lies from L on. -/
structure RowK {α : Type} (e k : Nat) (R : (Nat → Prop) → World → Value → α → Prop) (L B : Nat) (w : World) (xs : List α) (v : Value) (us : List Value) : Prop where
  len : us.length = xs.length
  own : w.ownsRow B e k v xs.length (us.flatMap flatC)
  size : ∀ u ∈ us, (flatC u).length = k
  each : ∀ i (h : i < xs.length), R (fun g => L ≤ g ∧ g < w.heap.size ∧ v.ownBlock ≠ some g) w (us.getD i (.bool false)) xs[i]

section
variable {α : Type} {e k : Nat} {R : (Nat → Prop) → World → Value → α → Prop} {L B : Nat} {w w' w2 w3 : World} {xs : List α} {v v' : Value} {us : List Value}
theorem RowK.nil (w : World) : RowK e k R L B w [] (.slice none 0 0) [] := ⟨rfl, World.ownsRow_nil w B e k, by simp, fun i h => by simp at h⟩
theorem RowK.made (w : World) (hB : B ≤ w.heap.size) : RowK e k R L B (w.alloc (.cells #[] e)) [] (.slice (some ⟨w.heap.size, 0, none⟩) 0 0) [] :=
  ⟨rfl, World.ownsRow_made w #[] 0 hB (by simp) (by simp), by simp, fun i h => by simp at h⟩
theorem RowK.keep (hK : ∀ {S S' : Nat → Prop} {w w' : World} {v : Value} {x : α}, R S w v x → (∀ b, S b → S' b ∧ w'.heap[b]? = w.heap[b]?) → R S' w' v x)
    (h : RowK e k R L B w xs v us) (hb : ∀ g, g < w.heap.size → w'.heap[g]? = w.heap[g]?) (hz : w.heap.size ≤ w'.heap.size) : RowK e k R L B w' xs v us :=
  ⟨h.len, ownsRow_block h.own fun g e => hb g (h.own.lt g e).2, h.size, fun i hi => hK (h.each i hi) fun b hk => ⟨⟨hk.1, by omega, hk.2.2⟩, hb b hk.2.1⟩⟩
theorem RowK.below (hK : ∀ {S S' : Nat → Prop} {w w' : World} {v : Value} {x : α}, R S w v x → (∀ b, S b → S' b ∧ w'.heap[b]? = w.heap[b]?) → R S' w' v x)
    (h : RowK e k R L B w xs v us) (hb : Below w.heap.size w w') : RowK e k R L B w' xs v us := h.keep hK hb.block hb.size
/-- an element more. -/
theorem RowK.next (hK : ∀ {S S' : Nat → Prop} {w w' : World} {v : Value} {x : α}, R S w v x → (∀ b, S b → S' b ∧ w'.heap[b]? = w.heap[b]?) → R S' w' v x)
    (h : RowK e k R L B w xs v us) {u : Value} {x : α} {S : Nat → Prop} (hu : R S w u x) (hS : ∀ g, S g → L ≤ g ∧ g < w.heap.size ∧ v.ownBlock ≠ some g) (hsz : (flatC u).length = k) (o : Obj)
    (hown : w3.ownsRow B e k v' (xs.length + 1) (us.flatMap flatC ++ flatC u)) (hg : (w.alloc o).grownBy w3 v.ownBlock) (hat : v'.ownBlock = v.ownBlock ∨ v'.ownBlock = some (w.alloc o).heap.size) :
    RowK e k R L B w3 (xs ++ [x]) v' (us ++ [u]) := by
  have hal : (w.alloc o).heap.size = w.heap.size + 1 := by simp
  have hz3 := hg.size
  have key : ∀ g, g < w.heap.size → v.ownBlock ≠ some g → w3.heap[g]? = w.heap[g]? := fun g h1 h2 => by
    rw [hg.block g (by omega) (fun e => h2 e.symm), Below.heap_alloc _ _ _ h1]
  have ne' : ∀ g, g < w.heap.size → v.ownBlock ≠ some g → v'.ownBlock ≠ some g := fun g h1 h2 => by
    rcases hat with e | e
    · rw [e]; exact h2
    · rw [e]; intro e2; injection e2 with e2; omega
  refine ⟨by simp [h.len], by rw [List.length_append, List.flatMap_append]; simpa using hown, fun y hy => ?_, fun i hi => ?_⟩
  · rcases List.mem_append.1 hy with hy | hy
    · exact h.size y hy
    · rw [List.mem_singleton.1 hy]; exact hsz
  · rw [List.length_append, List.length_singleton] at hi
    by_cases hik : i < xs.length
    · have e1 : (us ++ [u]).getD i (.bool false) = us.getD i (.bool false) := by simp [List.getD_eq_getElem?_getD, List.getElem?_append, h.len, hik]
      have e2 : (xs ++ [x])[i]'(by simp; omega) = xs[i] := by rw [List.getElem_append_left hik]
      rw [e1, e2]
      exact hK (h.each i hik) fun g hk => ⟨⟨hk.1, by omega, ne' g hk.2.1 hk.2.2⟩, key g hk.2.1 hk.2.2⟩
    · have : i = xs.length := by omega
      subst this
      have e1 : (us ++ [u]).getD xs.length (.bool false) = u := by rw [← h.len]; simp [List.getD_eq_getElem?_getD]
      have e2 : (xs ++ [x])[xs.length]'(by simp) = x := by simp
      rw [e1, e2]
      refine hK hu fun g hk => ?_
      have := hS g hk
      exact ⟨⟨this.1, by omega, ne' g this.2.1 this.2.2⟩, key g this.2.1 this.2.2⟩
theorem RowK.form (h : RowK e k R L B w xs v us) : ∃ A c, v = .slice A xs.length c ∧ xs.length ≤ c ∧ c ≤ maxLen := by
  rcases h.own.2 with ⟨e, h0⟩ | ⟨g, cap, cur, e, _, _, hn, hm, _⟩
  · exact ⟨none, 0, by rw [e, h0], by omega, by simp [maxLen]⟩
  · exact ⟨_, cap, e, hn, hm⟩
theorem RowK.lt (h : RowK e k R L B w xs v us) (g : Nat) (hg : v.ownBlock = some g) : B ≤ g ∧ g < w.heap.size := h.own.lt g hg
theorem flat_get {us : List Value} {k : Nat} (hs : ∀ u ∈ us, (flatC u).length = k) : ∀ i j, i < us.length → j < k → (us.flatMap flatC)[i * k + j]? = (flatC (us.getD i (.bool false)))[j]? := by
  induction us with
  | nil => intro i j h; simp at h
  | cons u us ih =>
    intro i j hi hj
    have hu := hs u (by simp)
    rw [List.flatMap_cons]
    cases i with
    | zero => rw [Nat.zero_mul, Nat.zero_add, List.getElem?_append_left (by omega)]; simp
    | succ i =>
      rw [List.getElem?_append_right (by rw [hu, Nat.add_mul]; omega), hu, show (i + 1) * k + j - k = i * k + j from by rw [Nat.add_mul]; omega]
      rw [ih (fun y hy => hs y (by simp [hy])) i j (by simpa using hi) hj]
      simp
/-- the elements' cells. -/
theorem RowK.cells (h : RowK e k R L B w xs v us) (hp : 0 < xs.length) : ∃ g c, v = .slice (some ⟨g, 0, none⟩) xs.length c ∧ B ≤ g ∧ g < w.heap.size ∧
    ∀ i, i < xs.length → ∀ j, j < k → w.cell? ⟨g, 0 + i * k + j, none⟩ = (flatC (us.getD i (.bool false)))[j]? := by
  rcases h.own.2 with ⟨e, h0⟩ | ⟨g, cap, cur, e, hb, hh, hn, hm, hc, ht⟩
  · omega
  · have hlt := h.lt g (by rw [e]; rfl)
    refine ⟨g, cap, e, hlt.1, hlt.2, fun i hi j hj => ?_⟩
    have hl := flat_get h.size i j (by rw [h.len]; exact hi) hj
    have hin : i * k + j < xs.length * k := by
      have h2 : (i + 1) * k ≤ xs.length * k := Nat.mul_le_mul_right k (by omega)
      rw [Nat.add_mul] at h2; omega
    rw [← hl, ← ht, List.getElem?_take]
    rw [if_pos hin]
    simp [World.cell?, hh]
end
/-- a row of types as a type's arguments. -/
theorem RowK.ty {e L B : Nat} {w : World} {ts : List Ty} {v : Value} {us : List Value} (h : RowK e 4 TyAt L B w ts v us) (k num : Int) (name : ByteArray) (hn : name.size ≤ 9223372036854775807) :
    ∃ A c, v = .slice A ts.length c ∧ TyAt (fun g => (L ≤ g ∨ B ≤ g) ∧ g < w.heap.size) w (tyV k num name A ts.length c) (.mk k num name ts) := by
  obtain ⟨A, c, rfl, hc, hm⟩ := h.form
  refine ⟨A, c, rfl, .mk k num name ts A c (fun i => us.getD i (.bool false)) hc hm hn (fun h0 => ?_) (fun i hi => (h.each i hi).sub fun g hg => ⟨.inl hg.1, hg.2.1⟩)⟩
  obtain ⟨g, c', e, hb, hlt, hat⟩ := h.cells h0
  injection e with e1 _ _
  refine ⟨g, 0, e1, ⟨.inr hb, hlt⟩, fun i hi j hj => ?_⟩
  rw [hat i hi j hj]
  obtain ⟨A', c', e, _⟩ := (h.each i hi).form
  rw [e]
  have : j = 0 ∨ j = 1 ∨ j = 2 ∨ j = 3 := by omega
  rcases this with rfl | rfl | rfl | rfl <;> rfl
end Go.Typ
