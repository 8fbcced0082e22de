/- readLog. -/
import Derived.Test.YtpdelgjfamelfaaGreatJ7
import Derived.RangeFuncWrites
import Derived.Maps.OwnIn
namespace Go.Proofs.YtpdelgjfamelfaaGreat
open Go.RowKit Go.Lib Go.Vfs Go.Par Go.Shelf
set_option linter.unusedVariables false
set_option linter.unusedSimpArgs false
attribute [local go_sem] Oper.semAt_some

section
variable {b : List UInt8}
def endOf (l : List (FrOf b)) : Nat := (l.getLast?.map (·.1.stop)).getD 0
def sameGen (gen : Nat) (l : List (FrOf b)) : List (FrOf b) := l.takeWhile fun x => x.1.gen == gen
def pays (l : List (FrOf b)) : List (List UInt8) := l.map (·.1.pay)
theorem endOf_snoc (l : List (FrOf b)) (x : FrOf b) : endOf (l ++ [x]) = x.1.stop := by simp [endOf]
theorem pays_snoc (l : List (FrOf b)) (x : FrOf b) : pays (l ++ [x]) = pays l ++ [x.1.pay] := by simp [pays]
theorem sameGen_all {gen : Nat} {l : List (FrOf b)} (h : ∀ x ∈ l, x.1.gen = gen) : sameGen gen l = l := by
  unfold sameGen
  induction l with
  | nil => rfl
  | cons x l ih => rw [List.takeWhile_cons, if_pos (by simpa using h x (by simp)), ih (fun y hy => h y (by simp [hy]))]
theorem sameGen_cut {gen : Nat} {l pre : List (FrOf b)} {x : FrOf b} (h : ∀ y ∈ pre, y.1.gen = gen) (hx : x.1.gen ≠ gen) (hp : pre ++ [x] <+: l) : sameGen gen l = pre := by
  obtain ⟨r, rfl⟩ := hp
  unfold sameGen
  rw [List.append_assoc]
  induction pre with
  | nil => simp [hx]
  | cons y pre ih => rw [List.cons_append, List.takeWhile_cons, if_pos (by simpa using h y (by simp)), ih (fun z hz => h z (by simp [hz]))]
end

set_option maxRecDepth 20000 in
theorem frames_any (A : Option Addr) (n c : Nat) (w : World) : Calls Tryz.prog 75 #[.slice A n c] w fun e w' => e = .returned (.func (.func 91) #[] #[.pointer (some ⟨w.heap.size, 0, none⟩)]) ∧ w' = w.alloc (.cells #[.slice A n c] 22) := by
  go_enter Tryz.func75, Tryz.ntmps75
  go_wp2
  go_ret
  exact ⟨rfl, rfl⟩

section
variable {P : Program} {ops : Array Oper} {Q : Exit → Act → World → Prop}
theorem wpOp_of {i : Nat} {o : Oper} {K : Act → World → Prop} {a : Act} {w : World} (ho : ops[i]? = some o) (hw : Region.wanted o (yielded ops a.tmps) = true) (h : ∀ K' : Act → World → Prop, (∀ a w, K a w → K' a w) → o.wp P a w K' Q) : wpOp P ops Q i K a w := by
  unfold wpOp
  simp only [ho, hw, if_true]
  exact .inl (h _ fun _ _ h => h)
end
/-- the blocks that the iterator reads. -/
def RK (w : World) (G : Nat → Prop) (k : Nat) : Prop := k = w.heap.size + 2 ∨ (k < w.heap.size ∧ ¬ G k)
theorem three_cellsJ {W : World} {b : Nat} {u0 u1 u2 : Value} {t : TypeId} (h : W.heap[b]? = some (.cells #[u0, u1, u2] t (0, 0))) : W.cell? ⟨b, 0, none⟩ = some u0 ∧ W.cell? ⟨b, 1, none⟩ = some u1 ∧ W.cell? ⟨b, 2, none⟩ = some u2 := by
  simp [World.cell?, h]
theorem one_cellJ {W : World} {b : Nat} {u0 : Value} {t : TypeId} (h : W.heap[b]? = some (.cells #[u0] t (0, 0))) : W.cell? ⟨b, 0, none⟩ = some u0 ∧ W.frozen? ⟨b, 0, none⟩ = false := by
  simp [World.cell?, World.frozen?, h]
theorem one_setJ {w : World} {b : Nat} {u x : Value} {t : TypeId} (h : w.heap[b]? = some (.cells #[u] t (0, 0))) : (w.setCell ⟨b, 0, none⟩ x).heap[b]? = some (.cells #[x] t (0, 0)) := by
  have hlt := lt_of_block h
  have h' : w.heap[b] = .cells #[u] t (0, 0) := by simpa [Array.getElem?_eq_getElem hlt] using h
  show (w.heap.modify b _)[b]? = _
  rw [Array.getElem?_eq_getElem (by simpa using hlt), Array.getElem_modify_self, h']
  rfl
theorem sliced_form (A : Option Addr) (l h c : Nat) : ∃ A' c', sliced A l h c 1 = .slice A' (h - l) c' := ⟨_, _, rfl⟩
/-- where the loop of readLog stands. -/
structure RLI (w : World) (pj p gen : Nat) (bv : Value) (bs : List Value) (base log : List (List UInt8)) (G : Nat → Prop) (A : Option Addr) (c : Nat) (b : List UInt8) (pre : List (FrOf b)) (W : World) : Prop where
  c0 : W.heap[w.heap.size]? = some (.cells #[.pointer (some ⟨pj, 0, none⟩)] 41 (0, 0))
  c1 : W.heap[w.heap.size + 1]? = some (.cells #[.int .i64 (endOf pre : Nat)] 3 (0, 0))
  c2 : W.heap[w.heap.size + 2]? = some (.cells #[.slice A b.length c] 22 (0, 0))
  jv : ∃ lv us G', JV W pj p gen bv lv bs us base (log ++ pays pre) G' ∧ ∀ k, G' k → G k ∨ w.heap.size + 3 ≤ k
  kept : Kept G w W
  same : ∀ x ∈ pre, x.1.gen = gen
  size : w.heap.size + 3 ≤ W.heap.size
section
variable {w W W' : World} {pj p gen : Nat} {bv : Value} {bs : List Value} {base log : List (List UInt8)} {G : Nat → Prop} {A : Option Addr} {c : Nat} {b : List UInt8} {pre : List (FrOf b)}
theorem RLI.walk (h : RLI w pj p gen bv bs base log G A c b pre W) (hG : ∀ k, G k → k < w.heap.size) {row : Option Nat} (hg : W.grownBy W' row) (hr : ∀ r, row = some r → w.heap.size + 3 ≤ r ∧ ∃ o : Obj, W.heap[r]? = some o ∧ o.isCells = false) : RLI w pj p gen bv bs base log G A c b pre W' := by
  have hz := h.size
  have low : ∀ k, k < w.heap.size + 3 → W'.heap[k]? = W.heap[k]? := fun k hk => hg.block k (by omega) (fun e => by have := (hr k e.symm).1; omega)
  obtain ⟨lv, us, G', h1, h2⟩ := h.jv
  exact ⟨(low _ (by omega)).trans h.c0, (low _ (by omega)).trans h.c1, (low _ (by omega)).trans h.c2, ⟨lv, us, G', h1.walk hg (fun r e => (hr r e).2), h2⟩, h.kept.grown hg (fun k e => .inr (by have := (hr k e).1; omega)), h.same, by have := hg.size; omega⟩
theorem RLI.go (h : RLI w pj p gen bv bs base log G A c b pre W) (hb : Below W.heap.size W W') : RLI w pj p gen bv bs base log G A c b pre W' := by
  have hz := h.size
  obtain ⟨lv, us, G', h1, h2⟩ := h.jv
  exact ⟨(hb.block _ (by omega)).trans h.c0, (hb.block _ (by omega)).trans h.c1, (hb.block _ (by omega)).trans h.c2, ⟨lv, us, G', h1.go hb, h2⟩, h.kept.trans' (Kept.of_below hb), h.same, by have := hb.size; omega⟩
end
theorem frsF_length (b : List UInt8) : ∀ f i, (frsF b f i).length ≤ f
  | 0, _ => by simp [frsF]
  | f + 1, i => by
    unfold frsF
    split
    · simp
    · have := frsF_length b f; simp; exact this _
theorem frs_length (b : List UInt8) : (frs b).length ≤ b.length + 1 := frsF_length b _ _
theorem Own.formR {w : World} {base : Nat} {e : TypeId} {size : Nat} {v : Value} {n : Nat} {xs : List Value} (h : w.ownsRow base e size v n xs) : ∃ A c, v = .slice A n c := by
  rcases h.2 with ⟨rfl, h0⟩ | ⟨g, cap, cur, rfl, _⟩
  · exact ⟨none, 0, by rw [h0]⟩
  · exact ⟨_, cap, rfl⟩
theorem grown_cell {X Y : World} {row : Option Nat} (hg : X.grownBy Y row) {k i : Nat} {v : Value} (hc : X.cell? ⟨k, i, none⟩ = some v) (hn : row ≠ some k) : Y.cell? ⟨k, i, none⟩ = some v :=
  (World.cell?_of_block (a := ⟨k, i, none⟩) (hg.block k (World.block_lt_of_cell? _ _ hc) (fun e => hn e.symm))).trans hc
theorem row_not {w : World} {v : Value} {n : Nat} {xs : List Value} (h : w.ownsRow 0 22 1 v n xs) {k : Nat} {cs : Array Value} {t : TypeId} {fz : Nat × Nat} (hk : w.heap[k]? = some (.cells cs t fz)) (ht : t ≠ 22) : v.ownBlock ≠ some k := by
  intro e
  rcases h.2 with ⟨rfl, _⟩ | ⟨g, cap, cur, rfl, _, hh, _⟩
  · cases e
  · cases e
    rw [hh] at hk
    injection hk with hk
    injection hk with h1 h2 h3
    exact ht h2.symm
/-- a record more in the log. -/
theorem RLI.next {w W X w2 w5 : World} {pj p gen : Nat} {bv lv1 lv' u2 : Value} {bs us1 : List Value} {base log : List (List UInt8)} {G G1 : Nat → Prop} {A : Option Addr} {c : Nat} {b : List UInt8} {pre : List (FrOf b)} (h : RLI w pj p gen bv bs base log G A c b pre W)
    (hG : ∀ k, G k → k < w.heap.size) (hjv : JV W pj p gen bv lv1 bs us1 base (log ++ pays pre) G1) (hG1 : ∀ k, G1 k → G k ∨ w.heap.size + 3 ≤ k) (hb : Below W.heap.size W X) (hb2 : Below X.heap.size X w2) (x : FrOf b) (hx : x.1.gen = gen)
    (hu : Par.Own w2 X.heap.size 5 u2 (byteCells x.1.pay)) (o : Obj) (hown : w5.ownsRow 0 22 1 lv' (us1.length + 1) (us1 ++ [u2])) (hg : (w2.alloc o).grownBy w5 lv1.ownBlock) (hat : lv'.ownBlock = lv1.ownBlock ∨ lv'.ownBlock = some (w2.heap.size + 1)) :
    KeepsFrom (w.heap.size + 3) W ((w5.setCell ⟨pj, 3, none⟩ lv').setCell ⟨w.heap.size + 1, 0, none⟩ (.int .i64 (x.1.stop : Nat))) ∧ KpS (RK w G) W ((w5.setCell ⟨pj, 3, none⟩ lv').setCell ⟨w.heap.size + 1, 0, none⟩ (.int .i64 (x.1.stop : Nat))) ∧
      RLI w pj p gen bv bs base log G A c b (pre ++ [x]) ((w5.setCell ⟨pj, 3, none⟩ lv').setCell ⟨w.heap.size + 1, 0, none⟩ (.int .i64 (x.1.stop : Nat))) := by
  have hz := h.size
  have hzb := hb.size
  have hzb2 := hb2.size
  have hzg := hg.size
  simp only [World.size_alloc] at hzg
  have hpj : G1 pj := hjv.gpj
  have b4 : Below W.heap.size W (w2.alloc o) := (hb.trans (hb2.mono hzb)).alloc (by omega) o
  have hjv4 := hjv.go b4
  have hul : us1.length = (log ++ pays pre).length := by have := hjv.lown.1; simpa using this
  rw [hul] at hown
  have hu4 : Par.Own (w2.alloc o) X.heap.size 5 u2 (byteCells x.1.pay) := hu.alloc o
  have hjv5 := hjv4.pushL hu4 (fun g e hg1 => by have := (hu.lt g e).1; have := hjv.lt g hg1; omega) hown hg (by simpa using hat)
  obtain ⟨oj, hoj, hcj⟩ := hjv.cel pj hpj
  have hpjlt := hjv.lt pj hpj
  have hll : ∀ k, lv1.ownBlock = some k → G1 k ∧ k ≠ pj := fun k e => ⟨(hjv.gl k e).1, (hjv.gl k e).2.1⟩
  have hpjs : G pj ∨ w.heap.size + 3 ≤ pj := hG1 pj hpj
  have n1 : pj ≠ w.heap.size + 1 := by rcases hpjs with h1 | h1; (have := hG pj h1; omega); omega
  -- what lies as it lay
  have same : ∀ k, k < W.heap.size → k ≠ pj → k ≠ w.heap.size + 1 → lv1.ownBlock ≠ some k → ((w5.setCell ⟨pj, 3, none⟩ lv').setCell ⟨w.heap.size + 1, 0, none⟩ (.int .i64 (x.1.stop : Nat))).heap[k]? = W.heap[k]? := fun k hk h1 h2 h3 => by
    rw [setCell_block h2, setCell_block h1, hg.block k (by simp; omega) (fun e => h3 e.symm)]
    exact b4.block k hk
  have hszF : ((w5.setCell ⟨pj, 3, none⟩ lv').setCell ⟨w.heap.size + 1, 0, none⟩ (.int .i64 (x.1.stop : Nat))).heap.size = w5.heap.size := by simp [World.setCell]
  have low : ∀ k, k < w.heap.size + 3 → ¬ G k → k ≠ w.heap.size + 1 → ((w5.setCell ⟨pj, 3, none⟩ lv').setCell ⟨w.heap.size + 1, 0, none⟩ (.int .i64 (x.1.stop : Nat))).heap[k]? = W.heap[k]? := fun k hk hn h1 => by
    refine same k (by omega) (fun e => ?_) h1 (fun e => ?_)
    · subst e; rcases hpjs with h2 | h2; exact hn h2; omega
    · rcases hG1 k (hll k e).1 with h2 | h2; exact hn h2; omega
  refine ⟨⟨by omega, fun k ob hB hk hc => ?_⟩, ⟨by omega, fun k hk => ?_⟩, ⟨?_, ?_, ?_, ⟨lv', us1 ++ [u2], fun b => (G1 b ∧ lv1.ownBlock ≠ some b) ∨ u2.ownBlock = some b ∨ lv'.ownBlock = some b, ?_, fun k hk => ?_⟩, ?_, fun y hy => ?_, by omega⟩⟩
  · refine (same k (lt_of_block hk) (fun e => ?_) (by omega) (fun e => ?_)).trans hk
    · subst e; rw [hoj] at hk; cases hk; rw [hcj] at hc; cases hc
    · obtain ⟨o2, ho2, hc2⟩ := own_cel hjv.lown k e
      rw [ho2] at hk; cases hk; rw [hc2] at hc; cases hc
  · rcases hk with rfl | ⟨hk, hn⟩
    · exact low _ (by omega) (fun hg1 => by have := hG _ hg1; omega) (by omega)
    · exact low k (by omega) hn (by omega)
  · exact (low _ (by omega) (fun hg1 => by have := hG _ hg1; omega) (by omega)).trans h.c0
  · rw [endOf_snoc]
    have e1 : (w5.setCell ⟨pj, 3, none⟩ lv').heap[w.heap.size + 1]? = some (.cells #[.int .i64 (endOf pre : Nat)] 3 (0, 0)) := by
      rw [setCell_block (Ne.symm n1), hg.block _ (by simp; omega) (fun e => ?_), b4.block _ (by omega)]
      · exact h.c1
      · rcases hG1 _ (hll _ e.symm).1 with h2 | h2
        · have := hG _ h2; omega
        · omega
    exact one_setJ e1
  · exact (low _ (by omega) (fun hg1 => by have := hG _ hg1; omega) (by omega)).trans h.c2
  · rw [pays_snoc, ← List.append_assoc]
    refine hjv5.block fun k hk => setCell_block (fun (e : k = w.heap.size + 1) => ?_)
    subst e
    rcases hk with ⟨hk, -⟩ | hk | hk
    · rcases hG1 _ hk with h2 | h2
      · have := hG _ h2; omega
      · omega
    · have := (hu.lt _ hk).1; omega
    · rcases hat with e1 | e1
      · rcases hG1 _ (hll _ (e1 ▸ hk)).1 with h2 | h2
        · have := hG _ h2; omega
        · omega
      · rw [e1] at hk; injection hk with hk; omega
  · rcases hk with ⟨hk, -⟩ | hk | hk
    · exact hG1 k hk
    · right; have := (hu.lt k hk).1; omega
    · rcases hat with e1 | e1
      · exact hG1 k (hll k (e1 ▸ hk)).1
      · rw [e1] at hk; cases hk; right; omega
  · have hK5 : Kept G w w5 := (h.kept.trans' (Kept.of_below b4)).grown hg (fun k e => by rcases hG1 k (hll k e).1 with h2 | h2; exact .inl h2; right; omega)
    exact (hK5.setCell (p := ⟨pj, 3, none⟩) (by rcases hpjs with h2 | h2; exact .inl h2; right; simp; omega) _).setCell (p := ⟨w.heap.size + 1, 0, none⟩) (.inr (by simp)) _
  · rcases List.mem_append.1 hy with hy | hy
    · exact h.same y hy
    · simp at hy; subst hy; exact hx
/-- x lies in its box bx. -/
def AxF (w : World) {b : List UInt8} (A : Option Addr) (c : Nat) (T : FrOf b → Nat → Array Value) (x : FrOf b) (a' : Act) (W : World) : Prop :=
  ∃ bx, w.heap.size + 3 ≤ bx ∧ a' = { tmps := T x bx, defers := [] } ∧ W.heap[bx]? = some (.cells #[.int .u32 (x.1.gen : Nat), sliced A (x.1.start + 12) x.1.stop c 1, .int .i64 (x.1.stop : Nat)] 129 (0, 0))

set_option maxRecDepth 100000 in
set_option maxHeartbeats 4000000 in
theorem readLog_any (w : World) (pj p gen : Nat) (bv lv : Value) (bs us : List Value) (base log : List (List UInt8)) (G : Nat → Prop) (h : JV w pj p gen bv lv bs us base log G) (A : Option Addr) (c : Nat) (b : List UInt8)
    (hb : SegS (fun x => x < w.heap.size ∧ ¬ G x) w (.slice A b.length c) (byteCells b)) (hl : b.length ≤ 2000000) (hll : log.length ≤ 100000) :
    Calls Tryz.prog 49 #[.pointer (some ⟨pj, 0, none⟩), .slice A b.length c] w fun e w' => ∃ lv' us' G', e = .returned (.int .i64 (endOf (sameGen gen (frs b)) : Nat)) ∧ JV w' pj p gen bv lv' bs us' base (log ++ pays (sameGen gen (frs b))) G' ∧ Kept G w w' ∧ Grows w G G' := by
  have hG := h.lt
  obtain ⟨W0, hW0⟩ : ∃ W0, W0 = ((w.alloc (.cells #[.pointer (some ⟨pj, 0, none⟩)] 41)).alloc (.cells #[.int .i64 0] 3)).alloc (.cells #[.slice A b.length c] 22) := ⟨_, rfl⟩
  have hs0 : W0.heap.size = w.heap.size + 3 := by rw [hW0]; simp
  have hb0 : Below w.heap.size w W0 := by rw [hW0]; exact (((box_below w _).alloc (by simp) _)).alloc (by simp; omega) _
  have k0 : W0.heap[w.heap.size]? = some (.cells #[.pointer (some ⟨pj, 0, none⟩)] 41 (0, 0)) := by
    rw [hW0, Below.heap_alloc _ _ _ (by simp; omega), Below.heap_alloc _ _ _ (by simp)]; exact heap_alloc_new w _
  have k1 : W0.heap[w.heap.size + 1]? = some (.cells #[.int .i64 0] 3 (0, 0)) := by
    rw [hW0, Below.heap_alloc _ _ _ (by simp)]
    have := heap_alloc_new (w.alloc (.cells #[.pointer (some ⟨pj, 0, none⟩)] 41)) (.cells #[.int .i64 0] 3)
    simpa using this
  have k2 : W0.heap[w.heap.size + 2]? = some (.cells #[.slice A b.length c] 22 (0, 0)) := by
    rw [hW0]
    have := heap_alloc_new ((w.alloc (.cells #[.pointer (some ⟨pj, 0, none⟩)] 41)).alloc (.cells #[.int .i64 0] 3)) (.cells #[.slice A b.length c] 22)
    simpa using this
  have hseg0 : SegS (RK w G) W0 (.slice A b.length c) (byteCells b) := hb.keep fun x hx => ⟨.inr hx, hb0.block x hx.1⟩
  have hRK : ∀ k, RK w G k → k < W0.heap.size := fun k hk => by rcases hk with rfl | hk <;> omega
  have HSEQ := Lib.hid (frames_stops W0 A c b (RK w G) hseg0 (w.heap.size + 2) (.inl rfl) hRK k2 hl)
  have HI0 : Hid (RLI w pj p gen bv bs base log G A c b [] W0) := Lib.hid ⟨k0, k1, k2, ⟨lv, us, G, by have := h.go hb0; simpa [pays] using this, fun k hk => .inl hk⟩, Kept.of_below hb0, by simp, by omega⟩
  have HBS := Lib.hid hb; have HRK := Lib.hid hRK; have HG := Lib.hid hG
  clear k0 k1 k2 hseg0 hRK h hb hG
  refine (callsIn_wide (n := 7)).1 ?_
  refine callsIn_of_wp_marks Tryz.func49 rfl trivial ?_ rfl
  simp only [Tryz.ntmps49, List.size_toArray, List.length_cons, List.length_nil, Nat.reduceAdd, Nat.reduceSub, Array.replicate_succ, Array.replicate_zero, List.push_toArray, List.append_toArray, List.nil_append, List.cons_append]
  gi_wp2_with (refine ⟨trivial, ?_⟩; gi_at_call 75; refine (callsIn_wide.2 (frames_any _ _ _ _)).mono ?_; rintro e w1 ⟨rfl, rfl⟩)
  rw [← hW0]
  clear hW0
  refine wpIn_rangeFunc_ownH (F := Fence.wide) rfl (by omega) (gf := 91) (lb := #[.pointer (some ⟨w.heap.size + 1 + 1, 0, none⟩)]) rfl trivial (enters_of Tryz.func91 (by kernel_rfl) rfl)
    HSEQ.out (fun h k => h.t k) ?hKb (Below.refl _ _) (fun _ => rfl)
    (fun pre W => RLI w pj p gen bv bs base log G A c b pre W)
    (fun cd xs W => cd = .exit 0 ∧ ∃ pre x, xs = pre ++ [x] ∧ RLI w pj p gen bv bs base log G A c b pre W ∧ x.1.gen ≠ gen) ?hI ?hIx HI0.out
    (AxF w A c (fun (x : FrOf b) bx => #[.pointer (some ⟨pj, 0, none⟩), .slice A b.length c, .pointer (some ⟨w.heap.size, 0, none⟩), undef, .int .i64 0, .pointer (some ⟨w.heap.size + 1, 0, none⟩), .pointer (some ⟨bx, 0, none⟩), .slice A b.length c, .func (.func 91) #[] #[.pointer (some ⟨w.heap.size + 1 + 1, 0, none⟩)], .agg #[.int .u32 (x.1.gen : Nat), sliced A (x.1.start + 12) x.1.stop c 1, .int .i64 (x.1.stop : Nat)], undef, undef, undef, undef, undef, undef, undef, undef, undef, undef, undef, undef, undef, undef, undef, undef, undef, undef, undef, undef, undef, undef])) ?hAx ?assign ?body ?done ?stop
  case hKb =>
    intro W l o o' hl hget hcl hwl
    exact ⟨by simp, fun k hk => World.putObj_heap_other (by have := HRK.out k hk; omega)⟩
  case hI =>
    intro pre X Y row hs hg hr
    exact hs.walk HG.out hg (fun r e => ⟨by have := (hr r e).1; omega, (hr r e).2⟩)
  case hIx =>
    rintro cd xs X Y row ⟨h1, pre, x, h2, h3, h4⟩ hg hr
    exact ⟨h1, pre, x, h2, h3.walk HG.out hg (fun r e => ⟨by have := (hr r e).1; omega, (hr r e).2⟩), h4⟩
  case hAx =>
    rintro x a' _ X Y row ⟨bx, h1, h2, h3⟩ hg hr
    refine ⟨bx, h1, h2, (hg.block bx (lt_of_block h3) (fun e => ?_)).trans h3⟩
    obtain ⟨o, ho, hc⟩ := (hr bx e.symm).2
    rw [h3] at ho
    cases ho
    cases hc
  case assign =>
    intro l pre x W K hIW hK
    obtain ⟨A5, c5, e5⟩ := sliced_form A (x.1.start + 12) x.1.stop c
    have hfin := hK { tmps := #[.pointer (some ⟨pj, 0, none⟩), .slice A b.length c, .pointer (some ⟨w.heap.size, 0, none⟩), undef, .int .i64 0, .pointer (some ⟨w.heap.size + 1, 0, none⟩), .pointer (some ⟨W.heap.size, 0, none⟩), .slice A b.length c, .func (.func 91) #[] #[.pointer (some ⟨w.heap.size + 1 + 1, 0, none⟩)], .agg #[.int .u32 (x.1.gen : Nat), .slice A5 (x.1.stop - (x.1.start + 12)) c5, .int .i64 (x.1.stop : Nat)], undef, undef, undef, undef, undef, undef, undef, undef, undef, undef, undef, undef, undef, undef, undef, undef, undef, undef, undef, undef, undef, undef], defers := [] } (W.alloc (.cells #[.int .u32 (x.1.gen : Nat), .slice A5 (x.1.stop - (x.1.start + 12)) c5, .int .i64 (x.1.stop : Nat)] 129)) ⟨by simp, fun k o _ hk _ => (Below.heap_alloc _ _ _ (lt_of_block hk)).trans hk⟩ (KpS.below (box_below W _) (fun k hk => by have := HRK.out k hk; have := hIW.size; omega)) (hIW.go (box_below W _)) ⟨W.heap.size, hIW.size, by dsimp only; rw [e5], by rw [e5]; exact heap_alloc_new W _⟩
    have HF := Lib.hid hfin
    clear hK hfin
    dsimp only [encFr]
    rw [e5]
    clear e5
    gi_wp2
    exact HF.out
  case body =>
    rintro l pre x a' W hl0 hloop hIW ⟨bx, hbx, rfl, hxb⟩ hlen
    obtain ⟨hx1, hx2, hx3, hx4, hx5, hx6⟩ := frAt_some x.2
    have hzW := hIW.size
    have hsb : Seg W W.heap.size (.slice A b.length c) (byteCells b) := (HBS.out.keep (S' := fun k => k < w.heap.size) fun k hk => ⟨hk.1, hIW.kept.block k hk.1 hk.2⟩).seg fun k hk => by omega
    obtain ⟨-, A5, c5, e5, s5⟩ := seg_mid hsb (x.1.start + 12) x.1.stop (by omega) (by omega)
    rw [show x.1.stop - (x.1.start + 12) = x.1.pay.length by omega] at e5 s5
    rw [← hx4] at s5
    rw [e5] at hxb
    dsimp only
    rw [e5]
    obtain ⟨x0, xx1, xx2⟩ := three_cellsJ hxb
    obtain ⟨p0, -⟩ := one_cellJ hIW.c0
    obtain ⟨lv1, us1, G1, hjv, hG1⟩ := hIW.jv
    obtain ⟨⟨j0, j1, j2, j3⟩, jf1, jf2, jf3⟩ := hjv.cells
    have HS5 := Lib.hid s5; have HJV := Lib.hid hjv; have HI := Lib.hid hIW; have HXB := Lib.hid hxb; have HX2 := Lib.hid hx2
    clear hsb e5 s5 hjv hxb hx1 hx2 hx4 hIW
    by_cases hg : x.1.gen = gen
    · have hne : ((x.1.gen : Int) != (gen : Int)) = false := by simp [hg]
      gi_wp2
      refine wpIn_round_quiet (by kernel_rfl) (by kernel_rfl) (by kernel_rfl) ?_
      repeat (any_goals (first | go_big_quiet_step (fail) | quiet_step (fail)))
      all_goals (refine wpQuiet_nil ?_; intro _ hw'; obtain ⟨nq, hw''⟩ := hw'; subst hw'')
      gi_wp2
      obtain ⟨X, hX⟩ : ∃ X, X = W.drewN nq := ⟨_, rfl⟩
      have bWX : Below W.heap.size W X := by rw [hX]; exact below_drewN (Below.refl _ W) nq
      rw [← hX]
      have HBX := Lib.hid bWX
      have p0X : X.cell? ⟨w.heap.size, 0, none⟩ = some (.pointer (some ⟨pj, 0, none⟩)) := by rw [hX]; exact p0
      have xxX : X.cell? ⟨bx, 1, none⟩ = some (.slice A5 x.1.pay.length c5) := by rw [hX]; exact xx1
      have j3X : X.cell? ⟨pj, 3, none⟩ = some lv1 := by rw [hX]; exact j3
      have HS0 : Hid (X.drew.cell? ⟨w.heap.size, 0, none⟩ = some (.pointer (some ⟨pj, 0, none⟩)) ∧ X.drew.cell? ⟨bx, 1, none⟩ = some (.slice A5 x.1.pay.length c5)) := Lib.hid ⟨p0X, xxX⟩
      have HCL : Hid (Calls Tryz.prog 44 #[.slice A5 x.1.pay.length c5] X.drew fun e w2 => ∃ A2 c2, e = .returned (.slice A2 x.1.pay.length c2) ∧ Hid (Par.Own w2 X.heap.size 5 (.slice A2 x.1.pay.length c2) (byteCells x.1.pay)) ∧ Hid (Below X.heap.size X w2) ∧ (w2.cell? ⟨w.heap.size, 0, none⟩ = some (.pointer (some ⟨pj, 0, none⟩)) ∧ w2.cell? ⟨bx, 1, none⟩ = some (.slice A5 x.1.pay.length c5)) ∧ w2.cell? ⟨pj, 3, none⟩ = some lv1) := Lib.hid (by
        refine (clone_seg _ x.1.pay X.drew ((HS5.out.below bWX).more bWX.size) (by omega)).mono ?_
        rintro e w2 ⟨u2, rfl, hu2, hb2⟩
        obtain ⟨A2, c2, hf2⟩ := hu2.form
        rw [byteCells_length] at hf2
        subst hf2
        have hb3 : Below X.heap.size X w2 := ((Below.refl _ X).drew).trans hb2
        exact ⟨A2, c2, rfl, Lib.hid hu2, Lib.hid hb3, ⟨(hb3.cell (p := ⟨w.heap.size, 0, none⟩) (World.block_lt_of_cell? _ _ p0X)).trans p0X, (hb3.cell (p := ⟨bx, 1, none⟩) (World.block_lt_of_cell? _ _ xxX)).trans xxX⟩, (hb3.cell (p := ⟨pj, 3, none⟩) (World.block_lt_of_cell? _ _ j3X)).trans j3X⟩)
      obtain ⟨NL, hNL⟩ : ∃ NL, NL = (log ++ pays pre).length := ⟨_, rfl⟩
      have HLEN : Hid (us1.length = NL) := Lib.hid (by rw [hNL]; have := HJV.out.lown.1; simpa using this)
      have HFL : Hid (NL ≤ 3000000) := Lib.hid (by rw [hNL]; have := frs_length b; simp [pays]; omega)
      have HNL := Lib.hid hNL
      have HN0 : Hid (lv1.ownBlock ≠ some w.heap.size) := Lib.hid fun e => by rcases hG1 _ (HJV.out.gl _ e).1 with h2 | h2; (have := HG.out _ h2; omega); omega
      have HN2 : Hid (lv1.ownBlock ≠ some (w.heap.size + 1)) := Lib.hid fun e => by rcases hG1 _ (HJV.out.gl _ e).1 with h2 | h2; (have := HG.out _ h2; omega); omega
      have HN1 : Hid (lv1.ownBlock ≠ some bx) := Lib.hid (row_not HJV.out.lown HXB.out (by decide))
      have HN3 : Hid (lv1.ownBlock ≠ some pj) := Lib.hid fun e => (HJV.out.gl _ e).2.1 rfl
      have HNB : Hid (bx ≠ pj) := Lib.hid fun e => by
        have h1 := HXB.out
        have h2 := HJV.out.head
        rw [e, h2] at h1
        injection h1 with h1
        injection h1 with h1 h3 h4
        exact absurd h3 (by decide)
      have HNA : Hid (w.heap.size ≠ pj) := Lib.hid fun e => by rcases hG1 _ HJV.out.gpj with h2 | h2; (have := HG.out _ h2; omega); omega
      have HNC : Hid (w.heap.size + 1 ≠ pj) := Lib.hid fun e => by rcases hG1 _ HJV.out.gpj with h2 | h2; (have := HG.out _ h2; omega); omega
      have HS0' := Lib.hid hs0
      obtain ⟨A1, c1, hlvf⟩ := Own.formR HJV.out.lown
      rw [← hNL] at hlvf
      have HGX := Lib.hid hg
      clear hNL hg
      subst hlvf
      clear hX bWX hne p0 x0 xx1 xx2 j0 j1 j2 j3 jf1 jf2 jf3
      refine wpIn_round_held (S := fun w' => w'.cell? ⟨w.heap.size, 0, none⟩ = some (.pointer (some ⟨pj, 0, none⟩)) ∧ w'.cell? ⟨bx, 1, none⟩ = some (.slice A5 x.1.pay.length c5)) (by kernel_rfl) (by kernel_rfl) (by rintro ⟨_, _, h⟩; exact h) ?_
      refine wpAnyH_take (i := 0) (v := .pointer (some ⟨pj, 0, none⟩)) rfl (by kernel_rfl) (by kernel_rfl) (by kernel_rfl) (fun _ _ _ h => h) (Or.inl ⟨by rfl, fun w' hS => by obtain ⟨s0, s1⟩ := hS; go_simp⟩) HS0.out ?_
      refine wpAnyH_take (i := 1) (v := .pointer (some ⟨pj, 0, none⟩)) rfl (by kernel_rfl) (by kernel_rfl) (by kernel_rfl) (fun _ _ _ h => h) (Or.inl ⟨by rfl, fun w' hS => by obtain ⟨s0, s1⟩ := hS; go_simp⟩) HS0.out ?_
      refine wpAnyH_take (i := 2) (v := .pointer (some ⟨pj, 0, none⟩)) rfl (by kernel_rfl) (by kernel_rfl) (by kernel_rfl) (fun _ _ _ h => h) (Or.inl ⟨by rfl, fun w' hS => by obtain ⟨s0, s1⟩ := hS; go_simp⟩) HS0.out ?_
      refine wpAnyH_take (i := 3) (v := .pointer (some ⟨pj, 3, none⟩)) rfl (by kernel_rfl) (by kernel_rfl) (by kernel_rfl) (fun _ _ _ h => h) (Or.inl ⟨by rfl, fun w' hS => by obtain ⟨s0, s1⟩ := hS; go_simp⟩) HS0.out ?_
      refine wpAnyH_take (i := 5) (v := .pointer (some ⟨bx, 1, none⟩)) rfl (by kernel_rfl) (by kernel_rfl) (by kernel_rfl) (fun _ _ _ h => h) (Or.inl ⟨by rfl, fun w' hS => by obtain ⟨s0, s1⟩ := hS; go_simp⟩) HS0.out ?_
      refine wpAnyH_take (i := 6) (v := .slice A5 x.1.pay.length c5) rfl (by kernel_rfl) (by kernel_rfl) (by kernel_rfl) (fun _ _ _ h => h) (Or.inl ⟨by rfl, fun w' hS => by obtain ⟨s0, s1⟩ := hS; go_simp⟩) HS0.out ?_
      refine wpAnyH_all (rs := [4, 7]) (by kernel_rfl) (by simp) ?_
      intro i hi
      simp only [List.mem_cons, List.not_mem_nil, or_false] at hi
      rcases hi with rfl | rfl
      · refine wpOp_of rfl rfl (fun K hK => ?_)
        go_simp
        refine hK _ _ ⟨HS0.out, ?_⟩
        clear hK K
        refine wpAnyH_all (rs := [7]) (by kernel_rfl) (by simp) ?_
        intro i hi
        simp only [List.mem_cons, List.not_mem_nil, or_false] at hi
        subst hi
        refine wpOp_of rfl rfl (fun K hK => ?_)
        go_simp
        refine HCL.out.mono ?_
        rintro e w2 ⟨A2, c2, rfl, HU2, HB2, ⟨q0, q1⟩, q3⟩
        refine hK _ _ ⟨⟨q0, q1⟩, ?_⟩
        clear hK K
        have q0' := Lib.cell?_alloc_some (.cells #[.slice A2 x.1.pay.length c2] 22) q0
        have q1' := Lib.cell?_alloc_some (.cells #[.slice A2 x.1.pay.length c2] 22) q1
        have q3' := Lib.cell?_alloc_some (.cells #[.slice A2 x.1.pay.length c2] 22) q3
        have B4 : Hid (Below W.heap.size W (w2.alloc (.cells #[.slice A2 x.1.pay.length c2] 22))) := Lib.hid ((HBX.out.trans (HB2.out.mono HBX.out.size)).alloc (by have := HBX.out.size; have := HB2.out.size; omega) _)
        have hown4 : Par.Own (w2.alloc (.cells #[.slice A2 x.1.pay.length c2] 22)) 0 22 (.slice A1 NL c1) us1 := by
          have := (HJV.out.go B4.out).lown
          rw [← HNL.out] at this
          unfold Par.Own
          rw [HLEN.out]
          exact this
        have HO4 := Lib.hid hown4
        clear hown4
        refine wpAnyH_all (rs := [8]) (by kernel_rfl) (by simp) ?_
        intro i hi
        simp only [List.mem_cons, List.not_mem_nil, or_false] at hi
        subst hi
        refine wpOp_of rfl rfl (fun K hK => ?_)
        go_simp
        refine hK _ _ ⟨⟨q0', q1'⟩, ?_⟩
        clear hK K
        refine wpAnyH_all (rs := [9]) (by kernel_rfl) (by simp) ?_
        intro i hi
        simp only [List.mem_cons, List.not_mem_nil, or_false] at hi
        subst hi
        refine wpOp_of rfl rfl (fun K hK => ?_)
        refine wp_app _ (.tmp 21) (.tmp 25) 38 rfl 0 22 _ rowE (.slice A1 NL c1) us1 rfl HO4.out _ _ [.slice A2 x.1.pay.length c2] rfl (Seg.new w2 22 #[.slice A2 x.1.pay.length c2] [.slice A2 x.1.pay.length c2] rfl (by simp [maxLen])) (fun y hy => by simp at hy; subst hy; rfl) (by have := HLEN.out; have := HFL.out; simp only [List.length_cons, List.length_nil]; omega) (Nat.zero_le _) (fun v3 w5 h2 h3 h4 => ?_)
        have g0 := grown_cell h3 q0' (fun e => HN0.out e)
        have g1 := grown_cell h3 q1' (fun e => HN1.out e)
        have g3 := grown_cell h3 q3' (fun e => HN3.out e)
        have HS5' : Hid (w5.cell? ⟨w.heap.size, 0, none⟩ = some (.pointer (some ⟨pj, 0, none⟩)) ∧ w5.cell? ⟨bx, 1, none⟩ = some (.slice A5 x.1.pay.length c5)) := Lib.hid ⟨g0, g1⟩
        refine hK _ _ ⟨HS5'.out, ?_⟩
        clear hK K
        obtain ⟨A3, c3, hf3⟩ := h2.form
        have hr3 : w5.ownsRow 0 22 1 v3 (us1.length + 1) (us1 ++ [.slice A2 x.1.pay.length c2]) := by have := h2; unfold Par.Own at this; rw [List.length_append] at this; exact this
        have HNX := Lib.hid (HI.out.next HG.out HJV.out hG1 HBX.out HB2.out x HGX.out HU2.out _ hr3 h3 (by simpa using h4))
        have hh3 := h3.block pj (by have := HJV.out.lt pj HJV.out.gpj; have := B4.out.size; omega) (fun e => HN3.out e.symm)
        have hj5 : w5.heap[pj]? = some (.cells #[.pointer (some ⟨p, 0, none⟩), .int .u32 (gen : Nat), bv, .slice A1 NL c1] 94 (0, 0)) := hh3.trans ((B4.out.block pj (HJV.out.lt pj HJV.out.gpj)).trans HJV.out.head)
        obtain ⟨-, -, -, jf3⟩ := four_cells hj5
        have hxb5 : w5.heap[bx]? = some (.cells #[.int .u32 (x.1.gen : Nat), .slice A5 x.1.pay.length c5, .int .i64 (x.1.stop : Nat)] 129 (0, 0)) := (h3.block bx (by have := lt_of_block HXB.out; have := B4.out.size; omega) (fun e => HN1.out e.symm)).trans ((B4.out.block bx (lt_of_block HXB.out)).trans HXB.out)
        have hc15 : w5.heap[w.heap.size + 1]? = some (.cells #[.int .i64 (endOf pre : Nat)] 3 (0, 0)) := (h3.block _ (by have := HI.out.size; have := B4.out.size; omega) (fun e => HN2.out e.symm)).trans ((B4.out.block _ (by have := HI.out.size; omega)).trans HI.out.c1)
        have HXF := Lib.hid ((setCell_block (a := ⟨pj, 3, none⟩) (x := v3) HNB.out).trans hxb5)
        have HCF := Lib.hid ((setCell_block (a := ⟨pj, 3, none⟩) (x := v3) HNC.out).trans hc15)
        clear h2 h3 h4 hr3 hh3 hj5 hxb5 hc15 HO4 HU2 q0 q1 q3 q0' q1' q3'
        have hf3' : v3 = .slice A3 (us1.length + 1) c3 := by rw [hf3, List.length_append]; rfl
        clear hf3
        subst hf3'
        refine wpAnyH_take (i := 10) (v := .pointer (some ⟨pj, 0, none⟩)) rfl (by kernel_rfl) (by kernel_rfl) (by kernel_rfl) (fun _ _ _ h => h) (Or.inl ⟨by rfl, fun w' hS => by obtain ⟨s0, s1⟩ := hS; go_simp⟩) HS5'.out ?_
        refine wpAnyH_take (i := 11) (v := .pointer (some ⟨pj, 3, none⟩)) rfl (by kernel_rfl) (by kernel_rfl) (by kernel_rfl) (fun _ _ _ h => h) (Or.inl ⟨by rfl, fun w' hS => by obtain ⟨s0, s1⟩ := hS; go_simp⟩) HS5'.out ?_
        refine wpAnyH_all (rs := [12]) (by kernel_rfl) (by simp) ?_
        intro i hi
        simp only [List.mem_cons, List.not_mem_nil, or_false] at hi
        subst hi
        refine wpOp_of rfl rfl (fun K hK => ?_)
        go_simp
        refine hK _ _ ⟨⟨(World.cell?_setCell_other _ _ _ _ (fun e => HNA.out (by injection e with e1; exact e1.symm))).trans HS5'.out.1, (World.cell?_setCell_other _ _ _ _ (fun e => HNB.out (by injection e with e1; exact e1.symm))).trans HS5'.out.2⟩, ?_⟩
        clear hK K
        refine wpAnyH_done (by kernel_rfl) ?_ _
        obtain ⟨-, -, f2⟩ := three_cellsJ HXF.out
        obtain ⟨f5, f6⟩ := one_cellJ HCF.out
        clear g0 g1 g3 jf3
        gi_wp2
        have := HNX.out
        rw [← HS0'.out] at this
        exact this
      · refine wpOp_of rfl rfl (fun K hK => ?_)
        go_simp
        refine HCL.out.mono ?_
        rintro e w2 ⟨A2, c2, rfl, HU2, HB2, ⟨q0, q1⟩, q3⟩
        refine hK _ _ ⟨⟨q0, q1⟩, ?_⟩
        clear hK K
        have q0' := Lib.cell?_alloc_some (.cells #[.slice A2 x.1.pay.length c2] 22) q0
        have q1' := Lib.cell?_alloc_some (.cells #[.slice A2 x.1.pay.length c2] 22) q1
        have q3' := Lib.cell?_alloc_some (.cells #[.slice A2 x.1.pay.length c2] 22) q3
        have B4 : Hid (Below W.heap.size W (w2.alloc (.cells #[.slice A2 x.1.pay.length c2] 22))) := Lib.hid ((HBX.out.trans (HB2.out.mono HBX.out.size)).alloc (by have := HBX.out.size; have := HB2.out.size; omega) _)
        have hown4 : Par.Own (w2.alloc (.cells #[.slice A2 x.1.pay.length c2] 22)) 0 22 (.slice A1 NL c1) us1 := by
          have := (HJV.out.go B4.out).lown
          rw [← HNL.out] at this
          unfold Par.Own
          rw [HLEN.out]
          exact this
        have HO4 := Lib.hid hown4
        clear hown4
        refine wpAnyH_all (rs := [4, 8]) (by kernel_rfl) (by simp) ?_
        intro i hi
        simp only [List.mem_cons, List.not_mem_nil, or_false] at hi
        rcases hi with rfl | rfl
        · refine wpOp_of rfl rfl (fun K hK => ?_)
          go_simp
          refine hK _ _ ⟨⟨q0, q1⟩, ?_⟩
          clear hK K
          refine wpAnyH_all (rs := [8]) (by kernel_rfl) (by simp) ?_
          intro i hi
          simp only [List.mem_cons, List.not_mem_nil, or_false] at hi
          subst hi
          refine wpOp_of rfl rfl (fun K hK => ?_)
          go_simp
          refine hK _ _ ⟨⟨q0', q1'⟩, ?_⟩
          clear hK K
          refine wpAnyH_all (rs := [9]) (by kernel_rfl) (by simp) ?_
          intro i hi
          simp only [List.mem_cons, List.not_mem_nil, or_false] at hi
          subst hi
          refine wpOp_of rfl rfl (fun K hK => ?_)
          refine wp_app _ (.tmp 21) (.tmp 25) 38 rfl 0 22 _ rowE (.slice A1 NL c1) us1 rfl HO4.out _ _ [.slice A2 x.1.pay.length c2] rfl (Seg.new w2 22 #[.slice A2 x.1.pay.length c2] [.slice A2 x.1.pay.length c2] rfl (by simp [maxLen])) (fun y hy => by simp at hy; subst hy; rfl) (by have := HLEN.out; have := HFL.out; simp only [List.length_cons, List.length_nil]; omega) (Nat.zero_le _) (fun v3 w5 h2 h3 h4 => ?_)
          have g0 := grown_cell h3 q0' (fun e => HN0.out e)
          have g1 := grown_cell h3 q1' (fun e => HN1.out e)
          have g3 := grown_cell h3 q3' (fun e => HN3.out e)
          have HS5' : Hid (w5.cell? ⟨w.heap.size, 0, none⟩ = some (.pointer (some ⟨pj, 0, none⟩)) ∧ w5.cell? ⟨bx, 1, none⟩ = some (.slice A5 x.1.pay.length c5)) := Lib.hid ⟨g0, g1⟩
          refine hK _ _ ⟨HS5'.out, ?_⟩
          clear hK K
          obtain ⟨A3, c3, hf3⟩ := h2.form
          have hr3 : w5.ownsRow 0 22 1 v3 (us1.length + 1) (us1 ++ [.slice A2 x.1.pay.length c2]) := by have := h2; unfold Par.Own at this; rw [List.length_append] at this; exact this
          have HNX := Lib.hid (HI.out.next HG.out HJV.out hG1 HBX.out HB2.out x HGX.out HU2.out _ hr3 h3 (by simpa using h4))
          have hh3 := h3.block pj (by have := HJV.out.lt pj HJV.out.gpj; have := B4.out.size; omega) (fun e => HN3.out e.symm)
          have hj5 : w5.heap[pj]? = some (.cells #[.pointer (some ⟨p, 0, none⟩), .int .u32 (gen : Nat), bv, .slice A1 NL c1] 94 (0, 0)) := hh3.trans ((B4.out.block pj (HJV.out.lt pj HJV.out.gpj)).trans HJV.out.head)
          obtain ⟨-, -, -, jf3⟩ := four_cells hj5
          have hxb5 : w5.heap[bx]? = some (.cells #[.int .u32 (x.1.gen : Nat), .slice A5 x.1.pay.length c5, .int .i64 (x.1.stop : Nat)] 129 (0, 0)) := (h3.block bx (by have := lt_of_block HXB.out; have := B4.out.size; omega) (fun e => HN1.out e.symm)).trans ((B4.out.block bx (lt_of_block HXB.out)).trans HXB.out)
          have hc15 : w5.heap[w.heap.size + 1]? = some (.cells #[.int .i64 (endOf pre : Nat)] 3 (0, 0)) := (h3.block _ (by have := HI.out.size; have := B4.out.size; omega) (fun e => HN2.out e.symm)).trans ((B4.out.block _ (by have := HI.out.size; omega)).trans HI.out.c1)
          have HXF := Lib.hid ((setCell_block (a := ⟨pj, 3, none⟩) (x := v3) HNB.out).trans hxb5)
          have HCF := Lib.hid ((setCell_block (a := ⟨pj, 3, none⟩) (x := v3) HNC.out).trans hc15)
          clear h2 h3 h4 hr3 hh3 hj5 hxb5 hc15 HO4 HU2 q0 q1 q3 q0' q1' q3'
          have hf3' : v3 = .slice A3 (us1.length + 1) c3 := by rw [hf3, List.length_append]; rfl
          clear hf3
          subst hf3'
          refine wpAnyH_take (i := 10) (v := .pointer (some ⟨pj, 0, none⟩)) rfl (by kernel_rfl) (by kernel_rfl) (by kernel_rfl) (fun _ _ _ h => h) (Or.inl ⟨by rfl, fun w' hS => by obtain ⟨s0, s1⟩ := hS; go_simp⟩) HS5'.out ?_
          refine wpAnyH_take (i := 11) (v := .pointer (some ⟨pj, 3, none⟩)) rfl (by kernel_rfl) (by kernel_rfl) (by kernel_rfl) (fun _ _ _ h => h) (Or.inl ⟨by rfl, fun w' hS => by obtain ⟨s0, s1⟩ := hS; go_simp⟩) HS5'.out ?_
          refine wpAnyH_all (rs := [12]) (by kernel_rfl) (by simp) ?_
          intro i hi
          simp only [List.mem_cons, List.not_mem_nil, or_false] at hi
          subst hi
          refine wpOp_of rfl rfl (fun K hK => ?_)
          go_simp
          refine hK _ _ ⟨⟨(World.cell?_setCell_other _ _ _ _ (fun e => HNA.out (by injection e with e1; exact e1.symm))).trans HS5'.out.1, (World.cell?_setCell_other _ _ _ _ (fun e => HNB.out (by injection e with e1; exact e1.symm))).trans HS5'.out.2⟩, ?_⟩
          clear hK K
          refine wpAnyH_done (by kernel_rfl) ?_ _
          obtain ⟨-, -, f2⟩ := three_cellsJ HXF.out
          obtain ⟨f5, f6⟩ := one_cellJ HCF.out
          clear g0 g1 g3 jf3
          gi_wp2
          have := HNX.out
          rw [← HS0'.out] at this
          exact this
        · refine wpOp_of rfl rfl (fun K hK => ?_)
          go_simp
          refine hK _ _ ⟨⟨q0', q1'⟩, ?_⟩
          clear hK K
          refine wpAnyH_all (rs := [4]) (by kernel_rfl) (by simp) ?_
          intro i hi
          simp only [List.mem_cons, List.not_mem_nil, or_false] at hi
          subst hi
          refine wpOp_of rfl rfl (fun K hK => ?_)
          go_simp
          refine hK _ _ ⟨⟨q0', q1'⟩, ?_⟩
          clear hK K
          refine wpAnyH_all (rs := [9]) (by kernel_rfl) (by simp) ?_
          intro i hi
          simp only [List.mem_cons, List.not_mem_nil, or_false] at hi
          subst hi
          refine wpOp_of rfl rfl (fun K hK => ?_)
          refine wp_app _ (.tmp 21) (.tmp 25) 38 rfl 0 22 _ rowE (.slice A1 NL c1) us1 rfl HO4.out _ _ [.slice A2 x.1.pay.length c2] rfl (Seg.new w2 22 #[.slice A2 x.1.pay.length c2] [.slice A2 x.1.pay.length c2] rfl (by simp [maxLen])) (fun y hy => by simp at hy; subst hy; rfl) (by have := HLEN.out; have := HFL.out; simp only [List.length_cons, List.length_nil]; omega) (Nat.zero_le _) (fun v3 w5 h2 h3 h4 => ?_)
          have g0 := grown_cell h3 q0' (fun e => HN0.out e)
          have g1 := grown_cell h3 q1' (fun e => HN1.out e)
          have g3 := grown_cell h3 q3' (fun e => HN3.out e)
          have HS5' : Hid (w5.cell? ⟨w.heap.size, 0, none⟩ = some (.pointer (some ⟨pj, 0, none⟩)) ∧ w5.cell? ⟨bx, 1, none⟩ = some (.slice A5 x.1.pay.length c5)) := Lib.hid ⟨g0, g1⟩
          refine hK _ _ ⟨HS5'.out, ?_⟩
          clear hK K
          obtain ⟨A3, c3, hf3⟩ := h2.form
          have hr3 : w5.ownsRow 0 22 1 v3 (us1.length + 1) (us1 ++ [.slice A2 x.1.pay.length c2]) := by have := h2; unfold Par.Own at this; rw [List.length_append] at this; exact this
          have HNX := Lib.hid (HI.out.next HG.out HJV.out hG1 HBX.out HB2.out x HGX.out HU2.out _ hr3 h3 (by simpa using h4))
          have hh3 := h3.block pj (by have := HJV.out.lt pj HJV.out.gpj; have := B4.out.size; omega) (fun e => HN3.out e.symm)
          have hj5 : w5.heap[pj]? = some (.cells #[.pointer (some ⟨p, 0, none⟩), .int .u32 (gen : Nat), bv, .slice A1 NL c1] 94 (0, 0)) := hh3.trans ((B4.out.block pj (HJV.out.lt pj HJV.out.gpj)).trans HJV.out.head)
          obtain ⟨-, -, -, jf3⟩ := four_cells hj5
          have hxb5 : w5.heap[bx]? = some (.cells #[.int .u32 (x.1.gen : Nat), .slice A5 x.1.pay.length c5, .int .i64 (x.1.stop : Nat)] 129 (0, 0)) := (h3.block bx (by have := lt_of_block HXB.out; have := B4.out.size; omega) (fun e => HN1.out e.symm)).trans ((B4.out.block bx (lt_of_block HXB.out)).trans HXB.out)
          have hc15 : w5.heap[w.heap.size + 1]? = some (.cells #[.int .i64 (endOf pre : Nat)] 3 (0, 0)) := (h3.block _ (by have := HI.out.size; have := B4.out.size; omega) (fun e => HN2.out e.symm)).trans ((B4.out.block _ (by have := HI.out.size; omega)).trans HI.out.c1)
          have HXF := Lib.hid ((setCell_block (a := ⟨pj, 3, none⟩) (x := v3) HNB.out).trans hxb5)
          have HCF := Lib.hid ((setCell_block (a := ⟨pj, 3, none⟩) (x := v3) HNC.out).trans hc15)
          clear h2 h3 h4 hr3 hh3 hj5 hxb5 hc15 HO4 HU2 q0 q1 q3 q0' q1' q3'
          have hf3' : v3 = .slice A3 (us1.length + 1) c3 := by rw [hf3, List.length_append]; rfl
          clear hf3
          subst hf3'
          refine wpAnyH_take (i := 10) (v := .pointer (some ⟨pj, 0, none⟩)) rfl (by kernel_rfl) (by kernel_rfl) (by kernel_rfl) (fun _ _ _ h => h) (Or.inl ⟨by rfl, fun w' hS => by obtain ⟨s0, s1⟩ := hS; go_simp⟩) HS5'.out ?_
          refine wpAnyH_take (i := 11) (v := .pointer (some ⟨pj, 3, none⟩)) rfl (by kernel_rfl) (by kernel_rfl) (by kernel_rfl) (fun _ _ _ h => h) (Or.inl ⟨by rfl, fun w' hS => by obtain ⟨s0, s1⟩ := hS; go_simp⟩) HS5'.out ?_
          refine wpAnyH_all (rs := [12]) (by kernel_rfl) (by simp) ?_
          intro i hi
          simp only [List.mem_cons, List.not_mem_nil, or_false] at hi
          subst hi
          refine wpOp_of rfl rfl (fun K hK => ?_)
          go_simp
          refine hK _ _ ⟨⟨(World.cell?_setCell_other _ _ _ _ (fun e => HNA.out (by injection e with e1; exact e1.symm))).trans HS5'.out.1, (World.cell?_setCell_other _ _ _ _ (fun e => HNB.out (by injection e with e1; exact e1.symm))).trans HS5'.out.2⟩, ?_⟩
          clear hK K
          refine wpAnyH_done (by kernel_rfl) ?_ _
          obtain ⟨-, -, f2⟩ := three_cellsJ HXF.out
          obtain ⟨f5, f6⟩ := one_cellJ HCF.out
          clear g0 g1 g3 jf3
          gi_wp2
          have := HNX.out
          rw [← HS0'.out] at this
          exact this
    · have hne : ((x.1.gen : Int) != (gen : Int)) = true := by simp; omega
      gi_wp2
      refine wpIn_round_quiet (by kernel_rfl) (by kernel_rfl) (by kernel_rfl) ?_
      repeat (any_goals (first | go_big_quiet_step (fail) | quiet_step (fail)))
      all_goals (refine wpQuiet_nil ?_; intro _ hw'; obtain ⟨nq, hw''⟩ := hw'; subst hw'')
      gi_wp2
      have hb := below_drewN (Below.refl W.heap.size W) nq
      exact ⟨⟨hb.size, fun k o _ hk _ => (hb.block k (lt_of_block hk)).trans hk⟩, rfl, pre, x, rfl, HI.out.go hb, hg⟩
  case done =>
    rintro D ys W hD rfl hIW hK
    have c5 : W.cell? ⟨w.heap.size + 1, 0, none⟩ = some (.int .i64 (endOf (frs b) : Nat)) := by have := hIW.c1; simp [World.cell?, this]
    have HE : Hid (sameGen gen (frs b) = frs b) := Lib.hid (sameGen_all hIW.same)
    have HI := Lib.hid hIW; clear hIW
    gi_wp2
    refine ⟨by simp, .inl ⟨_, _, rfl, run_takeDeferred hK, ?_⟩⟩
    have hY := HI.out.walk HG.out (grownBy_putObj' W D (.deferred none)) (fun r e => by cases e; exact ⟨by omega, _, hK, rfl⟩)
    obtain ⟨lv', us', G', h1, h2⟩ := hY.jv
    refine ⟨_, results_tmp rfl _ _ _, lv', us', G', by rw [HE.out]; rfl, by rw [HE.out]; exact h1, hY.kept, fun k hk => (h2 k hk).imp id (fun h => by omega)⟩
  case stop =>
    rintro D cd xs W hD hSp ⟨rfl, pre, x, rfl, hIW, hx⟩ hK
    have c5 : W.cell? ⟨w.heap.size + 1, 0, none⟩ = some (.int .i64 (endOf pre : Nat)) := by have := hIW.c1; simp [World.cell?, this]
    have HE : Hid (sameGen gen (frs b) = pre) := Lib.hid (sameGen_cut hIW.same hx hSp)
    have HI := Lib.hid hIW; clear hIW hx hSp
    gi_wp2
    refine ⟨by simp, .inl ⟨_, _, rfl, run_takeDeferred hK, ?_⟩⟩
    have hY := HI.out.walk HG.out (grownBy_putObj' W D (.deferred none)) (fun r e => by cases e; exact ⟨by omega, _, hK, rfl⟩)
    obtain ⟨lv', us', G', h1, h2⟩ := hY.jv
    refine ⟨_, results_tmp rfl _ _ _, lv', us', G', by rw [HE.out]; rfl, by rw [HE.out]; exact h1, hY.kept, fun k hk => (h2 k hk).imp id (fun h => by omega)⟩
end Go.Proofs.YtpdelgjfamelfaaGreat
