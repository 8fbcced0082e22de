/- Merged of JL J13 J14 JP. -/
import Derived.Test.YtaalbcfpacpgfaaGreatJC
import Derived.Test.YtaalbcfpacpgfaaGreatJ9
/- JL -/
--  A range over an iterator that tells its caller what lies in memory where it yields (the elements name blocks that the iterator has laid), and is told what the caller keeps.
namespace Go.Par
open Go Go.RowKit
section
variable {F : Fence} {n : Nat} {P : Program} {α : Type}
/-- what abides new blocks. -/
def AbB {β : Type} (J : β → World → Prop) : Prop := ∀ s W W', J s W → Below W.heap.size W W' → J s W'
/-- the iterator: at each yield C tells of the element, and R of the caller's state holds. -/
def SeqTold (F : Fence) (n : Nat) (P : Program) (g : Nat) (lb : Array Value) (encs : α → Array Value) (C : α → World → Prop) (R : World → Prop) (Kp : World → World → Prop) (S Sp : List α → Prop) (N : Nat) (w : World) : Prop :=
  ∀ (l : Nat) (J Jx : List α → World → Prop) (W : World), Below w.heap.size w W → AbB J → AbB Jx → (∀ pre W1, J pre W1 → R W1) →
    (∀ pre x W1, J pre W1 → C x W1 → pre.length < N → YieldAt F (n - 1) P l (encs x) W1 fun e W' => (e = .returned (.bool true) ∧ J (pre ++ [x]) W' ∧ Kp W1 W') ∨ (e = .returned (.bool false) ∧ Jx (pre ++ [x]) W')) →
    J [] W → CallsIn F n P g (#[.func (.yield l) #[] #[]] ++ lb) W fun e W' => (∃ v, e = .returned v) ∧ ((∃ xs, S xs ∧ J xs W') ∨ (∃ pre, Sp pre ∧ Jx pre W'))
/-- the two blocks of the loop's book-keeping. -/
structure Books (q : Nat) (r : Loop) (W : World) : Prop where
  loop : W.heap[q + 1]? = some (.loop r)
  calls : W.heap[q]? = some (.deferred (some []))
theorem Books.put {q : Nat} {r r' : Loop} {W : World} (h : Books q r W) : Books q r' (W.putObj (q + 1) (.loop r')) :=
  ⟨World.putObj_heap_same (Array.getElem?_eq_some_iff.1 h.loop).1, (World.putObj_heap_other (by omega)).trans h.calls⟩
theorem Books.below {q : Nat} {r : Loop} {W W' : World} (h : Books q r W) (hb : Below W.heap.size W W') : Books q r W' :=
  ⟨(hb.block _ (lt_of_block h.loop)).trans h.loop, (hb.block _ (lt_of_block h.calls)).trans h.calls⟩
/-- the body leaves the loop's books as they lie. -/
def KeepB (q : Nat) (W W' : World) : Prop := ∀ r, Books q r W → Books q r W'
/-- what abides a turn of the loop's record. -/
def AbP {β : Type} (q : Nat) (I : β → World → Prop) : Prop := ∀ s W r r', Books q r W → I s W → I s (W.putObj (q + 1) (.loop r'))
def toldPost (q : Nat) (Kp : World → World → Prop) (I : List α → World → Prop) (Ix : Code → List α → World → Prop) (xs : List α) (W : World) : Exit → Act → World → Prop
  | .normal, _, W' => KeepB q W W' ∧ Kp W W' ∧ I xs W'
  | .ret, _, W' => KeepB q W W' ∧ Ix .ret xs W'
  | .exit id, _, W' => KeepB q W W' ∧ Ix (.exit id) xs W'
  | .goto t, _, W' => KeepB q W W' ∧ Ix (.goto t) xs W'
  | .panic _, _, _ => False
  | .outgrown, _, _ => False

theorem wpIn_range_told {g : Operand} {ps : Array Tmp} {assign body : Code} {Q : Exit → Act → World → Prop} {a : Act} {w : World}
    (hro : F.round = none) (h1 : 1 ≤ n) {gf : Nat} {lb : Array Value} (hg : a.eval g = .func (.func gf) #[] lb) (hFg : F.fn gf) (eg : ∀ args w, (callFunc gf args).run P w = .ok (.enter gf args) w)
    {encs : α → Array Value} {C : α → World → Prop} {R : World → Prop} {Kp : World → World → Prop} {S Sp : List α → Prop} {N : Nat} (hseq : SeqTold F (n - 1) P gf lb encs C R Kp S Sp N w)
    (hKt : ∀ {A B C : World}, Kp A B → Kp B C → Kp A C) (hKb : ∀ (W : World) r r', Books w.heap.size r W → Kp W (W.putObj (w.heap.size + 1) (.loop r'))) (hps : ∀ x, (encs x).size = ps.size)
    (I : List α → World → Prop) (Ix : Code → List α → World → Prop) (hI : AbB I) (hIp : AbP w.heap.size I) (hIx : ∀ c, AbB (Ix c)) (hIxp : ∀ c, AbP w.heap.size (Ix c)) (hCp : AbP w.heap.size C) (hIR : ∀ pre W, I pre W → R W) (h0 : I [] w) (a₁ : α → Act)
    (hassign : ∀ (l : Nat) (x : α) (W : World) (K : Act → World → Prop), K (a₁ x) W →
      assign.wpIn (F.inRound l) (n - 1 - 1) P (Exit.then K (fun _ _ _ => False)) { tmps := (ps.zip (encs x)).foldl (fun t (p, v) => t.setIfInBounds p v) a.tmps, defers := [] } W)
    (hbody : ∀ (l : Nat) (pre : List α) (x : α) (W : World), I pre W → C x W → pre.length < N → (∃ r, Books w.heap.size r W) → body.wpIn (F.inRound l) (n - 1 - 1) P (toldPost w.heap.size Kp I Ix (pre ++ [x]) W) (a₁ x) W)
    (hdone : ∀ (xs : List α) (W : World), S xs → I xs W → W.heap[w.heap.size]? = some (.deferred (some [])) → Q .normal { a with defers := { target := .collected w.heap.size, args := #[] } :: a.defers } W)
    (hstop : ∀ (c : Code) (pre : List α) (W : World), Sp pre → Ix c pre W → W.heap[w.heap.size]? = some (.deferred (some [])) → c.wpIn F n P Q { a with defers := { target := .collected w.heap.size, args := #[] } :: a.defers } W) :
    (Code.rangeFunc g ps assign body).wpIn F n P Q a w := by
  refine wpIn_rangeFunc fun fn hfn => ?_
  rw [hro]
  obtain ⟨L, hL⟩ : ∃ L : LoopState → Option Code → Loop, L = fun st pe => { state := st, pending := pe, fn, tmps := a.tmps, params := ps, assign, body, defers := w.heap.size } := ⟨_, rfl⟩
  obtain ⟨q, hq⟩ : ∃ q, q = w.heap.size := ⟨_, rfl⟩
  have hbk : Books q (L .ready none) ((w.alloc (.deferred (some []))).alloc (.loop (L .ready none))) := by
    refine ⟨?_, ?_⟩
    · have := World.alloc_heap_new (w.alloc (.deferred (some []))) (.loop (L .ready none)); rwa [World.size_alloc, ← hq] at this
    · rw [hq]; exact (Below.heap_alloc _ _ _ (by simp)).trans (World.alloc_heap_new w _)
  have hbw : Below w.heap.size w ((w.alloc (.deferred (some []))).alloc (.loop (L .ready none))) := ((Below.refl _ w).alloc (Nat.le_refl _) _).alloc (by simp) _
  have hi0 : I [] ((w.alloc (.deferred (some []))).alloc (.loop (L .ready none))) := hI _ _ _ h0 hbw
  have henter := run_enterLoop_outer (P := P) (w := w) fn a.tmps ps assign body
  rw [← hq] at hIp hCp hbody hKb hdone hstop
  replace hIxp : ∀ c, AbP q (Ix c) := by rw [hq]; exact hIxp
  obtain ⟨W1, hW1⟩ : ∃ W1, W1 = (w.alloc (.deferred (some []))).alloc (.loop (L .ready none)) := ⟨_, rfl⟩
  rw [← hW1] at hbk hbw hi0
  refine ⟨w.heap.size + 1, [{ target := .collected w.heap.size, args := #[] }], W1, { target := .fn (.func gf) lb, args := #[.func (.yield (w.heap.size + 1)) #[] #[]] }, W1, gf, #[.func (.yield (w.heap.size + 1)) #[] #[]] ++ lb, W1, ?_, ?_, ?_, ?_, fun _ => h1, ?_⟩
  · rw [hW1, hL]; exact henter
  · simp only [resolve, hg]
    simp [go_sem]
  · intro f' hf'; simp [Target.leads] at hf'; subst hf'; exact hFg
  · simp [invoke, go_sem, eg]
  rw [← hq]
  refine (hseq (q + 1) (fun pre W => I pre W ∧ Books q (L .ready none) W) (fun pre W => ∃ c, Ix c pre W ∧ Books q (L .done (some c)) W) W1 hbw
    (fun s A B hs hb => ⟨hI s A B hs.1 hb, hs.2.below hb⟩)
    (fun s A B ⟨c, hc, hk⟩ hb => ⟨c, hIx c s A B hc hb, hk.below hb⟩)
    (fun pre W h => hIR pre W h.1) ?_ ⟨hi0, hbk⟩).mono ?_
  · rintro pre x W ⟨hi, hk⟩ hcx hlen
    have hy := run_yield (P := P) (args := encs x) hk.loop (by rw [hL]; exact hps x)
    rw [hL] at hy
    refine ⟨fn, _, assign, body, hy, roundIn_of_wpIn hfn (hassign _ x W _ ?_)⟩
    refine ⟨_, run_beginRound hk.loop (by rw [hL]), ?_⟩
    have hk2 : Books q { L .ready none with state := .busy } (W.putObj (q + 1) (.loop { L .ready none with state := .busy })) := hk.put
    have hkp : Kp W (W.putObj (q + 1) (.loop { L .ready none with state := .busy })) := hKb _ _ _ hk
    have hend : ∀ (jump : Option Code) (W3 : World), KeepB q (W.putObj (q + 1) (.loop { L .ready none with state := .busy })) W3 →
        (Instr.endRound (q + 1) jump).run P W3 = .ok (.bool jump.isNone) (W3.putObj (q + 1) (.loop (L (if jump.isNone then .ready else .done) jump))) ∧ Books q { L .ready none with state := .busy } W3 := fun jump W3 hk3 => by
      have h3 := hk3 _ hk2
      have := run_endRound (P := P) jump h3.loop
      rw [hL] at this h3 ⊢
      exact ⟨this, h3⟩
    refine wpIn_mono (hbody _ pre x _ (hIp _ _ _ _ hk hi) (hCp _ _ _ _ hk hcx) hlen ⟨_, hk2⟩) ?_
    rintro e a3 W3 hp
    cases e with
    | normal =>
      obtain ⟨hr, h3⟩ := hend none W3 hp.1
      exact ⟨_, _, hr, .inl ⟨rfl, ⟨hIp _ _ _ _ h3 hp.2.2, h3.put⟩, hKt (hKt hkp hp.2.1) (hKb _ _ _ h3)⟩⟩
    | ret =>
      obtain ⟨hr, h3⟩ := hend (some .ret) W3 hp.1
      exact ⟨_, _, hr, .inr ⟨rfl, .ret, hIxp _ _ _ _ _ h3 hp.2, h3.put⟩⟩
    | exit id =>
      obtain ⟨hr, h3⟩ := hend (some (.exit id)) W3 hp.1
      exact ⟨_, _, hr, .inr ⟨rfl, .exit id, hIxp _ _ _ _ _ h3 hp.2, h3.put⟩⟩
    | goto t =>
      obtain ⟨hr, h3⟩ := hend (some (.goto t)) W3 hp.1
      exact ⟨_, _, hr, .inr ⟨rfl, .goto t, hIxp _ _ _ _ _ h3 hp.2, h3.put⟩⟩
    | panic ch => exact hp.elim
    | outgrown => exact hp.elim
  · rintro e W2 ⟨⟨v, rfl⟩, (⟨xs, hS, hi, hk⟩ | ⟨pre, hSp, c, hi, hk⟩)⟩
    · have hr := run_endLoop (P := P) hk.loop (by rw [hL]; simp)
      rw [hL] at hr
      exact ⟨none, _, hr, by rw [← hq]; exact hdone xs _ hS (hIp _ _ _ _ hk hi) ((World.putObj_heap_other (by omega)).trans hk.calls)⟩
    · have hr := run_endLoop (P := P) hk.loop (by rw [hL]; simp)
      rw [hL] at hr
      exact ⟨some c, _, hr, by rw [← hq]; exact hstop c pre _ hSp (hIxp _ _ _ _ _ hk hi) ((World.putObj_heap_other (by omega)).trans hk.calls)⟩
end
end Go.Par
/- J13 -/
--  The iterator over the calls by which a base is laid.
namespace Go.Proofs.YtaalbcfpacpgfaaGreat
open Go.RowKit Go.Lib Go.Vfs Go.Par Go.Shelf
set_option linter.unusedVariables false
set_option linter.unusedSimpArgs false
attribute [local go_sem] Oper.semAt_some

/-- blocks of these types lie as they lay. -/
def TyK (W W' : World) : Prop := W.heap.size ≤ W'.heap.size ∧ ∀ (k : Nat) (cs : Array Value) (t : TypeId) (fz : Nat × Nat), W.heap[k]? = some (Obj.cells cs t fz) → (t = 25 ∨ t = 27 ∨ t = 24 ∨ t = 95) → W'.heap[k]? = W.heap[k]?
theorem TyK.t {A B C : World} (h : TyK A B) (k : TyK B C) : TyK A C := ⟨Nat.le_trans h.1 k.1, fun i cs t fz hi ht => by
  have h1 := h.2 i cs t fz hi ht
  exact (k.2 i cs t fz (h1.trans hi) ht).trans h1⟩
theorem TyK.at {W W' : World} (h : TyK W W') {k : Nat} {cs : Array Value} {t : TypeId} (hk : W.heap[k]? = some (.cells cs t (0, 0))) (ht : t = 25 ∨ t = 27 ∨ t = 24 ∨ t = 95) : W'.heap[k]? = some (.cells cs t (0, 0)) := (h.2 k cs t _ hk ht).trans hk
theorem TyK.below {W W' : World} (h : Below W.heap.size W W') : TyK W W' := ⟨h.size, fun k cs t fz hk _ => h.block k (lt_of_block hk)⟩
def encS (bB : Nat) (x : Nat × Nat) : Array Value := match x.1 with
  | 0 => #[.func (.func 137) #[] #[.pointer (some ⟨x.2, 0, none⟩), .pointer (some ⟨bB, 0, none⟩)]]
  | 1 => #[.func (.func 138) #[] #[.pointer (some ⟨x.2, 0, none⟩)]]
  | 2 => #[.func (.func 139) #[] #[.pointer (some ⟨x.2, 0, none⟩)]]
  | _ => #[.func (.func 141) #[] #[.pointer (some ⟨x.2, 0, none⟩)]]
def CS (p : Nat) (x : Nat × Nat) (W : World) : Prop := W.heap[x.2]? = some (.cells #[.pointer (some ⟨p, 0, none⟩)] 25 (0, 0))
def RS (p : Nat) (hl : Bool) (W : World) : Prop := ∃ st F, Fsy W p st F ∧ hasF st.files nLog = hl ∧ st.files.length ≤ 100000 ∧ ∀ f ∈ st.files, f.name.length ≤ 100000
def stepsOf (hl : Bool) : List Nat := if hl then [0, 1, 2, 3] else [0, 1, 2]

set_option maxRecDepth 100000 in
set_option maxHeartbeats 4000000 in
theorem steps_told (w : World) (bj bB pj p : Nat) (V u1 u2 u3 : Value) (hl : Bool) (hj : w.heap[bj]? = some (.cells #[.pointer (some ⟨pj, 0, none⟩)] 27 (0, 0))) (hB : w.heap[bB]? = some (.cells #[V] 24 (0, 0)))
    (hp : w.heap[pj]? = some (.cells #[.pointer (some ⟨p, 0, none⟩), u1, u2, u3] 95 (0, 0))) :
    SeqTold Fence.wide 6 Tryz.prog 136 #[.pointer (some ⟨bj, 0, none⟩), .pointer (some ⟨bB, 0, none⟩)] (encS bB) (CS p) (RS p hl) TyK (fun ys => ys.map (·.1) = stepsOf hl) (fun pre => pre.map (·.1) <+: stepsOf hl) 4 w := by
  intro l J Jx W hW hJ hJx hJR hY h0
  have hjW := (hW.block bj (lt_of_block hj)).trans hj
  have hpW := (hW.block pj (lt_of_block hp)).trans hp
  obtain ⟨q0, -⟩ := one_cellJ hjW
  obtain ⟨⟨r0, -, -, -⟩, -⟩ := four_cells hpW
  clear hW hj hB hp hjW hpW
  have hfH : Fence.wide.fn 41 := trivial
  refine callsIn_of_wp Tryz.func136 rfl trivial ?_ rfl
  simp only [Tryz.ntmps136, List.size_toArray, List.length_cons, List.length_nil, Nat.reduceAdd, Nat.reduceSub, Array.replicate_succ, Array.replicate_zero, List.push_toArray, List.append_toArray, List.nil_append, List.cons_append]
  gi_wp2
  have HC1 : Hid ((W.alloc (.cells #[.pointer (some ⟨p, 0, none⟩)] 25)).heap[W.heap.size]? = some (.cells #[.pointer (some ⟨p, 0, none⟩)] 25 (0, 0))) := Lib.hid (heap_alloc_new W _)
  have HB1 := Lib.hid (box_below W (.cells #[.pointer (some ⟨p, 0, none⟩)] 25))
  have hJ1 := hJ _ _ _ h0 HB1.out
  generalize W.alloc (.cells #[.pointer (some ⟨p, 0, none⟩)] 25) = W1 at *
  obtain ⟨b4, hb4⟩ : ∃ b4, b4 = W.heap.size := ⟨_, rfl⟩
  rw [← hb4] at HC1 ⊢
  clear hb4 q0 r0 h0
  obtain ⟨fn0, tmps0, assign0, body0, hy, hR⟩ := hY [] (0, b4) W1 hJ1 HC1.out (by simp)
  simp only [encS] at hy
  rw [hy, Oper.uponIn_round]
  refine ⟨(fun h => by cases h), ?_⟩
  refine hR.mono ?_
  clear hy hR
  rintro e W2 (⟨rfl, hJ2, hk2⟩ | ⟨rfl, hJx2⟩)
  rotate_left
  · gi_wp2
    refine bodyPost_ret (results_none rfl _ _ _) rfl ?_
    exact ⟨⟨_, rfl⟩, .inr ⟨_, by cases hl <;> simp [stepsOf], hJx2⟩⟩
  have HC2 : Hid (W2.heap[b4]? = some (.cells #[.pointer (some ⟨p, 0, none⟩)] 25 (0, 0))) := Lib.hid (hk2.at HC1.out (.inl rfl))
  obtain ⟨c2, -⟩ := one_cellJ HC2.out
  clear hJ1 hk2 HC1
  gi_wp2
  obtain ⟨W3, hWW⟩ : ∃ X, X = W2 := ⟨_, rfl⟩
  rw [← hWW] at hJ2 HC2 ⊢
  clear hWW c2
  replace hJ3 := hJ2; replace HC3 := HC2
  obtain ⟨fn1, tmps1, assign1, body1, hy, hR⟩ := hY ([] ++ [(0, b4)]) (1, b4) W3 hJ3 HC3.out (by simp)
  simp only [encS] at hy
  rw [hy, Oper.uponIn_round]
  refine ⟨(fun h => by cases h), ?_⟩
  refine hR.mono ?_
  clear hy hR
  rintro e W4 (⟨rfl, hJ4, hk4⟩ | ⟨rfl, hJx2⟩)
  rotate_left
  · gi_wp2
    refine bodyPost_ret (results_none rfl _ _ _) rfl ?_
    exact ⟨⟨_, rfl⟩, .inr ⟨_, by cases hl <;> simp [stepsOf], hJx2⟩⟩
  have HC4 : Hid (W4.heap[b4]? = some (.cells #[.pointer (some ⟨p, 0, none⟩)] 25 (0, 0))) := Lib.hid (hk4.at HC3.out (.inl rfl))
  obtain ⟨c4, -⟩ := one_cellJ HC4.out
  clear hJ3 hk4 HC3
  gi_wp2
  obtain ⟨W5, hWW⟩ : ∃ X, X = W4 := ⟨_, rfl⟩
  rw [← hWW] at hJ4 HC4 ⊢
  clear hWW c4
  replace hJ5 := hJ4; replace HC5 := HC4
  obtain ⟨fn2, tmps2, assign2, body2, hy, hR⟩ := hY (([] ++ [(0, b4)]) ++ [(1, b4)]) (2, b4) W5 hJ5 HC5.out (by simp)
  simp only [encS] at hy
  rw [hy, Oper.uponIn_round]
  refine ⟨(fun h => by cases h), ?_⟩
  refine hR.mono ?_
  clear hy hR
  rintro e W6 (⟨rfl, hJ6, hk6⟩ | ⟨rfl, hJx2⟩)
  rotate_left
  · gi_wp2
    refine bodyPost_ret (results_none rfl _ _ _) rfl ?_
    exact ⟨⟨_, rfl⟩, .inr ⟨_, by cases hl <;> simp [stepsOf], hJx2⟩⟩
  have HC6 : Hid (W6.heap[b4]? = some (.cells #[.pointer (some ⟨p, 0, none⟩)] 25 (0, 0))) := Lib.hid (hk6.at HC5.out (.inl rfl))
  obtain ⟨c6, -⟩ := one_cellJ HC6.out
  clear hJ5 hk6 HC5
  obtain ⟨st, F, hf, hh, hfl, hnl⟩ := hJR _ _ hJ6
  have hhas := has_any W6 p st F hf hfl hnl nLog
  rw [hh] at hhas
  have HHAS := Lib.hid hhas
  clear hhas hf hfl hnl hh
  cases hl
  · gi_wp2_with (gi_at_call 41; refine (callsIn_wide.2 HHAS.out).mono ?_; rintro e W7 ⟨rfl, hb7⟩)
    have hJ7 := hJ _ _ _ hJ6 hb7
    go_end0
    exact ⟨⟨_, rfl⟩, .inl ⟨_, by simp [stepsOf], hJ7⟩⟩
  gi_wp2_with (gi_at_call 41; refine (callsIn_wide.2 HHAS.out).mono ?_; rintro e W7 ⟨rfl, hb7⟩)
  have hJ7 := hJ _ _ _ hJ6 hb7
  have HC7 : Hid (W7.heap[b4]? = some (.cells #[.pointer (some ⟨p, 0, none⟩)] 25 (0, 0))) := Lib.hid ((hb7.block b4 (lt_of_block HC6.out)).trans HC6.out)
  clear hJ6 HC6 hb7 HHAS c6
  obtain ⟨fn3, tmps3, assign3, body3, hy, hR⟩ := hY ((([] ++ [(0, b4)]) ++ [(1, b4)]) ++ [(2, b4)]) (3, b4) W7 hJ7 HC7.out (by simp)
  simp only [encS] at hy
  rw [hy, Oper.uponIn_round]
  refine ⟨(fun h => by cases h), ?_⟩
  refine hR.mono ?_
  clear hy hR
  rintro e W8 (⟨rfl, hJ8, hk8⟩ | ⟨rfl, hJx2⟩)
  rotate_left
  · gi_wp2
    go_end0
    exact ⟨⟨_, rfl⟩, .inr ⟨_, by simp [stepsOf], hJx2⟩⟩
  gi_wp2
  go_end0
  exact ⟨⟨_, rfl⟩, .inl ⟨_, by simp [stepsOf], hJ8⟩⟩
end Go.Proofs.YtaalbcfpacpgfaaGreat
/- J14 -/
--  The calls by which a base is laid: what they do; the four closures.
namespace Go.Proofs.YtaalbcfpacpgfaaGreat
open Go.RowKit Go.Lib Go.Vfs Go.Par Go.Shelf
set_option linter.unusedVariables false
set_option linter.unusedSimpArgs false

def stepSt (b : List UInt8) : Nat → St → St × Int
  | 0, st => stAppend st nNext b
  | 1, st => stSync st nNext
  | 2, st => stRename st nNext nBase
  | _, st => stTruncate st nLog 0
def laySteps (b : List UInt8) : List Nat → St → St × Int
  | [], st => (st, 0)
  | k :: ks, st => if (stepSt b k st).2 = 0 then laySteps b ks (stepSt b k st).1 else stepSt b k st
theorem laySteps_snoc {b : List UInt8} {k : Nat} : ∀ {ks : List Nat} {st st' : St}, laySteps b ks st = (st', 0) → laySteps b (ks ++ [k]) st = stepSt b k st'
  | [], st, st', h => by
    have : st = st' := congrArg Prod.fst h
    subst this
    simp only [List.nil_append, laySteps]
    split
    · rename_i h2; exact Prod.ext rfl h2.symm
    · rfl
  | j :: ks, st, st', h => by
    rw [List.cons_append]
    simp only [laySteps] at h ⊢
    split at h
    · rename_i h2
      rw [if_pos h2]
      exact laySteps_snoc h
    · rename_i h2
      exact absurd (congrArg Prod.snd h) h2
theorem laySteps_front {b : List UInt8} {ks ms : List Nat} (hp : ks <+: ms) : ∀ {st : St}, (laySteps b ks st).2 ≠ 0 → laySteps b ms st = laySteps b ks st := by
  obtain ⟨r, rfl⟩ := hp
  induction ks with
  | nil => intro st h; exact absurd rfl h
  | cons k ks ih =>
    intro st h
    simp only [List.cons_append, laySteps] at h ⊢
    split
    · rename_i h2
      rw [if_pos h2] at h
      exact ih h
    · rfl
theorem Calm.do {st : St} {fs : List File} {k d : Nat} (h : Calm st.files k d) (h2 : Calm fs k d) : Calm (doSt st fs).1.files k d := by
  unfold doSt
  split
  · exact h
  · exact h2
theorem find_in {st : St} {s : List UInt8} {f : File} (h : stFind st s = .ok f) : f ∈ st.files ∧ f.name = s ∧ nameB s = true := by
  unfold stFind at h
  split at h
  · rename_i hn
    split at h
    · rename_i g hg
      cases h
      exact ⟨(findL_some hg).1, (findL_some hg).2, hn⟩
    · cases h
  · cases h
theorem step_calm {st : St} {b : List UInt8} {k d : Nat} (h : Calm st.files k d) : ∀ i, Calm (stepSt b i st).1.files (k + 1) (d + b.length)
  | 0 => by
    show Calm (stAppend st nNext b).1.files _ _
    unfold stAppend
    rw [if_pos (by decide)]
    exact (h.mono (by omega) (by omega)).do (h.app (by decide))
  | 1 => by
    show Calm (stSync st nNext).1.files _ _
    unfold stSync
    split
    · exact h.mono (by omega) (by omega)
    · rename_i f hf
      obtain ⟨f1, f2, f3⟩ := find_in hf
      exact (h.mono (by omega) (by omega)).do ((h.mono (Nat.le_refl _) (Nat.le_add_right d b.length)).withL (h.names f f1) (by have := h.data f f1; simp only; omega) (Nat.le_refl _))
  | 2 => by
    show Calm (stRename st nNext nBase).1.files _ _
    unfold stRename
    rw [if_pos (by decide)]
    split
    · exact h.mono (by omega) (by omega)
    · rename_i f hf
      obtain ⟨f1, f2, f3⟩ := find_in hf
      exact (h.mono (by omega) (by omega)).do (((h.mono (Nat.le_refl _) (Nat.le_add_right d b.length)).dropL nNext).withL (by show nameB nBase = true; decide) (by have := h.data f f1; simp only; omega) (h.safe f f1))
  | n + 3 => by
    show Calm (stTruncate st nLog 0).1.files _ _
    unfold stTruncate
    split
    · exact h.mono (by omega) (by omega)
    · rename_i f hf
      obtain ⟨f1, f2, f3⟩ := find_in hf
      split
      · exact h.mono (by omega) (by omega)
      · exact (h.mono (by omega) (by omega)).do ((h.mono (Nat.le_refl _) (Nat.le_add_right d b.length)).withL (h.names f f1) (by simp) (by simp))
theorem do_power {st : St} {fs : List File} (h : st.power ≤ 9223372036854775807) : (doSt st fs).1.power ≤ 9223372036854775807 := by
  unfold doSt
  split
  · exact h
  · show dec st.power ≤ _; unfold dec; split <;> omega
theorem step_power {st : St} {b : List UInt8} (h : st.power ≤ 9223372036854775807) : ∀ i, (stepSt b i st).1.power ≤ 9223372036854775807
  | 0 => by
    show (stAppend st nNext b).1.power ≤ _
    unfold stAppend; split
    · exact do_power h
    · exact h
  | 1 => by
    show (stSync st nNext).1.power ≤ _
    unfold stSync; split
    · exact h
    · exact do_power h
  | 2 => by
    show (stRename st nNext nBase).1.power ≤ _
    unfold stRename; split
    · split
      · exact h
      · exact do_power h
    · exact h
  | n + 3 => by
    show (stTruncate st nLog 0).1.power ≤ _
    unfold stTruncate; split
    · exact h
    · split
      · exact h
      · exact do_power h
theorem has_with {x : File} {fs : List File} {s : List UInt8} (h : x.name ≠ s) : hasF (withL File.name x fs) s = hasF fs s := by rw [hasF_find, hasF_find, findL_withL_ne h]
theorem has_drop {t : List UInt8} {fs : List File} {s : List UInt8} (h : s ≠ t) : hasF (dropL File.name t fs) s = hasF fs s := by rw [hasF_find, hasF_find, findL_dropL_ne h]
theorem has_do {st : St} {fs : List File} {s : List UInt8} (h : hasF fs s = hasF st.files s) : hasF (doSt st fs).1.files s = hasF st.files s := by
  unfold doSt
  split
  · rfl
  · exact h
theorem step_has {st : St} {b : List UInt8} : ∀ i, hasF (stepSt b i st).1.files nLog = hasF st.files nLog
  | 0 => by
    show hasF (stAppend st nNext b).1.files nLog = _
    unfold stAppend
    rw [if_pos (by decide)]
    refine has_do ?_
    unfold appF
    refine has_with ?_
    split <;> (show nNext ≠ nLog; decide)
  | 1 => by
    show hasF (stSync st nNext).1.files nLog = _
    unfold stSync
    split
    · rfl
    · rename_i f hf
      exact has_do (has_with (by show f.name ≠ nLog; rw [(find_in hf).2.1]; decide))
  | 2 => by
    show hasF (stRename st nNext nBase).1.files nLog = _
    unfold stRename
    rw [if_pos (by decide)]
    split
    · rfl
    · rename_i f hf
      exact has_do ((has_with (by show nBase ≠ nLog; decide)).trans (has_drop (by decide)))
  | n + 3 => by
    show hasF (stTruncate st nLog 0).1.files nLog = _
    unfold stTruncate
    split
    · rfl
    · rename_i f hf
      split
      · rfl
      · refine has_do ?_
        obtain ⟨f1, f2, f3⟩ := find_in hf
        have e1 : hasF st.files nLog = true := by
          unfold hasF
          simp only [decide_eq_true_eq]
          rw [← f2]
          exact List.mem_map_of_mem f1
        rw [e1, hasF_find, ← f2]
        have := findL_withL_self (key := File.name) ⟨f.name, f.data.take (0 : Int).toNat, min f.safe (0 : Int).toNat⟩ st.files
        simp only at this ⊢
        rw [this]
        rfl

/- the kinds of the blocks of a file system. -/
theorem Fsy.kind {w : World} {p : Nat} {st : St} {F : Nat → Prop} (h : Fsy w p st F) : ∀ k, F k → (∃ cs t fz, w.heap[k]? = some (Obj.cells cs t fz) ∧ (t = 91 ∨ t = 105 ∨ t = 5)) ∨ ∃ es clock, w.heap[k]? = some (Obj.map es clock) := by
  obtain ⟨xs, mb, -, hat, rfl⟩ := h
  rintro k (rfl | rfl | ⟨x, hx, hk⟩)
  · exact .inl ⟨_, _, _, hat.head, .inl rfl⟩
  · obtain ⟨es, clock, hm, -⟩ := hat.map
    exact .inr ⟨es, clock, hm⟩
  · have hf := hat.files x hx
    unfold blocksR at hk
    rcases List.mem_cons.1 hk with rfl | hk
    · exact .inl ⟨_, _, _, hf.head, .inr (.inl rfl)⟩
    · rcases hf.row.2 with ⟨e, -⟩ | ⟨g, cap, cur, e, _, hh, _⟩
      · rw [e] at hk; simp [Value.ownBlock] at hk
      · rw [e] at hk
        have : k = g := by simpa [Value.ownBlock] using hk
        subst this
        exact .inl ⟨_, _, _, hh, .inr (.inr rfl)⟩
theorem Kept.ty {w w' : World} {p : Nat} {st : St} {F : Nat → Prop} (h : Kept F w w') (hf : Fsy w p st F) : TyK w w' := ⟨h.size, fun k cs t fz hk ht => by
  refine h.block k (lt_of_block hk) fun hF => ?_
  rcases hf.kind k hF with ⟨cs', t', fz', h1, h2⟩ | ⟨es, c, h1⟩
  · rw [hk] at h1
    cases h1
    rcases ht with h3 | h3 | h3 | h3 <;> rcases h2 with h4 | h4 | h4 <;> (rw [h3] at h4; exact absurd h4 (by decide))
  · rw [hk] at h1; cases h1⟩
theorem Fsy.put {w : World} {p : Nat} {st : St} {F : Nat → Prop} (h : Fsy w p st F) {l : Nat} {o o' : Obj} (hl : w.heap[l]? = some o) (hc : o.isCells = false) (hw : o.isWalk = false) : Fsy (w.putObj l o') p st F := h.keep fun k hk => by
  refine World.putObj_heap_other fun e => ?_
  subst e
  rcases h.kind k hk with ⟨cs', t', fz', h1, h2⟩ | ⟨es, c, h1⟩
  · rw [hl] at h1; cases h1; cases hc
  · rw [hl] at h1; cases h1; cases hw
theorem Kept.books {w w' : World} {p : Nat} {st : St} {F : Nat → Prop} (h : Kept F w w') (hf : Fsy w p st F) (q : Nat) : KeepB q w w' := fun r hb => by
  have no : ∀ (k : Nat) (o : Obj), w.heap[k]? = some o → o.isCells = false → o.isWalk = false → w'.heap[k]? = some o := fun k o hk hc hw => by
    refine (h.block k (lt_of_block hk) fun hF => ?_).trans hk
    rcases hf.kind k hF with ⟨cs', t', fz', h1, h2⟩ | ⟨es, c, h1⟩
    · rw [hk] at h1; cases h1; cases hc
    · rw [hk] at h1; cases h1; cases hw
  exact ⟨no _ _ hb.loop rfl rfl, no _ _ hb.calls rfl rfl⟩

set_option maxRecDepth 20000 in
set_option maxHeartbeats 1000000 in
theorem step1_any (W : World) (p b4 bB n c : Nat) (A : Option Addr) (st : St) (F : Nat → Prop) (hf : Fsy W p st F) (b : List UInt8) (hn : b.length = n) (hb : SegS (fun k => k < W.heap.size ∧ ¬ F k) W (.slice A n c) (byteCells b)) (hm : Modest st b.length)
    (h4 : CS p (0, b4) W) (hB : W.heap[bB]? = some (.cells #[.slice A n c] 24 (0, 0))) :
    Calls Tryz.prog 137 #[.pointer (some ⟨b4, 0, none⟩), .pointer (some ⟨bB, 0, none⟩)] W fun e w' => ∃ F', e = .returned (.int .i64 (stepSt b 0 st).2) ∧ Fsy w' p (stepSt b 0 st).1 F' ∧ Kept F W w' ∧ Grows W F F' := by
  obtain ⟨c0, -⟩ := one_cellJ h4
  obtain ⟨c1, -⟩ := one_cellJ hB
  have hF := Lib.hid hf; have HB := Lib.hid hb; have HM := Lib.hid hm
  have hfl := hf.lt
  have HFL := Lib.hid hfl
  have HN := Lib.hid hn
  clear hf hb hm h4 hB hfl hn
  go_enter Tryz.func137, Tryz.ntmps137
  go_wp2_with fail
  have hb3 : Below W.heap.size W (W.alloc (.cells #[.slice A n c] 24)) := box_below W _
  have hrows : RowsAt (Out (W.alloc (.cells #[.slice A n c] 24)) F) (W.alloc (.cells #[.slice A n c] 24)) (.slice (some ⟨W.heap.size, 0, none⟩) 1 1) [b] := by
    refine ⟨[.slice A n c], rfl, ⟨some ⟨W.heap.size, 0, none⟩, 1, rfl, by simp, by simp [maxLen], fun _ => ⟨W.heap.size, 0, rfl, ⟨by simp, fun hf => by have := HFL.out _ hf; omega⟩, fun i hi => ?_⟩⟩, fun i hi => ?_⟩
    · have : i = 0 := by simp at hi; omega
      subst this
      simp
    · have : i = 0 := by simp at hi; omega
      subst this
      exact HB.out.keep fun k hk => ⟨⟨by simp; omega, hk.2⟩, hb3.block k hk.1⟩
  have hap := append_any _ p st F (hF.out.keep fun k hk => hb3.block k (HFL.out k hk)) ⟨#[110, 101, 120, 116]⟩ (by decide) _ _ hrows (by
    rw [show [b].flatten.length = b.length by simp]
    exact HM.out)
  rw [show (ByteArray.mk #[110, 101, 120, 116]).data.toList = nNext from rfl, show [b].flatten = b by simp] at hap
  refine hap.mono ?_
  rintro e w4 ⟨F', rfl, h1, h2, h3⟩
  have HR := Lib.hid (And.intro h1 (And.intro ((Kept.of_below (F := F) hb3).trans h2 (Grows.refl _ _)) (show Grows W F F' from fun k hk => (h3 k hk).imp id (fun h => by have := hb3.size; omega))))
  clear hap hrows hb3 h1 h2 h3
  go_wp2
  go_ret
  exact ⟨F', rfl, HR.out.1, HR.out.2.1, HR.out.2.2⟩
set_option maxRecDepth 20000 in
set_option maxHeartbeats 1000000 in
theorem step2_any (W : World) (p b4 : Nat) (st : St) (F : Nat → Prop) (hf : Fsy W p st F) (b : List UInt8) (hpw : st.power ≤ 9223372036854775807) (h4 : CS p (1, b4) W) :
    Calls Tryz.prog 138 #[.pointer (some ⟨b4, 0, none⟩)] W fun e w' => ∃ F', e = .returned (.int .i64 (stepSt b 1 st).2) ∧ Fsy w' p (stepSt b 1 st).1 F' ∧ Kept F W w' ∧ Grows W F F' := by
  obtain ⟨c0, -⟩ := one_cellJ h4
  have HC := Lib.hid (sync_any W p st F hf ⟨#[110, 101, 120, 116]⟩ (by decide) hpw)
  clear hf h4 hpw
  go_enter Tryz.func138, Tryz.ntmps138
  go_wp2_with fail
  refine HC.out.mono ?_
  rintro e w4 ⟨F', rfl, h1, h2, h3⟩
  have HR := Lib.hid (And.intro h1 (And.intro h2 h3))
  clear h1 h2 h3
  go_wp2
  go_ret
  exact ⟨F', rfl, HR.out.1, HR.out.2.1, HR.out.2.2⟩
set_option maxRecDepth 20000 in
set_option maxHeartbeats 1000000 in
theorem step3_any (W : World) (p b4 : Nat) (st : St) (F : Nat → Prop) (hf : Fsy W p st F) (b : List UInt8) (hpw : st.power ≤ 9223372036854775807) (hfl : st.files.length < 2147483648) (h4 : CS p (2, b4) W) :
    Calls Tryz.prog 139 #[.pointer (some ⟨b4, 0, none⟩)] W fun e w' => ∃ F', e = .returned (.int .i64 (stepSt b 2 st).2) ∧ Fsy w' p (stepSt b 2 st).1 F' ∧ Kept F W w' ∧ Grows W F F' := by
  obtain ⟨c0, -⟩ := one_cellJ h4
  have HC := Lib.hid (rename_any W p st F hf ⟨#[110, 101, 120, 116]⟩ ⟨#[98, 97, 115, 101]⟩ (by decide) (by decide) hpw hfl)
  clear hf h4 hpw hfl
  go_enter Tryz.func139, Tryz.ntmps139
  go_wp2_with fail
  refine HC.out.mono ?_
  rintro e w4 ⟨F', rfl, h1, h2, h3⟩
  have HR := Lib.hid (And.intro h1 (And.intro h2 h3))
  clear h1 h2 h3
  go_wp2
  go_ret
  exact ⟨F', rfl, HR.out.1, HR.out.2.1, HR.out.2.2⟩
set_option maxRecDepth 20000 in
set_option maxHeartbeats 1000000 in
theorem step4_any (W : World) (p b4 n : Nat) (st : St) (F : Nat → Prop) (hf : Fsy W p st F) (b : List UInt8) (hpw : st.power ≤ 9223372036854775807) (h4 : CS p (n + 3, b4) W) :
    Calls Tryz.prog 141 #[.pointer (some ⟨b4, 0, none⟩)] W fun e w' => ∃ F', e = .returned (.int .i64 (stepSt b (n + 3) st).2) ∧ Fsy w' p (stepSt b (n + 3) st).1 F' ∧ Kept F W w' ∧ Grows W F F' := by
  obtain ⟨c0, -⟩ := one_cellJ h4
  have HC := Lib.hid (truncate_any W p st F hf ⟨#[108, 111, 103]⟩ (by decide) hpw 0)
  clear hf h4 hpw
  go_enter Tryz.func141, Tryz.ntmps141
  go_wp2_with fail
  refine HC.out.mono ?_
  rintro e w4 ⟨F', rfl, h1, h2, h3⟩
  have HR := Lib.hid (And.intro h1 (And.intro h2 h3))
  clear h1 h2 h3
  go_wp2
  go_ret
  exact ⟨F', rfl, HR.out.1, HR.out.2.1, HR.out.2.2⟩
set_option maxRecDepth 20000 in
theorem steps_any (w : World) (pj n c : Nat) (A : Option Addr) : Calls Tryz.prog 109 #[.pointer (some ⟨pj, 0, none⟩), .slice A n c] w fun e w' => e = .returned (.func (.func 136) #[] #[.pointer (some ⟨w.heap.size, 0, none⟩), .pointer (some ⟨w.heap.size + 1, 0, none⟩)]) ∧
    w' = (w.alloc (.cells #[.pointer (some ⟨pj, 0, none⟩)] 27)).alloc (.cells #[.slice A n c] 24) := by
  go_enter Tryz.func109, Tryz.ntmps109
  go_wp2
  go_ret
  exact ⟨rfl, rfl⟩
end Go.Proofs.YtaalbcfpacpgfaaGreat
/- JP -/
--  Plain laws of frames: what is written is read; a front of it; one byte that is another.
namespace Go.Proofs.YtaalbcfpacpgfaaGreat
open Go.RowKit Go.Lib Go.Vfs Go.Par Go.Shelf
set_option linter.unusedVariables false
set_option linter.unusedSimpArgs false

def encR (g : Nat) (ps : List (List UInt8)) : List UInt8 := (ps.map (frameB g)).flatten
theorem encR_cons (g : Nat) (p : List UInt8) (ps : List (List UInt8)) : encR g (p :: ps) = frameB g p ++ encR g ps := by simp [encR]
theorem encR_append (g : Nat) (a b : List (List UInt8)) : encR g (a ++ b) = encR g a ++ encR g b := by simp [encR]
theorem encR_snoc (g : Nat) (a : List (List UInt8)) (p : List UInt8) : encR g (a ++ [p]) = encR g a ++ frameB g p := by simp [encR]
def frL (g : Nat) : Nat → List (List UInt8) → List Fr
  | _, [] => []
  | i, p :: ps => ⟨g, p, i, i + 12 + p.length⟩ :: frL g (i + 12 + p.length) ps
theorem frL_pays (g : Nat) : ∀ (i : Nat) (ps : List (List UInt8)), (frL g i ps).map Fr.pay = ps
  | _, [] => rfl
  | i, p :: ps => by simp [frL, frL_pays g _ ps]
theorem frL_gens (g : Nat) : ∀ (i : Nat) (ps : List (List UInt8)), ∀ x ∈ frL g i ps, x.gen = g
  | _, [] => by simp [frL]
  | i, p :: ps => by
    intro x hx
    rcases List.mem_cons.1 hx with rfl | hx
    · rfl
    · exact frL_gens g _ ps x hx
theorem frL_length (g : Nat) : ∀ (i : Nat) (ps : List (List UInt8)), (frL g i ps).length = ps.length
  | _, [] => rfl
  | i, p :: ps => by simp [frL, frL_length g _ ps]
theorem frL_end (g : Nat) : ∀ (i : Nat) (ps : List (List UInt8)), ((frL g i ps).getLast?.map Fr.stop).getD i = i + (encR g ps).length
  | i, [] => by simp [frL, encR]
  | i, p :: ps => by
    have h := frL_end g (i + 12 + p.length) ps
    rw [encR_cons, List.length_append, frameB_length]
    cases hp : frL g (i + 12 + p.length) ps with
    | nil =>
      rw [hp] at h
      simp [frL, hp] at h ⊢
      have : ps = [] := List.eq_nil_of_length_eq_zero (by rw [← frL_length g (i + 12 + p.length) ps, hp]; rfl)
      subst this
      simp [encR]
      omega
    | cons y ys =>
      rw [hp] at h
      rw [show frL g i (p :: ps) = ⟨g, p, i, i + 12 + p.length⟩ :: frL g (i + 12 + p.length) ps from rfl, hp, List.getLast?_cons_cons]
      cases hl : (y :: ys).getLast? with
      | none => simp at hl
      | some z =>
        rw [hl] at h
        simp at h ⊢
        omega
theorem frameB_eq (g : Nat) (p r : List UInt8) : frameB g p ++ r = be4 g ++ (be4 p.length ++ (be4 (crc (be4 g ++ be4 p.length ++ p)) ++ (p ++ r))) := by simp [frameB]
theorem drop_past (a x : List UInt8) (k : Nat) : (a ++ x).drop (a.length + k) = x.drop k := by rw [← List.drop_drop]; simp
theorem frAt_frame {b a r : List UInt8} {g : Nat} {p : List UInt8} (hg : g < 4294967296) (hp : p.length ≤ 65536) (hb : b = a ++ (frameB g p ++ r)) : frAt b a.length = some ⟨g, p, a.length, a.length + 12 + p.length⟩ := by
  have hC := crc_lt (be4 g ++ be4 p.length ++ p)
  have hbl : b.length = a.length + (12 + p.length + r.length) := by rw [hb, List.length_append, List.length_append, frameB_length]
  have hx : b = a ++ (be4 g ++ (be4 p.length ++ (be4 (crc (be4 g ++ be4 p.length ++ p)) ++ (p ++ r)))) := by rw [hb, frameB_eq]
  have d0 : b.drop a.length = be4 g ++ (be4 p.length ++ (be4 (crc (be4 g ++ be4 p.length ++ p)) ++ (p ++ r))) := by
    have := drop_past a (be4 g ++ (be4 p.length ++ (be4 (crc (be4 g ++ be4 p.length ++ p)) ++ (p ++ r)))) 0
    rw [← hx] at this; simpa using this
  have d4 : b.drop (a.length + 4) = be4 p.length ++ (be4 (crc (be4 g ++ be4 p.length ++ p)) ++ (p ++ r)) := by rw [hx, drop_past]; rfl
  have d8 : b.drop (a.length + 8) = be4 (crc (be4 g ++ be4 p.length ++ p)) ++ (p ++ r) := by rw [hx, drop_past]; rfl
  have d12 : b.drop (a.length + 12) = p ++ r := by rw [hx, drop_past]; rfl
  have n4 : num4 (b.drop (a.length + 4)) = p.length := by rw [d4, num4_be4 _ (by omega)]
  have n8 : num4 (b.drop (a.length + 8)) = crc (be4 g ++ be4 p.length ++ p) := by rw [d8, num4_be4 _ hC]
  have n0 : num4 (b.drop a.length) = g := by rw [d0, num4_be4 _ hg]
  have t8 : (b.drop a.length).take 8 = be4 g ++ be4 p.length := by rw [d0]; rfl
  have tp : (b.drop (a.length + 12)).take p.length = p := by rw [d12]; simp
  unfold frAt
  rw [n4, n8, n0, t8, tp, if_neg (by omega), if_neg (by omega), if_neg (by simp)]
theorem num4_take : ∀ (l t : List UInt8), 4 ≤ l.length → num4 (l ++ t) = num4 l
  | _ :: _ :: _ :: _ :: _, _, _ => rfl
  | [], _, h | [_], _, h | [_, _], _, h | [_, _, _], _, h => by simp at h
/-- a frame that is cut off is none. -/
theorem frAt_short {b a q : List UInt8} {g : Nat} {p : List UInt8} (hp : p.length ≤ 65536) (hq : q <+: frameB g p) (hl : q.length < 12 + p.length) (hb : b = a ++ q) : frAt b a.length = none := by
  have hbl : b.length = a.length + q.length := by rw [hb, List.length_append]
  unfold frAt
  by_cases h12 : b.length < a.length + 12
  · rw [if_pos h12]
  · rw [if_neg h12]
    obtain ⟨t, ht⟩ := hq
    have d4 : b.drop (a.length + 4) = q.drop 4 := by rw [hb, drop_past]
    have n4 : num4 (q.drop 4) = p.length := by
      have e1 : num4 (q.drop 4 ++ t) = num4 (q.drop 4) := num4_take _ _ (by simp; omega)
      have e2 : q.drop 4 ++ t = (frameB g p).drop 4 := by rw [← ht, List.drop_append_of_le_length (by omega)]
      rw [← e1, e2]
      have : (frameB g p).drop 4 = be4 p.length ++ (be4 (crc (be4 g ++ be4 p.length ++ p)) ++ (p ++ [])) := by
        have h := frameB_eq g p []
        rw [List.append_nil] at h
        rw [h]
        rfl
      rw [this, num4_be4 _ (by omega)]
    rw [d4, n4, if_pos (.inr (by omega))]
theorem frsF_enc {b : List UInt8} {g : Nat} (hg : g < 4294967296) : ∀ (ps : List (List UInt8)) (a q : List UInt8) (f i : Nat), b = a ++ (encR g ps ++ q) → i = a.length → (∀ p ∈ ps, p.length ≤ 65536) → ps.length < f →
    (frsF b f i).map (·.1) = frL g i ps ++ (frsF b (f - ps.length) (i + (encR g ps).length)).map (·.1)
  | [], a, q, f, i, hb, hi, hp, hf => by simp [frL, encR]
  | p :: ps, a, q, f, i, hb, hi, hp, hf => by
    obtain ⟨f, rfl⟩ : ∃ f', f = f' + 1 := ⟨f - 1, by simp at hf; omega⟩
    have hx : frAt b i = some ⟨g, p, i, i + 12 + p.length⟩ := by
      rw [hi]
      exact frAt_frame hg (hp p (by simp)) (r := encR g ps ++ q) (by rw [hb, encR_cons]; simp)
    rw [frsF_some hx, List.map_cons]
    have ih := frsF_enc (b := b) hg ps (a ++ frameB g p) q f (i + 12 + p.length) (by rw [hb, encR_cons]; simp) (by rw [List.length_append, frameB_length]; omega) (fun y hy => hp y (by simp [hy])) (by simp at hf; omega)
    simp only at ih ⊢
    rw [ih, show f + 1 - (p :: ps).length = f - ps.length by simp, encR_cons, List.length_append, frameB_length, show i + (12 + p.length + (encR g ps).length) = i + 12 + p.length + (encR g ps).length by omega]
    rfl
theorem encR_count (g : Nat) : ∀ ps : List (List UInt8), ps.length ≤ (encR g ps).length
  | [] => by simp
  | p :: ps => by rw [encR_cons, List.length_append, frameB_length, List.length_cons]; have := encR_count g ps; omega
/-- what is written, and behind it nothing that is a frame, is read. -/
theorem frs_enc {b q : List UInt8} {g : Nat} (hg : g < 4294967296) {ps : List (List UInt8)} (hb : b = encR g ps ++ q) (hp : ∀ p ∈ ps, p.length ≤ 65536) (hn : frAt b (encR g ps).length = none) : (frs b).map (·.1) = frL g 0 ps := by
  have hc := encR_count g ps
  have h := frsF_enc (b := b) hg ps [] q (b.length + 1) 0 hb rfl hp (by rw [hb, List.length_append]; omega)
  unfold frs
  rw [h, Nat.zero_add, frsF_none hn]
  simp
theorem frAt_end {b : List UInt8} {i : Nat} (h : b.length ≤ i) : frAt b i = none := by unfold frAt; rw [if_pos (by omega)]
section
variable {b : List UInt8}
theorem pays_frL {g : Nat} {ps : List (List UInt8)} {l : List (FrOf b)} (h : l.map (·.1) = frL g 0 ps) : pays l = ps := by
  have : pays l = (l.map (·.1)).map Fr.pay := by simp [pays]
  rw [this, h, frL_pays]
theorem endOf_frL {g : Nat} {ps : List (List UInt8)} {l : List (FrOf b)} (h : l.map (·.1) = frL g 0 ps) : endOf l = (encR g ps).length := by
  have : endOf l = ((l.map (·.1)).getLast?.map Fr.stop).getD 0 := by unfold endOf; rw [List.getLast?_map, Option.map_map]; rfl
  rw [this, h, frL_end]; omega
theorem gens_frL {g : Nat} {ps : List (List UInt8)} {l : List (FrOf b)} (h : l.map (·.1) = frL g 0 ps) : ∀ x ∈ l, x.1.gen = g := fun x hx =>
  frL_gens g 0 ps x.1 (h ▸ List.mem_map_of_mem hx)
end
/-- a base that is written is read. -/
theorem baseOf_enc {g : Nat} (hg : g < 4294967296) {ps : List (List UInt8)} (hp : ∀ p ∈ ps, p.length ≤ 65536) (hl : ps.length < 4294967296) : baseOf (encR g (be4 ps.length :: ps)) = some (g, ps) := by
  have h := frs_enc (b := encR g (be4 ps.length :: ps)) (q := []) hg (List.append_nil _).symm (fun p hp2 => by
    rcases List.mem_cons.1 hp2 with h0 | h0
    · rw [h0, be4_length]; omega
    · exact hp p h0) (frAt_end (Nat.le_refl _))
  have h1 := pays_frL h
  have h2 := endOf_frL h
  have h3 := gens_frL h
  unfold baseOf
  revert h1 h2 h3
  cases frs (encR g (be4 ps.length :: ps)) with
  | nil => intro h1; simp [pays] at h1
  | cons x xs =>
    intro h1 h2 h3
    simp only [pays, List.map_cons, List.cons.injEq] at h1
    obtain ⟨e1, e2⟩ := h1
    have hx := h3 x (by simp)
    have hxl : xs.length = ps.length := by have := congrArg List.length e2; rw [List.length_map] at this; exact this
    have hn : num4 x.1.pay = ps.length := by rw [e1]; have := num4_be4 ps.length hl []; rwa [List.append_nil] at this
    simp only
    rw [if_pos ⟨by rw [e1]; rfl, fun y hy => by rw [hx, h3 y (by simp [hy])], h2, by rw [hn, hxl]⟩, hx]
    congr 2
/-- the frames of another generation are none of these. -/
theorem sameGen_other {b : List UInt8} {g gen : Nat} {ps : List (List UInt8)} {l : List (FrOf b)} (h : l.map (·.1) = frL g 0 ps) (hne : g ≠ gen) : sameGen gen l = [] := by
  cases l with
  | nil => rfl
  | cons x l =>
    have := gens_frL h x (by simp)
    unfold sameGen
    rw [List.takeWhile_cons, if_neg (by simp; omega)]
theorem take_split {α : Type} (l : List α) {m k : Nat} (h : m ≤ k) (hk : k ≤ l.length) : ∃ r, l.take k = l.take m ++ r ∧ r.length = k - m := by
  refine ⟨(l.take k).drop m, ?_, by simp; omega⟩
  have := List.take_append_drop m (l.take k)
  rw [List.take_take, Nat.min_eq_left h] at this
  exact this.symm
/-- the records at the front of what is written. -/
theorem front_of (g : Nat) : ∀ (ps : List (List UInt8)) (n : Nat), n ≤ (encR g ps).length → ∃ m q, m ≤ ps.length ∧ (encR g ps).take n = encR g (ps.take m) ++ q ∧ (q = [] ∨ ∃ p, ps[m]? = some p ∧ q <+: frameB g p ∧ q.length < 12 + p.length)
  | [], n, h => ⟨0, [], by simp, by simp [encR], .inl rfl⟩
  | p :: ps, n, h => by
    rw [encR_cons, List.length_append, frameB_length] at h
    by_cases hn : n < 12 + p.length
    · refine ⟨0, (frameB g p).take n, by simp, ?_, .inr ⟨p, rfl, List.take_prefix _ _, by simp; omega⟩⟩
      rw [encR_cons, List.take_append_of_le_length (by rw [frameB_length]; omega)]
      simp [encR]
    · obtain ⟨m, q, h1, h2, h3⟩ := front_of g ps (n - (12 + p.length)) (by omega)
      refine ⟨m + 1, q, by simp; omega, ?_, ?_⟩
      · rw [encR_cons, List.take_append, frameB_length, List.take_of_length_le (by rw [frameB_length]; omega), h2, List.take_succ_cons, encR_cons, List.append_assoc]
      · simpa using h3
/-- a front of what is written, read. -/
theorem frs_front {b : List UInt8} {g : Nat} (hg : g < 4294967296) {ps : List (List UInt8)} (hp : ∀ p ∈ ps, p.length ≤ 65536) {n : Nat} (hn : n ≤ (encR g ps).length) (hb : b = (encR g ps).take n) :
    ∃ m, m ≤ ps.length ∧ (frs b).map (·.1) = frL g 0 (ps.take m) ∧ (encR g (ps.take m)).length ≤ n ∧ (∀ k, k ≤ ps.length → (encR g (ps.take k)).length ≤ n → k ≤ m) := by
  obtain ⟨m, q, h1, h2, h3⟩ := front_of g ps n hn
  have hlen := congrArg List.length h2
  rw [List.length_take, List.length_append, Nat.min_eq_left hn] at hlen
  refine ⟨m, h1, frs_enc hg (q := q) (by rw [hb, h2]) (fun p hp2 => hp p (List.mem_of_mem_take hp2)) ?_, by omega, fun k hk hkn => ?_⟩
  · rcases h3 with rfl | ⟨p, h4, h5, h6⟩
    · exact frAt_end (by rw [hb, h2]; simp)
    · exact frAt_short (hp p (List.mem_of_getElem? h4)) h5 h6 (by rw [hb, h2])
  · rcases Nat.lt_or_ge m k with hmk | hmk
    · exfalso
      have hm : m < ps.length := by omega
      rcases h3 with rfl | ⟨p, h4, h5, h6⟩
      · obtain ⟨r, e, e2⟩ := take_split ps (Nat.le_of_lt hmk) hk
        rw [e, encR_append, List.length_append] at hkn
        have := encR_count g r
        simp at hlen
        omega
      · have e : ps.take (m + 1) = ps.take m ++ [p] := by rw [List.take_add_one, h4]; rfl
        obtain ⟨r, e3, -⟩ := take_split ps (Nat.succ_le_of_lt hmk) hk
        rw [e3, encR_append, List.length_append, e, encR_snoc, List.length_append, frameB_length] at hkn
        omega
    · exact hmk
end Go.Proofs.YtaalbcfpacpgfaaGreat

