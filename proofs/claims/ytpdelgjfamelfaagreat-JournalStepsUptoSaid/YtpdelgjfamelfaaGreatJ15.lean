/- Lay: a base anew. -/
import Derived.Test.YtpdelgjfamelfaaGreatJ14
import Derived.Test.YtpdelgjfamelfaaGreatJP
namespace Go.Proofs.YtpdelgjfamelfaaGreat
open Go.RowKit Go.Lib Go.Vfs Go.Par Go.Shelf
set_option linter.unusedVariables false
set_option linter.unusedSimpArgs false
attribute [local go_sem] Oper.semAt_some

theorem segS_cells {S : Nat → Prop} {w : World} {v : Value} {xs : List Value} (h : SegS S w v xs) : SegS (fun k => S k ∧ ∃ o, w.heap[k]? = some o ∧ o.isCells = true) w v xs := by
  obtain ⟨A, c, h1, h2, h3, h4⟩ := h
  refine ⟨A, c, h1, h2, h3, fun hl => ?_⟩
  obtain ⟨b, off, e, hb, hc⟩ := h4 hl
  refine ⟨b, off, e, ⟨hb, ?_⟩, hc⟩
  have := hc 0 hl
  rw [List.getElem?_eq_getElem hl] at this
  exact cells_of_cell this
/-- the blocks of a journal whose records are new since B. -/
def GF (W : World) (pj B : Nat) (u : Value) (k : Nat) : Prop := k = pj ∨ u.ownBlock = some k ∨ (B ≤ k ∧ u.ownBlock ≠ some k ∧ ∃ o, W.heap[k]? = some o ∧ o.isCells = true)
theorem JV.fresh {W : World} {pj p gen B : Nat} {u : Value} {us : List Value} {rows : List (List UInt8)} (hhead : W.heap[pj]? = some (.cells #[.pointer (some ⟨p, 0, none⟩), .int .u32 (gen : Nat), u, .slice none 0 0] 94 (0, 0)))
    (hown : Par.Own W B 22 u us) (hl : us.length = rows.length) (hB : pj < B) (hc : ∀ i, i < rows.length → SegS (fun k => B ≤ k ∧ u.ownBlock ≠ some k) W (us.getD i (.bool false)) (byteCells (rows.getD i []))) (hg : gen < 4294967296) :
    JV W pj p gen u (.slice none 0 0) us [] rows [] (GF W pj B u) := by
  have hlt := hown.lt
  refine ⟨hhead, ?_, World.ownsRow_nil W 0 22 1, fun i hi => (segS_cells (hc i hi)).keep fun k ⟨⟨h1, h2⟩, h3⟩ => ⟨⟨.inr (.inr ⟨h1, h2, h3⟩), by omega, h2, fun e => by cases e⟩, rfl⟩, fun i hi => by simp at hi, .inl rfl, fun g e => ⟨.inr (.inl e), by have := hlt g e; omega⟩, fun g e => by simp [Value.ownBlock] at e, fun k hk => ?_, hg⟩
  · have := hown.base (Nat.zero_le B)
    unfold Par.Own at this
    rwa [hl] at this
  · rcases hk with rfl | hk | ⟨-, -, hk⟩
    · exact ⟨_, hhead, rfl⟩
    · exact own_cel hown k hk
    · exact hk

/-- the function value of a step. -/
def vS (bB : Nat) (x : Nat × Nat) : Value := match x.1 with
  | 0 => .func (.func 82) #[] #[.pointer (some ⟨x.2, 0, none⟩), .pointer (some ⟨bB, 0, none⟩)]
  | 1 => .func (.func 83) #[] #[.pointer (some ⟨x.2, 0, none⟩)]
  | 2 => .func (.func 84) #[] #[.pointer (some ⟨x.2, 0, none⟩)]
  | _ => .func (.func 86) #[] #[.pointer (some ⟨x.2, 0, none⟩)]
theorem encS_eq (bB : Nat) (x : Nat × Nat) : encS bB x = #[vS bB x] := by
  obtain ⟨i, b⟩ := x
  match i with
  | 0 | 1 | 2 | _ + 3 => rfl
/-- where the loop of Lay stands. -/
structure LayI (w1 : World) (p : Nat) (st : St) (F : Nat → Prop) (b : List UInt8) (k d : Nat) (hl : Bool) (pre : List (Nat × Nat)) (W : World) : Prop where
  len : pre.length ≤ 4
  run : ∃ st' F', laySteps b (pre.map (·.1)) st = (st', 0) ∧ Fsy W p st' F' ∧ Calm st'.files (k + pre.length) (d + pre.length * b.length) ∧ st'.power ≤ 9223372036854775807 ∧ hasF st'.files nLog = hl ∧ Kept F w1 W ∧ Grows w1 F F'
/-- where it has been left. -/
def LayX (w1 : World) (p : Nat) (st : St) (F : Nat → Prop) (b : List UInt8) (bR : Nat) (cd : Code) (pre : List (Nat × Nat)) (W : World) : Prop :=
  cd = .ret ∧ ∃ st' F' er, er ≠ 0 ∧ laySteps b (pre.map (·.1)) st = (st', er) ∧ Fsy W p st' F' ∧ Kept (fun k => F k ∨ k = bR) w1 W ∧ Grows w1 F F' ∧ W.heap[bR]? = some (.cells #[.int .i64 er] 32 (0, 0))
section
variable {w1 : World} {p : Nat} {st : St} {F : Nat → Prop} {b : List UInt8} {k d bR : Nat} {hl : Bool}
theorem layI_abB : AbB (LayI w1 p st F b k d hl) := fun s W W' ⟨h1, st', F', h2, h3, h4, h5, h6, h7, h8⟩ hb => ⟨h1, st', F', h2, h3.below hb, h4, h5, h6, h7.trans' (Kept.of_below hb), h8⟩
theorem kept_put {F : Nat → Prop} {a w : World} (h : Kept F a w) {l : Nat} (hl : a.heap.size ≤ l) (o : Obj) : Kept F a (w.putObj l o) :=
  ⟨h.os, h.tape, h.output, by have := h.size; simpa using this, fun k hk hn => (World.putObj_heap_other (by omega)).trans (h.block k hk hn)⟩
theorem layI_abP : AbP w1.heap.size (LayI w1 p st F b k d hl) := fun s W r r' hbk ⟨h1, st', F', h2, h3, h4, h5, h6, h7, h8⟩ => ⟨h1, st', F', h2, h3.put hbk.loop rfl rfl, h4, h5, h6, kept_put h7 (by omega) _, h8⟩
theorem layX_abB {cd : Code} : AbB (LayX w1 p st F b bR cd) := fun s W W' ⟨h0, st', F', er, h1, h2, h3, h4, h5, h6⟩ hb => ⟨h0, st', F', er, h1, h2, h3.below hb, h4.trans' (Kept.of_below hb), h5, (hb.block bR (lt_of_block h6)).trans h6⟩
theorem layX_abP {cd : Code} (hR : bR < w1.heap.size) : AbP w1.heap.size (LayX w1 p st F b bR cd) := fun s W r r' hbk ⟨h0, st', F', er, h1, h2, h3, h4, h5, h6⟩ => ⟨h0, st', F', er, h1, h2, h3.put hbk.loop rfl rfl, kept_put h4 (by omega) _, h5, (World.putObj_heap_other (by omega)).trans h6⟩
theorem LayI.rs {W : World} (h : ∃ pre, LayI w1 p st F b k d hl pre W) (hk : k ≤ 1000) : RS p hl W := by
  obtain ⟨pre, h1, st', F', h2, h3, h4, h5, h6, h7, h8⟩ := h
  exact ⟨st', F', h3, h6, by have := h4.files; omega, h4.short⟩
theorem cs_abP : AbP w1.heap.size (CS p) := fun s W r r' hbk h => by
  unfold CS at *
  exact (World.putObj_heap_other (fun e => by rw [e, hbk.loop] at h; cases h)).trans h
theorem tyK_put {W : World} {q : Nat} {r r' : Loop} (h : Books q r W) : TyK W (W.putObj (q + 1) (.loop r')) := ⟨by simp, fun k cs t fz hk _ => World.putObj_heap_other (fun e => by rw [e, h.loop] at hk; cases hk)⟩
/-- a step that went through. -/
theorem LayI.next {pre : List (Nat × Nat)} {W W' : World} {x : Nat × Nat} {st' : St} {F' F2 : Nat → Prop} (hlen : pre.length < 4) (h2 : laySteps b (pre.map (·.1)) st = (st', 0)) (h3 : Fsy W p st' F') (h4 : Calm st'.files (k + pre.length) (d + pre.length * b.length)) (h5 : st'.power ≤ 9223372036854775807) (h6 : hasF st'.files nLog = hl) (h7 : Kept F w1 W) (h8 : Grows w1 F F')
    (hf : Fsy W' p (stepSt b x.1 st').1 F2) (hk : Kept F' W W') (hg : Grows W F' F2) :
    Grows w1 F F2 ∧ Kept F w1 W' ∧ laySteps b ((pre ++ [x]).map (·.1)) st = stepSt b x.1 st' ∧ ((stepSt b x.1 st').2 = 0 → LayI w1 p st F b k d hl (pre ++ [x]) W') := by
  have hgr : Grows w1 F F2 := fun j hj => by
    rcases hg j hj with h | h
    · exact h8 j h
    · right; have := h7.size; omega
  have hkk : Kept F w1 W' := ⟨hk.os.trans h7.os, hk.tape.trans h7.tape, hk.output.trans h7.output, Nat.le_trans h7.size hk.size, fun j hj hn => by
    refine (hk.block j (by have := h7.size; omega) fun hf' => ?_).trans (h7.block j hj hn)
    rcases h8 j hf' with h | h
    · exact hn h
    · omega⟩
  have hl2 : laySteps b ((pre ++ [x]).map (·.1)) st = stepSt b x.1 st' := by rw [List.map_append]; exact laySteps_snoc h2
  refine ⟨hgr, hkk, hl2, fun h0 => ⟨by simp; omega, (stepSt b x.1 st').1, F2, hl2.trans (Prod.ext rfl h0), hf, (step_calm h4 x.1).mono (by simp; omega) (by rw [List.length_append, List.length_singleton, Nat.add_mul]; omega), step_power h5 x.1, (step_has x.1).trans h6, hkk, hgr⟩⟩
end

/-- the memory behind a base that was laid. -/
theorem JPost.laid {w W W7 : World} {pj p gen g1 q bR : Nat} {st st' : St} {base log rows : List (List UInt8)} {F F' G : Nat → Prop} {u bv lv x : Value} {us' bs us : List Value} {cs : Array Value} {ds : Option (List Deferred)} {o : Obj} (h : JF w pj p st gen base log F G) (hj : JV w pj p gen bv lv bs us base log G)
    (hf : Fsy W p st' F') (hk : Kept F w W) (hg : Grows w F F') (hr : Rowed (W.setCell ⟨pj, 1, none⟩ (.int .u32 (g1 : Nat))) rows rows.length u us' W7) (hgl : g1 < 4294967296)
    (hbR : w.heap.size ≤ bR) (hbW : W.heap[bR]? = some (.cells cs 32 (0, 0))) (hq : w.heap.size ≤ q) (hqW : W.heap[q]? = some (.deferred ds)) :
    JPost w pj p F G st' g1 rows [] ((((W7.setCell ⟨pj, 2, none⟩ u).setCell ⟨pj, 3, none⟩ (.slice none 0 0)).setCell ⟨bR, 0, none⟩ x).putObj q o) := by
  have hpj : pj < w.heap.size := hj.lt pj hj.gpj
  have hpF : ¬ F pj := h.apart pj hj.gpj
  have hzk := hk.size
  have hzs : (W.setCell ⟨pj, 1, none⟩ (.int .u32 (g1 : Nat))).heap.size = W.heap.size := by simp [World.setCell]
  have hz7 := hr.below.size
  rw [hzs] at hz7
  obtain ⟨Wf, hWf⟩ : ∃ Wf, Wf = ((((W7.setCell ⟨pj, 2, none⟩ u).setCell ⟨pj, 3, none⟩ (.slice none 0 0)).setCell ⟨bR, 0, none⟩ x).putObj q o) := ⟨_, rfl⟩
  have hzf : Wf.heap.size = W7.heap.size := by rw [hWf]; simp [World.setCell]
  have same : ∀ k, k ≠ pj → k ≠ bR → k ≠ q → Wf.heap[k]? = W7.heap[k]? := fun k h1 h2 h3 => by
    rw [hWf, World.putObj_heap_other h3, setCell_block h2, setCell_block h1, setCell_block h1]
  have old : ∀ k, k < W.heap.size → k ≠ pj → W7.heap[k]? = W.heap[k]? := fun k h1 h2 => (hr.below.block k (by rw [hzs]; exact h1)).trans (setCell_block h2)
  have hheadW := (hk.block pj hpj hpF).trans hj.head
  have hhead7 := (hr.below.block pj (by rw [hzs]; omega)).trans (four_setCell hheadW (.int .u32 (g1 : Nat))).1
  have hhead : Wf.heap[pj]? = some (.cells #[.pointer (some ⟨p, 0, none⟩), .int .u32 (g1 : Nat), u, .slice none 0 0] 94 (0, 0)) := by
    rw [hWf, World.putObj_heap_other (by omega), setCell_block (by show pj ≠ bR; omega)]
    exact (four_setCell (four_setCell hhead7 u).2.1 (.slice none 0 0)).2.2
  have hFn : ∀ k, F' k → k ≠ pj ∧ k ≠ bR ∧ k ≠ q := fun k hk2 => by
    refine ⟨fun e => ?_, fun e => ?_, fun e => ?_⟩
    · subst e
      rcases hg _ hk2 with h1 | h1
      · exact hpF h1
      · omega
    · subst e
      rcases hf.kind _ hk2 with ⟨cs', t', fz', h1, h2⟩ | ⟨es, c, h1⟩
      · rw [hbW] at h1; cases h1; revert h2; decide
      · rw [hbW] at h1; cases h1
    · subst e
      rcases hf.kind _ hk2 with ⟨cs', t', fz', h1, h2⟩ | ⟨es, c, h1⟩
      · rw [hqW] at h1; cases h1
      · rw [hqW] at h1; cases h1
  have hbRl := lt_of_block hbW
  have hql := lt_of_block hqW
  have hnew : ∀ k, W.heap.size ≤ k → Wf.heap[k]? = W7.heap[k]? := fun k hk2 => same k (by omega) (by omega) (by omega)
  have hown : Par.Own Wf W.heap.size 22 u us' := by
    have h1 := hr.own
    rw [hzs] at h1
    unfold Par.Own at *
    exact ownsRow_block h1 (fun g e => hnew g (Own.lt (show Par.Own W7 W.heap.size 22 u us' from h1) g e).1)
  have hjv := JV.fresh (B := W.heap.size) hhead hown hr.len (by omega) (fun i hi => (hr.cells i hi).keep fun k hk2 => ⟨⟨by rw [hzs] at hk2; exact hk2.1, hk2.2.2⟩, hnew k (by rw [hzs] at hk2; exact hk2.1)⟩) hgl
  rw [← hWf]
  refine ⟨F', _, ⟨hf.keep fun k hk2 => ?_, ⟨_, _, _, _, hjv⟩, fun k hk2 hk3 => ?_⟩, ⟨?_, ?_, ?_, by omega, fun k hk2 hn => ?_⟩, hg, fun k hk2 => ?_⟩
  · obtain ⟨h1, h2, h3⟩ := hFn k hk2
    rw [same k h1 h2 h3, old k (hf.lt k hk2) h1]
  · have hlt := hf.lt k hk3
    rcases hk2 with rfl | hk2 | ⟨hk2, -⟩
    · exact (hFn _ hk3).1 rfl
    · have := (Own.lt hown k hk2).1; omega
    · omega
  · rw [hWf]; exact hr.below.os.trans hk.os
  · rw [hWf]; exact hr.below.tape.trans hk.tape
  · rw [hWf]; exact hr.below.output.trans hk.output
  · rw [same k (fun e => hn (.inr (e ▸ hj.gpj))) (by omega) (by omega), old k (by omega) (fun e => hn (.inr (e ▸ hj.gpj)))]
    exact hk.block k hk2 (fun hf2 => hn (.inl hf2))
  · rcases hk2 with rfl | hk2 | ⟨hk2, -⟩
    · exact .inl hj.gpj
    · right; have := (Own.lt hown k hk2).1; omega
    · right; omega
/-- the memory behind a base that could not be laid. -/
theorem JPost.left {w W : World} {pj p gen q bR : Nat} {st st' : St} {base log : List (List UInt8)} {F F' G : Nat → Prop} {ds : Option (List Deferred)} {o : Obj} (h : JF w pj p st gen base log F G)
    (hf : Fsy W p st' F') (hk : Kept (fun k => F k ∨ k = bR) w W) (hg : Grows w F F') (hbR : w.heap.size ≤ bR) (hq : w.heap.size ≤ q) (hqW : W.heap[q]? = some (.deferred ds)) :
    JPost w pj p F G st' gen base log (W.putObj q o) := by
  have hk2 : Kept F w W := ⟨hk.os, hk.tape, hk.output, hk.size, fun k h1 h2 => hk.block k h1 (fun h3 => by rcases h3 with h3 | h3; exact h2 h3; omega)⟩
  refine ⟨F', G, ⟨hf.put hqW rfl rfl, h.js.block fun k h1 => ?_, fun k h1 h2 => ?_⟩, (kept_put hk2 hq o).mono fun k _ h1 => .inl h1, hg, Grows.refl _ _⟩
  · have := h.js.lt k h1
    rw [World.putObj_heap_other (by omega)]
    exact hk2.block k this (h.apart k h1)
  · rcases hg k h2 with h3 | h3
    · exact h.apart k h1 h3
    · have := h.js.lt k h1; omega

set_option maxRecDepth 100000 in
set_option maxHeartbeats 4000000 in
theorem jlay_any {w : World} {pj p : Nat} {st : St} {gen : Nat} {base log : List (List UInt8)} {F G : Nat → Prop} (h : JF w pj p st gen base log F G) (v : Value) (rows : List (List UInt8)) (hv : RowsAt (fun k => k < w.heap.size ∧ ¬ F k ∧ ¬ G k) w v rows) (hr : ∀ l ∈ rows, l.length ≤ 60000) (hrl : rows.length ≤ 20000) (hg : gen + 1 < 4294967296)
    (hE : (encR (gen + 1) (be4 rows.length :: rows)).length ≤ 900000) {kf d : Nat} (hc : Calm st.files kf d) (hkf : kf ≤ 1000) (hd : d ≤ 2000000) (hpw : st.power ≤ 9223372036854775807) :
    Calls Tryz.prog 29 #[.pointer (some ⟨pj, 0, none⟩), v] w fun e w' => ∃ r, laySteps (encR (gen + 1) (be4 rows.length :: rows)) (stepsOf (hasF st.files nLog)) st = r ∧ e = .returned (.int .i64 r.2) ∧
      JPost w pj p F G r.1 (if r.2 = 0 then gen + 1 else gen) (if r.2 = 0 then rows else base) (if r.2 = 0 then [] else log) w' := by
  have HH := Lib.hid h
  obtain ⟨hf, ⟨bv, lv, bs, us, hj⟩, hap⟩ := h
  obtain ⟨⟨c0, c1, c2, c3⟩, -⟩ := hj.cells
  have hgl := hj.gen_lt
  have HJ := Lib.hid hj; have HF := Lib.hid hf
  have HPJ : Hid (pj < w.heap.size ∧ ¬ F pj) := Lib.hid ⟨hj.lt _ hj.gpj, hap pj hj.gpj⟩
  have HC := Lib.hid hc; have HR := Lib.hid hr; have HE := Lib.hid hE; have HV := Lib.hid hv
  have HB := Lib.hid (And.intro hkf (And.intro hd hpw))
  obtain ⟨A, c, rfl, hcc, hm, HA⟩ := (hv.sub (S' := (· < w.heap.size)) fun k hk => hk.1).open_
  clear hf hj hap hc hr hE hv hkf hd hpw
  refine (callsIn_wide (n := 7)).1 ?_
  refine callsIn_of_wp_marks Tryz.func29 rfl trivial ?_ rfl
  simp only [Tryz.ntmps29, List.size_toArray, List.length_cons, List.length_nil, Nat.reduceAdd, Nat.reduceSub, Array.replicate_succ, Array.replicate_zero, List.push_toArray, List.append_toArray, List.nil_append, List.cons_append]
  refine wpIn_wide.2 ?_
  go_wp2
  obtain ⟨W0, hW0⟩ : ∃ W0, W0 = w.alloc (.cells #[.int .i64 0] 32) := ⟨_, rfl⟩
  rw [← hW0]
  have HW0 := Lib.hid hW0
  have hz0 : W0.heap.size = w.heap.size + 1 := by rw [hW0]; simp
  have hb0 : Below w.heap.size w W0 := by rw [hW0]; exact box_below w _
  have HB0 := Lib.hid hb0
  have HZ0 := Lib.hid hz0
  clear hW0 hb0 hz0
  go_loopw [15] (fun i wr => ∃ k n : Nat, k ≤ rows.length ∧ i = .int .i64 k ∧ Hid (wr = W0.drewN n)) (fun i _ => rows.length - (intOf i).toNat)
  case atStart => exact ⟨0, 0, by omega, rfl, Lib.hid rfl⟩
  case round =>
    obtain ⟨k, n, hk, rfl, HW⟩ := hrel
    have HBW0 : Hid (Below W0.heap.size W0 wr) := Lib.hid (by rw [HW.out]; exact below_drewN (Below.refl _ _) n)
    have HBW : Hid (Below w.heap.size w wr) := Lib.hid (HB0.out.trans (HBW0.out.mono (by have := HZ0.out; omega)))
    by_cases hlt : k < rows.length
    · obtain ⟨b, off, A1, c1', rfl, hb, hc1, hs1⟩ := HA.out wr HBW.out k hlt
      have hL : ¬ (65536 : Int) < ((rows.getD k []).length : Int) := by
        rw [List.getD_eq_getElem?_getD, List.getElem?_eq_getElem hlt]
        have := HR.out _ (List.getElem_mem hlt)
        simp only [Option.getD_some]; omega
      clear hs1
      generalize rows.getD k [] = L at *
      go_wp2
      go_roundw
      case rel => exact ⟨k + 1, n, by omega, by go_num, HW⟩
      case measure => simp [intOf]; omega
    · have hkl : k = rows.length := by omega
      have c1r : wr.cell? ⟨pj, 1, none⟩ = some (.int .u32 (gen : Nat)) := (HBW.out.cell (p := ⟨pj, 1, none⟩) HPJ.out.1).trans c1
      clear hkl hk c0 c1 c2 c3 HW
      obtain ⟨wo, rfl⟩ : ∃ wo : World, wo = wr := ⟨_, rfl⟩
      have hgi : ((gen : Int) + 1) = ((gen + 1 : Nat) : Int) := by omega
      have HGI := Lib.hid hgi; clear hgi
      obtain ⟨N, hN⟩ : ∃ N, N = rows.length := ⟨_, rfl⟩
      have HN := Lib.hid hN
      have hN32 : (N : Int) ≤ 4294967295 := by omega
      have hNn : N ≤ 20000 := by omega
      rw [← hN] at hlt hrl hcc ⊢
      clear hN
      go_wp2_with fail
      obtain ⟨g1, hg1⟩ : ∃ g1, g1 = gen + 1 := ⟨_, rfl⟩
      have HG1 := Lib.hid hg1
      rw [HGI.out, ← hg1]
      have hg1l : g1 < 4294967296 := by omega
      rw [← hg1, ← HN.out] at HE
      clear HGI hg1 hg hgl
      obtain ⟨E, hE⟩ : ∃ E, E = fun k => encR g1 (be4 N :: rows.take k) := ⟨_, rfl⟩
      have HEN : Hid (E N = encR g1 (be4 N :: rows)) := Lib.hid (by rw [hE]; simp only; rw [HN.out, List.take_length])
      have HE0 : Hid (E 0 = frameB g1 (be4 N)) := Lib.hid (by rw [hE]; simp [encR])
      have HES : Hid (∀ j, j < N → E (j + 1) = E j ++ frameB g1 (rows.getD j [])) := Lib.hid (fun j hj => by
        rw [hE]
        simp only
        rw [List.take_succ_eq_append_getElem (by rw [← HN.out]; exact hj), ← List.cons_append, encR_snoc, List.getD_eq_getElem?_getD, List.getElem?_eq_getElem (by rw [← HN.out]; exact hj)]
        rfl)
      have HEL : Hid (∀ j, j ≤ N → (E j).length ≤ 900000) := Lib.hid (fun j hj => by
        have h1 := HE.out
        rw [← HEN.out] at h1
        have : ∀ d, j + d ≤ N → (E j).length ≤ (E (j + d)).length := fun d => by
          induction d with
          | zero => intro _; exact Nat.le_refl _
          | succ d ih => intro hd; have := ih (by omega); rw [← Nat.add_assoc, HES.out _ (by omega), List.length_append]; omega
        have := this (N - j) (by omega)
        rw [show j + (N - j) = N by omega] at this
        omega)
      clear hE
      refine (number_any N (by omega) _).mono ?_
      rintro e w1 ⟨A1, c1', rfl, hu1, hb1⟩
      have HU1 := Lib.hid hu1
      have HB1 : Hid (Below W0.heap.size W0 w1) := Lib.hid (HBW0.out.trans (hb1.mono HBW0.out.size))
      clear hu1 hb1 c1r
      go_wp2_with fail
      refine (framed_any g1 hg1l (.slice A1 4 c1') (be4 N) w1 (by have := Own.seg HU1.out; exact this) (by rw [be4_length]; omega)).mono ?_
      rintro e w2 ⟨A2, c2, rfl, hu2, hb2⟩
      rw [← HE0.out] at hu2 ⊢
      have HU2 : Hid (Par.Own w2 W0.heap.size 5 (.slice A2 (E 0).length c2) (byteCells (E 0))) := Lib.hid (hu2.base HB1.out.size)
      have HB2 : Hid (Below W0.heap.size W0 w2) := Lib.hid (HB1.out.trans (hb2.mono HB1.out.size))
      clear hu2 hb2 HU1 HB1 HE0
      go_wp2
      go_loopw [8, 36] (fun s i wx => ∃ m : Nat, m ≤ N ∧ i = .int .i64 m ∧ Hid (Par.Own wx W0.heap.size 5 s (byteCells (E m))) ∧ Hid (Below W0.heap.size W0 wx)) (fun _ i _ => N - (intOf i).toNat)
      case atStart => exact ⟨0, by omega, rfl, HU2, HB2⟩
      case round =>
        obtain ⟨m, hmk, rfl, HU, HBX⟩ := hrel
        have HBXw : Hid (Below w.heap.size w wr) := Lib.hid (HB0.out.trans (HBX.out.mono (by have := HZ0.out; omega)))
        have hown := HU.out
        obtain ⟨As, cs, hf⟩ := hown.form
        rw [byteCells_length] at hf
        subst hf
        have hz := HBX.out.size
        by_cases hlm : m < N
        · obtain ⟨b, off, Ak, ck, rfl, hb, hcell, hseg⟩ := HA.out _ HBXw.out m (by rw [← HN.out]; exact hlm)
          have HES1 := Lib.hid (HES.out m hlm)
          have HEL1 := Lib.hid (HEL.out (m + 1) (by omega))
          have hL : (rows.getD m []).length ≤ 60000 := by
            rw [List.getD_eq_getElem?_getD, List.getElem?_eq_getElem (by rw [← HN.out]; exact hlm)]
            exact HR.out _ (List.getElem_mem _)
          generalize rows.getD m [] = L at *
          have HSG := Lib.hid (hseg.more HBXw.out.size)
          clear hseg
          go_wp2_with fail
          refine (framed_any g1 hg1l (.slice Ak L.length ck) L wr HSG.out (by omega)).mono ?_
          rintro e w3 ⟨A3, c3, rfl, hu3, hb3⟩
          have hown3 := hown.below hb3
          have hsg3 := Own.seg hu3
          have hz3 := hb3.size
          have HB3 : Hid (Below W0.heap.size W0 w3) := Lib.hid (HBX.out.trans (hb3.mono hz))
          clear hown hu3 hb3 HSG hcell
          go_wp2_with (at_builtin; refine wpList_app _ rfl _ _ _ rfl W0.heap.size 5 _ byteE _ _ rfl hown3 _ _ _ rfl hsg3 (one_bytes _) ?c1 ?c2 ?_)
          case c1 => rw [byteCells_length, byteCells_length]; have h1 := HEL1.out; rw [HES1.out, List.length_append] at h1; omega
          case c2 => exact Nat.le_trans hz hz3
          intro v3 w4 hown4 hg3 hat3
          have HB4 := Lib.hid (below_app HB3.out hown3 hg3 (Nat.le_trans hz hz3))
          rw [← byteCells_append, ← HES1.out] at hown4
          have HU4 := Lib.hid hown4
          clear hown4 hg3 hat3 hown3 hsg3 HU
          go_wp2
          go_roundw
          case rel => exact ⟨m + 1, by omega, by go_num, HU4, HB4⟩
          case measure => simp [intOf]; omega
        · have hml : m = N := by omega
          have HM := Lib.hid hml
          clear hml hmk hown
          obtain ⟨wq, rfl⟩ : ∃ wq : World, wq = wr := ⟨_, rfl⟩
          go_wp2_with fail
          refine (steps_any wq pj (E m).length cs As).mono ?_
          rintro e w5 ⟨rfl, rfl⟩
          obtain ⟨w1, hw1⟩ : ∃ w1, w1 = (wq.alloc (.cells #[.pointer (some ⟨pj, 0, none⟩)] 41)).alloc (.cells #[.slice As (E m).length cs] 22) := ⟨_, rfl⟩
          have hbq : Below wq.heap.size wq w1 := by rw [hw1]; exact (box_below wq _).alloc (by simp) _
          have hj1 : w1.heap[wq.heap.size]? = some (.cells #[.pointer (some ⟨pj, 0, none⟩)] 41 (0, 0)) := by
            rw [hw1, Below.heap_alloc _ _ _ (by simp)]; exact heap_alloc_new wq _
          have hB1 : w1.heap[wq.heap.size + 1]? = some (.cells #[.slice As (E m).length cs] 22 (0, 0)) := by
            rw [hw1]
            have := heap_alloc_new (wq.alloc (.cells #[.pointer (some ⟨pj, 0, none⟩)] 41)) (.cells #[.slice As (E m).length cs] 22)
            simpa using this
          have HZ1 : Hid (w1.heap.size = wq.heap.size + 2) := Lib.hid (by rw [hw1]; simp)
          rw [← hw1]
          clear hw1
          have HBQ := Lib.hid hbq; have HJ1 := Lib.hid hj1; have HBB1 := Lib.hid hB1
          clear hbq hj1 hB1
          go_wp2
          have HK1 : Hid (Kept F w w1) := Lib.hid ((Kept.of_below HBXw.out).trans' (Kept.of_below HBQ.out))
          have hl1 := HF.out.lt
          have HFL1 := Lib.hid hl1
          clear hl1
          have HF1 : Hid (Fsy w1 p st F) := Lib.hid ((HF.out.below HBXw.out).below HBQ.out)
          -- HERE
          have HBX1 : Hid (w1.heap[w.heap.size]? = some (.cells #[.int .i64 0] 32 (0, 0))) := Lib.hid (by
            rw [(HBX.out.trans (HBQ.out.mono HBX.out.size)).block _ (by have := HZ0.out; omega), HW0.out]; exact heap_alloc_new w _)
          have HJV1 : Hid (JV w1 pj p gen bv lv bs us base log G) := Lib.hid ((HJ.out.go HBXw.out).go HBQ.out)
          have HEM : Hid (E m = encR g1 (be4 N :: rows)) := Lib.hid (by rw [HM.out]; exact HEN.out)
          have HLW : Hid (w.heap.size + 1 ≤ wq.heap.size ∧ ∀ j, F j → j < w.heap.size) := Lib.hid ⟨by have := HBX.out.size; have := HZ0.out; omega, HFL1.out⟩
          have HSEG : Hid (SegS (fun j => j < w1.heap.size ∧ ¬ j < w.heap.size) w1 (.slice As (E m).length cs) (byteCells (E m))) := Lib.hid (by
            have h1 := own_seg HU.out
            have hz := HBQ.out.size
            have hz2 := HZ0.out
            exact h1.keep fun j hj => by
              have := HU.out.lt j hj
              exact ⟨⟨by omega, by omega⟩, HBQ.out.block j this.2⟩)
          refine (wpIn_wide (n := 7)).1 ?_
          refine wpIn_range_told (F := Fence.wide) rfl (by omega) (gf := 81) (lb := #[.pointer (some ⟨wq.heap.size, 0, none⟩), .pointer (some ⟨wq.heap.size + 1, 0, none⟩)]) rfl trivial (enters_of Tryz.func81 (by kernel_rfl) rfl)
            (steps_told w1 wq.heap.size (wq.heap.size + 1) pj p _ _ _ _ (hasF st.files nLog) HJ1.out HBB1.out HJV1.out.head) (fun h k => h.t k) (fun W r r' h => tyK_put h) (fun x => by rw [encS_eq]; rfl)
            (LayI w1 p st F (E m) kf d (hasF st.files nLog)) (fun cd => LayX w1 p st F (E m) w.heap.size cd) layI_abB layI_abP (fun _ => layX_abB) (fun _ => layX_abP (by have := HZ1.out; have := HLW.out.1; omega)) cs_abP (fun pre W h => LayI.rs ⟨pre, h⟩ HB.out.1)
            ⟨by simp, st, F, rfl, HF1.out, HC.out.mono (by simp) (by simp), HB.out.2.2, rfl, Kept.refl _ _, Grows.refl _ _⟩
            (fun x => { tmps := #[.pointer (some ⟨pj, 0, none⟩), .slice A N c, undef, undef, .pointer (some ⟨w.heap.size, 0, none⟩), undef, u6, .int .u32 (g1 : Nat), .slice As (E m).length cs, undef, u10, vS (wq.heap.size + 1) x, undef, .slice A N c, .int .i64 (N : Nat), .int .i64 (k : Nat), .bool false, u17, u18, u19, u20, u21, u22, .pointer (some ⟨pj, 0, none⟩), .pointer (some ⟨pj, 0, none⟩), .pointer (some ⟨pj, 1, none⟩), .int .u32 (gen : Nat), .int .u32 (g1 : Nat), .int .u32 (g1 : Nat), .slice A N c, .int .i64 (N : Nat), .int .u32 (N : Nat), .slice A1 4 c1', .slice A2 (E 0).length c2, .slice A N c, .int .i64 (N : Nat), .int .i64 (m : Nat), .bool false, u38, u39, u40, u41, u42, u43, u44, u45, .pointer (some ⟨pj, 0, none⟩), .slice As (E m).length cs, .func (.func 81) #[] #[.pointer (some ⟨wq.heap.size, 0, none⟩), .pointer (some ⟨wq.heap.size + 1, 0, none⟩)], vS (wq.heap.size + 1) x, undef, undef, undef, undef, undef, undef, undef, undef, undef, undef, undef, undef, undef, undef, undef, undef, undef], defers := [] }) ?assign ?body ?done ?stop
          case assign =>
            intro l x W K hK
            have HK := Lib.hid hK; clear hK
            rw [encS_eq]
            dsimp only
            gi_wp2
            exact HK.out
          case body =>
            rintro l pre ⟨i, b4⟩ W ⟨hlen4, st', F', h2, h3, h4, h5, h6, h7, h8⟩ hcx hlen ⟨rr, hbk⟩
            have hbx : W.heap[w.heap.size]? = some (.cells #[.int .i64 0] 32 (0, 0)) := (h7.block _ (lt_of_block HBX1.out) (fun hf => by have := HLW.out.2 _ hf; omega)).trans HBX1.out
            have hNF : ∀ j, j < w1.heap.size → ¬ j < w.heap.size → ¬ F' j := fun j h9 h10 h11 => by
              rcases h8 j h11 with h12 | h12
              · exact h10 (HLW.out.2 j h12)
              · omega
            have HNXT : Hid (∀ F2 W2, Fsy W2 p (stepSt (E m) i st').1 F2 → Kept F' W W2 → Grows W F' F2 → KeepB w1.heap.size W W2 ∧ TyK W W2 ∧ Fsy W2 p (stepSt (E m) i st').1 F2 ∧ Grows w1 F F2 ∧ Kept F w1 W2 ∧ laySteps (E m) ((pre ++ [(i, b4)]).map (·.1)) st = stepSt (E m) i st' ∧ ((stepSt (E m) i st').2 = 0 → LayI w1 p st F (E m) kf d (hasF st.files nLog) (pre ++ [(i, b4)]) W2)) := Lib.hid fun F2 W2 hf hk hg => by
              obtain ⟨n1, n2, n3, n4⟩ := LayI.next (x := (i, b4)) hlen h2 h3 h4 h5 h6 h7 h8 hf hk hg
              exact ⟨Kept.books hk h3 _, Kept.ty hk h3, hf, n1, n2, n3, n4⟩
            have HBOX : Hid (∀ W2, Kept F' W W2 → W2.heap[w.heap.size]? = some (.cells #[.int .i64 0] 32 (0, 0))) := Lib.hid fun W2 hk => (hk.block _ (lt_of_block hbx) (hNF _ (lt_of_block HBX1.out) (by omega))).trans hbx
            rcases i with _ | _ | _ | n
            · have hst := step1_any W p b4 (wq.heap.size + 1) (E m).length cs As st' F' h3 (E m) rfl (HSEG.out.keep fun j hj => ⟨⟨by have := h7.size; omega, hNF j hj.1 hj.2⟩, h7.block j hj.1 (fun hf => hj.2 (HLW.out.2 j hf))⟩) (h4.modest h5 (by have := HB.out.1; omega) (by have h9 := HEL.out m (by have := HM.out; omega); have := HB.out.2.1; have : pre.length * (E m).length ≤ 4 * 900000 := Nat.mul_le_mul hlen4 h9; omega)) hcx ((h7.block _ (lt_of_block HBB1.out) (fun hf => by have := HLW.out.2 _ hf; have := HLW.out.1; omega)).trans HBB1.out)
              try simp only [Nat.zero_add, Nat.reduceAdd] at HNXT HBOX
              dsimp only
              obtain ⟨r2, hr2⟩ : ∃ r2, r2 = stepSt (E m) 0 st' := ⟨_, rfl⟩
              rw [← hr2] at hst HNXT
              have hst2 : Calls Tryz.prog 82 #[.pointer (some ⟨b4, 0, none⟩), .pointer (some ⟨wq.heap.size + 1, 0, none⟩)] W fun e W2 => e = .returned (.int .i64 r2.2) ∧ Hid (∃ F2, KeepB w1.heap.size W W2 ∧ TyK W W2 ∧ Fsy W2 p r2.1 F2 ∧ Grows w1 F F2 ∧ Kept F w1 W2 ∧ laySteps (E m) ((pre ++ [(0, b4)]).map (fun y : Nat × Nat => y.1)) st = r2 ∧ (r2.2 = 0 → LayI w1 p st F (E m) kf d (hasF st.files nLog) (pre ++ [(0, b4)]) W2)) ∧ W2.cell? ⟨w.heap.size, 0, none⟩ = some (.int .i64 0) ∧ W2.frozen? ⟨w.heap.size, 0, none⟩ = false := by
                refine hst.mono ?_
                rintro e W2 ⟨F2, rfl, g1', g2', g3'⟩
                obtain ⟨y1, y2⟩ := one_cellJ (HBOX.out W2 g2')
                exact ⟨rfl, Lib.hid ⟨F2, HNXT.out F2 W2 g1' g2' g3'⟩, y1, y2⟩
              have HST := Lib.hid hst2
              clear hst hst2 HNXT HBOX hr2 h2 h3 h4 h5 h6 h7 h8 hcx hbk hbx hNF
              simp only [vS]
              by_cases her : r2.2 = 0
              · rw [her] at HST
                gi_wp2_with (refine ⟨trivial, ?_⟩; gi_at_call 82; refine (CallsIn.inRound l (callsIn_wide.2 HST.out)).mono ?_; rintro e W2 ⟨rfl, HN2, y1, y2⟩)
                obtain ⟨F2, n1, n2, n3, n4, n5, n6, n7⟩ := HN2.out
                exact ⟨n1, n2, n7 (by first | exact her | trivial | rfl)⟩
              · obtain ⟨er, he⟩ : ∃ er, er = r2.2 := ⟨_, rfl⟩
                rw [← he] at HST her
                have heb : (er != 0) = true := by simpa using her
                have HHE := Lib.hid (And.intro he her)
                clear he her
                gi_wp2_with (refine ⟨trivial, ?_⟩; gi_at_call 82; refine (CallsIn.inRound l (callsIn_wide.2 HST.out)).mono ?_; rintro e W2 ⟨rfl, HN2, y1, y2⟩)
                obtain ⟨F2, n1, n2, n3, n4, n5, n6, n7⟩ := HN2.out
                have hbx2 : W2.heap[w.heap.size]? = some (.cells #[.int .i64 0] 32 (0, 0)) := (n5.block _ (lt_of_block HBX1.out) (fun hf => by have := HLW.out.2 _ hf; omega)).trans HBX1.out
                have hq1 : w.heap.size < w1.heap.size := lt_of_block HBX1.out
                exact ⟨fun r hbk => ⟨(setCell_block (by show w1.heap.size + 1 ≠ w.heap.size; omega)).trans (n1 r hbk).loop, (setCell_block (by show w1.heap.size ≠ w.heap.size; omega)).trans (n1 r hbk).calls⟩, rfl, r2.1, F2, er, HHE.out.2, by rw [n6, HHE.out.1], n3.keep fun j hj => setCell_block (fun (e : j = w.heap.size) => by
                    subst e
                    rcases n4 _ hj with hj | hj
                    · have := HLW.out.2 _ hj; omega
                    · omega), ((n5.mono fun j _ hj => .inl hj).setCell (p := ⟨w.heap.size, 0, none⟩) (.inl (.inr rfl)) _), n4, one_setJ hbx2⟩
            · have hst := step2_any W p b4 st' F' h3 (E m) h5 hcx
              try simp only [Nat.zero_add, Nat.reduceAdd] at HNXT HBOX
              dsimp only
              obtain ⟨r2, hr2⟩ : ∃ r2, r2 = stepSt (E m) 1 st' := ⟨_, rfl⟩
              rw [← hr2] at hst HNXT
              have hst2 : Calls Tryz.prog 83 #[.pointer (some ⟨b4, 0, none⟩)] W fun e W2 => e = .returned (.int .i64 r2.2) ∧ Hid (∃ F2, KeepB w1.heap.size W W2 ∧ TyK W W2 ∧ Fsy W2 p r2.1 F2 ∧ Grows w1 F F2 ∧ Kept F w1 W2 ∧ laySteps (E m) ((pre ++ [(1, b4)]).map (fun y : Nat × Nat => y.1)) st = r2 ∧ (r2.2 = 0 → LayI w1 p st F (E m) kf d (hasF st.files nLog) (pre ++ [(1, b4)]) W2)) ∧ W2.cell? ⟨w.heap.size, 0, none⟩ = some (.int .i64 0) ∧ W2.frozen? ⟨w.heap.size, 0, none⟩ = false := by
                refine hst.mono ?_
                rintro e W2 ⟨F2, rfl, g1', g2', g3'⟩
                obtain ⟨y1, y2⟩ := one_cellJ (HBOX.out W2 g2')
                exact ⟨rfl, Lib.hid ⟨F2, HNXT.out F2 W2 g1' g2' g3'⟩, y1, y2⟩
              have HST := Lib.hid hst2
              clear hst hst2 HNXT HBOX hr2 h2 h3 h4 h5 h6 h7 h8 hcx hbk hbx hNF
              simp only [vS]
              by_cases her : r2.2 = 0
              · rw [her] at HST
                gi_wp2_with (refine ⟨trivial, ?_⟩; gi_at_call 83; refine (CallsIn.inRound l (callsIn_wide.2 HST.out)).mono ?_; rintro e W2 ⟨rfl, HN2, y1, y2⟩)
                obtain ⟨F2, n1, n2, n3, n4, n5, n6, n7⟩ := HN2.out
                exact ⟨n1, n2, n7 (by first | exact her | trivial | rfl)⟩
              · obtain ⟨er, he⟩ : ∃ er, er = r2.2 := ⟨_, rfl⟩
                rw [← he] at HST her
                have heb : (er != 0) = true := by simpa using her
                have HHE := Lib.hid (And.intro he her)
                clear he her
                gi_wp2_with (refine ⟨trivial, ?_⟩; gi_at_call 83; refine (CallsIn.inRound l (callsIn_wide.2 HST.out)).mono ?_; rintro e W2 ⟨rfl, HN2, y1, y2⟩)
                obtain ⟨F2, n1, n2, n3, n4, n5, n6, n7⟩ := HN2.out
                have hbx2 : W2.heap[w.heap.size]? = some (.cells #[.int .i64 0] 32 (0, 0)) := (n5.block _ (lt_of_block HBX1.out) (fun hf => by have := HLW.out.2 _ hf; omega)).trans HBX1.out
                have hq1 : w.heap.size < w1.heap.size := lt_of_block HBX1.out
                exact ⟨fun r hbk => ⟨(setCell_block (by show w1.heap.size + 1 ≠ w.heap.size; omega)).trans (n1 r hbk).loop, (setCell_block (by show w1.heap.size ≠ w.heap.size; omega)).trans (n1 r hbk).calls⟩, rfl, r2.1, F2, er, HHE.out.2, by rw [n6, HHE.out.1], n3.keep fun j hj => setCell_block (fun (e : j = w.heap.size) => by
                    subst e
                    rcases n4 _ hj with hj | hj
                    · have := HLW.out.2 _ hj; omega
                    · omega), ((n5.mono fun j _ hj => .inl hj).setCell (p := ⟨w.heap.size, 0, none⟩) (.inl (.inr rfl)) _), n4, one_setJ hbx2⟩
            · have hst := step3_any W p b4 st' F' h3 (E m) h5 (by have := h4.files; have := HB.out.1; omega) hcx
              try simp only [Nat.zero_add, Nat.reduceAdd] at HNXT HBOX
              dsimp only
              obtain ⟨r2, hr2⟩ : ∃ r2, r2 = stepSt (E m) 2 st' := ⟨_, rfl⟩
              rw [← hr2] at hst HNXT
              have hst2 : Calls Tryz.prog 84 #[.pointer (some ⟨b4, 0, none⟩)] W fun e W2 => e = .returned (.int .i64 r2.2) ∧ Hid (∃ F2, KeepB w1.heap.size W W2 ∧ TyK W W2 ∧ Fsy W2 p r2.1 F2 ∧ Grows w1 F F2 ∧ Kept F w1 W2 ∧ laySteps (E m) ((pre ++ [(2, b4)]).map (fun y : Nat × Nat => y.1)) st = r2 ∧ (r2.2 = 0 → LayI w1 p st F (E m) kf d (hasF st.files nLog) (pre ++ [(2, b4)]) W2)) ∧ W2.cell? ⟨w.heap.size, 0, none⟩ = some (.int .i64 0) ∧ W2.frozen? ⟨w.heap.size, 0, none⟩ = false := by
                refine hst.mono ?_
                rintro e W2 ⟨F2, rfl, g1', g2', g3'⟩
                obtain ⟨y1, y2⟩ := one_cellJ (HBOX.out W2 g2')
                exact ⟨rfl, Lib.hid ⟨F2, HNXT.out F2 W2 g1' g2' g3'⟩, y1, y2⟩
              have HST := Lib.hid hst2
              clear hst hst2 HNXT HBOX hr2 h2 h3 h4 h5 h6 h7 h8 hcx hbk hbx hNF
              simp only [vS]
              by_cases her : r2.2 = 0
              · rw [her] at HST
                gi_wp2_with (refine ⟨trivial, ?_⟩; gi_at_call 84; refine (CallsIn.inRound l (callsIn_wide.2 HST.out)).mono ?_; rintro e W2 ⟨rfl, HN2, y1, y2⟩)
                obtain ⟨F2, n1, n2, n3, n4, n5, n6, n7⟩ := HN2.out
                exact ⟨n1, n2, n7 (by first | exact her | trivial | rfl)⟩
              · obtain ⟨er, he⟩ : ∃ er, er = r2.2 := ⟨_, rfl⟩
                rw [← he] at HST her
                have heb : (er != 0) = true := by simpa using her
                have HHE := Lib.hid (And.intro he her)
                clear he her
                gi_wp2_with (refine ⟨trivial, ?_⟩; gi_at_call 84; refine (CallsIn.inRound l (callsIn_wide.2 HST.out)).mono ?_; rintro e W2 ⟨rfl, HN2, y1, y2⟩)
                obtain ⟨F2, n1, n2, n3, n4, n5, n6, n7⟩ := HN2.out
                have hbx2 : W2.heap[w.heap.size]? = some (.cells #[.int .i64 0] 32 (0, 0)) := (n5.block _ (lt_of_block HBX1.out) (fun hf => by have := HLW.out.2 _ hf; omega)).trans HBX1.out
                have hq1 : w.heap.size < w1.heap.size := lt_of_block HBX1.out
                exact ⟨fun r hbk => ⟨(setCell_block (by show w1.heap.size + 1 ≠ w.heap.size; omega)).trans (n1 r hbk).loop, (setCell_block (by show w1.heap.size ≠ w.heap.size; omega)).trans (n1 r hbk).calls⟩, rfl, r2.1, F2, er, HHE.out.2, by rw [n6, HHE.out.1], n3.keep fun j hj => setCell_block (fun (e : j = w.heap.size) => by
                    subst e
                    rcases n4 _ hj with hj | hj
                    · have := HLW.out.2 _ hj; omega
                    · omega), ((n5.mono fun j _ hj => .inl hj).setCell (p := ⟨w.heap.size, 0, none⟩) (.inl (.inr rfl)) _), n4, one_setJ hbx2⟩
            · have hst := step4_any W p b4 n st' F' h3 (E m) h5 hcx
              try simp only [Nat.zero_add, Nat.reduceAdd] at HNXT HBOX
              dsimp only
              obtain ⟨r2, hr2⟩ : ∃ r2, r2 = stepSt (E m) (n + 3) st' := ⟨_, rfl⟩
              rw [← hr2] at hst HNXT
              have hst2 : Calls Tryz.prog 86 #[.pointer (some ⟨b4, 0, none⟩)] W fun e W2 => e = .returned (.int .i64 r2.2) ∧ Hid (∃ F2, KeepB w1.heap.size W W2 ∧ TyK W W2 ∧ Fsy W2 p r2.1 F2 ∧ Grows w1 F F2 ∧ Kept F w1 W2 ∧ laySteps (E m) ((pre ++ [((n + 3), b4)]).map (fun y : Nat × Nat => y.1)) st = r2 ∧ (r2.2 = 0 → LayI w1 p st F (E m) kf d (hasF st.files nLog) (pre ++ [((n + 3), b4)]) W2)) ∧ W2.cell? ⟨w.heap.size, 0, none⟩ = some (.int .i64 0) ∧ W2.frozen? ⟨w.heap.size, 0, none⟩ = false := by
                refine hst.mono ?_
                rintro e W2 ⟨F2, rfl, g1', g2', g3'⟩
                obtain ⟨y1, y2⟩ := one_cellJ (HBOX.out W2 g2')
                exact ⟨rfl, Lib.hid ⟨F2, HNXT.out F2 W2 g1' g2' g3'⟩, y1, y2⟩
              have HST := Lib.hid hst2
              clear hst hst2 HNXT HBOX hr2 h2 h3 h4 h5 h6 h7 h8 hcx hbk hbx hNF
              simp only [vS]
              by_cases her : r2.2 = 0
              · rw [her] at HST
                gi_wp2_with (refine ⟨trivial, ?_⟩; gi_at_call 86; refine (CallsIn.inRound l (callsIn_wide.2 HST.out)).mono ?_; rintro e W2 ⟨rfl, HN2, y1, y2⟩)
                obtain ⟨F2, n1, n2, n3, n4, n5, n6, n7⟩ := HN2.out
                exact ⟨n1, n2, n7 (by first | exact her | trivial | rfl)⟩
              · obtain ⟨er, he⟩ : ∃ er, er = r2.2 := ⟨_, rfl⟩
                rw [← he] at HST her
                have heb : (er != 0) = true := by simpa using her
                have HHE := Lib.hid (And.intro he her)
                clear he her
                gi_wp2_with (refine ⟨trivial, ?_⟩; gi_at_call 86; refine (CallsIn.inRound l (callsIn_wide.2 HST.out)).mono ?_; rintro e W2 ⟨rfl, HN2, y1, y2⟩)
                obtain ⟨F2, n1, n2, n3, n4, n5, n6, n7⟩ := HN2.out
                have hbx2 : W2.heap[w.heap.size]? = some (.cells #[.int .i64 0] 32 (0, 0)) := (n5.block _ (lt_of_block HBX1.out) (fun hf => by have := HLW.out.2 _ hf; omega)).trans HBX1.out
                have hq1 : w.heap.size < w1.heap.size := lt_of_block HBX1.out
                exact ⟨fun r hbk => ⟨(setCell_block (by show w1.heap.size + 1 ≠ w.heap.size; omega)).trans (n1 r hbk).loop, (setCell_block (by show w1.heap.size ≠ w.heap.size; omega)).trans (n1 r hbk).calls⟩, rfl, r2.1, F2, er, HHE.out.2, by rw [n6, HHE.out.1], n3.keep fun j hj => setCell_block (fun (e : j = w.heap.size) => by
                    subst e
                    rcases n4 _ hj with hj | hj
                    · have := HLW.out.2 _ hj; omega
                    · omega), ((n5.mono fun j _ hj => .inl hj).setCell (p := ⟨w.heap.size, 0, none⟩) (.inl (.inr rfl)) _), n4, one_setJ hbx2⟩
          case done =>
            rintro xs W hS ⟨hlen4, st', F', h2, h3, h4, h5, h6, h7, h8⟩ hKD
            have hrun : laySteps (E m) (stepsOf (hasF st.files nLog)) st = (st', 0) := by rw [← hS]; exact h2
            have hkW : Kept F w W := by
              have := HK1.out
              exact ⟨h7.os.trans this.os, h7.tape.trans this.tape, h7.output.trans this.output, Nat.le_trans this.size h7.size, fun j hj hn => (h7.block j (by have := this.size; omega) hn).trans (this.block j hj hn)⟩
            have hgW : Grows w F F' := fun j hj => (h8 j hj).imp id (fun h => by have := HK1.out.size; omega)
            have HJW := Lib.hid (HJ.out.kept hkW HH.out.apart)
            have HBXW : Hid (W.heap[w.heap.size]? = some (.cells #[.int .i64 0] 32 (0, 0))) := Lib.hid ((h7.block _ (lt_of_block HBX1.out) (fun hf => by have := HLW.out.2 _ hf; omega)).trans HBX1.out)
            have HRUN := Lib.hid hrun; have HKW := Lib.hid hkW; have HGW := Lib.hid hgW; have HF3 := Lib.hid h3; have HKD := Lib.hid hKD
            have HROWS : Hid (RowsAt (· < (W.setCell ⟨pj, 1, none⟩ (.int .u32 (g1 : Nat))).heap.size) (W.setCell ⟨pj, 1, none⟩ (.int .u32 (g1 : Nat))) (.slice A rows.length c) rows) := Lib.hid (HV.out.keep fun j hj => by
              have := HKW.out.size
              refine ⟨by simp [World.setCell]; omega, ?_⟩
              rw [setCell_block (fun (e : j = pj) => hj.2.2 (e ▸ HJ.out.gpj))]
              exact HKW.out.block j hj.1 hj.2.1)
            obtain ⟨⟨c0, c1, c2, c3⟩, f1, f2, f3⟩ := HJW.out.cells
            clear hrun hkW hgW hKD hS h2 h3 h4 h5 h6 h7 h8
            have HCP : Hid (Calls Tryz.prog 61 #[.slice A N c] (W.setCell ⟨pj, 1, none⟩ (.int .u32 (g1 : Nat))) fun e W7 => ∃ (u : Value) (A7 : Option Addr) (c7 : Nat) (us' : List Value), e = .returned (.slice A7 N c7) ∧ Hid (u = .slice A7 N c7 ∧ Rowed (W.setCell ⟨pj, 1, none⟩ (.int .u32 (g1 : Nat))) rows rows.length u us' W7) ∧
                (W7.cell? ⟨pj, 2, none⟩ = some bv ∧ W7.cell? ⟨pj, 3, none⟩ = some lv ∧ W7.frozen? ⟨pj, 2, none⟩ = false ∧ W7.frozen? ⟨pj, 3, none⟩ = false ∧ W7.cell? ⟨w.heap.size, 0, none⟩ = some (.int .i64 0) ∧ W7.frozen? ⟨w.heap.size, 0, none⟩ = false ∧ W7.frozen? ⟨pj, 1, none⟩ = false)) := Lib.hid (by
              rw [HN.out]
              refine (copies_any _ rows _ HROWS.out (by have := HN.out; omega) (fun l hl => by have := HR.out l hl; omega)).mono ?_
              rintro e W7 ⟨u, us', rfl, hr⟩
              obtain ⟨A7, c7, hf⟩ := hr.own.form
              rw [hr.len] at hf
              have hhead := (hr.below.block pj (by have := HKW.out.size; have := HPJ.out.1; simp [World.setCell]; omega)).trans (four_setCell HJW.out.head (.int .u32 (g1 : Nat))).1
              obtain ⟨⟨-, -, y2, y3⟩, z1, z2, z3⟩ := four_cells hhead
              have hbx7 := (hr.below.block w.heap.size (by have := lt_of_block HBXW.out; simp [World.setCell]; omega)).trans ((setCell_block (show w.heap.size ≠ pj by have := HPJ.out.1; omega)).trans HBXW.out)
              obtain ⟨x0, x1⟩ := one_cellJ hbx7
              exact ⟨u, A7, c7, us', by rw [hf], Lib.hid ⟨hf, hr⟩, y2, y3, z2, z3, x0, x1, z1⟩)
            go_wp2_with fail
            refine HCP.out.mono ?_
            rintro e W7 ⟨u, A7, c7, us', rfl, HR7, y2, y3, z2, z3, x0, x1, z1⟩
            clear c0 c1 c2 c3 f1 f2 f3
            go_wp2
            have HZW : Hid (w1.heap.size ≠ pj ∧ w1.heap.size ≠ w.heap.size ∧ w.heap.size ≤ w1.heap.size) := Lib.hid (by have := HPJ.out.1; have := HZ1.out; have := HLW.out.1; omega)
            have hD : ((((W7.setCell ⟨pj, 2, none⟩ (.slice A7 N c7)).setCell ⟨pj, 3, none⟩ (.slice none 0 0)).setCell ⟨w.heap.size, 0, none⟩ (.int .i64 0))).heap[w1.heap.size]? = some (.deferred (some [])) := by
              rw [setCell_block (by exact HZW.out.2.1), setCell_block (by exact HZW.out.1), setCell_block (by exact HZW.out.1)]
              exact (HR7.out.2.below.block _ (by have := lt_of_block HKD.out; simpa [World.setCell] using this)).trans ((setCell_block (by exact HZW.out.1)).trans HKD.out)
            refine ⟨by simp, .inl ⟨_, _, rfl, run_takeDeferred hD, ?_⟩⟩
            have hbx9 : (((W7.setCell ⟨pj, 2, none⟩ (.slice A7 N c7)).setCell ⟨pj, 3, none⟩ (.slice none 0 0)).setCell ⟨w.heap.size, 0, none⟩ (.int .i64 0)).heap[w.heap.size]? = some (.cells #[.int .i64 0] 32 (0, 0)) := by
              have hbx7 := (HR7.out.2.below.block w.heap.size (by have := lt_of_block HBXW.out; simpa [World.setCell] using this)).trans ((setCell_block (show w.heap.size ≠ pj by have := HPJ.out.1; omega)).trans HBXW.out)
              exact one_setJ ((setCell_block (show w.heap.size ≠ pj by have := HPJ.out.1; omega)).trans ((setCell_block (show w.heap.size ≠ pj by have := HPJ.out.1; omega)).trans hbx7))
            have hbx10 := (World.putObj_heap_other (w := (((W7.setCell ⟨pj, 2, none⟩ (.slice A7 N c7)).setCell ⟨pj, 3, none⟩ (.slice none 0 0)).setCell ⟨w.heap.size, 0, none⟩ (.int .i64 0))) (r := w1.heap.size) (o := .deferred none) (Ne.symm HZW.out.2.1)).trans hbx9
            obtain ⟨x5, -⟩ := one_cellJ hbx10
            refine ⟨.int .i64 0, by simp [results, Tryz.results29, go_sem, x5], (st', 0), ?_, rfl, ?_⟩
            · have := HRUN.out; rw [HEM.out, HG1.out, HN.out] at this; exact this
            · have := JPost.laid (x := .int .i64 0) (o := .deferred none) HH.out HJ.out HF3.out HKW.out HGW.out HR7.out.2 hg1l (Nat.le_refl _) HBXW.out HZW.out.2.2 HKD.out
              rw [HR7.out.1] at this
              rw [if_pos rfl, if_pos rfl, if_pos rfl, ← HG1.out]
              exact this
          case stop =>
            rintro cd xs W hS ⟨rfl, st', F', er, h1, h2, h3, h4, h5, h6⟩ hKD
            refine wpIn_wide.2 ?_
            go_wp2
            have HZW : Hid (w1.heap.size ≠ w.heap.size ∧ w.heap.size ≤ w1.heap.size) := Lib.hid (by have := HPJ.out.1; have := HZ1.out; have := HLW.out.1; omega)
            refine ⟨by simp, .inl ⟨_, _, rfl, run_takeDeferred hKD, ?_⟩⟩
            have hbx10 := (World.putObj_heap_other (w := W) (r := w1.heap.size) (o := .deferred none) (Ne.symm HZW.out.1)).trans h6
            obtain ⟨x5, -⟩ := one_cellJ hbx10
            have hrun : laySteps (encR (gen + 1) (be4 rows.length :: rows)) (stepsOf (hasF st.files nLog)) st = (st', er) := by
              have h7 := laySteps_front (b := E m) hS (st := st) (by rw [h2]; exact h1)
              rw [h2, HEM.out, HG1.out, HN.out] at h7
              exact h7
            have hk9 : Kept (fun k => F k ∨ k = w.heap.size) w W := by
              have := HK1.out
              exact ⟨h4.os.trans this.os, h4.tape.trans this.tape, h4.output.trans this.output, Nat.le_trans this.size h4.size, fun j hj hn => (h4.block j (by have := this.size; omega) hn).trans (this.block j hj (fun hf => hn (.inl hf)))⟩
            have hg9 : Grows w F F' := fun j hj => (h5 j hj).imp id (fun h => by have := HK1.out.size; omega)
            refine ⟨.int .i64 er, by simp [results, Tryz.results29, go_sem, x5], (st', er), hrun, rfl, ?_⟩
            rw [if_neg h1, if_neg h1, if_neg h1]
            exact JPost.left HH.out h3 hk9 hg9 (Nat.le_refl _) HZW.out.2 hKD
end Go.Proofs.YtpdelgjfamelfaaGreat
