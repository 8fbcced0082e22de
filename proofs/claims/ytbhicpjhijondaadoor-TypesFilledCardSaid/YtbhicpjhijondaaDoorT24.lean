/- The reader between its calls; rows of types beside a reader. -/
import Derived.Test.YtbhicpjhijondaaDoorT23
namespace Go.Typ
open Go.RowKit Go.Lib Go.Vfs Go.Par
section
variable {α : Type} {e k : Nat} {R : (Nat → Prop) → World → Value → α → Prop} {L B : Nat} {w w' w2 w3 : World} {xs : List α} {v v' : Value} {us : List Value}
/-- a row beside blocks below Lo that are written. -/
theorem RowK.above (hK : ∀ {S S' : Nat → Prop} {w w' : World} {v : Value} {x : α}, R S w v x → (∀ b, S b → S' b ∧ w'.heap[b]? = w.heap[b]?) → R S' w' v x)
    (h : RowK e k R L B w xs v us) {Lo : Nat} (hL : Lo ≤ L) (hB : Lo ≤ B) (hb : ∀ g, Lo ≤ g → g < w.heap.size → w'.heap[g]? = w.heap[g]?) (hz : w.heap.size ≤ w'.heap.size) : RowK e k R L B w' xs v us :=
  ⟨h.len, ownsRow_block h.own fun g e => hb g (by have := (h.own.lt g e).1; omega) (h.own.lt g e).2, h.size, fun i hi => hK (h.each i hi) fun b hk => ⟨⟨hk.1, by omega, hk.2.2⟩, hb b (by omega) hk.2.1⟩⟩
/-- a row of one element, just written. -/
theorem RowK.one (hK : ∀ {S S' : Nat → Prop} {w w' : World} {v : Value} {x : α}, R S w v x → (∀ b, S b → S' b ∧ w'.heap[b]? = w.heap[b]?) → R S' w' v x)
    {u : Value} {x : α} {S : Nat → Prop} (hu : R S w u x) (hS : ∀ g, S g → L ≤ g ∧ g < w.heap.size) (hB : B ≤ w.heap.size) (hsz : (flatC u).length = k) :
    RowK e k R L B (w.alloc (.cells (flatC u).toArray e)) [x] (.slice (some ⟨w.heap.size, 0, none⟩) 1 1) [u] := by
  refine ⟨rfl, ⟨by simp [hsz], .inr ⟨w.heap.size, 1, (flatC u).toArray, rfl, hB, heap_alloc_new _ _, Nat.le_refl _, by simp [maxLen], by simp [hsz], ?_⟩⟩, by simp [hsz], fun i hi => ?_⟩
  · simp only [List.length_singleton, Nat.one_mul, List.flatMap_cons, List.flatMap_nil, List.append_nil]
    exact List.take_of_length_le (by omega)
  · have : i = 0 := by simpa using hi
    subst this
    refine hK hu fun g hg => ?_
    have := hS g hg
    refine ⟨⟨this.1, by simp; omega, fun e => ?_⟩, Below.heap_alloc _ _ _ this.2⟩
    have e' : w.heap.size = g := by injection e
    omega
end
end Go.Typ
namespace Go.Proofs.YtbhicpjhijondaaDoor
open Go.RowKit Go.Lib Go.Vfs Go.Par Go.Typ Go.Shelf
set_option linter.unusedVariables false
set_option linter.unusedSimpArgs false

/-- a method of the reader under way: the reader's block o, the result's block. -/
structure RdI (w : World) (p : Nat) (o : Obj) (W : World) : Prop where
  rd : W.heap[p]? = some o
  res : W.heap[w.heap.size]? = some (.cells #[.int .i64 0, .int .i64 0, .string ⟨#[]⟩, .slice none 0 0] 24 (0, 0))
  kept : Kept (fun x => x = p) w W
theorem RdI.start {w : World} {p : Nat} {o : Obj} (h : w.heap[p]? = some o) : RdI w p o (w.alloc zero4) :=
  ⟨(Below.heap_alloc _ _ _ (lt_blk h)).trans h, heap_alloc_new _ _, Kept.of_below ((Below.refl _ _).alloc (Nat.le_refl _) _)⟩
theorem RdI.size {w : World} {p : Nat} {o : Obj} {W : World} (h : RdI w p o W) : w.heap.size < W.heap.size := lt_blk h.res
theorem RdI.t {w : World} {p : Nat} {o o' : Obj} {W W' : World} (h : RdI w p o W) (hp : p < w.heap.size) (hk : Kept (fun x => x = p) W W') (ho : W'.heap[p]? = some o') : RdI w p o' W' :=
  ⟨ho, (hk.block _ h.size (by omega)).trans h.res, h.kept.trans' hk⟩
theorem RdI.new {w : World} {p : Nat} {o : Obj} {W W' : World} (h : RdI w p o W) (hb : Below W.heap.size W W') : RdI w p o W' :=
  ⟨(hb.block _ (lt_blk h.rd)).trans h.rd, (hb.block _ h.size).trans h.res, h.kept.trans' (Kept.of_below hb)⟩
/-- the answer is stored. -/
theorem RdI.fin {w : World} {p : Nat} {o : Obj} {W : World} (h : RdI w p o W) (hp : p < w.heap.size) (N : Nat) (s : ByteArray) (a : Nat) (T : Ty) (A : Option Addr) (cc : Nat) (hT : TyAt (fun g => w.heap.size < g ∧ g < W.heap.size) W (tyV T.kind T.num T.name A T.args.length cc) T) :
    ∃ Wf, Wf = ((((W.setCell ⟨w.heap.size, 0, none⟩ (.int .i64 T.kind)).setCell ⟨w.heap.size, 1, none⟩ (.int .i64 T.num)).setCell ⟨w.heap.size, 2, none⟩ (.string T.name)).setCell ⟨w.heap.size, 3, none⟩ (.slice A T.args.length cc)) ∧
      Wf.heap[w.heap.size]? = some (.cells #[.int .i64 T.kind, .int .i64 T.num, .string T.name, .slice A T.args.length cc] 24 (0, 0)) ∧ (∀ m, OkM N s a m T o → RdPost N p s a m w (.returned (tyV T.kind T.num T.name A T.args.length cc)) Wf) := by
  obtain ⟨Wf, hWf, hbx, hkf⟩ := end4 (.int .i64 T.kind) (.int .i64 T.num) (.string T.name) (.slice A T.args.length cc) h.res
  have hz := h.size
  have hzf := hkf.size
  refine ⟨Wf, hWf, hbx, fun m hm => ⟨T, A, cc, o, rfl, hT.keep fun g hg => ⟨⟨by omega, by omega⟩, hkf.block g hg.2 (by omega)⟩, ⟨hkf.os.trans h.kept.os, hkf.tape.trans h.kept.tape, hkf.output.trans h.kept.output, by omega, fun g hg hp => ?_⟩, (hkf.block p (by omega) (by omega)).trans h.rd, hm⟩⟩
  exact (hkf.block g (by omega) (by omega)).trans (h.kept.block g hg hp)
theorem OkM.up {N N' : Nat} {s : ByteArray} {a a' : Nat} {m : Option (Ty × Nat × Nat)} {T : Ty} {o : Obj} (h : OkM N s a m T o) (hN : N ≤ N') (ha : a' ≤ a) : OkM N' s a' m T o := by
  unfold OkM at h ⊢
  cases m with
  | none => obtain ⟨b, z, h1, h2, h3⟩ := h; exact ⟨b, z, h1, by omega, h3⟩
  | some x => obtain ⟨T', b, c⟩ := x; obtain ⟨h1, h2, h3, h4⟩ := h; exact ⟨h1, by omega, h3, h4⟩
/-- do these words stand there? -/
def preB (s : ByteArray) (wd : List UInt8) (a : Nat) : Bool := wd.isPrefixOf (s.data.toList.drop a)
theorem preB_le {s : ByteArray} {wd : List UInt8} {a : Nat} (h : preB s wd a = true) (hw : 0 < wd.length) : a + wd.length ≤ s.size := by
  have h1 := (List.isPrefixOf_iff_prefix.1 h).length_le
  rw [List.length_drop, name_len] at h1
  omega
/-- the contract of a method at its depth. -/
def RdC (f N : Nat) (p : Nat) (s : ByteArray) (d : Int) (m : Nat → Nat → Option (Ty × Nat × Nat)) : Prop :=
  ∀ (a c : Nat) (w : World), w.heap[p]? = some (rdr s a c false) → a ≤ s.size → c ≤ 300 → Calls Tryd.prog f #[.pointer (some ⟨p, 0, none⟩), .int .i64 d] w (RdPost N p s a (m a c) w)
/-- further types behind these words. -/
def listP (m : Nat → Nat → Option (Ty × Nat × Nat)) (s : ByteArray) (wd : List UInt8) : Nat → List Ty → Nat → Nat → Option (List Ty × Nat × Nat)
  | 0, ts, a, c => some (ts, a, c)
  | f + 1, ts, a, c => if preB s wd a = true then (match m (a + wd.length) c with | none => none | some (T, a', c') => listP m s wd f (ts ++ [T]) a' c') else some (ts, a, c)
/-- types with these words between. -/
def manyP (m : Nat → Nat → Option (Ty × Nat × Nat)) (s : ByteArray) (wd : List UInt8) (a c : Nat) : Option (List Ty × Nat × Nat) :=
  match m a c with
  | none => none
  | some (T0, a1, c1) => listP m s wd s.size [T0] a1 c1
/-- what stands behind types in brackets. -/
def closeP (s : ByteArray) : Option (List Ty × Nat × Nat) → Option (Ty × Nat × Nat)
  | none => none
  | some (ts, a2, c2) => if preB s [41] a2 = true then
      (if ts.length = 1 then some (ts.getD 0 (.mk 0 0 ⟨#[]⟩ []), a2 + 1, c2)
       else if preB s [32] (a2 + 1) = true then partP (.mk 2 0 (s.extract (a2 + 2) (nmEnd s (a2 + 2))) ts) (nmEnd s (a2 + 2)) c2 else none)
    else none
/-- a variable, a name, a type in brackets, or several in brackets with their name. -/
def firstP (arr : Nat → Nat → Option (Ty × Nat × Nat)) (s : ByteArray) (a c : Nat) : Option (Ty × Nat × Nat) :=
  if preB s [39] a = true then varP s (a + 1) c
  else if preB s [40] a = true then closeP s (manyP arr s [44, 32] (a + 1) c)
  else partP (.mk 2 0 (s.extract a (nmEnd s a)) []) (nmEnd s a) c
theorem nmEnd_le (s : ByteArray) (a : Nat) : a ≤ nmEnd s a := by unfold nmEnd; omega
theorem extract_le (s : ByteArray) (i j : Nat) : (s.extract i j).size ≤ s.size := by simp [ByteArray.size_extract]; omega

set_option maxRecDepth 20000 in
set_option maxHeartbeats 2000000 in
theorem first_lead (p : Nat) (s : ByteArray) (d : Int) (arr : Nat → Nat → Option (Ty × Nat × Nat)) (N : Nat) (hN : 400 ≤ N) (hs : s.size ≤ 9223372036854775000) (a c : Nat) (w : World) (h : w.heap[p]? = some (rdr s a c false)) (ha : a ≤ s.size) (hc : c ≤ 300) (h40 : preB s [40] a = false) :
    Calls Tryd.prog 114 #[.pointer (some ⟨p, 0, none⟩), .int .i64 d] w (RdPost N p s a (firstP arr s a c) w) := by
  have hlt := lt_blk h
  obtain ⟨W1, hW1⟩ : ∃ W1, W1 = w.alloc zero4 := ⟨_, rfl⟩
  have hi1 := RdI.start h
  rw [← hW1] at hi1
  have HI1 := Lib.hid hi1
  obtain ⟨q, hq⟩ : ∃ q, q = preB s [39] a := ⟨_, rfl⟩
  have hsk := skip_ok p s ⟨#[39]⟩ a c W1 hi1.rd ha hs (by decide)
  rw [show ((⟨#[39]⟩ : ByteArray).data.toList.isPrefixOf (s.data.toList.drop a)) = q from hq.symm] at hsk
  have HSK := Lib.hid hsk; have HQ := Lib.hid hq; have H40 := Lib.hid h40
  clear h hi1 hsk hq h40
  cases q
  · have HF : Hid (firstP arr s a c = partP (.mk 2 0 (s.extract a (nmEnd s a)) []) (nmEnd s a) c) := Lib.hid (by
      unfold firstP
      rw [if_neg (by rw [← HQ.out]; simp), if_neg (by rw [H40.out]; simp)])
    go_enter Tryd.func114, Tryd.ntmps114
    go_wp2_with fail
    rw [show w.alloc (.cells #[.int .i64 0, .int .i64 0, .string ⟨#[]⟩, .slice none 0 0] 24) = W1 from hW1.symm]
    clear hW1
    refine HSK.out.mono ?_
    rintro e w2 ⟨rfl, H2, K2⟩
    have HI2 := Lib.hid (HI1.out.t hlt K2 H2)
    have hsk2 := skip_ok p s ⟨#[40]⟩ a c w2 H2 ha hs (by decide)
    rw [show ((⟨#[40]⟩ : ByteArray).data.toList.isPrefixOf (s.data.toList.drop a)) = false from H40.out] at hsk2
    have HSK2 := Lib.hid hsk2
    clear H2 K2 hsk2
    go_wp2_with fail
    refine HSK2.out.mono ?_
    rintro e w3 ⟨rfl, H3, K3⟩
    have HI3 := Lib.hid (HI2.out.t hlt K3 H3)
    have HNM := Lib.hid (name_any p s a c false w3 H3 ha hs)
    clear H3 K3
    go_wp2_with fail
    refine HNM.out.mono ?_
    rintro e w4 ⟨rfl, hne, H4, K4, -⟩
    have HI4 := Lib.hid (HI3.out.t hlt K4 H4)
    have hex := extract_le s a (nmEnd s a)
    have hna := nmEnd_le s a
    have HPT := Lib.hid (part_any p s (nmEnd s a) c false 2 0 (s.extract a (nmEnd s a)) none 0 0 w4 H4 (by omega) (by omega))
    unfold tyV at HPT
    clear H4 K4
    generalize hnm : s.extract a (nmEnd s a) = nm at *
    go_wp2_with fail
    refine HPT.out.mono ?_
    rintro e w5 ⟨rfl, H5, K5⟩
    have hi5 := HI4.out.t hlt K5 H5
    have hnms : nm.size ≤ 9223372036854775807 := by omega
    have hx := hi5.fin hlt N s a (.mk 2 0 nm []) none 0 (TyAt.leaf _ _ 2 0 nm none 0 (by simp [maxLen]) hnms)
    simp only [Ty.kind, Ty.num, Ty.name, Ty.args, List.length_nil] at hx
    obtain ⟨Wf, hWf, hbx, hpost⟩ := hx
    have hok : OkM N s a (firstP arr s a c) (.mk 2 0 nm []) (rdr s (nmEnd s a) ((c : Int) + 1) (false || decide (300 < (c : Int) + 1))) := by
      rw [HF.out]
      unfold OkM partP
      by_cases h3 : c + 1 ≤ 300
      · rw [if_pos h3]
        refine ⟨rfl, hna, hne, h3, ?_⟩
        rw [Bool.false_or, decide_eq_false (by omega), show ((c + 1 : Nat) : Int) = (c : Int) + 1 by omega]
      · rw [if_neg h3]
        refine ⟨nmEnd s a, c + 1, hne, by omega, ?_⟩
        rw [Bool.false_or, decide_eq_true (by omega), show ((c + 1 : Nat) : Int) = (c : Int) + 1 by omega]
    obtain ⟨r0, r1, r2, r3⟩ := box4 hi5.res
    obtain ⟨s0, s1, s2, s3⟩ := box4_frozen hi5.res
    have HW := Lib.hid hWf; have HBXF := Lib.hid hbx; have HPO := Lib.hid (hpost _ hok)
    clear hWf hbx hpost hok hi5 H5 K5
    go_wp2
    rw [← HW.out]
    obtain ⟨f0, f1, f2, f3⟩ := box4 HBXF.out
    refine bodyPost_ret (v := .agg #[.int .i64 2, .int .i64 0, .string nm, .slice none 0 0]) (by simp [results, Tryd.results114, go_sem, f0, f1, f2, f3]) rfl ?_
    exact HPO.out
  · have hle := preB_le HQ.out.symm (by decide)
    have HF : Hid (firstP arr s a c = varP s (a + 1) c) := Lib.hid (by unfold firstP; rw [if_pos HQ.out.symm])
    go_enter Tryd.func114, Tryd.ntmps114
    go_wp2_with fail
    rw [show w.alloc (.cells #[.int .i64 0, .int .i64 0, .string ⟨#[]⟩, .slice none 0 0] 24) = W1 from hW1.symm]
    clear hW1
    refine HSK.out.mono ?_
    rintro e w2 ⟨rfl, H2, K2⟩
    have HI2 := Lib.hid (HI1.out.t hlt K2 H2)
    have HV := Lib.hid (variable_any p s (a + 1) c w2 H2 (by simpa using hle) hc hs)
    clear H2 K2
    go_wp2_with fail
    refine HV.out.mono ?_
    rintro e w3 ⟨T, A, cc, o, rfl, hT, hk, ho, hm⟩
    have hi3 := HI2.out.t hlt hk ho
    have hz2 := HI2.out.size
    obtain ⟨Wf, hWf, hbx, hpost⟩ := hi3.fin hlt N s a T A cc (hT.sub fun g hg => ⟨by omega, hg.2⟩)
    obtain ⟨r0, r1, r2, r3⟩ := box4 hi3.res
    obtain ⟨s0, s1, s2, s3⟩ := box4_frozen hi3.res
    have HW := Lib.hid hWf; have HBXF := Lib.hid hbx; have HPO := Lib.hid (hpost _ (hm.up hN (by omega)))
    clear hWf hbx hpost hT hk ho hm hi3 hz2
    unfold tyV
    go_wp2
    rw [← HW.out]
    obtain ⟨f0, f1, f2, f3⟩ := box4 HBXF.out
    refine bodyPost_ret (v := .agg #[.int .i64 T.kind, .int .i64 T.num, .string T.name, .slice A T.args.length cc]) (by simp [results, Tryd.results114, go_sem, f0, f1, f2, f3]) rfl ?_
    rw [HF.out]
    exact HPO.out
end Go.Proofs.YtbhicpjhijondaaDoor
