/- What every row of this seat asks beside its walk: the tables, MaxLen, rows of bytes. -/
import Derived.Test.YtffblcefnckacaaDoorTie
import Derived.Test.YtffblcefnckacaaDoorCards
import Derived.Test.YtffblcefnckacaaDoorLaw
import Derived.ProofKit
import Derived.OpenShut
import Derived.ShutString
import Derived.ChangeOld
import Derived.Below
import Derived.Lib.LaidU8T
import Derived.Lib.LaidTab
import Derived.PinnedBridge
import Derived.Lay
import Derived.SevenTiedAt
import Derived.SizedLaws
import Derived.Shelf.Vars
import Derived.Deep.Slices
namespace Go
variable {H : Type} {enc : TypeId × Value → H}
theorem returnsInHanded_of_change_and_shaped {a : Assume} {C : Checked} {os : Os} {f : FuncId} {fn : Func} {s : ChangeSpec} {conds : List PathCond} {apart fresh handsOn again : Bool} {X : World → Array Value → Prop}
    (hX : ∀ (w w' : World) (args : Array Value), w.heap = w'.heap → X w args → X w' args)
    (own : ownKnob C.prog.godebug = none) (started : os.Started) (noInit : C.prog.inits.idxOf? f = none) (hfn : C.prog.funcs[f]? = some fn)
    (witness : ∃ (w : World) (tape : Tape) (i : Input), w.os = os ∧ (w.forCall tape i).Shaped C.prog ∧ i.vars = [] ∧ Input.okWide C.prog (w.forCall tape i) .any w.heap.size f i ∧
      ((s.pre enc C.prog fn conds apart (w.forCall tape i).memory i.args ∧ X (w.forCall tape i).memory i.args) ∧ sizedMet enc C.prog fn (OpenSpec.ofChange s) apart (w.forCall tape i).memory i.args) ∧ a.holds C.prog (lone (Frame.enter C.prog f i.args .normal) [] (w.forCall tape i)))
    (contract : ∀ (W : World) (base : Nat) (args : Array Value) (ds gs : List (DataW H)) (before : List MemPlace),
      (∀ (j : Nat) t v, fn.params[j]? = some t → args[j]? = some v → Value.okWide C.prog W .any base t v) →
      DataW.Whole enc C.prog fn.params.toList s.vars apart W args.toList ds gs before →
      conds.all (PathCond.test C.prog ⟨fn.params.toList, ds, s.plain.varTypes C.prog, gs⟩) = true →
      (DataW.weightsEach C.prog (fn.params.toList ++ s.plain.varTypes C.prog) (ds ++ gs)).all (· ≤ reachBytes) = true → X W args →
      W.ShapedOpen C.prog →
      a.holds C.prog (lone (Frame.enter C.prog f args .normal) [] W) →
      Calls C.prog f args W fun e W' => ∃ v, e = .returned v ∧ s.post enc C.prog fn apart fresh handsOn again W args v W') :
    ReturnsInHanded a C os f .any (fun w args => (s.pre enc C.prog fn conds apart w args ∧ X w args) ∧ sizedMet enc C.prog fn (OpenSpec.ofChange s) apart w args) (s.post enc C.prog fn apart fresh handsOn again) := by
  refine returnsInHanded_of_calls own started noInit witness ?_
  intro w tape i _ hsh _ hok hpre hholds
  obtain ⟨_, _, _, fn', hfn', _, _, _, _, hval⟩ := hok
  have e : fn' = fn := Option.some.inj (hfn'.symm.trans hfn)
  subst e
  obtain ⟨⟨⟨ds, gs, before, hw, hc⟩, hx⟩, hz⟩ := hpre
  have hw' := DataW.Whole.of_heap (w' := w.forCall tape i) (by rfl) hw
  refine (contract (w.forCall tape i) w.heap.size i.args ds gs before hval hw' hc (hz.weights hw) (hX _ _ _ (by rfl) hx) hsh hholds).mono fun e W' ⟨v, he, hp⟩ => ?_
  subst he
  exact ChangeSpec.post_blind hp
end Go
namespace Go.Proofs.YtffblcefnckacaaDoor
open Go.ChangeShapes Go.WideShapes Go.ChangeAt Go.RowKit Go.Par Go.Lib Go.Shelf Go.Deep
set_option linter.unusedVariables false
set_option linter.unusedSimpArgs false

theorem own : ownKnob Tryd.prog.godebug = none := by kernel_rfl
theorem laidOut : laidOutB Tryd.prog = true := by kernel_rfl

def laidL : List (String × DataW Unit) := [("math/bits.deBruijn32tab", Rows.laid_math_bits_deBruijn32tab), ("math/bits.deBruijn64tab", Rows.laid_math_bits_deBruijn64tab), ("internal/strconv.uint64pow10", Rows.laid_internal_strconv_uint64pow10), ("unicode/utf8.acceptRanges", Rows.laid_unicode_utf8_acceptRanges), ("unicode.CaseRanges", Rows.laid_unicode_CaseRanges), ("unicode/utf8.first", Rows.laid_unicode_utf8_first)]

theorem u8x : U8Extra Tryd.prog Tryd.lays159_ren := ⟨by kernel_rfl, by kernel_rfl, by kernel_rfl, by kernel_rfl, by kernel_rfl, by kernel_rfl, by kernel_rfl⟩
theorem u8t : U8Types Tryd.prog Tryd.lays159_ren := ⟨by kernel_rfl, by kernel_rfl, by kernel_rfl, by kernel_rfl⟩

theorem tabs_of {W : World} (h : laidMetH Tryd.prog laidL W) : Tabs W ∧ Lib.TabIs Tryd.prog W "internal/strconv.uint64pow10" .u64 Lib.pow10Tab := by
  rw [MakeChecks.laidMetH_plain _ _ _ (by kernel_rfl)] at h
  have h3 : VarReads Tryd.prog W "unicode/utf8.first" firstData := Pinned.utf8First_eq ▸ Lib.laidMet.reads h (.tail _ (.tail _ (.tail _ (.tail _ (.tail _ (.head _))))))
  have h4 : VarReads Tryd.prog W "unicode/utf8.acceptRanges" acceptData := Lib.laidMet.reads h (.tail _ (.tail _ (.tail _ (.head _))))
  have h5 : VarReads Tryd.prog W "internal/strconv.uint64pow10" (tabData .u64 pow10Tab) := Lib.laidMet.reads h (.tail _ (.tail _ (.head _)))
  refine ⟨utf8Tabs_of_readsT u8t u8x h3 h4, ?_⟩
  obtain ⟨g, t, cs, fuel, p, hg, hty, hvar, hd⟩ := h5
  obtain rfl := Option.some.inj ((show Tryd.prog.globalNamed "internal/strconv.uint64pow10" = some 1 by kernel_rfl).symm.trans hg)
  obtain rfl := Option.some.inj ((show (Tryd.prog.globals[1]?).map (·.type) = some 99 by kernel_rfl).symm.trans hty)
  unfold Lib.TabIs
  rw [hvar, ← cells_of_tab (P := Tryd.prog) (t := 99) (e := 70) (n := 20) Tryd.underlying99 Tryd.underlying70 (by kernel_rfl) (by kernel_rfl) hd]
theorem max_of {W : World} (h : W.ShapedOpen Tryd.prog) : ∃ m, W.cell? ⟨0, 0, none⟩ = some (.int .i64 m) :=
  cell_of_shapedOpen_int (g := 0) (t := 3) (zero := #[.int .i64 0]) h (of_decide_eq_true (by kernel_rfl)) (by kernel_rfl) (by kernel_rfl) (by kernel_rfl) (by kernel_rfl) Tryd.underlying3

theorem u8_of (z : Int) (h0 : 0 ≤ z) (h1 : z < 256) : (z.toNat.toUInt8).toNat = z.toNat := by
  simp [Nat.toUInt8, UInt8.toNat_ofNat']; omega

theorem seg_of_ints {W : World} {k : IntKind} {a : Addr} {len cap : Nat} {zs : List Int} (hl : len ≤ cap) (hm : cap ≤ maxLen) (hz : zs.length = cap) (hcell : ∀ i, i < zs.length → W.cell? (a.add i) = some (.int k (zs.getD i 0))) :
    Seg W W.heap.size (.slice (some a) len cap) ((zs.take len).map (Value.int k)) := by
  have e : ((zs.take len).map (Value.int k)).length = len := by simp; omega
  refine ⟨some a, cap, by rw [e], by rw [e]; exact hl, hm, fun hp => ?_⟩
  rw [e] at hp
  have h0 := hcell 0 (by omega)
  obtain ⟨b, off, spot⟩ := a
  have hspot : spot = none := by simpa [Addr.add] using World.cell?_spot h0
  subst hspot
  refine ⟨b, off, rfl, ?_, fun i hi => ?_⟩
  · have := World.block_lt_of_cell? _ _ h0
    rw [add_addr] at this
    exact this
  · rw [e] at hi
    rw [← add_addr, hcell i (by omega)]
    have h1 : i < zs.length := by omega
    simp [hi, h1, List.getD_eq_getElem?_getD]

set_option maxRecDepth 100000 in
theorem ints_of_trod {H : Type} {enc : TypeId × Value → H} {W : World} {base : Nat} {v : Value} {d : DataW H} {p : List MemPlace} (hval : Value.okWide Tryd.prog W .any base 37 v)
    (h : DataW.Trod enc Tryd.prog W 0 (fun _ => true) true 37 v d p) (hw : ∀ k ∈ d.weights Tryd.prog 37, k ≤ reachBytes) : ∃ zs : List Int, zs.length ≤ 17592186043904 ∧ Seg W W.heap.size v (ints zs) := by
  obtain ⟨a, len, cap, rfl⟩ := okWide_slice Tryd.underlying37 hval
  obtain ⟨fuel, hf⟩ := h
  rcases open_ints Tryd.underlying37 Tryd.underlying3 (by kernel_rfl) hf with ⟨hcs, _⟩ | ⟨x, l, c, zs, hcs, _, hl, hm, hz, hx, hcell, hwz⟩
  · simp [Value.cells] at hcs
    obtain ⟨rfl, rfl, rfl⟩ := hcs
    exact ⟨[], by simp, Seg.nil _ _⟩
  · simp [Value.cells] at hcs
    obtain ⟨rfl, rfl, rfl⟩ := hcs
    refine ⟨zs.take len, ?_, seg_of_ints hl hm (by simpa using hz) hcell⟩
    have hd := congrArg Prod.fst hx
    simp only at hd
    have h8 : Tryd.prog.bytesOf 3 = 8 := by kernel_rfl
    have := hw ((zs.take len).length * 8 + (zs.drop len).length * 8) (by rw [hd]; simp only [DataW.weights, Tryd.underlying37, lits, List.length_map, h8]; simp [Nat.add_mul])
    have hr : reachBytes = 140737488351232 := by decide
    rw [hr] at this
    omega

set_option maxRecDepth 100000 in
theorem bytes_of_trod {H : Type} {enc : TypeId × Value → H} {W : World} {base : Nat} {v : Value} {d : DataW H} {p : List MemPlace} (hval : Value.okWide Tryd.prog W .any base 22 v)
    (h : DataW.Trod enc Tryd.prog W 0 (fun _ => true) true 22 v d p) (hw : ∀ k ∈ d.weights Tryd.prog 22, k ≤ reachBytes) : ∃ l : List UInt8, l.length ≤ 140737488351232 ∧ Seg W W.heap.size v (byteCells l) := by
  obtain ⟨a, len, cap, rfl⟩ := okWide_slice Tryd.underlying22 hval
  obtain ⟨fuel, hf⟩ := h
  rcases open_ints Tryd.underlying22 Tryd.underlying5 (by kernel_rfl) hf with ⟨hcs, _⟩ | ⟨x, l, c, zs, hcs, _, hl, hm, hz, hx, hcell, hwz⟩
  · simp [Value.cells] at hcs
    obtain ⟨rfl, rfl, rfl⟩ := hcs
    exact ⟨[], by simp, Seg.nil _ _⟩
  · simp [Value.cells] at hcs
    obtain ⟨rfl, rfl, rfl⟩ := hcs
    have hbd : ∀ n ∈ zs, 0 ≤ n ∧ n < 256 := fun n hn => by
      have := hwz n hn
      simp [Lit.wf, IntKind.min, IntKind.max, IntKind.signed, IntKind.bits] at this
      omega
    refine ⟨(zs.take len).map (fun n => n.toNat.toUInt8), ?_, ?_⟩
    · have hd := congrArg Prod.fst hx
      simp only at hd
      have h1 : Tryd.prog.bytesOf 5 = 1 := by kernel_rfl
      have := hw ((zs.take len).length + (zs.drop len).length) (by rw [hd]; simp only [DataW.weights, Tryd.underlying22, lits, List.length_map, h1]; simp)
      have hr : reachBytes = 140737488351232 := by decide
      rw [hr] at this
      rw [List.length_map]
      omega
    · have hs := seg_of_ints hl hm (by simpa using hz) hcell
      have e : byteCells ((zs.take len).map (fun n => n.toNat.toUInt8)) = (zs.take len).map (Value.int .u8) := by
        unfold byteCells
        rw [List.map_map]
        refine List.map_congr_left (fun n hn => ?_)
        have := hbd n (List.mem_of_mem_take hn)
        show Value.int .u8 ((n.toNat.toUInt8).toNat : Int) = _
        rw [u8_of n this.1 this.2]
        have e2 : ((n.toNat : Nat) : Int) = n := by omega
        rw [e2]
      exact e.symm ▸ hs
def sizeP (P : List (List UInt8)) : Nat := (P.map fun l => 1 + l.length).sum
theorem bulk_one {H : Type} (d : DataW H) : 1 ≤ Rows.uptoBulk d := by
  cases d with
  | lit l => cases l <;> simp [Rows.uptoBulk]
  | nil => simp [Rows.uptoBulk]
  | ptr d => simp [Rows.uptoBulk]
  | slice elems spare => simp [Rows.uptoBulk]
  | agg parts => simp [Rows.uptoBulk]
  | iface t d => simp [Rows.uptoBulk]
  | map entries => simp [Rows.uptoBulk]
  | held h => simp [Rows.uptoBulk]
theorem bulk_part {H : Type} {d : DataW H} {l : List (DataW H)} (h : d ∈ l) : Rows.uptoBulk d ≤ Rows.uptoBulkAll l := by
  induction l with
  | nil => cases h
  | cons x r ih =>
    simp only [Rows.uptoBulkAll]
    cases List.mem_cons.1 h with
    | inl e => subst e; omega
    | inr e => have := ih e; omega
theorem bulk_length {H : Type} (l : List (DataW H)) : l.length ≤ Rows.uptoBulkAll l := by
  induction l with
  | nil => simp [Rows.uptoBulkAll]
  | cons x r ih => have := bulk_one x; simp only [Rows.uptoBulkAll, List.length_cons]; omega
theorem bulk_snoc {H : Type} (l : List (DataW H)) (x : DataW H) : Rows.uptoBulkAll (l ++ [x]) = Rows.uptoBulkAll l + Rows.uptoBulk x := by
  induction l with
  | nil => simp [Rows.uptoBulkAll]
  | cons y l ih => simp only [List.cons_append, Rows.uptoBulkAll, ih]; omega
theorem bulk_slice {H : Type} (e s : List (DataW H)) : Rows.uptoBulkAll e + 1 ≤ Rows.uptoBulk (.slice e s) := by
  simp only [Rows.uptoBulk]; omega
/-- a sum over a range is at most the bulk. -/
theorem bulk_sum {H : Type} (D : Nat → DataW H) (f : Nat → Nat) (n : Nat) (h : ∀ i, i < n → f i ≤ Rows.uptoBulk (D i)) : ((List.range n).map f).sum ≤ Rows.uptoBulkAll ((List.range n).map D) := by
  induction n with
  | zero => simp [Rows.uptoBulkAll]
  | succ n ih =>
    rw [List.range_succ, List.map_append, List.map_append, List.sum_append]
    have h1 := ih fun i hi => h i (by omega)
    have h2 := h n (by omega)
    simp only [List.map_cons, List.map_nil, bulk_snoc, List.sum_cons, List.sum_nil]
    omega
/-- a list of what each place has. -/
theorem exists_list {α : Type} (n : Nat) (P : Nat → α → Prop) (h : ∀ i, i < n → ∃ a, P i a) : ∃ l : List α, l.length = n ∧ ∀ i (hi : i < l.length), P i l[i] := by
  induction n with
  | zero => exact ⟨[], rfl, fun i hi => by simp at hi⟩
  | succ n ih =>
    obtain ⟨l, hl, hp⟩ := ih fun i hi => h i (by omega)
    obtain ⟨a, ha⟩ := h n (by omega)
    refine ⟨l ++ [a], by simp [hl], fun i hi => ?_⟩
    rw [List.getElem_append]
    split
    · exact hp i _
    · have : i = n := by simp at hi; omega
      subst this
      simpa using ha
theorem sum_range {α : Type} (l : List α) (g : α → Nat) (f : Nat → Nat) (n : Nat) (hn : l.length = n) (h : ∀ i (hi : i < l.length), g l[i] = f i) : (l.map g).sum = ((List.range n).map f).sum := by
  subst hn
  congr 1
  apply List.ext_getElem
  · simp
  · intro i h1 h2
    simp at h1
    simp [h i h1]

section
variable {H : Type} {enc : TypeId × Value → H} {W : World}

set_option maxRecDepth 100000 in
theorem ints_at {n : Nat} {cs : List Value} {x : DataW H × List MemPlace} (h : DataW.trod enc Tryd.prog W 0 (fun _ => true) true n 37 cs = some x) :
    ∃ v zs, cs = [v] ∧ zs.length + 1 ≤ Rows.uptoBulk x.1 ∧ Seg W W.heap.size v (ints zs) := by
  rcases open_ints Tryd.underlying37 Tryd.underlying3 (by kernel_rfl) h with ⟨rfl, rfl⟩ | ⟨a, l, c, zs, rfl, _, hl, hm, hz, rfl, hcell, hwz⟩
  · exact ⟨_, [], rfl, by simp [Rows.uptoBulk], Seg.nil _ _⟩
  · refine ⟨_, zs.take l, rfl, ?_, seg_of_ints hl hm (by simpa using hz) hcell⟩
    have h1 := bulk_slice (H := H) (lits .i64 (zs.take l)) (lits .i64 (zs.drop l))
    have h2 := bulk_length (H := H) (lits .i64 (zs.take l))
    rw [show (lits (H := H) .i64 (zs.take l)).length = (zs.take l).length by simp [lits]] at h2
    simp only
    omega

set_option maxRecDepth 100000 in
theorem bytes_at {n : Nat} {cs : List Value} {x : DataW H × List MemPlace} (h : DataW.trod enc Tryd.prog W 0 (fun _ => true) true n 22 cs = some x) :
    ∃ v l, cs = [v] ∧ l.length + 1 ≤ Rows.uptoBulk x.1 ∧ Seg W W.heap.size v (byteCells l) := by
  rcases open_ints Tryd.underlying22 Tryd.underlying5 (by kernel_rfl) h with ⟨rfl, rfl⟩ | ⟨a, l, c, zs, rfl, _, hl, hm, hz, rfl, hcell, hwz⟩
  · exact ⟨_, [], rfl, by simp [Rows.uptoBulk], Seg.nil _ _⟩
  · have hbd : ∀ n ∈ zs, 0 ≤ n ∧ n < 256 := fun n hn => by
      have := hwz n hn
      simp [Lit.wf, IntKind.min, IntKind.max, IntKind.signed, IntKind.bits] at this
      omega
    refine ⟨_, (zs.take l).map (fun n => n.toNat.toUInt8), rfl, ?_, ?_⟩
    · have h1 := bulk_slice (H := H) (lits .u8 (zs.take l)) (lits .u8 (zs.drop l))
      have h2 := bulk_length (H := H) (lits .u8 (zs.take l))
      rw [show (lits (H := H) .u8 (zs.take l)).length = (zs.take l).length by simp [lits]] at h2
      rw [List.length_map]
      simp only
      omega
    · have hs := seg_of_ints hl hm (by simpa using hz) hcell
      have e : byteCells ((zs.take l).map (fun n => n.toNat.toUInt8)) = (zs.take l).map (Value.int .u8) := by
        unfold byteCells
        rw [List.map_map]
        refine List.map_congr_left (fun n hn => ?_)
        have := hbd n (List.mem_of_mem_take hn)
        show Value.int .u8 ((n.toNat.toUInt8).toNat : Int) = _
        rw [u8_of n this.1 this.2]
        have e2 : ((n.toNat : Nat) : Int) = n := by omega
        rw [e2]
      exact e.symm ▸ hs

theorem rows_at {n : Nat} {cs : List Value} {x : DataW H × List MemPlace} (h : DataW.trod enc Tryd.prog W 0 (fun _ => true) true n 32 cs = some x) :
    ∃ v ls, cs = [v] ∧ sizeP ls + 1 ≤ Rows.uptoBulk x.1 ∧ RowsAt (· < W.heap.size) W v ls := by
  rcases open_slice1 Tryd.underlying32 (by kernel_rfl) h with ⟨rfl, rfl⟩ | ⟨a, l, c, m, n', V, D, Pl, rfl, _, hl, hm, hmm, rfl, hi⟩
  · exact ⟨_, [], rfl, by simp [Rows.uptoBulk, sizeP], [], rfl, Seg.nil W W.heap.size, fun i hi => by simp at hi⟩
  · simp only [if_true] at hmm
    subst hmm
    obtain ⟨ls, hll, hls⟩ := exists_list l (fun i (z : List UInt8) => z.length + 1 ≤ Rows.uptoBulk (D i) ∧ Seg W W.heap.size (V i) (byteCells z)) (fun i hil => by
      obtain ⟨v, z, e, h1, h2⟩ := bytes_at (hi i (by omega)).2
      cases e
      exact ⟨z, h1, h2⟩)
    refine ⟨_, ls, rfl, ?_, (List.range l).map V, by simp [hll], ?_, fun i hil => ?_⟩
    · have h1 := bulk_slice (H := H) ((List.range l).map D) ((List.range (m - l)).map fun j => D (l + j))
      have h2 := bulk_sum D (fun i => 1 + (ls.getD i []).length) l (fun i hil => by
        have := (hls i (by omega)).1
        rw [List.getD_eq_getElem?_getD, List.getElem?_eq_getElem (by omega)]
        simp only [Option.getD_some]
        omega)
      have h3 := sum_range ls (fun z => 1 + z.length) (fun i => 1 + (ls.getD i []).length) l hll (fun i hi' => by
        rw [List.getD_eq_getElem?_getD, List.getElem?_eq_getElem hi']
        rfl)
      unfold sizeP
      simp only
      omega
    · have e : ((List.range l).map V).length = l := by simp
      refine ⟨some a, m, by rw [e], by rw [e]; exact hl, hm, fun hp => ?_⟩
      rw [e] at hp
      have h0 := (hi 0 (by omega)).1
      obtain ⟨b, off, spot⟩ := a
      have hspot : spot = none := by simpa [Addr.add] using World.cell?_spot h0
      subst hspot
      refine ⟨b, off, rfl, ?_, fun i hi' => ?_⟩
      · have := World.block_lt_of_cell? _ _ h0
        rw [add_addr] at this
        exact this
      · rw [e] at hi'
        rw [← add_addr, (hi i (by omega)).1]
        simp [hi']
    · have hi2 : i < l := by omega
      rw [show ((List.range l).map V).getD i (.bool false) = V i by simp [List.getD_eq_getElem?_getD, hi2], show ls.getD i [] = ls[i] by simp [List.getD_eq_getElem?_getD, hil]]
      exact (hls i hil).2


end
theorem weights_all {H : Type} {P : Program} {e : TypeId} {d : DataW H} : ∀ {ds : List (DataW H)}, d ∈ ds → ∀ n ∈ d.weights P e, n ∈ DataW.weightsAll P e ds
  | x :: ds, h, n, hn => by
    simp only [DataW.weightsAll, List.mem_append]
    rcases List.mem_cons.1 h with rfl | h
    · exact .inl hn
    · exact .inr (weights_all h n hn)
set_option maxRecDepth 100000 in
theorem bytes_w {H : Type} {enc : TypeId × Value → H} {W : World} {n : Nat} {cs : List Value} {x : DataW H × List MemPlace} (h : DataW.trod enc Tryd.prog W 0 (fun _ => true) true n 22 cs = some x) (hw : ∀ k ∈ x.1.weights Tryd.prog 22, k ≤ reachBytes) :
    ∃ v l, cs = [v] ∧ l.length ≤ 140737488351232 ∧ Seg W W.heap.size v (byteCells l) := by
  rcases open_ints Tryd.underlying22 Tryd.underlying5 (by kernel_rfl) h with ⟨rfl, rfl⟩ | ⟨a, l, c, zs, rfl, _, hl, hm, hz, rfl, hcell, hwz⟩
  · exact ⟨_, [], rfl, by simp, Seg.nil _ _⟩
  · have hbd : ∀ n ∈ zs, 0 ≤ n ∧ n < 256 := fun n hn => by
      have := hwz n hn
      simp [Lit.wf, IntKind.min, IntKind.max, IntKind.signed, IntKind.bits] at this
      omega
    refine ⟨_, (zs.take l).map (fun n => n.toNat.toUInt8), rfl, ?_, ?_⟩
    · have h1 : Tryd.prog.bytesOf 5 = 1 := by kernel_rfl
      have := hw ((zs.take l).length + (zs.drop l).length) (by simp only [DataW.weights, Tryd.underlying22, lits, List.length_map, h1]; simp)
      have hr : reachBytes = 140737488351232 := by decide
      rw [hr] at this
      rw [List.length_map]
      omega
    · have hs := seg_of_ints hl hm (by simpa using hz) hcell
      have e : byteCells ((zs.take l).map (fun n => n.toNat.toUInt8)) = (zs.take l).map (Value.int .u8) := by
        unfold byteCells
        rw [List.map_map]
        refine List.map_congr_left (fun n hn => ?_)
        have := hbd n (List.mem_of_mem_take hn)
        show Value.int .u8 ((n.toNat.toUInt8).toNat : Int) = _
        rw [u8_of n this.1 this.2]
        have e2 : ((n.toNat : Nat) : Int) = n := by omega
        rw [e2]
      exact e.symm ▸ hs
set_option maxRecDepth 100000 in
theorem rows_of_trod {H : Type} {enc : TypeId × Value → H} {W : World} {base : Nat} {v : Value} {d : DataW H} {p : List MemPlace} (hval : Value.okWide Tryd.prog W .any base 32 v)
    (h : DataW.Trod enc Tryd.prog W 0 (fun _ => true) true 32 v d p) (hw : ∀ k ∈ d.weights Tryd.prog 32, k ≤ reachBytes) : ∃ ls : List (List UInt8), (ls.length ≤ 140737488351232 ∧ ∀ l ∈ ls, l.length ≤ 140737488351232) ∧ RowsAt (· < W.heap.size) W v ls := by
  obtain ⟨a0, len0, cap0, rfl⟩ := okWide_slice Tryd.underlying32 hval
  obtain ⟨fuel, hf⟩ := h
  rcases open_slice1 Tryd.underlying32 (by kernel_rfl) hf with ⟨hcs, hx⟩ | ⟨a, l, c, m, n', V, D, Pl, hcs, _, hl, hm, hmm, hx, hi⟩
  · simp [Value.cells] at hcs
    obtain ⟨rfl, rfl, rfl⟩ := hcs
    exact ⟨[], ⟨by simp, by simp⟩, [], rfl, Seg.nil W W.heap.size, fun i hi => by simp at hi⟩
  · simp [Value.cells] at hcs
    obtain ⟨rfl, rfl, rfl⟩ := hcs
    simp only [if_true] at hmm
    subst hmm
    have hd : d = .slice ((List.range len0).map D) ((List.range (m - len0)).map fun j => D (len0 + j)) := congrArg Prod.fst hx
    have hwi : ∀ i, i < len0 → ∀ k ∈ (D i).weights Tryd.prog 22, k ≤ reachBytes := fun i hil k hk => hw k (by
      rw [hd]
      simp only [DataW.weights, Tryd.underlying32, List.mem_cons, List.mem_append]
      exact .inr (.inl (weights_all (List.mem_map.2 ⟨i, List.mem_range.2 hil, rfl⟩) k hk)))
    obtain ⟨ls, hll, hls⟩ := exists_list len0 (fun i (z : List UInt8) => z.length ≤ 140737488351232 ∧ Seg W W.heap.size (V i) (byteCells z)) (fun i hil => by
      obtain ⟨v, z, e, h1, h2⟩ := bytes_w (hi i (by omega)).2 (hwi i hil)
      cases e
      exact ⟨z, h1, h2⟩)
    refine ⟨ls, ⟨?_, fun l hl2 => ?_⟩, (List.range len0).map V, by simp [hll], ?_, fun i hil => ?_⟩
    · have h24 : 1 ≤ Tryd.prog.bytesOf 22 := by
        have : Tryd.prog.bytesOf 22 = 24 := by kernel_rfl
        omega
      have := hw (len0 * Tryd.prog.bytesOf 22 + (m - len0) * Tryd.prog.bytesOf 22) (by rw [hd]; simp only [DataW.weights, Tryd.underlying32, List.length_map, List.length_range]; simp [Nat.add_mul])
      have hr : reachBytes = 140737488351232 := by decide
      rw [hr] at this
      have : len0 ≤ len0 * Tryd.prog.bytesOf 22 := Nat.le_mul_of_pos_right _ h24
      omega
    · obtain ⟨i, hi', rfl⟩ := List.getElem_of_mem hl2
      exact (hls i hi').1
    · have e : ((List.range len0).map V).length = len0 := by simp
      refine ⟨some a, m, by rw [e], by rw [e]; exact hl, hm, fun hp => ?_⟩
      rw [e] at hp
      have h0 := (hi 0 (by omega)).1
      obtain ⟨b, off, spot⟩ := a
      have hspot : spot = none := by simpa [Addr.add] using World.cell?_spot h0
      subst hspot
      refine ⟨b, off, rfl, ?_, fun i hi' => ?_⟩
      · have := World.block_lt_of_cell? _ _ h0
        rw [add_addr] at this
        exact this
      · rw [e] at hi'
        rw [← add_addr, (hi i (by omega)).1]
        simp [hi']
    · have hi2 : i < len0 := by omega
      rw [show ((List.range len0).map V).getD i (.bool false) = V i by simp [List.getD_eq_getElem?_getD, hi2], show ls.getD i [] = ls[i] by simp [List.getD_eq_getElem?_getD, hil]]
      exact (hls i hil).2

end Go.Proofs.YtffblcefnckacaaDoor
