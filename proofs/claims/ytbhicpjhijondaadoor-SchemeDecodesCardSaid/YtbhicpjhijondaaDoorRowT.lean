/- What every row of this seat asks beside its walk: the table, types as arguments. -/
import Derived.Test.YtbhicpjhijondaaDoorTie
import Derived.Test.YtbhicpjhijondaaDoorCards
import Derived.Test.YtbhicpjhijondaaDoorTD
import Derived.ProofKit
import Derived.OpenShut
import Derived.ShutString
import Derived.ChangeOld
import Derived.Below
import Derived.Lib.LaidTab
import Derived.PinnedBridge
import Derived.Lay
import Derived.SevenTiedAt
import Derived.SizedLaws
import Derived.Shelf.Vars
import Derived.Deep.Slices
import Derived.Deep.Fields
namespace Go
variable {H : Type} {enc : TypeId × Value → H}
theorem returnsInHanded_of_change_and_shaped {a : Assume} {C : Checked} {os : Os} {f : FuncId} {fn : Func} {s : ChangeSpec} {conds : List PathCond} {apart fresh handsOn again : Bool} {X : World → Array Value → Prop}
    (hX : ∀ (w w' : World) (args : Array Value), w.heap = w'.heap → X w args → X w' args)
    (own : ownKnob C.prog.godebug = none) (started : os.Started) (noInit : C.prog.inits.idxOf? f = none) (hfn : C.prog.funcs[f]? = some fn)
    (witness : ∃ (w : World) (tape : Tape) (i : Input), w.os = os ∧ (w.forCall tape i).Shaped C.prog ∧ i.vars = [] ∧ Input.okWide C.prog (w.forCall tape i) .any w.heap.size f i ∧
      ((s.pre enc C.prog fn conds apart (w.forCall tape i).memory i.args ∧ X (w.forCall tape i).memory i.args) ∧ sizedMet enc C.prog fn (OpenSpec.ofChange s) apart (w.forCall tape i).memory i.args) ∧ a.holds C.prog (lone (Frame.enter C.prog f i.args .normal) [] (w.forCall tape i)))
    (contract : ∀ (W : World) (base : Nat) (args : Array Value) (ds gs : List (DataW H)) (before : List MemPlace),
      (∀ (j : Nat) t v, fn.params[j]? = some t → args[j]? = some v → Value.okWide C.prog W .any base t v) →
      DataW.Whole enc C.prog fn.params.toList s.vars apart W args.toList ds gs before →
      conds.all (PathCond.test C.prog ⟨fn.params.toList, ds, s.plain.varTypes C.prog, gs⟩) = true →
      (DataW.weightsEach C.prog (fn.params.toList ++ s.plain.varTypes C.prog) (ds ++ gs)).all (· ≤ reachBytes) = true → X W args →
      W.ShapedOpen C.prog →
      a.holds C.prog (lone (Frame.enter C.prog f args .normal) [] W) →
      Calls C.prog f args W fun e W' => ∃ v, e = .returned v ∧ s.post enc C.prog fn apart fresh handsOn again W args v W') :
    ReturnsInHanded a C os f .any (fun w args => (s.pre enc C.prog fn conds apart w args ∧ X w args) ∧ sizedMet enc C.prog fn (OpenSpec.ofChange s) apart w args) (s.post enc C.prog fn apart fresh handsOn again) := by
  refine returnsInHanded_of_calls own started noInit witness ?_
  intro w tape i _ hsh _ hok hpre hholds
  obtain ⟨_, _, _, fn', hfn', _, _, _, _, hval⟩ := hok
  have e : fn' = fn := Option.some.inj (hfn'.symm.trans hfn)
  subst e
  obtain ⟨⟨⟨ds, gs, before, hw, hc⟩, hx⟩, hz⟩ := hpre
  have hw' := DataW.Whole.of_heap (w' := w.forCall tape i) (by rfl) hw
  refine (contract (w.forCall tape i) w.heap.size i.args ds gs before hval hw' hc (hz.weights hw) (hX _ _ _ (by rfl) hx) hsh hholds).mono fun e W' ⟨v, he, hp⟩ => ?_
  subst he
  exact ChangeSpec.post_blind hp
end Go
namespace Go.Proofs.YtbhicpjhijondaaDoor
open Go.ChangeShapes Go.WideShapes Go.ChangeAt Go.RowKit Go.Par Go.Lib Go.Shelf Go.Deep Go.Typ
set_option linter.unusedVariables false
set_option linter.unusedSimpArgs false

theorem own : ownKnob Tryd.prog.godebug = none := by kernel_rfl
theorem laidOut : laidOutB Tryd.prog = true := by kernel_rfl

def laidL : List (String × DataW Unit) := [("math/bits.deBruijn32tab", Rows.laid_math_bits_deBruijn32tab), ("math/bits.deBruijn64tab", Rows.laid_math_bits_deBruijn64tab), ("internal/strconv.uint64pow10", Rows.laid_internal_strconv_uint64pow10)]

theorem tb_of {W : World} (h : laidMetH Tryd.prog laidL W) : Tb W := by
  rw [MakeChecks.laidMetH_plain _ _ _ (by kernel_rfl)] at h
  have h5 : VarReads Tryd.prog W "internal/strconv.uint64pow10" (tabData .u64 pow10Tab) := Lib.laidMet.reads h (.tail _ (.tail _ (.head _)))
  obtain ⟨g, t, cs, fuel, p, hg, hty, hvar, hd⟩ := h5
  obtain rfl := Option.some.inj ((show Tryd.prog.globalNamed "internal/strconv.uint64pow10" = some 0 by kernel_rfl).symm.trans hg)
  obtain rfl := Option.some.inj ((show (Tryd.prog.globals[0]?).map (·.type) = some 146 by kernel_rfl).symm.trans hty)
  unfold Tb Lib.TabIs
  rw [hvar, ← cells_of_tab (P := Tryd.prog) (t := 146) (e := 140) (n := 20) Tryd.underlying146 Tryd.underlying140 (by kernel_rfl) (by kernel_rfl) hd]

theorem ty_fields : ∃ fs : Array Field, Tryd.prog.underlying 24 = some (.struct fs) ∧ fs.toList.map (fun f => (f.type, f.offset)) = [(3, 0), (3, 1), (9, 2), (22, 3)] := by
  have h : (Tryd.prog.underlying 24).map (fun d => match d with | .struct fs => fs.toList.map (fun f => (f.type, f.offset)) | _ => []) = some [(3, 0), (3, 1), (9, 2), (22, 3)] := by kernel_rfl
  cases hu : Tryd.prog.underlying 24 with
  | none => rw [hu] at h; cases h
  | some d =>
    rw [hu] at h
    cases d <;> simp at h
    exact ⟨_, rfl, h⟩
theorem field_of {fs : Array Field} {l : List (Nat × Nat)} (h : fs.toList.map (fun f => (f.type, f.offset)) = l) (j : Nat) (t o : Nat) (hj : l[j]? = some (t, o)) :
    ∃ f, fs[j]? = some f ∧ f.type = t ∧ f.offset = o := by
  have := congrArg (·[j]?) h
  simp only [List.getElem?_map, Array.getElem?_toList] at this
  rw [hj] at this
  cases hf : fs[j]? with
  | none => rw [hf] at this; cases this
  | some f =>
    rw [hf] at this
    simp at this
    exact ⟨f, rfl, this.1, this.2⟩
theorem list4 {α : Type} {l : List α} (h : l.length = 4) : ∃ a b c d, l = [a, b, c, d] := by
  rcases l with _ | ⟨a, _ | ⟨b, _ | ⟨c, _ | ⟨d, _ | ⟨e, l⟩⟩⟩⟩⟩
  · simp at h
  · simp at h
  · simp at h
  · simp at h
  · exact ⟨a, b, c, d, rfl⟩
  · simp at h
/-- a type out of its cells. -/
theorem ty_of {H : Type} {enc : TypeId × Value → H} {W : World} : ∀ (m : Nat) {cs : List Value} {x : DataW H × List MemPlace}, DataW.trod enc Tryd.prog W 0 (fun _ => true) true m 24 cs = some x →
    ∃ (T : Ty) (A : Option Addr) (c : Nat), cs = [.int .i64 T.kind, .int .i64 T.num, .string T.name, .slice A T.args.length c] ∧ TyAt (· < W.heap.size) W (tyV T.kind T.num T.name A T.args.length c) T := by
  intro m
  induction m using Nat.strongRecOn with
  | _ m ih =>
    intro cs x h
    obtain ⟨fs, hu, hfs⟩ := ty_fields
    obtain ⟨xs, m1, rfl, rfl, hlen, hxl, hf⟩ := DataW.trod_struct hu h
    have hC : Tryd.prog.cellsOf 24 = 4 := by kernel_rfl
    have hi1 : Tryd.prog.cellsOf 3 = 1 := by kernel_rfl
    have hs1 : Tryd.prog.cellsOf 9 = 1 := by kernel_rfl
    have ht1 : Tryd.prog.cellsOf 22 = 1 := by kernel_rfl
    rw [hC] at hlen
    have hfl : fs.size = 4 := by have := congrArg List.length hfs; simpa using this
    rw [hfl] at hxl
    obtain ⟨c0, c1, c2, c3, rfl⟩ := list4 hlen
    obtain ⟨y0, y1, y2, y3, rfl⟩ := list4 hxl
    have get : ∀ (j t : Nat), [((3 : Nat), (0 : Nat)), (3, 1), (9, 2), (22, 3)][j]? = some (t, j) → Tryd.prog.cellsOf t = 1 → DataW.trod enc Tryd.prog W 0 (fun _ => true) true m1 t (([c0, c1, c2, c3].drop j).take 1) = [y0, y1, y2, y3][j]? := by
      intro j t hj ht
      obtain ⟨f, hfj, hty, hof⟩ := field_of hfs j t j hj
      have := hf j f hfj
      rw [hty, hof, ht] at this
      exact this
    obtain ⟨n0, e0, _, w0⟩ := DataW.trod_int Tryd.underlying3 (get 0 3 rfl hi1)
    obtain ⟨n1, e1, _, w1⟩ := DataW.trod_int Tryd.underlying3 (get 1 3 rfl hi1)
    obtain ⟨s2, e2, _, w2⟩ := DataW.trod_string Tryd.underlying9 (get 2 9 rfl hs1)
    have h3 := get 3 22 rfl ht1
    simp at e0 e1 e2
    subst e0 e1 e2
    have hn : s2.size ≤ 9223372036854775807 := by simpa [maxLen] using w2
    rcases DataW.trod_slice Tryd.underlying22 h3 with ⟨hcs, _⟩ | ⟨a, len, cap, elems, rest, n, hm1, hcs, hx, hb, hl, hcm, hel, hi, _⟩
    · simp at hcs
      subst hcs
      exact ⟨.mk n0 n1 s2 [], none, 0, rfl, TyAt.leaf _ W n0 n1 s2 none 0 (by simp [maxLen]) hn⟩
    · simp at hcs
      subst hcs
      rw [hC] at hi
      have hT : ∀ i : Fin len, ∃ q : Ty × Option Addr × Nat, W.cells? 0 (a.add (i.val * 4)) 4 = some [.int .i64 q.1.kind, .int .i64 q.1.num, .string q.1.name, .slice q.2.1 q.1.args.length q.2.2] ∧
          TyAt (· < W.heap.size) W (tyV q.1.kind q.1.num q.1.name q.2.1 q.1.args.length q.2.2) q.1 := by
        intro ⟨i, hil⟩
        have hi := hi i hil
        rw [List.getElem?_eq_getElem (by omega), Option.bind_eq_some_iff] at hi
        obtain ⟨cs', hc, ht⟩ := hi
        obtain ⟨T, A, c, rfl, hT⟩ := ih n (by omega) ht
        exact ⟨(T, A, c), hc, hT⟩
      obtain ⟨f, hf⟩ := Classical.axiomOfChoice hT
      refine ⟨.mk n0 n1 s2 (List.ofFn fun i => (f i).1), some a, cap, by simp [Ty.kind, Ty.num, Ty.name, Ty.args], ?_⟩
      simp only [Ty.kind, Ty.num, Ty.name, Ty.args]
      have hcell : ∀ i (h : i < len) j, j < 4 → W.cell? (a.add (i * 4 + j)) = [Value.int .i64 (f ⟨i, h⟩).1.kind, .int .i64 (f ⟨i, h⟩).1.num, .string (f ⟨i, h⟩).1.name, .slice (f ⟨i, h⟩).2.1 (f ⟨i, h⟩).1.args.length (f ⟨i, h⟩).2.2][j]? := by
        intro i h j hj
        obtain ⟨_, _, hat⟩ := World.cells?_some (hf ⟨i, h⟩).1
        rw [← Go.Deep.add_add]
        exact hat j hj
      refine TyAt.mk n0 n1 s2 _ (some a) cap (fun i => if h : i < len then tyV (f ⟨i, h⟩).1.kind (f ⟨i, h⟩).1.num (f ⟨i, h⟩).1.name (f ⟨i, h⟩).2.1 (f ⟨i, h⟩).1.args.length (f ⟨i, h⟩).2.2 else .bool false) (by simpa using hl) hcm hn ?_ ?_
      · intro h0
        rw [List.length_ofFn] at h0 ⊢
        have hc0 := hcell 0 h0 0 (by omega)
        obtain ⟨b, off, spot⟩ := a
        have hspot : spot = none := by simpa [Addr.add] using World.cell?_spot hc0
        subst hspot
        refine ⟨b, off, rfl, ?_, fun i hi j hj => ?_⟩
        · have := World.block_lt_of_cell? _ _ hc0
          rw [add_addr] at this
          exact this
        · have h := hcell i hi j hj
          rw [add_addr, ← Nat.add_assoc] at h
          rw [h, dif_pos hi]
          rcases j with _ | _ | _ | _ | j
          · rfl
          · rfl
          · rfl
          · rfl
          · omega
      · intro i hi
        simp only [List.length_ofFn] at hi
        rw [dif_pos hi, List.getElem_ofFn]
        exact (hf ⟨i, hi⟩).2
set_option maxRecDepth 20000 in
theorem ty_of_trod {H : Type} {enc : TypeId × Value → H} {W : World} {base : Nat} {v : Value} {d : DataW H} {p : List MemPlace} (hval : Value.okWide Tryd.prog W .any base 24 v)
    (h : DataW.Trod enc Tryd.prog W 0 (fun _ => true) true 24 v d p) : ∃ T : Ty, TyAt (· < W.heap.size) W v T := by
  obtain ⟨fs, hu, hfs⟩ := ty_fields
  obtain ⟨cs, rfl, hcs⟩ := okWide_struct hu hval
  obtain ⟨m, hm⟩ := h
  obtain ⟨T, A, c, e, hT⟩ := ty_of m hm
  refine ⟨T, ?_⟩
  have hcs : cs = #[.int .i64 T.kind, .int .i64 T.num, .string T.name, .slice A T.args.length c] := by
    apply Array.toList_inj.mp
    simpa [Value.cells] using e
  rw [hcs]
  exact hT
end Go.Proofs.YtbhicpjhijondaaDoor
