/- The last statement of Crash's loop: by an invariant over what has been done. -/
import Derived.Test.YtpdelgjfamelfaaVQ
namespace Go.Proofs.Ytpdelgjfamelfaa
open Go.RowKit Go.Lib Go.Vfs Go.Par Go.Shelf
set_option linter.unusedVariables false

/-- the operations of region 11 of Crash. -/
def regionOf (id : Nat) : Code → Option (Array Oper)
  | .region i ops _ => if i = id then some ops else none
  | .seq a b => match regionOf id a with
    | some c => some c
    | none => regionOf id b
  | .cond _ a b => match regionOf id a with
    | some c => some c
    | none => regionOf id b
  | .loop c => regionOf id c
  | .block _ c => regionOf id c
  | .scope c => regionOf id c
  | .rangeFunc _ _ a b => match regionOf id a with
    | some c => some c
    | none => regionOf id b
  | _ => none
noncomputable def ops11 : Array Oper := ((Try.f18.body.bind (regionOf 11)).getD #[])

theorem size11 : ops11.size = 16 := by kernel_rfl
theorem getD_set {L : Array Bool} {i j : Nat} {d : Bool} (hi : i < L.size) : (L.setIfInBounds i true).getD j d = if i = j then true else L.getD j d := by
  by_cases h : i = j
  · subst h
    simp [hi]
  · simp [h]
theorem put_get {a : Act} {k j : Nat} {v : Value} (hk : k < a.tmps.size) : (a.put (some k) v).tmps.getD j undef = if k = j then v else a.tmps.getD j undef := by
  by_cases h : k = j
  · subst h
    simp [Act.put, hk]
  · simp [Act.put, h]
theorem put_size (a : Act) (d : Option Tmp) (v : Value) : (a.put d v).tmps.size = a.tmps.size := by cases d <;> simp [Act.put]

/-- what an operation is: where it writes, what it does, what it waits for. -/
def what (o : Oper) : Option Tmp × Op × List Nat × Bool := (o.dst, o.op, (o.after.toList.filter (Region.binds .any)).map (·.on), o.guard.isNone)
theorem o11_0 : (ops11[0]?).map what = some (some 49, Op.load 24 (.tmp 7), [], true) := by kernel_rfl
theorem o11_1 : (ops11[1]?).map what = some (some 50, Op.nilCheck (.tmp 49), [0], true) := by kernel_rfl
theorem o11_2 : (ops11[2]?).map what = some (some 51, Op.fieldAddr 84 (.tmp 50) 0, [1], true) := by kernel_rfl
theorem o11_3 : (ops11[3]?).map what = some (some 52, Op.load 82 (.tmp 51), [2], true) := by kernel_rfl
theorem o11_4 : (ops11[4]?).map what = some (some 53, Op.move (.tmp 9), [], true) := by kernel_rfl
theorem o11_5 : (ops11[5]?).map what = some (some 54, Op.move (.tmp 10), [], true) := by kernel_rfl
theorem o11_6 : (ops11[6]?).map what = some (some 55, Op.nilCheck (.tmp 54), [5], true) := by kernel_rfl
theorem o11_7 : (ops11[7]?).map what = some (some 56, Op.fieldAddr 89 (.tmp 55) 0, [6], true) := by kernel_rfl
theorem o11_8 : (ops11[8]?).map what = some (some 57, Op.load 22 (.tmp 56), [7], true) := by kernel_rfl
theorem o11_9 : (ops11[9]?).map what = some (some 58, Op.move (.tmp 12), [], true) := by kernel_rfl
theorem o11_10 : (ops11[10]?).map what = some (some 59, Op.slice 22 (.tmp 57) none (some (.tmp 58)) none, [8, 9], true) := by kernel_rfl
theorem o11_11 : (ops11[11]?).map what = some (some 60, Op.call { callee := .value (.func 52), args := #[.tmp 59], argTypes := #[22] }, [10], true) := by kernel_rfl
theorem o11_12 : (ops11[12]?).map what = some (some 61, Op.move (.tmp 12), [], true) := by kernel_rfl
theorem o11_13 : (ops11[13]?).map what = some (some 62, Op.build 89 #[(0, .tmp 60), (1, .tmp 61)], [11, 12], true) := by kernel_rfl
theorem o11_14 : (ops11[14]?).map what = some (some 63, Op.box 89 (.tmp 62), [13], true) := by kernel_rfl
theorem o11_15 : (ops11[15]?).map what = some (none, Op.mapUpdate 82 (.tmp 52) (.tmp 53) (.tmp 63), [3, 4, 14, 11, 0, 1, 2, 3, 4, 5, 6, 7, 8, 9, 10, 11, 12, 13, 14], true) := by kernel_rfl

theorem at11 {i : Nat} {d : Option Tmp} {op : Op} {dep : List Nat} (h : (ops11[i]?).map what = some (d, op, dep, true)) : ∃ o, ops11[i]? = some o ∧ o.dst = d ∧ o.op = op ∧ o.guard = none ∧
    ∀ L : Array Bool, i ∈ Region.ready .any ops11 L → ∀ j ∈ dep, L.getD j false = true := by
  cases ho : ops11[i]? with
  | none => rw [ho] at h; cases h
  | some o =>
    rw [ho] at h
    simp only [Option.map_some, what, Option.some.injEq, Prod.mk.injEq] at h
    refine ⟨o, rfl, h.1, h.2.1, by simpa using h.2.2.2, fun L hr j hj => ?_⟩
    obtain ⟨_, o', ho', hall⟩ := mem_ready.1 hr
    rw [ho] at ho'
    cases ho'
    rw [← h.2.2.1] at hj
    obtain ⟨e, he, rfl⟩ := List.mem_map.1 hj
    obtain ⟨he1, he2⟩ := List.mem_filter.1 he
    exact hall e (by simpa using he1) he2

/-- the values of the steady operations. -/
def V11 (pL mL q N len c2 : Nat) (A2 : Option Addr) (S : ByteArray) : Nat → Option Value
  | 0 | 1 | 2 => some (.pointer (some ⟨pL, 0, none⟩))
  | 3 => some (.map (some mL))
  | 4 => some (.string S)
  | 5 | 6 | 7 => some (.pointer (some ⟨q, 0, none⟩))
  | 8 => some (.slice A2 len c2)
  | 9 | 12 => some (.int .i64 N)
  | 10 => some (.slice A2 N c2)
  | _ => none

structure CInv (pL mL q N len c2 b7 : Nat) (A2 : Option Addr) (S : ByteArray) (W : World) (Post : Value → World → Prop) (Fin : World → Prop) (L : Array Bool) (a : Act) (w : World) : Prop where
  size : L.size = 16
  tsize : a.tmps.size = 65
  f7 : a.tmps.getD 7 undef = .pointer (some ⟨b7, 0, none⟩)
  f9 : a.tmps.getD 9 undef = .string S
  f10 : a.tmps.getD 10 undef = .pointer (some ⟨q, 0, none⟩)
  f12 : a.tmps.getD 12 undef = .int .i64 N
  vals : ∀ i v, V11 pL mL q N len c2 A2 S i = some v → L.getD i false = true → a.tmps.getD (49 + i) undef = v
  phase : (L.getD 11 false = false ∧ L.getD 13 false = false ∧ L.getD 14 false = false ∧ L.getD 15 false = false ∧ w = W) ∨
    (L.getD 11 false = true ∧ L.getD 14 false = false ∧ L.getD 15 false = false ∧ Post (a.tmps.getD 60 undef) w ∧ (L.getD 13 false = true → a.tmps.getD 62 undef = .agg #[a.tmps.getD 60 undef, .int .i64 N])) ∨
    (L.getD 11 false = true ∧ L.getD 13 false = true ∧ L.getD 14 false = true ∧ L.getD 15 false = false ∧ ∃ u w2, Post u w2 ∧ w = w2.alloc (.cells #[u, .int .i64 N] 89) ∧ a.tmps.getD 63 undef = .pointer (some ⟨w2.heap.size, 0, none⟩)) ∨
    ((∀ j, j < 16 → L.getD j false = true) ∧ Fin w)

section
variable {pL mL q N len c2 b7 : Nat} {A2 : Option Addr} {S : ByteArray} {W : World} {Post : Value → World → Prop} {Fin : World → Prop} {L : Array Bool} {a : Act} {w : World}

/-- a steady operation keeps the invariant. -/
theorem CInv.steady (h : CInv pL mL q N len c2 b7 A2 S W Post Fin L a w) {i : Nat} {v : Value} (hv : V11 pL mL q N len c2 A2 S i = some v) (hi : i < 13) (h11 : i ≠ 11) : CInv pL mL q N len c2 b7 A2 S W Post Fin (L.setIfInBounds i true) (a.put (some (49 + i)) v) w := by
  have hL : i < L.size := by rw [h.size]; omega
  have hk : 49 + i < a.tmps.size := by rw [h.tsize]; omega
  have g : ∀ j, j ≠ 49 + i → (a.put (some (49 + i)) v).tmps.getD j undef = a.tmps.getD j undef := fun j hj => by rw [put_get hk, if_neg (fun e => hj e.symm)]
  have f : ∀ j d, j ≠ i → (L.setIfInBounds i true).getD j d = L.getD j d := fun j d hj => by rw [getD_set hL, if_neg (fun e => hj e.symm)]
  refine ⟨by simp [h.size], by rw [put_size]; exact h.tsize, ?_, ?_, ?_, ?_, fun j u hu hl => ?_, ?_⟩
  · rw [g 7 (by omega)]; exact h.f7
  · rw [g 9 (by omega)]; exact h.f9
  · rw [g 10 (by omega)]; exact h.f10
  · rw [g 12 (by omega)]; exact h.f12
  · by_cases e : j = i
    · subst e
      rw [hv] at hu
      cases hu
      rw [put_get hk, if_pos rfl]
    · rw [f j _ e] at hl
      rw [g _ (by omega)]
      exact h.vals j u hu hl
  · rw [f 11 _ (fun e => h11 e.symm), f 13 _ (by omega), f 14 _ (by omega), f 15 _ (by omega), g 60 (by omega), g 62 (by omega), g 63 (by omega)]
    rcases h.phase with p | p | p | ⟨p, q⟩
    · exact .inl p
    · exact .inr (.inl p)
    · exact .inr (.inr (.inl p))
    · refine .inr (.inr (.inr ⟨fun j hj => ?_, q⟩))
      rw [getD_set hL]
      split
      · rfl
      · exact p j hj
end
end Go.Proofs.Ytpdelgjfamelfaa
