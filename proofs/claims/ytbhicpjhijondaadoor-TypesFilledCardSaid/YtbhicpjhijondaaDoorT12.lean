/- A type's words: plain; the builder's state; small contracts. -/
import Derived.Test.YtbhicpjhijondaaDoorT11
import Derived.Lib.ItoaNum
namespace Go.Typ
/-- words with others between. -/
def joinW (sep : List UInt8) : List (List UInt8) → List UInt8
  | [] => []
  | w :: ws => w ++ ws.flatMap fun x => sep ++ x
theorem joinW_snoc (sep w : List UInt8) : ∀ ws : List (List UInt8), joinW sep (ws ++ [w]) = joinW sep ws ++ ((if ws.length = 0 then [] else sep) ++ w)
  | [] => by simp [joinW]
  | x :: ws => by simp [joinW, List.append_assoc]
theorem joinW_take (sep : List UInt8) (ws : List (List UInt8)) {k : Nat} (h : k < ws.length) : joinW sep (ws.take (k + 1)) = joinW sep (ws.take k) ++ ((if k = 0 then [] else sep) ++ ws[k]) := by
  rw [List.take_succ_eq_append_getElem h, joinW_snoc, List.length_take, Nat.min_eq_left (by omega)]
def wrapB (yes : Bool) (w : List UInt8) : List UInt8 := if yes then [40] ++ w ++ [41] else w
def pairB (a : Ty) : Bool := decide (a.kind = 3) || decide (a.kind = 4)
/-- a variable's word. -/
def varW (n : Int) : List UInt8 := [39, UInt8.ofNat (97 + n.toNat % 26)] ++ (if 26 ≤ n then Lib.itoa (n / 26) else [])
def insW (ts : List Ty) (ws : List (List UInt8)) : List (List UInt8) := List.zipWith (fun a w => wrapB (pairB a) w) ts ws
mutual
/-- a type's words. -/
def sayT : Ty → List UInt8
  | .mk k n s ts =>
    if k = 1 then varW n
    else if k = 2 then (if ts.length = 1 then joinW [] (insW ts (sayL ts)) else if ts.length = 0 then [] else [40] ++ joinW [44, 32] (sayL ts) ++ [41]) ++ (if ts.length = 0 then [] else [32]) ++ s.data.toList
    else if k = 3 then joinW [32, 42, 32] (insW ts (sayL ts))
    else if k = 4 then wrapB (decide ((ts.getD 0 (.mk 0 0 .empty [])).kind = 4)) ((sayL ts).getD 0 []) ++ [32, 45, 62, 32] ++ (sayL ts).getD 1 []
    else []
def sayL : List Ty → List (List UInt8)
  | [] => []
  | t :: ts => sayT t :: sayL ts
end
theorem sayL_map : ∀ ts : List Ty, sayL ts = ts.map sayT
  | [] => rfl
  | t :: ts => by rw [sayL, sayL_map ts]; rfl
def insT (a : Ty) : List UInt8 := wrapB (pairB a) (sayT a)
theorem insW_map (ts : List Ty) : insW ts (sayL ts) = ts.map insT := by
  rw [sayL_map]
  induction ts with
  | nil => rfl
  | cons t ts ih =>
    simp only [insW, List.map_cons, List.zipWith_cons_cons] at ih ⊢
    rw [ih]; rfl
/-- every part is one of a right type. -/
def FitAll (T : Ty) : Prop := ∀ x ∈ T.list, fitsT x = true
theorem mem_listL {x a : Ty} : ∀ {ts : List Ty}, a ∈ ts → x ∈ a.list → x ∈ listL ts
  | t :: ts, ha, hx => by
    rw [listL]
    rcases List.mem_cons.1 ha with rfl | ha
    · exact List.mem_append_left _ hx
    · exact List.mem_append_right _ (mem_listL ha hx)
theorem FitAll.arg {T : Ty} (h : FitAll T) {i : Nat} (hi : i < T.args.length) : FitAll T.args[i] := fun x hx => h x (by
  rw [T.list_eq]
  exact List.mem_cons_of_mem _ (mem_listL (List.getElem_mem hi) hx))
theorem FitAll.self {T : Ty} (h : FitAll T) : fitsT T = true := h T (by rw [T.list_eq]; exact List.mem_cons_self)
theorem rightT_iff {T : Ty} : rightT T = true ↔ T.parts ≤ 300 ∧ FitAll T := by
  unfold rightT FitAll
  rw [Bool.and_eq_true, decide_eq_true_iff, List.all_eq_true]
end Go.Typ
namespace Go.Proofs.YtbhicpjhijondaaDoor
open Go.RowKit Go.Lib Go.Vfs Go.Par Go.Typ Go.Shelf
set_option linter.unusedVariables false
set_option linter.unusedSimpArgs false

/-- the table of powers of ten. -/
noncomputable def gpow : Nat := (Tryd.prog.globalNamed "internal/strconv.uint64pow10").getD 0
def Tb (w : World) : Prop := Lib.TabIs Tryd.prog w "internal/strconv.uint64pow10" .u64 Lib.pow10Tab
theorem Tb.size {w : World} (h : Tb w) : gpow < w.heap.size := by
  have hg : Tryd.prog.globalNamed "internal/strconv.uint64pow10" = some gpow := by kernel_rfl
  unfold Tb Lib.TabIs World.var? at h
  rw [hg, Option.bind_some] at h
  cases hw : w.heap[gpow]? with
  | none => rw [hw] at h; cases h
  | some o => exact lt_blk hw
theorem Tb.keep {w w' : World} (h : Tb w) (hk : w'.heap[gpow]? = w.heap[gpow]?) : Tb w' := by
  have hg : Tryd.prog.globalNamed "internal/strconv.uint64pow10" = some gpow := by kernel_rfl
  unfold Tb Lib.TabIs World.var? at h ⊢
  rw [hg, Option.bind_some] at h ⊢
  rw [hk]; exact h
theorem Tb.below {w w' : World} (h : Tb w) (hb : Below w.heap.size w w') : Tb w' := h.keep (hb.block _ h.size)

/-- the builder in block b holds l; what lies below B, and all that is no row of bytes, lies as in w. -/
structure SB (B b : Nat) (w : World) (l : List UInt8) (W : World) : Prop where
  bld : Lib.IsBuilderF 72 5 B b (byteCells l) W
  below : Below B w W
  kept : Lib.OthersKept 5 (some b) w W
  le : B ≤ W.heap.size
  grow : w.heap.size ≤ W.heap.size
section
variable {B b : Nat} {w W W' : World} {l l' : List UInt8}
theorem SB.t (h : SB B b w l W) (k : SB B b W l' W') : SB B b w l' W' :=
  ⟨k.bld, h.below.trans k.below, fun i o hi hb ho => k.kept i o (h.kept i o hi hb ho) hb ho, k.le, Nat.le_trans h.grow k.grow⟩
theorem SB.refl (h : Lib.IsBuilderF 72 5 B b (byteCells l) W) (hB : B ≤ W.heap.size) : SB B b W l W := ⟨h, Below.refl _ _, Lib.OthersKept.refl _ _ _, hB, Nat.le_refl _⟩
theorem SB.at (h : SB B b w l W) {k : Nat} {cs : Array Value} {t : TypeId} {fz : Nat × Nat} (hk : w.heap[k]? = some (.cells cs t fz)) (ht : t ≠ 5) (hb : k ≠ b) : W.heap[k]? = some (.cells cs t fz) :=
  h.kept k _ hk (fun e => hb (by injection e)) (fun c fz' e => ht (by injection e))
theorem SB.blt (h : SB B b w l W) : b < W.heap.size := by
  rcases h.bld with h | h
  · exact h.lt
  · exact h.lt
theorem SB.shape (h : SB B b w l W) : ∃ cs, W.heap[b]? = some (.cells cs 72 (0, 0)) := by
  rcases h.bld with h | h
  · obtain ⟨_, v, e, _⟩ := h; exact ⟨_, e⟩
  · obtain ⟨_, v, e, _⟩ := h; exact ⟨_, e⟩
theorem bld_new (h : Lib.IsBuilderF 72 5 B b (byteCells l) W) (hb : Below W.heap.size W W') : Lib.IsBuilderF 72 5 B b (byteCells l) W' := by
  have key : ∀ p, Lib.BuilderAtF 72 5 B b p (byteCells l) W → Lib.BuilderAtF 72 5 B b p (byteCells l) W' := fun p h => by
    have hlt := h.lt
    obtain ⟨hB, v, e, hown, hne⟩ := h
    exact ⟨hB, v, (hb.block b hlt).trans e, hown.kept (row := none) ⟨hb.os, hb.tape, hb.output, hb.size, fun k hk _ => hb.block k hk⟩ (by cases v.ownBlock <;> simp), hne⟩
  exact h.elim (fun x => .inl (key _ x)) (fun x => .inr (key _ x))
theorem SB.new (h : SB B b w l W) (hb : Below W.heap.size W W') : SB B b w l W' :=
  h.t ⟨bld_new h.bld hb, hb.mono h.le, fun k o hk _ _ => (hb.block k (lt_blk hk)).trans hk, Nat.le_trans h.le hb.size, hb.size⟩
end

theorem writeByte_s (B b : Nat) (l : List UInt8) (c : UInt8) (x : Int) (hx : x = (c.toNat : Int)) (W : World) (h : Lib.IsBuilderF 72 5 B b (byteCells l) W) (hB : B ≤ W.heap.size) (hl : l.length + 1 ≤ 140737488355328) :
    Calls Tryd.prog 82 #[.pointer (some ⟨b, 0, none⟩), .int .u8 x] W fun e W' => e = .returned .nilIface ∧ SB B b W (l ++ [c]) W' := by
  subst hx
  refine (writeByte_any B b _ c.toNat W h (by rw [byteCells_length]; omega) hB).mono ?_
  rintro e W' ⟨rfl, h1, h2, h3⟩
  have hz : W.heap.size ≤ W'.heap.size := by have := h2.size; exact this
  exact ⟨rfl, .inr (by rw [show byteCells (l ++ [c]) = byteCells l ++ [.int .u8 c.toNat] from by simp [byteCells]]; exact h1), h2, h3, by omega, hz⟩
theorem writeString_s (B b : Nat) (l : List UInt8) (s : ByteArray) (W : World) (h : Lib.IsBuilderF 72 5 B b (byteCells l) W) (hB : B ≤ W.heap.size) (hl : l.length + s.size ≤ 140737488355328) :
    Calls Tryd.prog 83 #[.pointer (some ⟨b, 0, none⟩), .string s] W fun e W' => (∃ v, e = .returned v) ∧ SB B b W (l ++ s.data.toList) W' := by
  refine (writeString_any B b _ s W h (by rw [byteCells_length]; omega) hB).mono ?_
  rintro e W' ⟨rfl, h1, h2, h3⟩
  have hz : W.heap.size ≤ W'.heap.size := h2.size
  exact ⟨⟨_, rfl⟩, .inr (by rw [show byteCells (l ++ s.data.toList) = byteCells l ++ Lib.strCells s from by simp [byteCells, Lib.strCells]]; exact h1), h2, h3, by omega, hz⟩
end Go.Proofs.YtbhicpjhijondaaDoor
