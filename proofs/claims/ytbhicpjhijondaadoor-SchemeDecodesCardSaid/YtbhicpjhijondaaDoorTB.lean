/- Merged of T11 T12 T13 T14 T15 T16 T17 T18 T19. -/
import Derived.Test.YtbhicpjhijondaaDoorTA
import Derived.Test.YtbhicpjhijondaaDoorShelf
import Derived.Lib.UnsafeStr
import Derived.Shelf.Strings.BuilderK
import Derived.Lib.ItoaNum
/- T11 -/
/- The strings.Builder's methods. -/
namespace Go.Proofs.YtbhicpjhijondaaDoor
open Go.RowKit Go.Lib Go.Vfs Go.Par Go.Typ Go.Shelf
set_option linter.unusedVariables false
set_option linter.unusedSimpArgs false

theorem builderX : (Tryd.prog.info? 72).map (·.size) = some 2 := by kernel_rfl
theorem byteInfo : ∃ i, Tryd.prog.info? 5 = some i ∧ i.zero = some (.int .u8 0) ∧ i.size = 1 ∧ i.bytes = 1 := by
  have h : (Tryd.prog.info? 5).map (fun i => (i.zero, i.size, i.bytes)) = some (some (.int .u8 0), 1, 1) := by kernel_rfl
  exact info_parts h

set_option maxHeartbeats 1000000 in
set_option maxRecDepth 100000 in
theorem copyCheck_used (b : Nat) (w : World) (h0 : w.cell? ⟨b, 0, none⟩ = some (.pointer (some ⟨b, 0, none⟩))) :
    Calls Tryd.prog 98 #[.pointer (some ⟨b, 0, none⟩)] w fun e w' => e = .returned (.tuple #[]) ∧ w' = w := by
  obtain ⟨j, hj, _⟩ := Option.map_eq_some_iff.1 builderX
  go_enter Tryd.func98, Tryd.ntmps98
  go_wp2
  rw [Lib.run_neq_ptr_same w _ Tryd.underlying70 hj]
  go_wp2
  go_end0
  exact ⟨rfl, rfl⟩

set_option maxHeartbeats 1000000 in
set_option maxRecDepth 100000 in
theorem copyCheck_fresh (b : Nat) (w : World) (h0 : w.cell? ⟨b, 0, none⟩ = some (.pointer none)) (hsh : w.shape? b = some (72, 2)) (hfz : w.frozen? ⟨b, 0, none⟩ = false) :
    Calls Tryd.prog 98 #[.pointer (some ⟨b, 0, none⟩)] w fun e w' => e = .returned (.tuple #[]) ∧ w' = w.setCell ⟨b, 0, none⟩ (.pointer (some ⟨b, 0, none⟩)) := by
  obtain ⟨j, hj, hjs⟩ := Option.map_eq_some_iff.1 builderX
  go_enter Tryd.func98, Tryd.ntmps98
  go_wp2
  rw [Lib.run_to_unsafe w ⟨b, 0, none⟩ Tryd.underlying70 Tryd.underlying134 hj (by rw [hjs]; decide) hsh (Nat.zero_lt_succ 1)]
  simp only [Result.andThen]
  rw [Oper.upon_value]
  go_wp2
  rw [run_callFunc_extern Tryd.func112 (by kernel_rfl) (by kernel_rfl) (by kernel_rfl) (e := Extern.AbiNoEscape.same) (by kernel_rfl)]
  rw [Lib.run_noEscape]
  simp only [Result.andThen]
  rw [Oper.upon_value]
  go_wp2
  rw [Lib.run_from_unsafe w ⟨b, 0, none⟩ Tryd.underlying134 Tryd.underlying70 hj hsh Tryd.Builder_Extra_169.liesBuilder]
  simp only [Result.andThen]
  rw [Oper.upon_value]
  go_wp2
  go_end0
  exact ⟨rfl, rfl⟩

theorem copyCheck_any (B b : Nat) (bs : List Value) (w : World) (h : Lib.IsBuilderF 72 5 B b bs w) :
    Calls Tryd.prog 98 #[.pointer (some ⟨b, 0, none⟩)] w fun e w' => e = .returned (.tuple #[]) ∧ (Lib.BuilderAtF 72 5 B b (.pointer (some ⟨b, 0, none⟩)) bs w' ∧ Below B w w' ∧ Lib.OthersKept 5 (some b) w w') := by
  rcases h with h | h
  · refine (copyCheck_fresh b w h.cell0 h.shape h.frozen0).mono ?_
    rintro e w' ⟨rfl, rfl⟩
    exact ⟨rfl, h.used _, (Below.refl B w).setCell (p := ⟨b, 0, none⟩) h.1 _, (Lib.OthersKept.refl _ _ w).setCell ⟨b, 0, none⟩ rfl _⟩
  · refine (copyCheck_used b w h.cell0).mono ?_
    rintro e w' ⟨rfl, rfl⟩
    exact ⟨rfl, h, Below.refl B _, Lib.OthersKept.refl _ _ _⟩

set_option maxHeartbeats 2000000 in
theorem writeByte_any (B b : Nat) (bs : List Value) (c : Int) (w : World) (h : Lib.IsBuilderF 72 5 B b bs w) (hlen : bs.length + 1 ≤ 140737488355328) (hBw : B ≤ w.heap.size) :
    Calls Tryd.prog 82 #[.pointer (some ⟨b, 0, none⟩), .int .u8 c] w fun e w' => e = .returned .nilIface ∧ (Lib.BuilderAtF 72 5 B b (.pointer (some ⟨b, 0, none⟩)) (bs ++ [.int .u8 c]) w' ∧ Below B w w' ∧ Lib.OthersKept 5 (some b) w w') := by
  obtain ⟨i0, hi, hz0, hz1, hz2⟩ := byteInfo
  go_enter Tryd.func82, Tryd.ntmps82
  go_wp2_with (go_at_call 98; refine (copyCheck_any B b bs _ h).mono ?_)
  rintro e w1 ⟨rfl, h1, hb1, hk1⟩
  obtain ⟨hB, v, hbk, hown, hne⟩ := h1
  have c0 : w1.cell? ⟨b, 0, none⟩ = some (.pointer (some ⟨b, 0, none⟩)) := by rw [Lib.cell_of_heap hbk]; rfl
  have c1 : w1.cell? ⟨b, 1, none⟩ = some v := by rw [Lib.cell_of_heap hbk]; rfl
  go_wp2_with (at_builtin; refine wpList_append_ownF _ rfl _ _ 47 rfl B 5 i0 (.int .u8 0) 1 1 Tryd.underlying47 hi hz0 hz1 hz2 rfl (by decide) _ _ _ rfl (hown.alloc _) ⟨w1.heap.size, 0, none⟩ 1 1 [.int .u8 c] rfl rfl ?c1 ?c2 ?c3 ?c4 ?c5 ?_)
  case c1 =>
    intro j u hj
    match j, hj with
    | 0, hj => simp at hj; subst hj; simp [Addr.add]
  case c2 => intro u hu; simp at hu; subst hu; rfl
  case c3 => unfold maxLen; omega
  case c4 => omega
  case c5 => have := hb1.size; simp; omega
  intro v' w2 hown' hgrow _
  have hlt : b < w1.heap.size := lt_blk hbk
  have hb2 : w2.heap[b]? = some (.cells #[.pointer (some ⟨b, 0, none⟩), v] 72 (0, 0)) := by
    rw [hgrow.block b (by simp; omega) (fun e => hne e.symm), Lib.alloc_old w1 _ b hlt]
    exact hbk
  have d0 : w2.cell? ⟨b, 0, none⟩ = some (.pointer (some ⟨b, 0, none⟩)) := by rw [Lib.cell_of_heap hb2]; rfl
  have d1 : w2.cell? ⟨b, 1, none⟩ = some v := by rw [Lib.cell_of_heap hb2]; rfl
  have f1 : w2.frozen? ⟨b, 1, none⟩ = false := Lib.frozen_of_heap hb2 1
  obtain ⟨g, cap, rfl⟩ : ∃ g cap, v' = .slice (some ⟨g, 0, none⟩) (bs.length + 1) cap := by
    rcases hown'.2 with ⟨_, h0⟩ | ⟨g, cap, cur, fz, hv, _⟩
    · omega
    · exact ⟨g, cap, hv⟩
  go_wp2
  go_ret
  refine ⟨rfl, ?_, ?_, ((hk1.alloc _).grown hgrow (Lib.ownsRowF_kind (hown.alloc _))).setCell ⟨b, 1, none⟩ rfl _⟩
  · exact Lib.BuilderAtF.put (T := 72) (e := 5) hB hb2 (bs' := bs ++ [.int .u8 c]) (by simpa using hown') (by decide)
  · exact ((hb1.alloc (by have := hb1.size; omega) _).grown hgrow (by have := hb1.size; simp; omega) (fun k hk => (hown.lt k hk).1)).setCell (p := ⟨b, 1, none⟩) hB _

set_option maxHeartbeats 2000000 in
theorem writeString_any (B b : Nat) (bs : List Value) (s : ByteArray) (w : World) (h : Lib.IsBuilderF 72 5 B b bs w) (hlen : bs.length + s.size ≤ 140737488355328) (hBw : B ≤ w.heap.size) :
    Calls Tryd.prog 83 #[.pointer (some ⟨b, 0, none⟩), .string s] w fun e w' => e = .returned (.tuple #[.int .i64 s.size, .nilIface]) ∧ (Lib.BuilderAtF 72 5 B b (.pointer (some ⟨b, 0, none⟩)) (bs ++ Lib.strCells s) w' ∧ Below B w w' ∧ Lib.OthersKept 5 (some b) w w') := by
  obtain ⟨i0, hi, hz0, hz1, hz2⟩ := byteInfo
  go_enter Tryd.func83, Tryd.ntmps83
  go_wp2_with (go_at_call 98; refine (copyCheck_any B b bs _ h).mono ?_)
  rintro e w1 ⟨rfl, h1, hb1, hk1⟩
  obtain ⟨hB, v, hbk, hown, hne⟩ := h1
  have c0 : w1.cell? ⟨b, 0, none⟩ = some (.pointer (some ⟨b, 0, none⟩)) := by rw [Lib.cell_of_heap hbk]; rfl
  have c1 : w1.cell? ⟨b, 1, none⟩ = some v := by rw [Lib.cell_of_heap hbk]; rfl
  go_wp2_with (at_builtin; refine Lib.wpList_append_own_stringF _ rfl _ _ 47 9 rfl B 5 i0 Tryd.underlying47 Tryd.underlying9 hi hz0 hz1 hz2 _ _ _ rfl hown s rfl ?c3 ?c4 ?c5 ?_)
  case c3 => unfold maxLen; omega
  case c4 => omega
  case c5 => have := hb1.size; omega
  intro v' w2 hown' hgrow _
  have hlt : b < w1.heap.size := lt_blk hbk
  have hb2 : w2.heap[b]? = some (.cells #[.pointer (some ⟨b, 0, none⟩), v] 72 (0, 0)) := by
    rw [hgrow.block b hlt (fun e => hne e.symm)]
    exact hbk
  have d0 : w2.cell? ⟨b, 0, none⟩ = some (.pointer (some ⟨b, 0, none⟩)) := by rw [Lib.cell_of_heap hb2]; rfl
  have d1 : w2.cell? ⟨b, 1, none⟩ = some v := by rw [Lib.cell_of_heap hb2]; rfl
  have f1 : w2.frozen? ⟨b, 1, none⟩ = false := Lib.frozen_of_heap hb2 1
  obtain ⟨ao, n', cap, rfl⟩ : ∃ ao n' cap, v' = .slice ao n' cap := by
    rcases hown'.2 with ⟨hv, _⟩ | ⟨g, cap, cur, fz, hv, _⟩
    · exact ⟨_, _, _, hv⟩
    · exact ⟨_, _, _, hv⟩
  go_wp2
  go_ret2
  refine ⟨rfl, ?_, ?_, (hk1.grown hgrow (Lib.ownsRowF_kind hown)).setCell ⟨b, 1, none⟩ rfl _⟩
  · exact Lib.BuilderAtF.put (T := 72) (e := 5) hB hb2 (bs' := bs ++ Lib.strCells s) (by simpa [Lib.strCells_length] using hown') (by decide)
  · exact (hb1.grown hgrow (by have := hb1.size; omega) (fun k hk => (hown.lt k hk).1)).setCell (p := ⟨b, 1, none⟩) hB _
end Go.Proofs.YtbhicpjhijondaaDoor
/- T12 -/
/- A type's words: plain; the builder's state; small contracts. -/
namespace Go.Typ
/-- words with others between. -/
def joinW (sep : List UInt8) : List (List UInt8) → List UInt8
  | [] => []
  | w :: ws => w ++ ws.flatMap fun x => sep ++ x
theorem joinW_snoc (sep w : List UInt8) : ∀ ws : List (List UInt8), joinW sep (ws ++ [w]) = joinW sep ws ++ ((if ws.length = 0 then [] else sep) ++ w)
  | [] => by simp [joinW]
  | x :: ws => by simp [joinW, List.append_assoc]
theorem joinW_take (sep : List UInt8) (ws : List (List UInt8)) {k : Nat} (h : k < ws.length) : joinW sep (ws.take (k + 1)) = joinW sep (ws.take k) ++ ((if k = 0 then [] else sep) ++ ws[k]) := by
  rw [List.take_succ_eq_append_getElem h, joinW_snoc, List.length_take, Nat.min_eq_left (by omega)]
def wrapB (yes : Bool) (w : List UInt8) : List UInt8 := if yes then [40] ++ w ++ [41] else w
def pairB (a : Ty) : Bool := decide (a.kind = 3) || decide (a.kind = 4)
/-- a variable's word. -/
def varW (n : Int) : List UInt8 := [39, UInt8.ofNat (97 + n.toNat % 26)] ++ (if 26 ≤ n then Lib.itoa (n / 26) else [])
def insW (ts : List Ty) (ws : List (List UInt8)) : List (List UInt8) := List.zipWith (fun a w => wrapB (pairB a) w) ts ws
mutual
/-- a type's words. -/
def sayT : Ty → List UInt8
  | .mk k n s ts =>
    if k = 1 then varW n
    else if k = 2 then (if ts.length = 1 then joinW [] (insW ts (sayL ts)) else if ts.length = 0 then [] else [40] ++ joinW [44, 32] (sayL ts) ++ [41]) ++ (if ts.length = 0 then [] else [32]) ++ s.data.toList
    else if k = 3 then joinW [32, 42, 32] (insW ts (sayL ts))
    else if k = 4 then wrapB (decide ((ts.getD 0 (.mk 0 0 .empty [])).kind = 4)) ((sayL ts).getD 0 []) ++ [32, 45, 62, 32] ++ (sayL ts).getD 1 []
    else []
def sayL : List Ty → List (List UInt8)
  | [] => []
  | t :: ts => sayT t :: sayL ts
end
theorem sayL_map : ∀ ts : List Ty, sayL ts = ts.map sayT
  | [] => rfl
  | t :: ts => by rw [sayL, sayL_map ts]; rfl
def insT (a : Ty) : List UInt8 := wrapB (pairB a) (sayT a)
theorem insW_map (ts : List Ty) : insW ts (sayL ts) = ts.map insT := by
  rw [sayL_map]
  induction ts with
  | nil => rfl
  | cons t ts ih =>
    simp only [insW, List.map_cons, List.zipWith_cons_cons] at ih ⊢
    rw [ih]; rfl
/-- every part is one of a right type. -/
def FitAll (T : Ty) : Prop := ∀ x ∈ T.list, fitsT x = true
theorem mem_listL {x a : Ty} : ∀ {ts : List Ty}, a ∈ ts → x ∈ a.list → x ∈ listL ts
  | t :: ts, ha, hx => by
    rw [listL]
    rcases List.mem_cons.1 ha with rfl | ha
    · exact List.mem_append_left _ hx
    · exact List.mem_append_right _ (mem_listL ha hx)
theorem FitAll.arg {T : Ty} (h : FitAll T) {i : Nat} (hi : i < T.args.length) : FitAll T.args[i] := fun x hx => h x (by
  rw [T.list_eq]
  exact List.mem_cons_of_mem _ (mem_listL (List.getElem_mem hi) hx))
theorem FitAll.self {T : Ty} (h : FitAll T) : fitsT T = true := h T (by rw [T.list_eq]; exact List.mem_cons_self)
theorem rightT_iff {T : Ty} : rightT T = true ↔ T.parts ≤ 300 ∧ FitAll T := by
  unfold rightT FitAll
  rw [Bool.and_eq_true, decide_eq_true_iff, List.all_eq_true]
end Go.Typ
namespace Go.Proofs.YtbhicpjhijondaaDoor
open Go.RowKit Go.Lib Go.Vfs Go.Par Go.Typ Go.Shelf
set_option linter.unusedVariables false
set_option linter.unusedSimpArgs false

/-- the table of powers of ten. -/
noncomputable def gpow : Nat := (Tryd.prog.globalNamed "internal/strconv.uint64pow10").getD 0
def Tb (w : World) : Prop := Lib.TabIs Tryd.prog w "internal/strconv.uint64pow10" .u64 Lib.pow10Tab
theorem Tb.size {w : World} (h : Tb w) : gpow < w.heap.size := by
  have hg : Tryd.prog.globalNamed "internal/strconv.uint64pow10" = some gpow := by kernel_rfl
  unfold Tb Lib.TabIs World.var? at h
  rw [hg, Option.bind_some] at h
  cases hw : w.heap[gpow]? with
  | none => rw [hw] at h; cases h
  | some o => exact lt_blk hw
theorem Tb.keep {w w' : World} (h : Tb w) (hk : w'.heap[gpow]? = w.heap[gpow]?) : Tb w' := by
  have hg : Tryd.prog.globalNamed "internal/strconv.uint64pow10" = some gpow := by kernel_rfl
  unfold Tb Lib.TabIs World.var? at h ⊢
  rw [hg, Option.bind_some] at h ⊢
  rw [hk]; exact h
theorem Tb.below {w w' : World} (h : Tb w) (hb : Below w.heap.size w w') : Tb w' := h.keep (hb.block _ h.size)

/-- the builder in block b holds l; what lies below B, and all that is no row of bytes, lies as in w. -/
structure SB (B b : Nat) (w : World) (l : List UInt8) (W : World) : Prop where
  bld : Lib.IsBuilderF 72 5 B b (byteCells l) W
  below : Below B w W
  kept : Lib.OthersKept 5 (some b) w W
  le : B ≤ W.heap.size
  grow : w.heap.size ≤ W.heap.size
section
variable {B b : Nat} {w W W' : World} {l l' : List UInt8}
theorem SB.t (h : SB B b w l W) (k : SB B b W l' W') : SB B b w l' W' :=
  ⟨k.bld, h.below.trans k.below, fun i o hi hb ho => k.kept i o (h.kept i o hi hb ho) hb ho, k.le, Nat.le_trans h.grow k.grow⟩
theorem SB.refl (h : Lib.IsBuilderF 72 5 B b (byteCells l) W) (hB : B ≤ W.heap.size) : SB B b W l W := ⟨h, Below.refl _ _, Lib.OthersKept.refl _ _ _, hB, Nat.le_refl _⟩
theorem SB.at (h : SB B b w l W) {k : Nat} {cs : Array Value} {t : TypeId} {fz : Nat × Nat} (hk : w.heap[k]? = some (.cells cs t fz)) (ht : t ≠ 5) (hb : k ≠ b) : W.heap[k]? = some (.cells cs t fz) :=
  h.kept k _ hk (fun e => hb (by injection e)) (fun c fz' e => ht (by injection e))
theorem SB.blt (h : SB B b w l W) : b < W.heap.size := by
  rcases h.bld with h | h
  · exact h.lt
  · exact h.lt
theorem SB.shape (h : SB B b w l W) : ∃ cs, W.heap[b]? = some (.cells cs 72 (0, 0)) := by
  rcases h.bld with h | h
  · obtain ⟨_, v, e, _⟩ := h; exact ⟨_, e⟩
  · obtain ⟨_, v, e, _⟩ := h; exact ⟨_, e⟩
theorem bld_new (h : Lib.IsBuilderF 72 5 B b (byteCells l) W) (hb : Below W.heap.size W W') : Lib.IsBuilderF 72 5 B b (byteCells l) W' := by
  have key : ∀ p, Lib.BuilderAtF 72 5 B b p (byteCells l) W → Lib.BuilderAtF 72 5 B b p (byteCells l) W' := fun p h => by
    have hlt := h.lt
    obtain ⟨hB, v, e, hown, hne⟩ := h
    exact ⟨hB, v, (hb.block b hlt).trans e, hown.kept (row := none) ⟨hb.os, hb.tape, hb.output, hb.size, fun k hk _ => hb.block k hk⟩ (by cases v.ownBlock <;> simp), hne⟩
  exact h.elim (fun x => .inl (key _ x)) (fun x => .inr (key _ x))
theorem SB.new (h : SB B b w l W) (hb : Below W.heap.size W W') : SB B b w l W' :=
  h.t ⟨bld_new h.bld hb, hb.mono h.le, fun k o hk _ _ => (hb.block k (lt_blk hk)).trans hk, Nat.le_trans h.le hb.size, hb.size⟩
end

theorem writeByte_s (B b : Nat) (l : List UInt8) (c : UInt8) (x : Int) (hx : x = (c.toNat : Int)) (W : World) (h : Lib.IsBuilderF 72 5 B b (byteCells l) W) (hB : B ≤ W.heap.size) (hl : l.length + 1 ≤ 140737488355328) :
    Calls Tryd.prog 82 #[.pointer (some ⟨b, 0, none⟩), .int .u8 x] W fun e W' => e = .returned .nilIface ∧ SB B b W (l ++ [c]) W' := by
  subst hx
  refine (writeByte_any B b _ c.toNat W h (by rw [byteCells_length]; omega) hB).mono ?_
  rintro e W' ⟨rfl, h1, h2, h3⟩
  have hz : W.heap.size ≤ W'.heap.size := by have := h2.size; exact this
  exact ⟨rfl, .inr (by rw [show byteCells (l ++ [c]) = byteCells l ++ [.int .u8 c.toNat] from by simp [byteCells]]; exact h1), h2, h3, by omega, hz⟩
theorem writeString_s (B b : Nat) (l : List UInt8) (s : ByteArray) (W : World) (h : Lib.IsBuilderF 72 5 B b (byteCells l) W) (hB : B ≤ W.heap.size) (hl : l.length + s.size ≤ 140737488355328) :
    Calls Tryd.prog 83 #[.pointer (some ⟨b, 0, none⟩), .string s] W fun e W' => (∃ v, e = .returned v) ∧ SB B b W (l ++ s.data.toList) W' := by
  refine (writeString_any B b _ s W h (by rw [byteCells_length]; omega) hB).mono ?_
  rintro e W' ⟨rfl, h1, h2, h3⟩
  have hz : W.heap.size ≤ W'.heap.size := h2.size
  exact ⟨⟨_, rfl⟩, .inr (by rw [show byteCells (l ++ s.data.toList) = byteCells l ++ Lib.strCells s from by simp [byteCells, Lib.strCells]]; exact h1), h2, h3, by omega, hz⟩
end Go.Proofs.YtbhicpjhijondaaDoor
/- T13 -/
/- Small writers of a type's words. -/
namespace Go.Proofs.YtbhicpjhijondaaDoor
open Go.RowKit Go.Lib Go.Vfs Go.Par Go.Typ Go.Shelf
set_option linter.unusedVariables false
set_option linter.unusedSimpArgs false

theorem itoa_s (n : Int) (h0 : 0 ≤ n) (h1 : n ≤ 9223372036854775807) (W : World) (hT : Tb W) : Calls Tryd.prog 84 #[.int .i64 n] W fun e w1 => e = .returned (.string ⟨(Lib.itoa n).toArray⟩) ∧ Below W.heap.size W w1 := by
  refine (Tryd.strconv_Itoa n (by omega) h1 W hT).mono ?_
  rintro e w1 ⟨rfl, k, os, rfl⟩
  refine ⟨rfl, rfl, rfl, rfl, by simp [Go.Sort.grow], fun j hj => ?_⟩
  show (W.heap ++ os)[j]? = _
  rw [Array.getElem?_append_left hj]

set_option maxHeartbeats 400000 in
theorem between_s (B b n : Nat) (s : ByteArray) (l : List UInt8) (W : World) (h : Lib.IsBuilderF 72 5 B b (byteCells l) W) (hB : B ≤ W.heap.size) (hl : l.length + s.size ≤ 140737488355328) :
    Calls Tryd.prog 86 #[.pointer (some ⟨b, 0, none⟩), .int .i64 n, .string s] W fun e W' => e = .returned (.tuple #[]) ∧ SB B b W (l ++ (if n = 0 then [] else s.data.toList)) W' := by
  have HS := Lib.hid (writeString_s B b l s W h hB hl)
  have HR := Lib.hid (SB.refl h hB)
  clear h
  by_cases hn : n = 0
  · subst hn
    go_enter Tryd.func86, Tryd.ntmps86
    go_wp2
    go_end0
    exact ⟨rfl, by simpa using HR.out⟩
  · have hn2 : (0 : Int) < (n : Int) := by omega
    rw [if_neg hn]
    clear hn
    go_enter Tryd.func86, Tryd.ntmps86
    go_wp2_with (go_at_call 83; refine HS.out.mono ?_; rintro e w2 ⟨⟨v, rfl⟩, H2⟩)
    go_end0
    exact ⟨rfl, H2⟩

/-- the contract of say. -/
def SayC (T : Ty) : Prop := ∀ (B b : Nat) (v : Value) (l : List UInt8) (W : World), TyAt (· < B) W v T → Lib.IsBuilderF 72 5 B b (byteCells l) W → B ≤ W.heap.size → Tb W → gpow < B → l.length + (sayT T).length ≤ 140737488355000 →
    Calls Tryd.prog 56 #[.pointer (some ⟨b, 0, none⟩), v] W fun e W' => e = .returned (.tuple #[]) ∧ SB B b W (l ++ sayT T) W'
theorem SB.tb {B b : Nat} {w W : World} {l : List UInt8} (h : SB B b w l W) (hT : Tb w) (hg : gpow < B) : Tb W := hT.keep (h.below.block _ hg)
theorem SB.ty {B b : Nat} {w W : World} {l : List UInt8} (h : SB B b w l W) {v : Value} {T : Ty} (hT : TyAt (· < B) w v T) : TyAt (· < B) W v T := hT.keep fun g hg => ⟨hg, h.below.block g hg⟩

set_option maxHeartbeats 1000000 in
theorem sayIn_s {T : Ty} (HS : SayC T) (B b : Nat) (v : Value) (yes : Bool) (l : List UInt8) (W : World) (hT : TyAt (· < B) W v T) (h : Lib.IsBuilderF 72 5 B b (byteCells l) W) (hB : B ≤ W.heap.size) (htb : Tb W) (hg : gpow < B) (hl : l.length + (wrapB yes (sayT T)).length ≤ 140737488355000) :
    Calls Tryd.prog 85 #[.pointer (some ⟨b, 0, none⟩), v, .bool yes] W fun e W' => e = .returned (.tuple #[]) ∧ SB B b W (l ++ wrapB yes (sayT T)) W' := by
  obtain ⟨A, c, rfl, hc, hm, hn⟩ := hT.form
  obtain ⟨W1, hW1⟩ : ∃ W1, W1 = W.alloc (.cells #[.int .i64 T.kind, .int .i64 T.num, .string T.name, .slice A T.args.length c] 24) := ⟨_, rfl⟩
  have hb1 : Below W.heap.size W W1 := by rw [hW1]; exact (Below.refl _ _).alloc (Nat.le_refl _) _
  have hs1 : SB B b W l W1 := (SB.refl h hB).new hb1
  have HBX : Hid (W1.heap[W.heap.size]? = some (.cells #[.int .i64 T.kind, .int .i64 T.num, .string T.name, .slice A T.args.length c] 24 (0, 0))) := Lib.hid (by rw [hW1]; exact heap_alloc_new _ _)
  have hbn : W.heap.size ≠ b := by have := (SB.refl h hB).blt; omega
  have HSC := Lib.hid HS
  have HT := Lib.hid hT; have HS1 := Lib.hid hs1; have HTB := Lib.hid htb
  clear hT hs1 htb h hc hm hn HS
  unfold tyV
  cases yes
  · have hl' : l.length + (sayT T).length ≤ 140737488355000 := hl
    obtain ⟨y0, y1, y2, y3⟩ := box4 HBX.out
    have HC := Lib.hid (HSC.out B b _ l W1 (HS1.out.ty HT.out) HS1.out.bld HS1.out.le (HS1.out.tb HTB.out hg) hg (by omega))
    unfold tyV at HC
    rw [hW1] at HC y0 y1 y2 y3
    go_enter Tryd.func85, Tryd.ntmps85
    go_wp2_with (go_at_call 56; refine HC.out.mono ?_; rintro e w2 ⟨rfl, H2⟩)
    go_end0
    rw [← hW1] at H2
    exact ⟨rfl, HS1.out.t H2⟩
  · have hl' : l.length + (sayT T).length + 2 ≤ 140737488355000 := by (simp [wrapB] at hl; omega)
    have HW := Lib.hid (writeByte_s B b l 40 40 rfl W1 HS1.out.bld HS1.out.le (by omega))
    rw [hW1] at HW
    go_enter Tryd.func85, Tryd.ntmps85
    go_wp2_with fail
    refine HW.out.mono ?_
    rintro e w2 ⟨rfl, H2⟩
    rw [← hW1] at H2
    have HS2 := Lib.hid (HS1.out.t H2)
    have hbx2 := H2.at HBX.out (by decide) hbn
    obtain ⟨y0, y1, y2, y3⟩ := box4 hbx2
    have HC := Lib.hid (HSC.out B b _ _ w2 (HS2.out.ty HT.out) HS2.out.bld HS2.out.le (HS2.out.tb HTB.out hg) hg (by rw [List.length_append, List.length_singleton]; omega))
    unfold tyV at HC
    clear H2 hbx2
    go_wp2_with fail
    refine HC.out.mono ?_
    rintro e w3 ⟨rfl, H3⟩
    have HS3 := Lib.hid (HS2.out.t H3)
    have HW3 := Lib.hid (writeByte_s B b _ 41 41 rfl w3 HS3.out.bld HS3.out.le (by simp only [List.length_append, List.length_singleton]; omega))
    clear H3
    go_wp2_with fail
    refine HW3.out.mono ?_
    rintro e w4 ⟨rfl, H4⟩
    go_wp2
    go_end0
    refine ⟨rfl, ?_⟩
    have h := HS3.out.t H4
    rw [show l ++ wrapB true (sayT T) = l ++ [40] ++ sayT T ++ [41] from by simp [wrapB]]
    exact h
end Go.Proofs.YtbhicpjhijondaaDoor
/- T14 -/
/- say. -/
namespace Go.Typ
theorem fits_kinds {T : Ty} (h : fitsT T = true) : (T.kind = 1 ∧ 0 ≤ T.num ∧ T.num < 1073741824 ∧ T.name.toList = [] ∧ T.args.length = 0) ∨ (T.kind = 2 ∧ T.num = 0 ∧ nameOk T.name.data.toList = true) ∨
    (T.kind = 3 ∧ T.num = 0 ∧ T.name.toList = [] ∧ 2 ≤ T.args.length) ∨ (T.kind = 4 ∧ T.num = 0 ∧ T.name.toList = [] ∧ T.args.length = 2) := by
  unfold fitsT at h
  simp only [Bool.or_eq_true, Bool.and_eq_true, decide_eq_true_iff] at h
  rcases h with ((⟨h1, ⟨⟨⟨h2, h3⟩, h4⟩, h5⟩⟩ | ⟨h1, h2, h3⟩) | ⟨h1, ⟨h2, h3⟩, h4⟩) | ⟨h1, ⟨h2, h3⟩, h4⟩
  · exact .inl ⟨h1, h2, h3, h4, h5⟩
  · exact .inr (.inl ⟨h1, h2, h3⟩)
  · exact .inr (.inr (.inl ⟨h1, h2, h3, h4⟩))
  · exact .inr (.inr (.inr ⟨h1, h2, h3, h4⟩))
theorem sayT_var {T : Ty} (h : T.kind = 1) : sayT T = varW T.num := by
  cases T; simp only [Ty.kind] at h; subst h; simp [sayT, Ty.num]
theorem sayT_pair {T : Ty} (h : T.kind = 3) : sayT T = joinW [32, 42, 32] (T.args.map insT) := by
  cases T; simp only [Ty.kind] at h; subst h; simp [sayT, Ty.args, insW_map]
theorem sayT_con {T : Ty} (h : T.kind = 2) : sayT T = (if T.args.length = 1 then joinW [] (T.args.map insT) else if T.args.length = 0 then [] else [40] ++ joinW [44, 32] (T.args.map sayT) ++ [41]) ++ (if T.args.length = 0 then [] else [32]) ++ T.name.data.toList := by
  cases T; simp only [Ty.kind] at h; subst h; rw [sayT, if_neg (by decide), if_pos rfl, insW_map, sayL_map]; rfl
theorem sayT_arrow {T : Ty} (h : T.kind = 4) (h2 : T.args.length = 2) : sayT T = wrapB (decide ((T.args[0]'(by omega)).kind = 4)) (sayT (T.args[0]'(by omega))) ++ ([32, 45, 62, 32] : List UInt8) ++ sayT (T.args[1]'(by omega)) := by
  cases T with
  | mk k n s ts =>
    simp only [Ty.kind] at h; subst h
    simp only [Ty.args] at h2 ⊢
    match ts, h2 with
    | [x, y], _ => rw [sayT, if_neg (by decide), if_neg (by decide), if_neg (by decide), if_pos rfl, sayL, sayL, sayL]; rfl
theorem joinW_len_mem {sep : List UInt8} : ∀ {ws : List (List UInt8)} {k : Nat}, k < ws.length → (joinW sep (ws.take k)).length + (if k = 0 then [] else sep).length + (ws.getD k []).length ≤ (joinW sep ws).length := by
  intro ws k hk
  have h := joinW_take sep ws hk
  have hle : (joinW sep (ws.take (k + 1))).length ≤ (joinW sep ws).length := by
    cases ws with
    | nil => simp at hk
    | cons x xs =>
      rw [List.take_succ_cons, joinW, joinW, List.length_append, List.length_append]
      have : (xs.take k).flatMap (fun y => sep ++ y) <+: xs.flatMap (fun y => sep ++ y) := by
        refine ⟨(xs.drop k).flatMap (fun y => sep ++ y), ?_⟩
        rw [← List.flatMap_append, List.take_append_drop]
      have := this.length_le
      omega
  rw [h, List.length_append, List.length_append] at hle
  rw [List.getD_eq_getElem?_getD, List.getElem?_eq_getElem hk]
  simp only [Option.getD_some]
  omega
end Go.Typ
namespace Go.Proofs.YtbhicpjhijondaaDoor
open Go.RowKit Go.Lib Go.Vfs Go.Par Go.Typ Go.Shelf
set_option linter.unusedVariables false
set_option linter.unusedSimpArgs false

set_option maxRecDepth 20000 in
set_option maxHeartbeats 2000000 in
theorem say_var (T : Ty) (h1 : T.kind = 1) (hn0 : 0 ≤ T.num) (hn1 : T.num < 1073741824) : SayC T := by
  intro B b v l W hT h hB htb hg hl
  rw [sayT_var h1] at hl ⊢
  obtain ⟨A, c, rfl, hc, hm, hn⟩ := hT.form
  obtain ⟨W1, hW1⟩ : ∃ W1, W1 = W.alloc (.cells #[.int .i64 T.kind, .int .i64 T.num, .string T.name, .slice A T.args.length c] 24) := ⟨_, rfl⟩
  have hb1 : Below W.heap.size W W1 := by rw [hW1]; exact (Below.refl _ _).alloc (Nat.le_refl _) _
  have hs1 : SB B b W l W1 := (SB.refl h hB).new hb1
  have HBX : Hid (W1.heap[W.heap.size]? = some (.cells #[.int .i64 T.kind, .int .i64 T.num, .string T.name, .slice A T.args.length c] 24 (0, 0))) := Lib.hid (by rw [hW1]; exact heap_alloc_new _ _)
  have hbn : W.heap.size ≠ b := by have := (SB.refl h hB).blt; omega
  have HS1 := Lib.hid hs1; have HTB := Lib.hid htb
  clear hT hs1 htb h hc hm hn
  have hlv : (varW T.num).length ≤ 140737488355000 := by omega
  have hlen : l.length + 2 ≤ 140737488355000 := by have : 2 ≤ (varW T.num).length := (by unfold varW; simp); omega
  obtain ⟨c8, hc8⟩ : ∃ c8 : UInt8, c8 = UInt8.ofNat (97 + T.num.toNat % 26) := ⟨_, rfl⟩
  have hx8 : (97 + T.num % 26 : Int) = (c8.toNat : Int) := by
    rw [hc8]
    simp
    omega
  have HW := Lib.hid (writeByte_s B b l 39 39 rfl W1 HS1.out.bld HS1.out.le (by omega))
  have HL := Lib.hid hl
  have HV : Hid (varW T.num = [39, c8] ++ (if 26 ≤ T.num then Lib.itoa (T.num / 26) else [])) := Lib.hid (by rw [hc8]; rfl)
  clear hl hc8
  unfold tyV
  rw [h1] at hW1 HBX ⊢
  rw [hW1] at HW
  go_enter Tryd.func56, Tryd.ntmps56
  go_wp2_with fail
  refine HW.out.mono ?_
  rintro e w2 ⟨rfl, H2⟩
  rw [← hW1] at H2
  have HS2 := Lib.hid (HS1.out.t H2)
  have HBX2 := Lib.hid (H2.at HBX.out (by decide) hbn)
  obtain ⟨y0, y1, y2, y3⟩ := box4 HBX2.out
  clear H2
  go_wp2_with fail
  have hl2 : (l ++ [39]).length = l.length + 1 := by simp
  have HW2 := Lib.hid (writeByte_s B b (l ++ [39]) c8 _ rfl w2 HS2.out.bld HS2.out.le (by omega))
  refine HW2.out.mono ?_
  rintro e w3 ⟨rfl, H3⟩
  have HS3 := Lib.hid (HS2.out.t H3)
  have HBX3 := Lib.hid (H3.at HBX2.out (by decide) hbn)
  clear y0 y1 y2 y3 H3
  obtain ⟨y0, y1, y2, y3⟩ := box4 HBX3.out
  have hl3 : (l ++ [39] ++ [c8]).length = l.length + 2 := by simp
  by_cases h26 : 26 ≤ T.num
  · have hv := HV.out
    rw [if_pos h26] at hv
    have hvl : (varW T.num).length = 2 + (Lib.itoa (T.num / 26)).length := by rw [hv]; simp; omega
    have HI := Lib.hid (itoa_s (T.num / 26) (by omega) (by omega) w3 (HS3.out.tb HTB.out hg))
    have HVV := Lib.hid hv
    obtain ⟨it, hit⟩ : ∃ it, it = Lib.itoa (T.num / 26) := ⟨_, rfl⟩
    rw [← hit] at HI hvl HVV
    clear hv hit
    have HLL := HL.out
    go_wp2_with (go_at_call 84; refine HI.out.mono ?_; rintro e w4 ⟨rfl, HB4⟩; have HS4 := Lib.hid (HS3.out.new HB4))
    have HW5 := Lib.hid (writeString_s B b (l ++ [39] ++ [c8]) ⟨it.toArray⟩ w4 HS4.out.bld HS4.out.le (by show _ + it.toArray.size ≤ _; simp only [List.size_toArray]; omega))
    refine HW5.out.mono ?_
    rintro e w5 ⟨⟨v5, rfl⟩, H5⟩
    have HS5 := Lib.hid (HS4.out.t H5)
    clear H5
    go_wp2
    go_end0
    refine ⟨rfl, ?_⟩
    rw [HVV.out, show l ++ ([39, c8] ++ it) = l ++ [39] ++ [c8] ++ (⟨it.toArray⟩ : ByteArray).data.toList from by simp]
    exact HS5.out
  · have hv := HV.out
    rw [if_neg h26] at hv
    have HVV := Lib.hid hv
    clear hv
    go_wp2
    go_end0
    refine ⟨rfl, ?_⟩
    rw [HVV.out, show l ++ ([39, c8] ++ []) = l ++ [39] ++ [c8] from by simp]
    exact HS3.out
end Go.Proofs.YtbhicpjhijondaaDoor
/- T15 -/
/- say: pairs. -/
namespace Go.Proofs.YtbhicpjhijondaaDoor
open Go.RowKit Go.Lib Go.Vfs Go.Par Go.Typ Go.Shelf
set_option linter.unusedVariables false
set_option linter.unusedSimpArgs false

set_option maxRecDepth 20000 in
set_option maxHeartbeats 2000000 in
theorem say_pair (T : Ty) (ih : ∀ i (hi : i < T.args.length), SayC T.args[i]) (h1 : T.kind = 3) : SayC T := by
  intro B b v l W hT h hB htb hg hl
  rw [sayT_pair h1] at hl ⊢
  obtain ⟨A, c, rfl, hc, hm, hn⟩ := hT.form
  have hla : T.args.length ≤ 9223372036854775807 := by simp only [maxLen] at hm; omega
  obtain ⟨W1, hW1⟩ : ∃ W1, W1 = W.alloc (.cells #[.int .i64 T.kind, .int .i64 T.num, .string T.name, .slice A T.args.length c] 24) := ⟨_, rfl⟩
  have hb1 : Below W.heap.size W W1 := by rw [hW1]; exact (Below.refl _ _).alloc (Nat.le_refl _) _
  have hs1 : SB B b W l W1 := (SB.refl h hB).new hb1
  have HS1 := Lib.hid hs1; have HTB := Lib.hid htb; have HT := Lib.hid hT; have IH := Lib.hid ih; have HL := Lib.hid hl
  clear hT hs1 htb h hc hm hn ih hl hb1
  unfold tyV
  rw [h1] at hW1 ⊢
  go_enter Tryd.func56, Tryd.ntmps56
  go_wp2
  rw [← hW1]
  go_loopw [93] (fun iv wr => ∃ (k : Nat), k ≤ T.args.length ∧ iv = .int .i64 k ∧ Hid (SB B b W (l ++ joinW [32, 42, 32] ((T.args.map insT).take k)) wr)) (fun iv _ => T.args.length - (RowKit.intOf iv).toNat)
  case atStart => exact ⟨0, by omega, rfl, Lib.hid (by simpa [joinW] using HS1.out)⟩
  case round =>
    obtain ⟨k, hk, rfl, HR⟩ := hrel
    by_cases hlt : k < T.args.length
    · obtain ⟨bb, off, A', c', rfl, hbb, ht, x0, x1, x2, x3⟩ := (HR.out.ty HT.out).arg hlt
      have HSC := Lib.hid (IH.out k hlt)
      have hlm : k < (T.args.map insT).length := by rw [List.length_map]; exact hlt
      have htk := joinW_take [32, 42, 32] (T.args.map insT) hlm
      rw [List.getElem_map] at htk
      have hln := joinW_len_mem (sep := [32, 42, 32]) hlm
      rw [List.getD_eq_getElem?_getD, List.getElem?_eq_getElem hlm, List.getElem_map, Option.getD_some] at hln
      have HT0 := Lib.hid ht
      have HTK := Lib.hid htk; have HLN := Lib.hid hln
      clear ht htk hln
      generalize T.args[k] = U at *
      obtain ⟨l1, hl1⟩ : ∃ l1, l1 = l ++ joinW [32, 42, 32] ((T.args.map insT).take k) := ⟨_, rfl⟩
      obtain ⟨W2, hW2⟩ : ∃ W2, W2 = wr.alloc (.cells #[.int .i64 U.kind, .int .i64 U.num, .string U.name, .slice A' U.args.length c'] 24) := ⟨_, rfl⟩
      have hb2 : Below wr.heap.size wr W2 := by rw [hW2]; exact (Below.refl _ _).alloc (Nat.le_refl _) _
      have HR2 := Lib.hid (HR.out.new hb2)
      rw [← hl1] at HR2
      have hbn : wr.heap.size ≠ b := by have := HR.out.blt; omega
      have HBX : Hid (W2.heap[wr.heap.size]? = some (.cells #[.int .i64 U.kind, .int .i64 U.num, .string U.name, .slice A' U.args.length c'] 24 (0, 0))) := Lib.hid (by rw [hW2]; exact heap_alloc_new _ _)
      have hls : l1.length + (if k = 0 then ([] : List UInt8) else [32, 42, 32]).length + (insT U).length ≤ 140737488355000 := by
        have h1 := HLN.out; have h2 := HL.out; rw [hl1, List.length_append]; omega
      have HBT := Lib.hid (between_s B b k ⟨#[32, 42, 32]⟩ l1 W2 HR2.out.bld HR2.out.le (by show l1.length + 3 ≤ _; omega))
      have HLS := Lib.hid hls; have HB2 := Lib.hid (hb2.mono HR.out.le)
      rw [hW2] at HBT
      clear hls hb2
      obtain ⟨pb, hpb⟩ : ∃ pb, pb = pairB U := ⟨_, rfl⟩
      have g5 : (U.kind == 3) = decide (U.kind = 3) := by by_cases h : U.kind = 3 <;> simp [h]
      have g6 : (U.kind == 4) = decide (U.kind = 4) := by by_cases h : U.kind = 4 <;> simp [h]
      obtain ⟨p3, hp3⟩ : ∃ p, p = decide (U.kind = 3) := ⟨_, rfl⟩
      obtain ⟨p4, hp4⟩ : ∃ p, p = decide (U.kind = 4) := ⟨_, rfl⟩
      rw [← hp3] at g5; rw [← hp4] at g6
      have HPB : Hid (pairB U = (p3 || p4)) := Lib.hid (by rw [hp3, hp4]; rfl)
      clear hp3 hp4 hpb
      go_wp2_with fail
      refine HBT.out.mono ?_
      rintro e w3 ⟨rfl, H3⟩
      rw [← hW2] at H3
      have HBX3 := Lib.hid (H3.at HBX.out (by decide) hbn)
      obtain ⟨y0, y1, y2, y3⟩ := box4 HBX3.out
      have HR3 := Lib.hid (HR2.out.t H3)
      have HBW := Lib.hid (HB2.out.trans H3.below)
      clear H3
      have HSI : Hid (∀ yes, yes = pairB U → Calls Tryd.prog 85 #[.pointer (some ⟨b, 0, none⟩), .agg #[.int .i64 U.kind, .int .i64 U.num, .string U.name, .slice A' U.args.length c'], .bool yes] w3 fun e W' => e = .returned (.tuple #[]) ∧ Hid (SB B b W (l ++ joinW [32, 42, 32] ((T.args.map insT).take (k + 1))) W')) := Lib.hid fun yes hy => by
        have h1 := HLS.out
        refine (sayIn_s HSC.out B b _ yes _ w3 (HT0.out.keep fun g hg2 => ⟨hg2, HBW.out.block g hg2⟩) HR3.out.bld HR3.out.le (HR3.out.tb HTB.out hg) hg ?_).mono ?_
        · rw [List.length_append]
          unfold insT at h1
          rw [← hy] at h1
          have e3 : (if k = 0 then ([] : List UInt8) else (⟨#[32, 42, 32]⟩ : ByteArray).data.toList) = (if k = 0 then [] else [32, 42, 32]) := rfl
          rw [e3]; omega
        · rintro e W' ⟨rfl, h⟩
          refine ⟨rfl, Lib.hid ?_⟩
          have h5 := HR3.out.t h
          rw [HTK.out, ← List.append_assoc, ← hl1, ← List.append_assoc]
          unfold insT
          rw [hy] at h5
          exact h5
      have HC0 := HPB.out
      clear hlm
      have hcs : (p3 = true) ∨ (p3 = false ∧ p4 = true) ∨ (p3 = false ∧ p4 = false) := by cases p3 <;> cases p4 <;> simp
      rcases hcs with rfl | ⟨rfl, rfl⟩ | ⟨rfl, rfl⟩
      · have HC := Lib.hid (HSI.out true (by rw [HC0]; rfl))
        clear HC0
        go_wp2_with fail
        refine HC.out.mono ?_
        rintro e w4 ⟨rfl, H4⟩
        go_wp2
        go_roundw
        case rel => exact ⟨k + 1, by omega, by go_num, H4⟩
        case measure => simp [RowKit.intOf]; omega
      · have HC := Lib.hid (HSI.out true (by rw [HC0]; rfl))
        clear HC0
        go_wp2_with fail
        refine HC.out.mono ?_
        rintro e w4 ⟨rfl, H4⟩
        go_wp2
        go_roundw
        case rel => exact ⟨k + 1, by omega, by go_num, H4⟩
        case measure => simp [RowKit.intOf]; omega
      · have HC := Lib.hid (HSI.out false (by rw [HC0]; rfl))
        clear HC0
        go_wp2_with fail
        refine HC.out.mono ?_
        rintro e w4 ⟨rfl, H4⟩
        go_wp2
        go_roundw
        case rel => exact ⟨k + 1, by omega, by go_num, H4⟩
        case measure => simp [RowKit.intOf]; omega
    · have hkl : k = T.args.length := by omega
      have HE : Hid (SB B b W (l ++ joinW [32, 42, 32] (T.args.map insT)) wr) := Lib.hid (by
        have h := HR.out
        rw [hkl, ← List.length_map (f := insT), List.take_length] at h
        exact h)
      go_wp2
      go_end0
      exact ⟨rfl, HE.out⟩
end Go.Proofs.YtbhicpjhijondaaDoor
/- T16 -/
/- say: arrows. -/
namespace Go.Proofs.YtbhicpjhijondaaDoor
open Go.RowKit Go.Lib Go.Vfs Go.Par Go.Typ Go.Shelf
set_option linter.unusedVariables false
set_option linter.unusedSimpArgs false

set_option maxRecDepth 20000 in
set_option maxHeartbeats 2000000 in
theorem say_arrow (T : Ty) (ih : ∀ i (hi : i < T.args.length), SayC T.args[i]) (h1 : T.kind = 4) (h2 : T.args.length = 2) : SayC T := by
  intro B b v l W hT h hB htb hg hl
  rw [sayT_arrow h1 h2] at hl ⊢
  have hi0 : 0 < T.args.length := by omega
  have hi1 : 1 < T.args.length := by omega
  have HI0 := Lib.hid (ih 0 hi0); have HI1 := Lib.hid (ih 1 hi1)
  obtain ⟨A, c, rfl, hc, hm, hn⟩ := hT.form
  obtain ⟨W1, hW1⟩ : ∃ W1, W1 = W.alloc (.cells #[.int .i64 T.kind, .int .i64 T.num, .string T.name, .slice A T.args.length c] 24) := ⟨_, rfl⟩
  have hb1 : Below W.heap.size W W1 := by rw [hW1]; exact (Below.refl _ _).alloc (Nat.le_refl _) _
  have hs1 : SB B b W l W1 := (SB.refl h hB).new hb1
  have HBX : Hid (W1.heap[W.heap.size]? = some (.cells #[.int .i64 T.kind, .int .i64 T.num, .string T.name, .slice A T.args.length c] 24 (0, 0))) := Lib.hid (by rw [hW1]; exact heap_alloc_new _ _)
  have hbn : W.heap.size ≠ b := by have := (SB.refl h hB).blt; omega
  obtain ⟨bb, off, A', c', rfl, hbb, ht, x0, x1, x2, x3⟩ := (hs1.ty hT).arg hi0
  obtain ⟨bb2, off2, A2, c2, e2, hbb2, ht2, z0, z1, z2, z3⟩ := (hs1.ty hT).arg hi1
  injection e2 with e2
  injection e2 with e2 e3
  subst e2 e3
  have HS1 := Lib.hid hs1; have HTB := Lib.hid htb; have HL := Lib.hid hl; have HT0 := Lib.hid ht; have HT1 := Lib.hid ht2
  clear hT hs1 htb h hc hm hn hl ih ht ht2
  generalize T.args[0] = X at *
  generalize T.args[1] = Y at *
  have HX0 : Hid (W1.cell? ⟨bb, off, none⟩ = some (.int .i64 X.kind) ∧ W1.cell? ⟨bb, off + 1, none⟩ = some (.int .i64 X.num) ∧ W1.cell? ⟨bb, off + 2, none⟩ = some (.string X.name) ∧ W1.cell? ⟨bb, off + 3, none⟩ = some (.slice A' X.args.length c')) := Lib.hid (by
    simp only [Nat.zero_mul, Nat.add_zero] at x0 x1 x2 x3
    exact ⟨x0, x1, x2, x3⟩)
  have HZ0 : Hid (W1.cell? ⟨bb, off + 4, none⟩ = some (.int .i64 Y.kind) ∧ W1.cell? ⟨bb, off + 5, none⟩ = some (.int .i64 Y.num) ∧ W1.cell? ⟨bb, off + 6, none⟩ = some (.string Y.name) ∧ W1.cell? ⟨bb, off + 7, none⟩ = some (.slice A2 Y.args.length c2)) := Lib.hid (by
    simp only [Nat.one_mul, Nat.add_assoc] at z0 z1 z2 z3
    exact ⟨z0, z1, z2, z3⟩)
  obtain ⟨p4, hp4⟩ : ∃ p, p = decide (X.kind = 4) := ⟨_, rfl⟩
  have g4 : (X.kind == 4) = p4 := by rw [hp4]; by_cases h : X.kind = 4 <;> simp [h]
  rw [← hp4]
  have HP4 := Lib.hid hp4
  obtain ⟨y0, y1, y2, y3⟩ := box4 HBX.out
  have HSK : Hid (∀ w2, Below W1.heap.size W1 w2 → w2.cell? ⟨W.heap.size, 3, none⟩ = some (.slice (some ⟨bb, off, none⟩) T.args.length c) ∧ w2.cell? ⟨bb, off, none⟩ = some (.int .i64 X.kind) ∧ w2.cell? ⟨bb, off + 1, none⟩ = some (.int .i64 X.num) ∧ w2.cell? ⟨bb, off + 2, none⟩ = some (.string X.name) ∧ w2.cell? ⟨bb, off + 3, none⟩ = some (.slice A' X.args.length c')) := Lib.hid fun w2 hw => by
    have hlt : bb < W1.heap.size := lt_cell HX0.out.1
    exact ⟨(hw.cell (p := ⟨_, _, none⟩) (lt_blk HBX.out)).trans y3, (hw.cell (p := ⟨_, _, none⟩) hlt).trans HX0.out.1, (hw.cell (p := ⟨_, _, none⟩) hlt).trans HX0.out.2.1, (hw.cell (p := ⟨_, _, none⟩) hlt).trans HX0.out.2.2.1, (hw.cell (p := ⟨_, _, none⟩) hlt).trans HX0.out.2.2.2⟩
  have HSI : Hid (∀ w2, Below W1.heap.size W1 w2 → Calls Tryd.prog 85 #[.pointer (some ⟨b, 0, none⟩), .agg #[.int .i64 X.kind, .int .i64 X.num, .string X.name, .slice A' X.args.length c'], .bool p4] w2 fun e W' => e = .returned (.tuple #[]) ∧ SB B b W (l ++ wrapB p4 (sayT X)) W' ∧ W'.heap[W.heap.size]? = some (.cells #[.int .i64 T.kind, .int .i64 T.num, .string T.name, .slice (some ⟨bb, off, none⟩) T.args.length c] 24 (0, 0)) ∧ (W'.cell? ⟨W.heap.size, 3, none⟩ = some (.slice (some ⟨bb, off, none⟩) T.args.length c) ∧ W'.cell? ⟨bb, off, none⟩ = some (.int .i64 X.kind) ∧ W'.cell? ⟨bb, off + 1, none⟩ = some (.int .i64 X.num) ∧ W'.cell? ⟨bb, off + 2, none⟩ = some (.string X.name) ∧ W'.cell? ⟨bb, off + 3, none⟩ = some (.slice A' X.args.length c'))) := Lib.hid fun w2 hw => by
    have hs := HS1.out.new hw
    have hbx := (hw.block _ (lt_blk HBX.out)).trans HBX.out
    refine (sayIn_s HI0.out B b _ p4 l w2 (HT0.out.keep fun g hg2 => ⟨hg2, (hw.mono HS1.out.le).block g hg2⟩) hs.bld hs.le (hs.tb HTB.out hg) hg ?_).mono ?_
    · have := HL.out; rw [← hp4] at this; simp only [List.length_append] at this; omega
    · rintro e W' ⟨rfl, h⟩
      have hb2 := h.at hbx (by decide) hbn
      obtain ⟨k0, k1, k2, k3, k4⟩ := HSK.out w2 hw
      exact ⟨rfl, hs.t h, hb2, (box4 hb2).2.2.2, (h.below.cell (p := ⟨_, _, none⟩) hbb).trans k1, (h.below.cell (p := ⟨_, _, none⟩) hbb).trans k2, (h.below.cell (p := ⟨_, _, none⟩) hbb).trans k3, (h.below.cell (p := ⟨_, _, none⟩) hbb).trans k4⟩
  clear hp4 x0 x1 x2 x3 z0 z1 z2 z3
  have HBW : Hid (Below W1.heap.size W1 W1.drew) := Lib.hid (Below.refl _ _).drew
  have H1 := Lib.hid h1
  unfold tyV
  rw [h1] at hW1 ⊢
  have g24 : 0 < T.args.length := by omega
  have g25 : 1 < T.args.length := by omega
  have g26 : T.args.length ≤ 9223372036854775807 := by omega
  have H24 := Lib.hid h2
  clear h2
  go_enter Tryd.func56, Tryd.ntmps56
  go_wp2_with fail
  rw [← hW1]
  clear hW1
  go_region_held (fun w2 => w2.cell? ⟨W.heap.size, 3, none⟩ = some (.slice (some ⟨bb, off, none⟩) T.args.length c) ∧ w2.cell? ⟨bb, off, none⟩ = some (.int .i64 X.kind) ∧ w2.cell? ⟨bb, off + 1, none⟩ = some (.int .i64 X.num) ∧ w2.cell? ⟨bb, off + 2, none⟩ = some (.string X.name) ∧ w2.cell? ⟨bb, off + 3, none⟩ = some (.slice A' X.args.length c'))
    (first | exact HSK.out _ HBW.out | exact HK2 | assumption) ((go_at_call 85; refine (HSI.out _ HBW.out).mono ?_; rintro e w2 ⟨rfl, HS2, HB2, HK2⟩))
  have HBX2 := Lib.hid HB2; have HS2' := Lib.hid HS2
  obtain ⟨y0, y1, y2, y3⟩ := box4 HB2
  clear HB2 HS2
  have hl2 : (l ++ wrapB p4 (sayT X)).length + 4 + (sayT Y).length ≤ 140737488355000 := by
    have h := HL.out
    rw [← HP4.out] at h
    simp only [List.length_append, List.length_cons, List.length_nil] at h ⊢
    omega
  have HL2 := Lib.hid hl2
  have HW := Lib.hid (writeString_s B b _ ⟨#[32, 45, 62, 32]⟩ w2 HS2'.out.bld HS2'.out.le (by show _ + 4 ≤ _; omega))
  clear hl2
  go_wp2_with fail
  refine HW.out.mono ?_
  rintro e w3 ⟨⟨v3, rfl⟩, H3⟩
  have HBX3 := Lib.hid (H3.at HBX2.out (by decide) hbn)
  have HS3 := Lib.hid (HS2'.out.t H3)
  clear y0 y1 y2 y3 H3
  obtain ⟨y0, y1, y2, y3⟩ := box4 HBX3.out
  have hz : w3.cell? ⟨bb, off + 4, none⟩ = some (.int .i64 Y.kind) ∧ w3.cell? ⟨bb, off + 5, none⟩ = some (.int .i64 Y.num) ∧ w3.cell? ⟨bb, off + 6, none⟩ = some (.string Y.name) ∧ w3.cell? ⟨bb, off + 7, none⟩ = some (.slice A2 Y.args.length c2) := by
    have hz0 := HZ0.out
    have hb : Below B W w3 := HS3.out.below
    have hb1 : Below B W W1 := HS1.out.below
    have key : ∀ o : Nat, w3.cell? ⟨bb, o, none⟩ = W1.cell? ⟨bb, o, none⟩ := fun o => (hb.cell (p := ⟨bb, o, none⟩) hbb).trans (hb1.cell (p := ⟨bb, o, none⟩) hbb).symm
    rw [key, key, key, key]
    exact hz0
  obtain ⟨z0, z1, z2, z3⟩ := hz
  have HT3 : Hid (TyAt (· < B) w3 (tyV Y.kind Y.num Y.name A2 Y.args.length c2) Y) := Lib.hid (by
    refine HT1.out.keep fun g hg2 => ⟨hg2, ?_⟩
    exact (HS3.out.below.block g hg2).trans (HS1.out.below.block g hg2).symm)
  have HC := Lib.hid (HI1.out B b _ _ w3 HT3.out HS3.out.bld HS3.out.le (HS3.out.tb HTB.out hg) hg (by
    have h := HL2.out
    rw [List.length_append]
    show _ + 4 + _ ≤ _
    omega))
  unfold tyV at HC
  go_wp2_with fail
  refine HC.out.mono ?_
  rintro e w4 ⟨rfl, H4⟩
  have HS4 := Lib.hid (HS3.out.t H4)
  clear H4
  go_wp2
  go_end0
  refine ⟨rfl, ?_⟩
  have h := HS4.out
  rw [← List.append_assoc, ← List.append_assoc]
  exact h
end Go.Proofs.YtbhicpjhijondaaDoor
/- T17 -/
/- say: constructors. -/
namespace Go.Par
open Go Go.RowKit
section
variable {P : Program} {ops : Array Oper} {Q : Exit → Act → World → Prop}
theorem wpOp_of {i : Nat} {o : Oper} {K : Act → World → Prop} {a : Act} {w : World} (ho : ops[i]? = some o) (hw : Region.wanted o (yielded ops a.tmps) = true) (h : ∀ K' : Act → World → Prop, (∀ a w, K a w → K' a w) → o.wp P a w K' Q) : wpOp P ops Q i K a w := by
  unfold wpOp
  simp only [ho, hw, if_true]
  exact .inl (h _ fun _ _ h => h)
theorem takeD {S : World → Prop} {md : Region.Mode} {i s : Nat} {oi : Oper} {v : Value} {fuel : Nat} {listed : Array Bool} {a : Act} {w : World} (hi : ops[i]? = some oi) (hd : oi.dst = some s)
    (hs : Region.noSelect ops = true) (hf : Region.free md ops listed i = true) (hr : (Region.ready md ops listed).contains i = true)
    (hQ : ∀ c a w, Q (.panic c) (a.put oi.dst v) w → Q (.panic c) a w) (hy : YieldsIf P ops S oi v a) (hS : S w)
    (h : wpAnyH P md ops Q S fuel (listed.setIfInBounds i true) { tmps := a.tmps.setIfInBounds s v, defers := a.defers } w) : wpAnyH P md ops Q S (fuel + 1) listed a w :=
  wpAnyH_take hi hs hf hr hQ hy hS (by rw [hd]; exact h)
end
end Go.Par
namespace Go.Proofs.YtbhicpjhijondaaDoor
open Go.RowKit Go.Lib Go.Vfs Go.Par Go.Typ Go.Shelf
set_option linter.unusedVariables false
set_option linter.unusedSimpArgs false

/-- what stands behind the arguments. -/
structure ConI (B b : Nat) (T : Ty) (A : Option Addr) (c : Nat) (W : World) (l : List UInt8) (W1 : World) : Prop where
  sb : SB B b W l W1
  box : W1.heap[W.heap.size]? = some (.cells #[.int .i64 T.kind, .int .i64 T.num, .string T.name, .slice A T.args.length c] 24 (0, 0))
  ne : W.heap.size ≠ b
theorem ConI.t {B b : Nat} {T : Ty} {A : Option Addr} {c : Nat} {W W1 W2 : World} {l l' : List UInt8} (h : ConI B b T A c W l W1) (k : SB B b W1 l' W2) : ConI B b T A c W l' W2 :=
  ⟨h.sb.t k, k.at h.box (by decide) h.ne, h.ne⟩
theorem ConI.new {B b : Nat} {T : Ty} {A : Option Addr} {c : Nat} {W W1 W2 : World} {l : List UInt8} (h : ConI B b T A c W l W1) (hb : Below W1.heap.size W1 W2) : ConI B b T A c W l W2 :=
  ⟨h.sb.new hb, (hb.block _ (lt_blk h.box)).trans h.box, h.ne⟩
theorem ConI.start {B b : Nat} {T : Ty} (A : Option Addr) (c : Nat) {W : World} {l : List UInt8} (h : Lib.IsBuilderF 72 5 B b (byteCells l) W) (hB : B ≤ W.heap.size) :
    ConI B b T A c W l (W.alloc (.cells #[.int .i64 T.kind, .int .i64 T.num, .string T.name, .slice A T.args.length c] 24)) :=
  ⟨(SB.refl h hB).new ((Below.refl _ _).alloc (Nat.le_refl _) _), heap_alloc_new _ _, by have := (SB.refl h hB).blt; omega⟩

/-- behind the arguments: a space, the name. -/
def TailC (B b : Nat) (T : Ty) (A : Option Addr) (c : Nat) (W : World) (l : List UInt8) : Prop :=
  ∀ (l' : List UInt8) (w : World), ConI B b T A c W l' w → l'.length ≤ 140737488355000 →
    Calls Tryd.prog 86 #[.pointer (some ⟨b, 0, none⟩), .int .i64 (T.args.length : Nat), .string ⟨#[32]⟩] w fun e w2 => e = .returned (.tuple #[]) ∧ ConI B b T A c W (l' ++ (if T.args.length = 0 then [] else [32])) w2
theorem tail_c (B b : Nat) (T : Ty) (A : Option Addr) (c : Nat) (W : World) (l : List UInt8) : TailC B b T A c W l := fun l' w h hl => by
  refine (between_s B b T.args.length ⟨#[32]⟩ l' w h.sb.bld h.sb.le (by show _ + 1 ≤ _; omega)).mono ?_
  rintro e w2 ⟨rfl, h2⟩
  exact ⟨rfl, h.t h2⟩
theorem name_c {B b : Nat} {T : Ty} {A : Option Addr} {c : Nat} {W w : World} {l : List UInt8} (h : ConI B b T A c W l w) (hl : l.length + T.name.size ≤ 140737488355000) :
    Calls Tryd.prog 83 #[.pointer (some ⟨b, 0, none⟩), .string T.name] w fun e w2 => (∃ v, e = .returned v) ∧ ConI B b T A c W (l ++ T.name.data.toList) w2 := by
  refine (writeString_s B b l T.name w h.sb.bld h.sb.le (by omega)).mono ?_
  rintro e w2 ⟨he, h2⟩
  exact ⟨he, h.t h2⟩
theorem name_len (s : ByteArray) : s.data.toList.length = s.size := by rw [Array.length_toList]; rfl

set_option maxRecDepth 20000 in
set_option maxHeartbeats 2000000 in
theorem say_con0 (T : Ty) (h1 : T.kind = 2) (h0 : T.args.length = 0) : SayC T := by
  intro B b v l W hT h hB htb hg hl
  rw [sayT_con h1, if_neg (by omega), if_pos h0, List.nil_append, List.length_append, name_len] at hl
  rw [sayT_con h1, if_neg (by omega), if_pos h0, List.nil_append]
  have HL := Lib.hid hl
  obtain ⟨A, c, rfl, hc, hm, hn⟩ := hT.form
  obtain ⟨W1, hW1⟩ : ∃ W1, W1 = W.alloc (.cells #[.int .i64 T.kind, .int .i64 T.num, .string T.name, .slice A T.args.length c] 24) := ⟨_, rfl⟩
  have hc1 := ConI.start (T := T) A c h hB
  rw [← hW1] at hc1
  have HC1 := Lib.hid hc1
  obtain ⟨y0, y1, y2, y3⟩ := box4 hc1.box
  have g0 : ((T.args.length : Int) == 1) = false := by simp; omega
  have g1 : ¬ (1 : Int) < (T.args.length : Int) := by omega
  have g2 : T.args.length ≤ 9223372036854775807 := by omega
  have HTL := Lib.hid (tail_c B b T A c W l)
  have H0 := Lib.hid h0
  clear hT h hc hm hn hl hc1 h0
  unfold tyV
  rw [h1] at hW1 y0 ⊢
  clear h1
  go_enter Tryd.func56, Tryd.ntmps56
  go_wp2_with fail
  rw [← hW1]
  clear hW1
  refine (HTL.out _ _ HC1.out (by have := HL.out; omega)).mono ?_
  rintro e w5 ⟨rfl, H5⟩
  have HC5 := Lib.hid H5
  clear y0 y1 y2 y3 H5
  obtain ⟨y0, y1, y2, y3⟩ := box4 HC5.out.box
  have HW5 := Lib.hid (name_c HC5.out (by have := HL.out; simp only [List.length_append]; rw [if_pos H0.out] at this ⊢; simp at this ⊢; omega))
  go_wp2_with fail
  refine HW5.out.mono ?_
  rintro e w6 ⟨⟨v6, rfl⟩, H6⟩
  have HF := Lib.hid H6.sb
  clear H6
  go_wp2
  go_end0
  refine ⟨rfl, ?_⟩
  have h := HF.out
  rw [if_pos H0.out, List.append_nil] at h
  first | exact h | simpa [H0.out] using h

set_option maxRecDepth 20000 in
set_option maxHeartbeats 2000000 in
theorem say_con1 (T : Ty) (ih : ∀ i (hi : i < T.args.length), SayC T.args[i]) (h1 : T.kind = 2) (h0 : T.args.length = 1) : SayC T := by
  intro B b v l W hT h hB htb hg hl
  have hi0 : 0 < T.args.length := by omega
  have hj : joinW [] (T.args.map insT) = insT T.args[0] := by
    obtain ⟨x, hx⟩ : ∃ x, T.args = [x] := List.length_eq_one_iff.1 h0
    simp [hx, joinW]
  have hsay : sayT T = insT T.args[0] ++ [32] ++ T.name.data.toList := by
    rw [sayT_con h1, if_pos h0, if_neg (by omega), hj]
  rw [hsay] at hl ⊢
  clear hj hsay
  have HL := Lib.hid hl; have HI0 := Lib.hid (ih 0 hi0); have HTB := Lib.hid htb
  obtain ⟨A, c, rfl, hc, hm, hn⟩ := hT.form
  obtain ⟨W1, hW1⟩ : ∃ W1, W1 = W.alloc (.cells #[.int .i64 T.kind, .int .i64 T.num, .string T.name, .slice A T.args.length c] 24) := ⟨_, rfl⟩
  have hc1 := ConI.start (T := T) A c h hB
  rw [← hW1] at hc1
  obtain ⟨bb, off, A', c', rfl, hbb, ht, x0, x1, x2, x3⟩ := (hc1.sb.ty hT).arg hi0
  simp only [Nat.zero_mul, Nat.add_zero] at x0 x1 x2 x3
  have HC1 := Lib.hid hc1; have HT0 := Lib.hid ht
  obtain ⟨y0, y1, y2, y3⟩ := box4 hc1.box
  have g0 : ((T.args.length : Int) == 1) = true := by simp; omega
  have g1 : ¬ (1 : Int) < (T.args.length : Int) := by omega
  have g2 : T.args.length ≤ 9223372036854775807 := by omega
  have g3 : 0 < T.args.length := by omega
  have HTL := Lib.hid (tail_c B b T (some ⟨bb, off, none⟩) c W l)
  have H0 := Lib.hid h0
  clear hT h hc hm hn hl hc1 h0 ih ht
  generalize T.args[0] = X at *
  have hlt : bb < W1.heap.size := lt_cell x0
  have HSK : Hid (∀ w2, Below W1.heap.size W1 w2 → w2.cell? ⟨W.heap.size, 3, none⟩ = some (.slice (some ⟨bb, off, none⟩) T.args.length c) ∧ w2.cell? ⟨bb, off, none⟩ = some (.int .i64 X.kind) ∧ w2.cell? ⟨bb, off + 1, none⟩ = some (.int .i64 X.num) ∧ w2.cell? ⟨bb, off + 2, none⟩ = some (.string X.name) ∧ w2.cell? ⟨bb, off + 3, none⟩ = some (.slice A' X.args.length c')) := Lib.hid fun w2 hw =>
    ⟨(hw.cell (p := ⟨_, _, none⟩) (lt_blk HC1.out.box)).trans y3, (hw.cell (p := ⟨_, _, none⟩) hlt).trans x0, (hw.cell (p := ⟨_, _, none⟩) hlt).trans x1, (hw.cell (p := ⟨_, _, none⟩) hlt).trans x2, (hw.cell (p := ⟨_, _, none⟩) hlt).trans x3⟩
  have HSI : Hid (∀ yes, yes = pairB X → ∀ w2, Below W1.heap.size W1 w2 → Calls Tryd.prog 85 #[.pointer (some ⟨b, 0, none⟩), .agg #[.int .i64 X.kind, .int .i64 X.num, .string X.name, .slice A' X.args.length c'], .bool yes] w2 fun e W' => e = .returned (.tuple #[]) ∧ ConI B b T (some ⟨bb, off, none⟩) c W (l ++ insT X) W' ∧ (W'.cell? ⟨W.heap.size, 3, none⟩ = some (.slice (some ⟨bb, off, none⟩) T.args.length c) ∧ W'.cell? ⟨bb, off, none⟩ = some (.int .i64 X.kind) ∧ W'.cell? ⟨bb, off + 1, none⟩ = some (.int .i64 X.num) ∧ W'.cell? ⟨bb, off + 2, none⟩ = some (.string X.name) ∧ W'.cell? ⟨bb, off + 3, none⟩ = some (.slice A' X.args.length c'))) := Lib.hid fun yes hy w2 hw => by
    have hs := HC1.out.new hw
    refine (sayIn_s HI0.out B b _ yes l w2 (HT0.out.keep fun g hg2 => ⟨hg2, (hw.mono HC1.out.sb.le).block g hg2⟩) hs.sb.bld hs.sb.le (hs.sb.tb HTB.out hg) hg ?_).mono ?_
    · have := HL.out; rw [hy]; simp only [List.length_append, insT] at this ⊢; omega
    · rintro e W' ⟨rfl, h⟩
      have hc2 := hs.t h
      obtain ⟨k0, k1, k2, k3, k4⟩ := HSK.out w2 hw
      rw [hy] at hc2
      exact ⟨rfl, hc2, (box4 hc2.box).2.2.2, (h.below.cell (p := ⟨_, _, none⟩) hbb).trans k1, (h.below.cell (p := ⟨_, _, none⟩) hbb).trans k2, (h.below.cell (p := ⟨_, _, none⟩) hbb).trans k3, (h.below.cell (p := ⟨_, _, none⟩) hbb).trans k4⟩
  have HBW : Hid (Below W1.heap.size W1 W1.drew) := Lib.hid (Below.refl _ _).drew
  obtain ⟨p3, hp3⟩ : ∃ p, p = decide (X.kind = 3) := ⟨_, rfl⟩
  obtain ⟨p4, hp4⟩ : ∃ p, p = decide (X.kind = 4) := ⟨_, rfl⟩
  have g5 : (X.kind == 3) = p3 := by rw [hp3]; by_cases h : X.kind = 3 <;> simp [h]
  have g6 : (X.kind == 4) = p4 := by rw [hp4]; by_cases h : X.kind = 4 <;> simp [h]
  have HPB : Hid (pairB X = (p3 || p4)) := Lib.hid (by rw [hp3, hp4]; rfl)
  clear hp3 hp4 x0 x1 x2 x3
  unfold tyV
  rw [h1] at hW1 y0 ⊢
  clear h1
  have hcs : (p3 = true) ∨ (p3 = false ∧ p4 = true) ∨ (p3 = false ∧ p4 = false) := by cases p3 <;> cases p4 <;> simp
  rcases hcs with rfl | ⟨rfl, rfl⟩ | ⟨rfl, rfl⟩
  · have HC := Lib.hid (HSI.out true (by rw [HPB.out]; rfl))
    go_enter Tryd.func56, Tryd.ntmps56
    go_wp2_with fail
    rw [← hW1]
    clear hW1
    have HS0 := Lib.hid (HSK.out _ HBW.out)
    refine wp_region_held (S := (fun w2 : World => w2.cell? ⟨W.heap.size, 3, none⟩ = some (.slice (some ⟨bb, off, none⟩) T.args.length c) ∧ w2.cell? ⟨bb, off, none⟩ = some (.int .i64 X.kind) ∧ w2.cell? ⟨bb, off + 1, none⟩ = some (.int .i64 X.num) ∧ w2.cell? ⟨bb, off + 2, none⟩ = some (.string X.name) ∧ w2.cell? ⟨bb, off + 3, none⟩ = some (.slice A' X.args.length c'))) (by kernel_rfl) ?_
    refine takeD (i := 0) (s := 36) (v := .pointer (some ⟨b, 0, none⟩)) rfl rfl (by kernel_rfl) (by kernel_rfl) (by kernel_rfl) (fun _ _ _ h => h) (Or.inl ⟨by rfl, fun w' hS => by obtain ⟨s0, s1, s2, s3, s4⟩ := hS; go_simp⟩) HS0.out ?_
    try simp only [List.setIfInBounds_toArray, List.set_cons_zero, List.set_cons_succ]
    refine takeD (i := 1) (s := 37) (v := .pointer (some ⟨W.heap.size, 3, none⟩)) rfl rfl (by kernel_rfl) (by kernel_rfl) (by kernel_rfl) (fun _ _ _ h => h) (Or.inl ⟨by rfl, fun w' hS => by obtain ⟨s0, s1, s2, s3, s4⟩ := hS; go_simp⟩) HS0.out ?_
    try simp only [List.setIfInBounds_toArray, List.set_cons_zero, List.set_cons_succ]
    refine takeD (i := 2) (s := 38) (v := .slice (some ⟨bb, off, none⟩) T.args.length c) rfl rfl (by kernel_rfl) (by kernel_rfl) (by kernel_rfl) (fun _ _ _ h => h) (Or.inl ⟨by rfl, fun w' hS => by obtain ⟨s0, s1, s2, s3, s4⟩ := hS; go_simp⟩) HS0.out ?_
    try simp only [List.setIfInBounds_toArray, List.set_cons_zero, List.set_cons_succ]
    refine takeD (i := 3) (s := 39) (v := .pointer (some ⟨bb, off, none⟩)) rfl rfl (by kernel_rfl) (by kernel_rfl) (by kernel_rfl) (fun _ _ _ h => h) (Or.inl ⟨by rfl, fun w' hS => by obtain ⟨s0, s1, s2, s3, s4⟩ := hS; go_simp⟩) HS0.out ?_
    try simp only [List.setIfInBounds_toArray, List.set_cons_zero, List.set_cons_succ]
    refine takeD (i := 4) (s := 40) (v := .agg #[.int .i64 X.kind, .int .i64 X.num, .string X.name, .slice A' X.args.length c']) rfl rfl (by kernel_rfl) (by kernel_rfl) (by kernel_rfl) (fun _ _ _ h => h) (Or.inl ⟨by rfl, fun w' hS => by obtain ⟨s0, s1, s2, s3, s4⟩ := hS; go_simp⟩) HS0.out ?_
    try simp only [List.setIfInBounds_toArray, List.set_cons_zero, List.set_cons_succ]
    refine takeD (i := 5) (s := 41) (v := .pointer (some ⟨W.heap.size, 3, none⟩)) rfl rfl (by kernel_rfl) (by kernel_rfl) (by kernel_rfl) (fun _ _ _ h => h) (Or.inl ⟨by rfl, fun w' hS => by obtain ⟨s0, s1, s2, s3, s4⟩ := hS; go_simp⟩) HS0.out ?_
    try simp only [List.setIfInBounds_toArray, List.set_cons_zero, List.set_cons_succ]
    refine takeD (i := 6) (s := 42) (v := .slice (some ⟨bb, off, none⟩) T.args.length c) rfl rfl (by kernel_rfl) (by kernel_rfl) (by kernel_rfl) (fun _ _ _ h => h) (Or.inl ⟨by rfl, fun w' hS => by obtain ⟨s0, s1, s2, s3, s4⟩ := hS; go_simp⟩) HS0.out ?_
    try simp only [List.setIfInBounds_toArray, List.set_cons_zero, List.set_cons_succ]
    refine takeD (i := 7) (s := 43) (v := .pointer (some ⟨bb, off, none⟩)) rfl rfl (by kernel_rfl) (by kernel_rfl) (by kernel_rfl) (fun _ _ _ h => h) (Or.inl ⟨by rfl, fun w' hS => by obtain ⟨s0, s1, s2, s3, s4⟩ := hS; go_simp⟩) HS0.out ?_
    try simp only [List.setIfInBounds_toArray, List.set_cons_zero, List.set_cons_succ]
    refine takeD (i := 8) (s := 44) (v := .pointer (some ⟨bb, off, none⟩)) rfl rfl (by kernel_rfl) (by kernel_rfl) (by kernel_rfl) (fun _ _ _ h => h) (Or.inl ⟨by rfl, fun w' hS => by obtain ⟨s0, s1, s2, s3, s4⟩ := hS; go_simp⟩) HS0.out ?_
    try simp only [List.setIfInBounds_toArray, List.set_cons_zero, List.set_cons_succ]
    refine takeD (i := 9) (s := 45) (v := .int .i64 X.kind) rfl rfl (by kernel_rfl) (by kernel_rfl) (by kernel_rfl) (fun _ _ _ h => h) (Or.inl ⟨by rfl, fun w' hS => by obtain ⟨s0, s1, s2, s3, s4⟩ := hS; go_simp⟩) HS0.out ?_
    try simp only [List.setIfInBounds_toArray, List.set_cons_zero, List.set_cons_succ]
    refine takeD (i := 10) (s := 46) (v := .bool true) rfl rfl (by kernel_rfl) (by kernel_rfl) (by kernel_rfl) (fun _ _ _ h => h) (Or.inl ⟨by rfl, fun w' hS => by obtain ⟨s0, s1, s2, s3, s4⟩ := hS; go_simp⟩) HS0.out ?_
    try simp only [List.setIfInBounds_toArray, List.set_cons_zero, List.set_cons_succ]
    refine takeD (i := 11) (s := 47) (v := .bool true) rfl rfl (by kernel_rfl) (by kernel_rfl) (by kernel_rfl) (fun _ _ _ h => h) (Or.inl ⟨by rfl, fun w' hS => by obtain ⟨s0, s1, s2, s3, s4⟩ := hS; go_simp⟩) HS0.out ?_
    try simp only [List.setIfInBounds_toArray, List.set_cons_zero, List.set_cons_succ]
    refine takeD (i := 12) (s := 48) (v := undef) rfl rfl (by kernel_rfl) (by kernel_rfl) (by kernel_rfl) (fun _ _ _ h => h) (Or.inr ⟨by rfl, rfl⟩) HS0.out ?_
    try simp only [List.setIfInBounds_toArray, List.set_cons_zero, List.set_cons_succ]
    refine takeD (i := 13) (s := 49) (v := undef) rfl rfl (by kernel_rfl) (by kernel_rfl) (by kernel_rfl) (fun _ _ _ h => h) (Or.inr ⟨by rfl, rfl⟩) HS0.out ?_
    try simp only [List.setIfInBounds_toArray, List.set_cons_zero, List.set_cons_succ]
    refine takeD (i := 14) (s := 50) (v := undef) rfl rfl (by kernel_rfl) (by kernel_rfl) (by kernel_rfl) (fun _ _ _ h => h) (Or.inr ⟨by rfl, rfl⟩) HS0.out ?_
    try simp only [List.setIfInBounds_toArray, List.set_cons_zero, List.set_cons_succ]
    refine takeD (i := 15) (s := 51) (v := undef) rfl rfl (by kernel_rfl) (by kernel_rfl) (by kernel_rfl) (fun _ _ _ h => h) (Or.inr ⟨by rfl, rfl⟩) HS0.out ?_
    try simp only [List.setIfInBounds_toArray, List.set_cons_zero, List.set_cons_succ]
    refine takeD (i := 16) (s := 52) (v := undef) rfl rfl (by kernel_rfl) (by kernel_rfl) (by kernel_rfl) (fun _ _ _ h => h) (Or.inr ⟨by rfl, rfl⟩) HS0.out ?_
    try simp only [List.setIfInBounds_toArray, List.set_cons_zero, List.set_cons_succ]
    refine takeD (i := 17) (s := 53) (v := undef) rfl rfl (by kernel_rfl) (by kernel_rfl) (by kernel_rfl) (fun _ _ _ h => h) (Or.inr ⟨by rfl, rfl⟩) HS0.out ?_
    try simp only [List.setIfInBounds_toArray, List.set_cons_zero, List.set_cons_succ]
    refine takeD (i := 18) (s := 54) (v := .bool true) rfl rfl (by kernel_rfl) (by kernel_rfl) (by kernel_rfl) (fun _ _ _ h => h) (Or.inl ⟨by rfl, fun w' hS => by obtain ⟨s0, s1, s2, s3, s4⟩ := hS; go_simp⟩) HS0.out ?_
    try simp only [List.setIfInBounds_toArray, List.set_cons_zero, List.set_cons_succ]
    refine wpAnyH_all (rs := [19]) (by kernel_rfl) (by simp) ?_
    intro i hi
    simp only [List.mem_cons, List.not_mem_nil, or_false] at hi
    subst hi
    refine wpOp_of rfl rfl (fun K hK => ?_)
    go_simp
    refine (HC.out _ HBW.out).mono ?_
    rintro e w2 ⟨rfl, HC2, HK2⟩
    refine hK _ _ ⟨HK2, ?_⟩
    clear hK K
    refine wpAnyH_done (by kernel_rfl) ?_ _
    have HC2' := Lib.hid HC2
    clear y0 y1 y2 y3 HC2 HK2
    obtain ⟨y0, y1, y2, y3⟩ := box4 HC2'.out.box
    go_wp2_with fail
    refine (HTL.out _ _ HC2'.out (by have := HL.out; simp only [List.length_append] at this ⊢; omega)).mono ?_
    rintro e w5 ⟨rfl, H5⟩
    have HC5 := Lib.hid H5
    clear y0 y1 y2 y3 H5
    obtain ⟨y0, y1, y2, y3⟩ := box4 HC5.out.box
    have HW5 := Lib.hid (name_c HC5.out (by have := HL.out; rw [if_neg (by have := H0.out; omega)]; simp only [List.length_append, name_len] at this ⊢; omega))
    go_wp2_with fail
    refine HW5.out.mono ?_
    rintro e w6 ⟨⟨v6, rfl⟩, H6⟩
    have HF := Lib.hid H6.sb
    clear H6
    go_wp2
    go_end0
    refine ⟨rfl, ?_⟩
    have h := HF.out
    rw [if_neg (by have := H0.out; omega)] at h
    simpa [List.append_assoc] using h
  · have HC := Lib.hid (HSI.out true (by rw [HPB.out]; rfl))
    go_enter Tryd.func56, Tryd.ntmps56
    go_wp2_with fail
    rw [← hW1]
    clear hW1
    go_region_held (fun w2 => w2.cell? ⟨W.heap.size, 3, none⟩ = some (.slice (some ⟨bb, off, none⟩) T.args.length c) ∧ w2.cell? ⟨bb, off, none⟩ = some (.int .i64 X.kind) ∧ w2.cell? ⟨bb, off + 1, none⟩ = some (.int .i64 X.num) ∧ w2.cell? ⟨bb, off + 2, none⟩ = some (.string X.name) ∧ w2.cell? ⟨bb, off + 3, none⟩ = some (.slice A' X.args.length c'))
      (first | exact HSK.out _ HBW.out | exact HK2 | assumption) ((go_at_call 85; refine (HC.out _ HBW.out).mono ?_; rintro e w2 ⟨rfl, HC2, HK2⟩))
    have HC2' := Lib.hid HC2
    clear y0 y1 y2 y3 HC2 HK2
    obtain ⟨y0, y1, y2, y3⟩ := box4 HC2'.out.box
    go_wp2_with fail
    refine (HTL.out _ _ HC2'.out (by have := HL.out; simp only [List.length_append] at this ⊢; omega)).mono ?_
    rintro e w5 ⟨rfl, H5⟩
    have HC5 := Lib.hid H5
    clear y0 y1 y2 y3 H5
    obtain ⟨y0, y1, y2, y3⟩ := box4 HC5.out.box
    have HW5 := Lib.hid (name_c HC5.out (by have := HL.out; rw [if_neg (by have := H0.out; omega)]; simp only [List.length_append, name_len] at this ⊢; omega))
    go_wp2_with fail
    refine HW5.out.mono ?_
    rintro e w6 ⟨⟨v6, rfl⟩, H6⟩
    have HF := Lib.hid H6.sb
    clear H6
    go_wp2
    go_end0
    refine ⟨rfl, ?_⟩
    have h := HF.out
    rw [if_neg (by have := H0.out; omega)] at h
    simpa [List.append_assoc] using h
  · have HC := Lib.hid (HSI.out false (by rw [HPB.out]; rfl))
    go_enter Tryd.func56, Tryd.ntmps56
    go_wp2_with fail
    rw [← hW1]
    clear hW1
    go_region_held (fun w2 => w2.cell? ⟨W.heap.size, 3, none⟩ = some (.slice (some ⟨bb, off, none⟩) T.args.length c) ∧ w2.cell? ⟨bb, off, none⟩ = some (.int .i64 X.kind) ∧ w2.cell? ⟨bb, off + 1, none⟩ = some (.int .i64 X.num) ∧ w2.cell? ⟨bb, off + 2, none⟩ = some (.string X.name) ∧ w2.cell? ⟨bb, off + 3, none⟩ = some (.slice A' X.args.length c'))
      (first | exact HSK.out _ HBW.out | exact HK2 | assumption) ((go_at_call 85; refine (HC.out _ HBW.out).mono ?_; rintro e w2 ⟨rfl, HC2, HK2⟩))
    have HC2' := Lib.hid HC2
    clear y0 y1 y2 y3 HC2 HK2
    obtain ⟨y0, y1, y2, y3⟩ := box4 HC2'.out.box
    go_wp2_with fail
    refine (HTL.out _ _ HC2'.out (by have := HL.out; simp only [List.length_append] at this ⊢; omega)).mono ?_
    rintro e w5 ⟨rfl, H5⟩
    have HC5 := Lib.hid H5
    clear y0 y1 y2 y3 H5
    obtain ⟨y0, y1, y2, y3⟩ := box4 HC5.out.box
    have HW5 := Lib.hid (name_c HC5.out (by have := HL.out; rw [if_neg (by have := H0.out; omega)]; simp only [List.length_append, name_len] at this ⊢; omega))
    go_wp2_with fail
    refine HW5.out.mono ?_
    rintro e w6 ⟨⟨v6, rfl⟩, H6⟩
    have HF := Lib.hid H6.sb
    clear H6
    go_wp2
    go_end0
    refine ⟨rfl, ?_⟩
    have h := HF.out
    rw [if_neg (by have := H0.out; omega)] at h
    simpa [List.append_assoc] using h
end Go.Proofs.YtbhicpjhijondaaDoor
/- T18 -/
/- say: constructors of several arguments. -/
namespace Go.Proofs.YtbhicpjhijondaaDoor
open Go.RowKit Go.Lib Go.Vfs Go.Par Go.Typ Go.Shelf
set_option linter.unusedVariables false
set_option linter.unusedSimpArgs false

set_option maxRecDepth 20000 in
set_option maxHeartbeats 2000000 in
theorem say_conN (T : Ty) (ih : ∀ i (hi : i < T.args.length), SayC T.args[i]) (h1 : T.kind = 2) (h0 : 2 ≤ T.args.length) : SayC T := by
  intro B b v l W hT h hB htb hg hl
  have hsay : sayT T = [40] ++ joinW [44, 32] (T.args.map sayT) ++ [41] ++ [32] ++ T.name.data.toList := by
    rw [sayT_con h1, if_neg (by omega), if_neg (by omega), if_neg (by omega)]
  rw [hsay] at hl ⊢
  simp only [List.length_append, List.length_singleton, name_len] at hl
  obtain ⟨A, c, rfl, hc, hm, hn⟩ := hT.form
  have hla : T.args.length ≤ 9223372036854775807 := by simp only [maxLen] at hm; omega
  obtain ⟨W1, hW1⟩ : ∃ W1, W1 = W.alloc (.cells #[.int .i64 T.kind, .int .i64 T.num, .string T.name, .slice A T.args.length c] 24) := ⟨_, rfl⟩
  have hc1 := ConI.start (T := T) A c h hB
  rw [← hW1] at hc1
  obtain ⟨y0, y1, y2, y3⟩ := box4 hc1.box
  have HC1 := Lib.hid hc1; have HTB := Lib.hid htb; have HT := Lib.hid hT; have IH := Lib.hid ih; have HL := Lib.hid hl
  have HTL := Lib.hid (tail_c B b T A c W l)
  have HWB := Lib.hid (writeByte_s B b l 40 40 rfl W1 hc1.sb.bld hc1.sb.le (by omega))
  have g0 : ((T.args.length : Int) == 1) = false := by simp; omega
  have g1 : (1 : Int) < (T.args.length : Int) := by omega
  have H0 := Lib.hid h0
  clear hT hc1 htb h hc hm hn ih hl hsay h0
  unfold tyV
  rw [h1] at hW1 y0 ⊢
  clear h1
  go_enter Tryd.func56, Tryd.ntmps56
  go_wp2_with fail
  rw [← hW1]
  clear hW1
  refine HWB.out.mono ?_
  rintro e wq ⟨rfl, Hq⟩
  have HCq := Lib.hid (HC1.out.t Hq)
  clear y0 y1 y2 y3 Hq
  obtain ⟨y0, y1, y2, y3⟩ := box4 HCq.out.box
  go_wp2
  go_loopw [65] (fun iv wr => ∃ (k : Nat), k ≤ T.args.length ∧ iv = .int .i64 k ∧ Hid (ConI B b T A c W (l ++ [40] ++ joinW [44, 32] ((T.args.map sayT).take k)) wr)) (fun iv _ => T.args.length - (RowKit.intOf iv).toNat)
  case atStart => exact ⟨0, by omega, rfl, Lib.hid (by simpa [joinW] using HCq.out)⟩
  case round =>
    obtain ⟨k, hk, rfl, HRC⟩ := hrel
    clear y0 y1 y2 y3
    have HR := Lib.hid HRC.out.sb
    by_cases hlt : k < T.args.length
    · obtain ⟨bb, off, A', c', rfl, hbb, ht, x0, x1, x2, x3⟩ := (HR.out.ty HT.out).arg hlt
      have HSC := Lib.hid (IH.out k hlt)
      have hlm : k < (T.args.map sayT).length := by rw [List.length_map]; exact hlt
      have htk := joinW_take [44, 32] (T.args.map sayT) hlm
      rw [List.getElem_map] at htk
      have hln := joinW_len_mem (sep := [44, 32]) hlm
      rw [List.getD_eq_getElem?_getD, List.getElem?_eq_getElem hlm, List.getElem_map, Option.getD_some] at hln
      have HT0 := Lib.hid ht
      have HTK := Lib.hid htk; have HLN := Lib.hid hln
      clear ht htk hln
      generalize T.args[k] = U at *
      obtain ⟨l1, hl1⟩ : ∃ l1, l1 = l ++ [40] ++ joinW [44, 32] ((T.args.map sayT).take k) := ⟨_, rfl⟩
      obtain ⟨W2, hW2⟩ : ∃ W2, W2 = wr.alloc (.cells #[.int .i64 U.kind, .int .i64 U.num, .string U.name, .slice A' U.args.length c'] 24) := ⟨_, rfl⟩
      have hb2 : Below wr.heap.size wr W2 := by rw [hW2]; exact (Below.refl _ _).alloc (Nat.le_refl _) _
      have HR2 := Lib.hid (HR.out.new hb2)
      have HCR := Lib.hid (HRC.out.new hb2)
      rw [← hl1] at HR2 HCR
      have hbn : wr.heap.size ≠ b := by have := HR.out.blt; omega
      have HBX : Hid (W2.heap[wr.heap.size]? = some (.cells #[.int .i64 U.kind, .int .i64 U.num, .string U.name, .slice A' U.args.length c'] 24 (0, 0))) := Lib.hid (by rw [hW2]; exact heap_alloc_new _ _)
      have hls : l1.length + (if k = 0 then ([] : List UInt8) else [44, 32]).length + (sayT U).length ≤ 140737488355000 := by
        have h1 := HLN.out; have h2 := HL.out; rw [hl1, List.length_append, List.length_append, List.length_singleton]; omega
      have HBT := Lib.hid (between_s B b k ⟨#[44, 32]⟩ l1 W2 HR2.out.bld HR2.out.le (by show l1.length + 2 ≤ _; omega))
      have HLS := Lib.hid hls; have HB2 := Lib.hid (hb2.mono HR.out.le)
      rw [hW2] at HBT
      clear hls hb2
      clear hlm
      go_wp2_with fail
      refine HBT.out.mono ?_
      rintro e w3 ⟨rfl, H3⟩
      rw [← hW2] at H3
      have HBX3 := Lib.hid (H3.at HBX.out (by decide) hbn)
      obtain ⟨y0, y1, y2, y3⟩ := box4 HBX3.out
      have HC3 := Lib.hid (HCR.out.t H3)
      have HBW := Lib.hid (HB2.out.trans H3.below)
      clear H3
      have e3 : (if k = 0 then ([] : List UInt8) else (⟨#[44, 32]⟩ : ByteArray).data.toList) = (if k = 0 then [] else [44, 32]) := rfl
      have HCS := Lib.hid (HSC.out B b _ _ w3 (HT0.out.keep fun g hg2 => ⟨hg2, HBW.out.block g hg2⟩) HC3.out.sb.bld HC3.out.sb.le (HC3.out.sb.tb HTB.out hg) hg (by have := HLS.out; rw [List.length_append, e3]; omega))
      unfold tyV at HCS
      clear e3
      go_wp2_with fail
      refine HCS.out.mono ?_
      rintro e w4 ⟨rfl, H4⟩
      have H5 : Hid (ConI B b T (some ⟨bb, off, none⟩) c W (l ++ [40] ++ joinW [44, 32] ((T.args.map sayT).take (k + 1))) w4) := Lib.hid (by
        have h := HC3.out.t H4
        rw [HTK.out, ← List.append_assoc, ← hl1, ← List.append_assoc]
        exact h)
      clear H4 y0 y1 y2 y3
      go_wp2
      go_roundw
      case rel => exact ⟨k + 1, by omega, by go_num, H5⟩
      case measure => simp [RowKit.intOf]; omega
    · have hkl : k = T.args.length := by omega
      have HE : Hid (ConI B b T A c W (l ++ [40] ++ joinW [44, 32] (T.args.map sayT)) wr) := Lib.hid (by
        have h := HRC.out
        rw [hkl, ← List.length_map (f := sayT), List.take_length] at h
        exact h)
      clear HRC HR
      obtain ⟨y0, y1, y2, y3⟩ := box4 HE.out.box
      have hll := HL.out
      have HWB2 := Lib.hid (writeByte_s B b _ 41 41 rfl wr HE.out.sb.bld HE.out.sb.le (by simp only [List.length_append, List.length_singleton]; omega))
      go_wp2_with fail
      refine HWB2.out.mono ?_
      rintro e w2 ⟨rfl, H2⟩
      have HC2' := Lib.hid (HE.out.t H2)
      clear y0 y1 y2 y3 H2
      obtain ⟨y0, y1, y2, y3⟩ := box4 HC2'.out.box
      go_wp2_with fail
      refine (HTL.out _ _ HC2'.out (by simp only [List.length_append, List.length_singleton]; omega)).mono ?_
      rintro e w5 ⟨rfl, H5⟩
      have HC5 := Lib.hid H5
      clear y0 y1 y2 y3 H5
      obtain ⟨y0, y1, y2, y3⟩ := box4 HC5.out.box
      have HW5 := Lib.hid (name_c HC5.out (by rw [if_neg (by have := H0.out; omega)]; simp only [List.length_append, List.length_singleton]; omega))
      go_wp2_with fail
      refine HW5.out.mono ?_
      rintro e w6 ⟨⟨v6, rfl⟩, H6⟩
      have HF := Lib.hid H6.sb
      clear H6
      go_wp2
      go_end0
      refine ⟨rfl, ?_⟩
      have h := HF.out
      rw [if_neg (by have := H0.out; omega)] at h
      simpa [List.append_assoc] using h

/-- say writes a type's words. -/
theorem say_any (T : Ty) : FitAll T → SayC T := by
  induction T using Ty.ind with
  | h T ih =>
    intro hf
    have ih' : ∀ i (hi : i < T.args.length), SayC T.args[i] := fun i hi => ih i hi (hf.arg hi)
    rcases fits_kinds hf.self with ⟨h1, h2, h3, -, -⟩ | ⟨h1, -, -⟩ | ⟨h1, -, -, -⟩ | ⟨h1, -, -, h2⟩
    · exact say_var T h1 h2 h3
    · by_cases h0 : T.args.length = 0
      · exact say_con0 T h1 h0
      · by_cases h2 : T.args.length = 1
        · exact say_con1 T ih' h1 h2
        · exact say_conN T ih' h1 (by omega)
    · exact say_pair T ih' h1
    · exact say_arrow T ih' h1 h2
end Go.Proofs.YtbhicpjhijondaaDoor
/- T19 -/
/- types.Show. -/
namespace Go.Typ
/-- what Show answers. -/
def showT (T : Ty) : List UInt8 × Int := if rightT T then (sayT T, 0) else ([], 120)
end Go.Typ
namespace Go.Proofs.YtbhicpjhijondaaDoor
open Go.RowKit Go.Lib Go.Vfs Go.Par Go.Typ Go.Shelf
set_option linter.unusedVariables false
set_option linter.unusedSimpArgs false

set_option maxRecDepth 20000 in
set_option maxHeartbeats 1000000 in
theorem show_any (T : Ty) (v : Value) (w : World) (hT : TyAt (· < w.heap.size) w v T) (htb : Tb w) (hl : rightT T = true → (sayT T).length ≤ 140737488355000) :
    Calls Tryd.prog 22 #[v] w fun e w' => e = .returned (.tuple #[.string ⟨(showT T).1.toArray⟩, .int .i64 (showT T).2]) ∧ Below w.heap.size w w' := by
  obtain ⟨A, c, rfl, hc, hm, hn⟩ := hT.form
  obtain ⟨W1, hW1⟩ : ∃ W1, W1 = w.alloc (.cells #[.int .i64 T.kind, .int .i64 T.num, .string T.name, .slice A T.args.length c] 24) := ⟨_, rfl⟩
  have hb1 : Below w.heap.size w W1 := by rw [hW1]; exact (Below.refl _ _).alloc (Nat.le_refl _) _
  have HBX : Hid (W1.heap[w.heap.size]? = some (.cells #[.int .i64 T.kind, .int .i64 T.num, .string T.name, .slice A T.args.length c] 24 (0, 0))) := Lib.hid (by rw [hW1]; exact heap_alloc_new _ _)
  have HR := Lib.hid (right_any T _ W1 (hT.blw hb1))
  obtain ⟨y0, y1, y2, y3⟩ := box4 HBX.out
  have HB1 := Lib.hid hb1; have HT := Lib.hid hT; have HTB := Lib.hid htb; have HL := Lib.hid hl
  obtain ⟨q, hq⟩ : ∃ q, q = rightT T := ⟨_, rfl⟩
  rw [← hq] at HR
  have HQ := Lib.hid hq
  clear hT htb hl hc hm hn hb1 hq
  unfold tyV at HR ⊢
  go_enter Tryd.func22, Tryd.ntmps22
  go_wp2_with fail
  rw [← hW1]
  clear hW1
  refine HR.out.mono ?_
  rintro e w2 ⟨rfl, H2⟩
  have hbx2 := (H2.block _ (lt_blk HBX.out)).trans HBX.out
  have HB2 := Lib.hid (HB1.out.trans (H2.mono HB1.out.size))
  have HBX2 := Lib.hid hbx2
  clear y0 y1 y2 y3 H2 hbx2
  obtain ⟨y0, y1, y2, y3⟩ := box4 HBX2.out
  cases q
  · have HE : Hid (showT T = ([], 120)) := Lib.hid (by unfold showT; rw [← HQ.out]; rfl)
    go_wp2
    go_ret2
    rw [HE.out]
    exact ⟨rfl, HB2.out⟩
  · have HE : Hid (showT T = (sayT T, 0)) := Lib.hid (by unfold showT; rw [← HQ.out]; rfl)
    have HF := Lib.hid ((rightT_iff.1 HQ.out.symm).2)
    obtain ⟨W3, hW3⟩ : ∃ W3, W3 = w2.alloc (.cells #[.pointer none, .slice none 0 0] 72) := ⟨_, rfl⟩
    have hb3 : Below w2.heap.size w2 W3 := by rw [hW3]; exact (Below.refl _ _).alloc (Nat.le_refl _) _
    have hbd : Lib.IsBuilderF 72 5 w2.heap.size w2.heap.size (byteCells []) W3 := .inl ⟨Nat.le_refl _, .slice none 0 0, by rw [hW3]; exact heap_alloc_new _ _, ⟨rfl, .inl ⟨rfl, rfl⟩⟩, by simp [Value.ownBlock]⟩
    have HB3 := Lib.hid (HB2.out.trans (hb3.mono HB2.out.size))
    have HT3 := Lib.hid ((HT.out.blw HB2.out).keep (S' := (· < w2.heap.size)) fun g hg => ⟨hg, hb3.block g hg⟩)
    have HSY := Lib.hid (say_any T HF.out w2.heap.size w2.heap.size _ [] W3 HT3.out hbd hb3.size (HTB.out.keep (HB3.out.block _ HTB.out.size)) (Nat.lt_of_lt_of_le HTB.out.size HB2.out.size) (by have := HL.out HQ.out.symm; simpa using this))
    clear y0 y1 y2 y3
    obtain ⟨y0, y1, y2, y3⟩ := box4 ((hb3.block _ (lt_blk HBX2.out)).trans HBX2.out)
    have HZ3 := Lib.hid hb3
    unfold tyV at HSY
    rw [hW3] at y0 y1 y2 y3
    clear hb3 hbd
    go_wp2_with fail
    rw [← hW3]
    clear hW3 y0 y1 y2 y3
    refine HSY.out.mono ?_
    rintro e w4 ⟨rfl, H4⟩
    rw [List.nil_append] at H4
    have HS4 := Lib.hid H4
    have HST := Lib.hid (Tryd.Builder_String_any_k w2.heap.size w2.heap.size (sayT T) w4 H4.bld H4.le)
    clear H4
    go_wp2_with fail
    refine HST.out.mono ?_
    rintro e w5 ⟨rfl, -, hb5, -⟩
    have HB5 := Lib.hid hb5
    clear hb5
    go_wp2
    go_ret2
    rw [HE.out]
    exact ⟨rfl, (HB2.out.trans (HZ3.out.mono HB2.out.size)).trans ((HS4.out.below.mono HB2.out.size).trans (HB5.out.mono HB2.out.size))⟩
end Go.Proofs.YtbhicpjhijondaaDoor
