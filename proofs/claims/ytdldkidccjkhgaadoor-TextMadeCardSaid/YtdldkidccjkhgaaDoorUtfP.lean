import Derived.Test.YtdldkidccjkhgaaDoorUtf
import Derived.RangeFuncNested
import Derived.RangeFuncBound
import Derived.RangeFuncCalls
import Derived.RangeFuncLeaves
import Derived.RangeFuncFrom
import Derived.Shelf.Abstract
import Derived.OwnWalkIn
import Derived.TacticsInMore
import Derived.LoopNIn
import Derived.LoopIn
namespace Go.Proofs.YtdldkidccjkhgaaDoor
open Go.RowKit Go.Par Go.Shelf
attribute [local go_sem] Oper.semAt_some

/-- the k-th place of a text: bytes, units ahead of it. -/
def plc (rs : List Int) (k : Nat) : Nat × Nat := ((txt (rs.take k)).length, (units (rs.take k)).length)
def plcs (rs : List Int) (n : Nat) : List (Nat × Nat) := (List.range n).map (plc rs)
theorem plcs_succ (rs : List Int) (n : Nat) : plcs rs (n + 1) = plcs rs n ++ [plc rs n] := by simp [plcs, List.range_succ]
theorem plcs_prefix (rs : List Int) {n m : Nat} (h : n ≤ m) : plcs rs n <+: plcs rs m := by
  obtain ⟨d, rfl⟩ := Nat.exists_eq_add_of_le h
  refine ⟨(List.range d).map (fun i => plc rs (n + i)), ?_⟩
  simp [plcs, List.range_add]

abbrev encs (p : Nat × Nat) : Array Value := #[.int .i64 p.1, .int .i64 p.2]

/-- cells and walks stand as they stood. -/
def KeepCW (W W' : World) : Prop := ∀ (k : Nat) (o : Obj), W.heap[k]? = some o → (o.isCells = true ∨ o.isWalk = true) → W'.heap[k]? = some o
theorem keepCW_refl (W : World) : KeepCW W W := fun _ _ h _ => h
theorem keepCW_t {A B C : World} (h : KeepCW A B) (k : KeepCW B C) : KeepCW A C := fun i o hi ho => k i o (h i o hi ho) ho
theorem keepCW_b {n₀ : Nat} (W : World) (l : Nat) (o o' : Obj) (_ : n₀ ≤ l) (h : W.heap[l]? = some o) (h1 : o.isCells = false) (h2 : o.isWalk = false) : KeepCW W (W.putObj l o') := by
  intro k x hk hx
  have hne : k ≠ l := by
    rintro rfl
    rw [h] at hk
    injection hk with hk
    subst hk
    rcases hx with hx | hx
    · rw [h1] at hx; cases hx
    · rw [h2] at hx; cases hx
  have hlt : k < W.heap.size := (Array.getElem?_eq_some_iff.1 hk).1
  exact ((grownBy_putObj' W l o').block k hlt (fun e => hne (by injection e))).trans hk

theorem grown_alloc (w : World) (o : Obj) : w.grownBy (w.alloc o) none := ⟨rfl, rfl, rfl, by simp, fun k hk _ => Below.heap_alloc w o k hk⟩
theorem grown_iterAt (w : World) (k : Nat) (s : ByteArray) (pos : Nat) : w.grownBy (w.iterAt k s pos) (some k) :=
  ⟨rfl, rfl, rfl, by rw [Lib.iterAt_size]; exact Nat.le_refl _, fun j _ hne => Lib.iterAt_other w k j s pos (fun e => hne (by rw [e]))⟩
theorem keepCW_cell {W W' : World} (h : KeepCW W W') {b o : Nat} {v : Value} (hc : W.cell? ⟨b, o, none⟩ = some v) : W'.cell? ⟨b, o, none⟩ = some v := by
  unfold World.cell? at hc ⊢
  cases hh : W.heap[b]? with
  | none => simp [hh] at hc
  | some x =>
    cases x with
    | cells c e f => rw [h b _ hh (.inl rfl)]; simpa [hh] using hc
    | _ => simp [hh] at hc

set_option maxRecDepth 100000 in
set_option maxHeartbeats 2000000 in
theorem places_stops (F : Fence) (n : Nat) (h71 : F.fn 71) (hro : F.round = none) (hn : 1 ≤ n) (Bn : Nat) (s : ByteArray) (rs : List Int) (hs : s.data.toList = txt rs) (ha : AllR rs) (w : World) (hBn : Bn < w.heap.size) (hc : w.cell? ⟨Bn, 0, none⟩ = some (.string s)) (hl : s.size ≤ 100000) :
    SeqStopsK F n Tryd.prog 71 #[.pointer (some ⟨Bn, 0, none⟩)] encs KeepCW (fun xs => xs = plcs rs (rs.length + 1)) (fun pre => pre <+: plcs rs (rs.length + 1)) (rs.length + 1) w := by
  intro l J Jx W hW hJ hJx hY h0
  have HS := Lib.hid hs; clear hs
  have hcW : W.cell? ⟨Bn, 0, none⟩ = some (.string s) := (hW.cell (p := ⟨Bn, 0, none⟩) hBn).trans hc
  refine callsIn_of_wp Tryd.func71 rfl h71 ?_ hro
  simp only [Tryd.ntmps71, List.size_toArray, List.length_cons, List.length_nil, Nat.reduceAdd, Nat.reduceSub, Array.replicate_succ, Array.replicate_zero, List.push_toArray, List.append_toArray, List.nil_append, List.cons_append]
  gi_wp2
  gi_loopw [3, 4, 5] (fun u _ _ wr => ∃ k, k ≤ rs.length ∧ u = .int .i64 (units (rs.take k)).length ∧ wr.heap[W.heap.size]? = some (.stringIter s (txt (rs.take k)).length) ∧ wr.cell? ⟨Bn, 0, none⟩ = some (.string s) ∧ J (plcs rs k) wr) (fun _ _ _ wr => s.size - wr.iterPos W.heap.size)
  case atStart =>
    refine ⟨0, by omega, rfl, World.iter_heap W s 0, ?_, hJ _ _ _ _ h0 (grown_alloc W _) (fun r e => by cases e)⟩
    exact (World.cell?_alloc_lt _ _ _ (World.block_lt_of_cell? _ _ hcW)).trans hcW
  case round =>
    obtain ⟨k, hk, rfl, hit, hcr, hJk⟩ := hrel
    have hsz : W.heap.size < wr.heap.size := (Array.getElem?_eq_some_iff.1 hit).1
    have hul := units_le (rs.take k) (ha.take k)
    have htl : (txt (rs.take k)).length ≤ s.size := by
      rw [txt_size s rs HS.out]
      conv => rhs; rw [← List.take_append_drop k rs, txt_append]
      simp
    by_cases hlt : k < rs.length
    · obtain ⟨m, hrk, hm, hR, hp, hd, hnext⟩ := rune_at s rs HS.out ha k hlt
      have hnx : ∀ ty, (Instr.next (.pointer (some ⟨W.heap.size, 0, none⟩)) true ty).run Tryd.prog wr = _ := fun ty => Lib.run_next_any_at wr (W.heap.size) s _ ty hit hp
      rw [hd] at hnx
      dsimp only at hnx
      rw [hnext] at hnx
      have hit2 := Lib.iterAt_heap wr (W.heap.size) s _ (txt (rs.take (k + 1))).length hit
      have hJ2 := hJ _ _ _ _ hJk (grown_iterAt wr W.heap.size s (txt (rs.take (k + 1))).length) (fun r e => by cases e; exact ⟨Nat.le_refl _, _, hit, rfl⟩)
      have hc2 : (wr.iterAt W.heap.size s (txt (rs.take (k + 1))).length).cell? ⟨Bn, 0, none⟩ = some (.string s) := by
        rw [World.cell?_of_block (w := wr) (Lib.iterAt_other wr _ _ _ _ (by have := hW.size; show Bn ≠ W.heap.size; omega))]; exact hcr
      obtain ⟨fn, tmps, assign, body, hy, hRd⟩ := hY (plcs rs k) (plc rs k) _ hJ2 (by simp [plcs]; omega)
      dsimp only [encs, plc] at hy
      have HIT := Lib.hid hit; clear hit
      have HD := Lib.hid hd; clear hd
      have HN := Lib.hid hnext; clear hnext
      have HK := Lib.hid hrk; clear hrk
      have HI2 := Lib.hid hit2; clear hit2
      gi_wp2
      refine hRd.mono ?_
      rintro e W3 (⟨rfl, hJ3, hk3⟩ | ⟨rfl, hJx3⟩)
      · have hit3 := hk3 _ _ HI2.out (.inr rfl)
        have hc3 := keepCW_cell hk3 hc2
        rw [← plcs_succ] at hJ3
        have hun : (units (rs.take (k + 1))).length = (units (rs.take k)).length + (unitsZ m).length := by
          rw [take_snoc rs k m HK.out, units_append]; simp [units]
        have HUN := Lib.hid hun; clear hun
        by_cases hw : m < 65536
        · have hwi : decide (65536 ≤ (m : Int)) = false := by simp; omega
          have HW := Lib.hid hw; clear hw
          gi_wp2
          go_roundw
          case rel => exact ⟨k + 1, by omega, by rw [HUN.out, unitsZ_len, if_pos (by have := HW.out; omega)]; go_num, hit3, hc3, hJ3⟩
          case measure =>
            have h1 := HN.out
            have h2 := enc_pos m
            simp only [World.iterPos, hit3, HIT.out]
            omega
        · have hwi : decide (65536 ≤ (m : Int)) = true := by simp; omega
          have HW := Lib.hid hw; clear hw
          gi_wp2
          go_roundw
          case rel => exact ⟨k + 1, by omega, by rw [HUN.out, unitsZ_len, if_neg (by have := HW.out; omega)]; go_num, hit3, hc3, hJ3⟩
          case measure =>
            have h1 := HN.out
            have h2 := enc_pos m
            simp only [World.iterPos, hit3, HIT.out]
            omega
      · gi_wp2
        refine bodyPost_ret (results_none rfl _ _ _) rfl ?_
        exact ⟨⟨_, rfl⟩, .inr ⟨_, by rw [← plcs_succ]; exact plcs_prefix rs (by omega), hJx3⟩⟩
    · have hkl : k = rs.length := by omega
      subst hkl
      have hend : ¬ (txt (rs.take rs.length)).length < s.size := by rw [take_all, txt_size s rs HS.out]; omega
      have hnx : ∀ ty, (Instr.next (.pointer (some ⟨W.heap.size, 0, none⟩)) true ty).run Tryd.prog wr = _ := fun ty => Lib.run_next_end_at wr (W.heap.size) s _ ty hit hend
      have HIT := Lib.hid hit; clear hit
      obtain ⟨fn, tmps, assign, body, hy, hRd⟩ := hY (plcs rs rs.length) (plc rs rs.length) _ hJk (by simp [plcs])
      have hss : (txt (rs.take rs.length)).length = s.size := by rw [take_all, txt_size s rs HS.out]
      dsimp only [encs, plc] at hy
      rw [hss, take_all] at hy
      rw [take_all]
      have HSS := Lib.hid hss; clear hss
      gi_wp2
      refine hRd.mono ?_
      rintro e W3 (⟨rfl, hJ3, hk3⟩ | ⟨rfl, hJx3⟩)
      · gi_wp2
        go_end0
        exact ⟨⟨_, rfl⟩, .inl ⟨_, (plcs_succ rs rs.length).symm, hJ3⟩⟩
      · gi_wp2
        go_end0
        exact ⟨⟨_, rfl⟩, .inr ⟨_, by rw [← plcs_succ]; exact plcs_prefix rs (by omega), hJx3⟩⟩

theorem places_any (s : ByteArray) (w : World) :
    Calls Tryd.prog 57 #[.string s] w fun e w' => e = .returned (.func (.func 71) #[] #[.pointer (some ⟨w.heap.size, 0, none⟩)]) ∧ w.alloc (.cells #[.string s] 9) = w' := by
  go_enter Tryd.func57, Tryd.ntmps57
  go_wp2
  go_ret
  exact ⟨rfl, rfl⟩

theorem cell_new_l (w : World) (v : Value) (t : TypeId) : (w.alloc (.cells #[v] t)).cell? ⟨w.heap.size, 0, none⟩ = some v ∧ (w.alloc (.cells #[v] t)).frozen? ⟨w.heap.size, 0, none⟩ = false := by
  constructor
  · rw [World.cell?_alloc_new]; rfl
  · exact World.frozen?_alloc_new w #[v] t 0
theorem cell_alloc_l {w : World} {a : Addr} {v : Value} (o : Obj) (h : w.cell? a = some v) : (w.alloc o).cell? a = some v := (World.cell?_alloc_lt w o a (World.block_lt_of_cell? _ _ h)).trans h
theorem frozen_alloc_l {w : World} {a : Addr} {v : Value} (o : Obj) (h : w.cell? a = some v) (hf : w.frozen? a = false) : (w.alloc o).frozen? a = false := by
  have := World.block_lt_of_cell? _ _ h
  exact (World.frozen?_alloc_old w o a (by omega)).trans hf

theorem two_set (W : World) (a b : Nat) (hab : a ≠ b) (va vb ua ub : Value) (ha : W.cell? ⟨a, 0, none⟩ = some ua) (hb : W.cell? ⟨b, 0, none⟩ = some ub) :
    ((W.setCell ⟨a, 0, none⟩ va).setCell ⟨b, 0, none⟩ vb).cell? ⟨a, 0, none⟩ = some va ∧ ((W.setCell ⟨a, 0, none⟩ va).setCell ⟨b, 0, none⟩ vb).cell? ⟨b, 0, none⟩ = some vb := by
  constructor
  · rw [World.cell?_setCell_other _ _ _ _ (fun e => hab (by injection e with e; exact e.symm))]
    exact World.cell?_setCell_same _ _ _ ha
  · refine World.cell?_setCell_same _ _ _ (u := ub) ?_
    rw [World.cell?_setCell_other _ _ _ _ (fun e => hab (by injection e))]
    exact hb
theorem find_prefix {q : Nat × Nat → Bool} {pre all : List (Nat × Nat)} {x : Nat × Nat} (h : pre <+: all) (hx : pre.find? q = some x) : all.find? q = some x := by
  obtain ⟨t, rfl⟩ := h
  rw [List.find?_append, hx]; rfl

/-- the first place that q tells. -/
def findP (q : Nat × Nat → Bool) (rs : List Int) : Option (Nat × Nat) := (plcs rs (rs.length + 1)).find? q

def NumPost (w : World) (o : Option Nat) (e : Ending) (w' : World) : Prop :=
  (match o with
    | some n => e = .returned (.tuple #[.int .i64 n, .int .i64 0])
    | none => e = .returned (.tuple #[.int .i64 0, .int .i64 70])) ∧ Below w.heap.size w w'
theorem NumPost.good {w w' : World} {o : Option Nat} {n : Nat} (h : o = some n) (hb : Below w.heap.size w w') : NumPost w o (.returned (.tuple #[.int .i64 n, .int .i64 0])) w' := by
  subst h; exact ⟨rfl, hb⟩
theorem NumPost.bad {w w' : World} {o : Option Nat} (h : o = none) (hb : Below w.heap.size w w') : NumPost w o (.returned (.tuple #[.int .i64 0, .int .i64 70])) w' := by
  subst h; exact ⟨rfl, hb⟩

set_option maxRecDepth 100000 in
set_option maxHeartbeats 2000000 in
theorem offset_in (s : ByteArray) (rs : List Int) (hs : s.data.toList = txt rs) (ha : AllR rs) (u : Int) (w : World) (hT : Tabs w) (hl : s.size ≤ 100000) :
    CallsIn Fence.wide 5 Tryd.prog 30 #[.string s, .int .i64 u] w (NumPost w ((findP (fun p => decide ((p.2 : Int) = u)) rs).map (·.1))) := by
  have hv : Lib.validD s.data.toList = true := by rw [hs]; exact validD_of ha
  have HS := Lib.hid hs; clear hs
  have HV := Lib.hid hv; clear hv
  refine callsIn_of_wp_marks Tryd.func30 rfl trivial ?_ rfl
  simp only [Tryd.ntmps30, List.size_toArray, List.length_cons, List.length_nil, Nat.reduceAdd, Nat.reduceSub, Array.replicate_succ, Array.replicate_zero, List.push_toArray, List.append_toArray, List.nil_append, List.cons_append]
  have hT3 : Tabs (((w.alloc (.cells #[.int .i64 u] 3)).alloc (.cells #[.int .i64 0] 3)).alloc (.cells #[.int .i64 0] 24)) := hT.below ((((Below.refl _ w).alloc (Nat.le_refl _) _).alloc (by simp) _).alloc (by simp; omega) _)
  gi_wp2_with (first
    | (refine ⟨trivial, ?_⟩; gi_at_call 52; refine (callsIn_wide.2 (valid_any s _ (by omega) hT3)).mono ?_; rintro e w1 ⟨rfl, hb1⟩; rw [HV.out])
    | (refine ⟨trivial, ?_⟩; gi_at_call 57; refine (callsIn_wide.2 (places_any s _)).mono ?_; rintro e w2 ⟨rfl, rfl⟩))
  have c0 := cell_new_l w (.int .i64 u) 3
  have c1 := cell_new_l (w.alloc (.cells #[.int .i64 u] 3)) (.int .i64 0) 3
  have c2 := cell_new_l ((w.alloc (.cells #[.int .i64 u] 3)).alloc (.cells #[.int .i64 0] 3)) (.int .i64 0) 24
  simp only [World.size_alloc] at c1 c2
  have hz1 : w.heap.size + 1 + 1 + 1 ≤ w1.heap.size := by have := hb1.size; simp at this; omega
  have d0 : w1.cell? ⟨w.heap.size, 0, none⟩ = some (.int .i64 u) := (hb1.cell (p := ⟨w.heap.size, 0, none⟩) (by simp; omega)).trans (cell_alloc_l _ (cell_alloc_l _ c0.1))
  have d1 : w1.cell? ⟨w.heap.size + 1, 0, none⟩ = some (.int .i64 0) := (hb1.cell (p := ⟨w.heap.size + 1, 0, none⟩) (by simp)).trans (cell_alloc_l _ c1.1)
  have d2 : w1.cell? ⟨w.heap.size + 1 + 1, 0, none⟩ = some (.int .i64 0) := (hb1.cell (p := ⟨w.heap.size + 1 + 1, 0, none⟩) (by simp)).trans c2.1
  have g1 : w1.frozen? ⟨w.heap.size + 1, 0, none⟩ = false := (hb1.frozen (p := ⟨w.heap.size + 1, 0, none⟩) (by simp)).trans (frozen_alloc_l _ c1.1 c1.2)
  have g2 : w1.frozen? ⟨w.heap.size + 1 + 1, 0, none⟩ = false := (hb1.frozen (p := ⟨w.heap.size + 1 + 1, 0, none⟩) (by simp)).trans c2.2
  have hbw1 : Below w.heap.size w w1 := ((((Below.refl _ w).alloc (Nat.le_refl _) _).alloc (by simp) _).alloc (by simp; omega) _).trans (hb1.mono (by simp; omega))
  have hB0 : Below w.heap.size w (w1.alloc (.cells #[.string s] 9)) := hbw1.alloc hbw1.size _
  have cs := cell_new_l w1 (.string s) 9
  refine wpIn_rangeFunc_ownF (F := Fence.wide) rfl (by omega) (gf := 71) (lb := #[.pointer (some ⟨w1.heap.size, 0, none⟩)]) rfl trivial (enters_of Tryd.func71 (by kernel_rfl) rfl)
    (places_stops Fence.wide (5 - 1) trivial rfl (by omega) w1.heap.size s rs HS.out ha _ (by simp) cs.1 hl) keepCW_t (fun W l o o' hl => keepCW_b W l o o' hl) (Below.refl _ _) (fun _ => rfl)
    (fun pre W => (pre.find? (fun p => decide ((p.2 : Int) = u)) = none ∧ W.cell? ⟨w.heap.size, 0, none⟩ = some (.int .i64 u) ∧ W.cell? ⟨w.heap.size + 1, 0, none⟩ = some (.int .i64 0) ∧ W.frozen? ⟨w.heap.size + 1, 0, none⟩ = false ∧ W.cell? ⟨w.heap.size + 1 + 1, 0, none⟩ = some (.int .i64 0) ∧ W.frozen? ⟨w.heap.size + 1 + 1, 0, none⟩ = false) ∧ Below w.heap.size w W)
    (fun c pre W => (c = .ret ∧ ∃ x, pre.find? (fun p => decide ((p.2 : Int) = u)) = some x ∧ W.cell? ⟨w.heap.size + 1, 0, none⟩ = some (.int .i64 x.1) ∧ W.cell? ⟨w.heap.size + 1 + 1, 0, none⟩ = some (.int .i64 0)) ∧ Below w.heap.size w W)
    (OwnFrom.and (Go.Own.from (fun s A B row hs hg hr => ⟨hs.1, cell_kept hs.2.1 hg hr, cell_kept hs.2.2.1 hg hr, (frozen_kept hs.2.2.1 hg hr).trans hs.2.2.2.1, cell_kept hs.2.2.2.2.1 hg hr, (frozen_kept hs.2.2.2.2.1 hg hr).trans hs.2.2.2.2.2⟩) _) (ownFrom_below (Nat.le_refl _) (by simp; omega)))
    (fun c => OwnFrom.and (Go.Own.from (fun s A B row hs hg hr => ⟨hs.1, by obtain ⟨x, hx, k1, k2⟩ := hs.2; exact ⟨x, hx, cell_kept k1 hg hr, cell_kept k2 hg hr⟩⟩) _) (ownFrom_below (Nat.le_refl _) (by simp; omega)))
    ⟨⟨rfl, cell_alloc_l _ d0, cell_alloc_l _ d1, frozen_alloc_l _ d1 g1, cell_alloc_l _ d2, frozen_alloc_l _ d2 g2⟩, hB0⟩
    (fun x => { tmps := #[.string s, .int .i64 u, undef, .pointer (some ⟨w.heap.size, 0, none⟩), .pointer (some ⟨w.heap.size + 1, 0, none⟩), .pointer (some ⟨w.heap.size + 1 + 1, 0, none⟩), .int .i64 x.1, .int .i64 x.2, .string s, .bool true, .bool false, .string s, .func (.func 71) #[] #[.pointer (some ⟨w1.heap.size, 0, none⟩)], .int .i64 x.1, .int .i64 x.2, undef, undef, undef, undef], defers := [] }) ?assign ?body ?done ?stop
  case assign =>
    intro l x W K hK
    gi_wp2
    exact hK
  case body =>
    rintro l pre x W ⟨⟨hp, k0, k1, k2, k3, k4⟩, hB⟩ _
    have HP := Lib.hid hp; clear hp
    by_cases hx : (x.2 : Int) = u
    · have hxb : ((x.2 : Int) == u) = true := by simp [hx]
      have HX := Lib.hid hx; clear hx
      gi_wp2
      have ht := two_set W (w.heap.size + 1) (w.heap.size + 1 + 1) (by omega) (.int .i64 x.1) (.int .i64 0) _ _ k1 k3
      exact ⟨(KeepsOthers.setCell _ _ _).trans (KeepsOthers.setCell _ _ _), ⟨rfl, x, by rw [List.find?_append, HP.out]; simp [HX.out], ht.1, ht.2⟩, (hB.setCell (p := ⟨w.heap.size + 1, 0, none⟩) (by simp) _).setCell (p := ⟨w.heap.size + 1 + 1, 0, none⟩) (by simp; omega) _⟩
    · have hxb : ((x.2 : Int) == u) = false := by simp [hx]
      have HX := Lib.hid hx; clear hx
      gi_wp2
      exact ⟨KeepsOthers.refl _, keepCW_refl _, ⟨by rw [List.find?_append, HP.out]; simp [HX.out], k0, k1, k2, k3, k4⟩, hB⟩
  case done =>
    rintro D ys W hD rfl ⟨⟨hne, k0, k1, k2, k3, k4⟩, hB⟩ hK
    have HN := Lib.hid hne; clear hne
    gi_wp2
    have hK' := ((KeepsOthers.setCell W ⟨w.heap.size + 1, 0, none⟩ (.int .i64 0)).trans (KeepsOthers.setCell _ ⟨w.heap.size + 1 + 1, 0, none⟩ (.int .i64 70))).same D _ hK rfl
    have ht := two_set W (w.heap.size + 1) (w.heap.size + 1 + 1) (by omega) (.int .i64 0) (.int .i64 70) _ _ k1 k3
    have e1 := cell_kept ht.1 (grownBy_putObj' _ D (.deferred none)) (fun r e => by cases e; exact ⟨_, hK', rfl⟩)
    have e2 := cell_kept ht.2 (grownBy_putObj' _ D (.deferred none)) (fun r e => by cases e; exact ⟨_, hK', rfl⟩)
    refine ⟨by simp, .inl ⟨_, _, rfl, run_takeDeferred hK', ?_⟩⟩
    refine ⟨.tuple #[.int .i64 0, .int .i64 70], ?_, NumPost.bad ?_ (((hB.setCell (p := ⟨w.heap.size + 1, 0, none⟩) (by simp) _).setCell (p := ⟨w.heap.size + 1 + 1, 0, none⟩) (by simp; omega) _).trans (belowK_b (w := w) (Nat.le_refl _) _ D _ _ (by simp at hD; omega) hK' rfl rfl))⟩
    · simp [results, Tryd.f30, go_sem, e1, e2]
    · have : findP (fun p => decide ((p.2 : Int) = u)) rs = none := HN.out
      rw [this]; rfl
  case stop =>
    rintro D c pre W hD hpre ⟨⟨rfl, x, hx, k1, k2⟩, hB⟩ hK
    have HX := Lib.hid hx; clear hx
    gi_wp2
    have e1 := cell_kept k1 (grownBy_putObj' _ D (.deferred none)) (fun r e => by cases e; exact ⟨_, hK, rfl⟩)
    have e2 := cell_kept k2 (grownBy_putObj' _ D (.deferred none)) (fun r e => by cases e; exact ⟨_, hK, rfl⟩)
    refine ⟨by simp, .inl ⟨_, _, rfl, run_takeDeferred hK, ?_⟩⟩
    refine ⟨.tuple #[.int .i64 x.1, .int .i64 0], ?_, NumPost.good ?_ (hB.trans (belowK_b (w := w) (Nat.le_refl _) W D _ _ (by simp at hD; omega) hK rfl rfl))⟩
    · simp [results, Tryd.f30, go_sem, e1, e2]
    · have : findP (fun p => decide ((p.2 : Int) = u)) rs = some x := find_prefix hpre HX.out
      rw [this]; rfl
end Go.Proofs.YtdldkidccjkhgaaDoor
