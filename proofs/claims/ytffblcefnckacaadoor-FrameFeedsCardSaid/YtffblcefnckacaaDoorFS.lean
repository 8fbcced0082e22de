/- The iterator over the lines of bytes. -/
import Derived.Test.YtffblcefnckacaaDoorFN
import Derived.Test.YtffblcefnckacaaDoorFR
namespace Go.Proofs.YtffblcefnckacaaDoor
open Go.RowKit Go.Lib Go.Vfs Go.Par Go.Frm Go.Shelf
set_option linter.unusedVariables false
set_option linter.unusedSimpArgs false
attribute [local go_sem] Oper.semAt_some

/-- a line in memory. -/
abbrev Ln := Option Addr × Nat × List UInt8
def encL (x : Ln) : Array Value := #[.slice x.1 x.2.2.length x.2.1]
def CL (K : Nat → Prop) (L : Nat) (x : Ln) (W : World) : Prop := SegS K W (.slice x.1 x.2.2.length x.2.1) (byteCells x.2.2) ∧ (x.1 = none → x.2.1 = 0) ∧ x.2.2.length ≤ L
/-- what the caller keeps. -/
def KpL (K : Nat → Prop) (W W' : World) : Prop := W.heap.size ≤ W'.heap.size ∧ ∀ k, K k → W'.heap[k]? = W.heap[k]?
theorem KpL.t {K : Nat → Prop} {A B C : World} (h : KpL K A B) (k : KpL K B C) : KpL K A C := ⟨Nat.le_trans h.1 k.1, fun i hi => (k.2 i hi).trans (h.2 i hi)⟩

theorem seg_front {S : Nat → Prop} {w : World} {A : Option Addr} {n c : Nat} {l : List UInt8} (h : SegS S w (.slice A n c) (byteCells l)) (hn : n = l.length) (k : Nat) (hk : k ≤ n) : k ≤ c ∧ SegS S w (.slice A k c) (byteCells (l.take k)) := by
  subst hn
  obtain ⟨A1, c1, e, h2, h3, h4⟩ := h
  injection e with e1 e2 e3
  subst e1 e3
  rw [byteCells_length] at h2 h4
  have hl : (l.take k).length = k := by simp; omega
  refine ⟨by omega, A, c, by rw [byteCells_length, hl], by rw [byteCells_length, hl]; omega, h3, fun hp => ?_⟩
  rw [byteCells_length, hl] at hp
  obtain ⟨b, off, e, hb, hc⟩ := h4 (by omega)
  refine ⟨b, off, e, hb, fun i hi => ?_⟩
  rw [byteCells_length, hl] at hi
  rw [hc i (by omega)]
  simp only [byteCells, List.getElem?_map, List.getElem?_take]
  rw [if_pos (by omega)]
theorem seg_from {S : Nat → Prop} {w : World} {A : Option Addr} {n c : Nat} {l : List UInt8} (h : SegS S w (.slice A n c) (byteCells l)) (hn : n = l.length) (k : Nat) (hk : k ≤ n) (hnil : A = none → c = 0) :
    ∃ A2, fromV A n c k = .slice A2 (l.drop k).length (c - k) ∧ SegS S w (.slice A2 (l.drop k).length (c - k)) (byteCells (l.drop k)) ∧ (A2 = none → c - k = 0) := by
  subst hn
  obtain ⟨A1, c1, e, h2, h3, h4⟩ := h
  injection e with e1 e2 e3
  subst e1 e3
  rw [byteCells_length] at h2 h4
  refine ⟨_, by unfold fromV; rw [List.length_drop], ?_, ?_⟩
  · refine ⟨_, c - k, by rw [byteCells_length], by rw [byteCells_length, List.length_drop]; omega, by unfold maxLen at h3 ⊢; omega, fun hp => ?_⟩
    rw [byteCells_length, List.length_drop] at hp
    obtain ⟨b, off, rfl, hb, hc⟩ := h4 (by omega)
    refine ⟨b, off + k, by rw [if_neg (by omega), Option.map_some, add_addr], hb, fun i hi => ?_⟩
    rw [byteCells_length, List.length_drop] at hi
    rw [show off + k + i = off + (k + i) by omega, hc (k + i) (by omega)]
    simp only [byteCells, List.getElem?_map, List.getElem?_drop]
  · intro hA
    by_cases hck : c = k
    · omega
    · rw [if_neg hck] at hA
      cases A with
      | none => have := hnil rfl; omega
      | some a => cases hA

theorem one_cellJ {W : World} {b : Nat} {u0 : Value} {t : TypeId} (h : W.heap[b]? = some (.cells #[u0] t (0, 0))) : W.cell? ⟨b, 0, none⟩ = some u0 ∧ W.frozen? ⟨b, 0, none⟩ = false := by
  simp [World.cell?, World.frozen?, h]
theorem one_setJ {w : World} {b : Nat} {u x : Value} {t : TypeId} (h : w.heap[b]? = some (.cells #[u] t (0, 0))) : (w.setCell ⟨b, 0, none⟩ x).heap[b]? = some (.cells #[x] t (0, 0)) := by
  have hlt := lt_of_block h
  have h' : w.heap[b] = .cells #[u] t (0, 0) := by simpa [Array.getElem?_eq_getElem hlt] using h
  show (w.heap.modify b _)[b]? = _
  rw [Array.getElem?_eq_getElem (by simpa using hlt), Array.getElem_modify_self, h']
  rfl
theorem setCell_block {w : World} {a : Addr} {x : Value} {k : Nat} (h : k ≠ a.block) : (w.setCell a x).heap[k]? = w.heap[k]? := Below.heap_setCell _ _ _ _ h
/-- the iterator's state: the box holds b1, what is left. -/
structure LnI (K : Nat → Prop) (Bn : Nat) (b : List UInt8) (J : List Ln → World → Prop) (W : World) (pre : List Ln) (A1 : Option Addr) (c1 : Nat) (b1 : List UInt8) (wr : World) : Prop where
  box : wr.heap[Bn]? = some (.cells #[.slice A1 b1.length c1] 22 (0, 0))
  seg : SegS (fun k => K k ∧ k ≠ Bn) wr (.slice A1 b1.length c1) (byteCells b1)
  nil : A1 = none → c1 = 0
  ends : b1 = [] ∨ EndsLn b1
  len : pre.length + b1.length ≤ b.length
  lns : lines b = pre.map (·.2.2) ++ lines b1
  size : W.heap.size ≤ wr.heap.size
  old : ∀ k, K k → k ≠ Bn → wr.heap[k]? = W.heap[k]?
  j : J pre wr
def boxLen (Bn : Nat) (w : World) : Nat := match w.cell? ⟨Bn, 0, none⟩ with
  | some (.slice _ n _) => n
  | _ => 0

set_option maxRecDepth 100000 in
set_option maxHeartbeats 1000000 in
theorem lines_told (w : World) (Bn : Nat) (A : Option Addr) (c : Nat) (b : List UInt8) (K : Nat → Prop) (m : Int) (hK0 : K 0) (hKB : K Bn) (hKlt : ∀ k, K k → k < w.heap.size) (hB0 : Bn ≠ 0)
    (hbox : w.heap[Bn]? = some (.cells #[.slice A b.length c] 22 (0, 0))) (hseg : SegS (fun k => K k ∧ k ≠ Bn) w (.slice A b.length c) (byteCells b)) (hnil : A = none → c = 0)
    (hb : b = [] ∨ EndsLn b) (hl : b.length ≤ 4294967280) (hm : w.cell? ⟨0, 0, none⟩ = some (.int .i64 m)) :
    SeqTold Fence.wide 6 Tryd.prog 55 #[.pointer (some ⟨Bn, 0, none⟩)] encL (CL (fun k => K k ∧ k ≠ Bn) b.length) (fun _ => True) (KpL K) (Kept (· = Bn)) (fun ys => ys.map (·.2.2) = lines b) (fun pre => pre.map (·.2.2) <+: lines b) (b.length + 1) w := by
  intro l J Jx W hW hJ hJx hJR hY h0
  have hKW : ∀ k, K k → W.heap[k]? = w.heap[k]? := fun k hk => hW.block k (hKlt k hk)
  have HI0 : Hid (LnI K Bn b J W [] A c b W) := Lib.hid ⟨(hKW Bn hKB).trans hbox, hseg.keep fun k hk => ⟨hk, hKW k hk.1⟩, hnil, hb, by simp, rfl, Nat.le_refl _, fun _ _ _ => rfl, h0⟩
  have HM : Hid (W.cell? ⟨0, 0, none⟩ = some (.int .i64 m)) := Lib.hid ((hW.cell (p := ⟨0, 0, none⟩) (hKlt 0 hK0)).trans hm)
  have HK : Hid (∀ k, K k → k < W.heap.size) := Lib.hid fun k hk => Nat.lt_of_lt_of_le (hKlt k hk) hW.size
  have HJ := Lib.hid hJ; have HY := Lib.hid hY; have HJR := Lib.hid hJR
  clear hW hKW hKlt hbox hseg hnil hb hm hJ hY hJR h0 hJx
  have hcv := fun (W : World) => Lib.run_convert_bytes_const (P := Tryd.prog) W 22 5 #[Value.int IntKind.u8 13, Value.int IntKind.u8 10] 2 2 Tryd.underlying22 Tryd.underlying5
  have hf39 : Fence.wide.fn 39 := trivial
  refine callsIn_of_wp Tryd.func55 rfl trivial ?_ rfl
  simp only [Tryd.ntmps55, List.size_toArray, List.length_cons, List.length_nil, Nat.reduceAdd, Nat.reduceSub, Array.replicate_succ, Array.replicate_zero, List.push_toArray, List.append_toArray, List.nil_append, List.cons_append]
  gi_wp2
  gi_loopw [3, 4, 5] (fun _ _ _ wr => ∃ (A1 : Option Addr) (c1 : Nat) (b1 : List UInt8) (pre : List Ln), LnI K Bn b J W pre A1 c1 b1 wr) (fun _ _ _ wr => boxLen Bn wr)
  case atStart => exact ⟨A, c, b, [], HI0.out⟩
  case round =>
    obtain ⟨A1, c1, b1, pre, hI⟩ := hrel
    have cB : wr.cell? ⟨Bn, 0, none⟩ = some (.slice A1 b1.length c1) := by simp [World.cell?, hI.box]
    have HI := Lib.hid hI; clear hI
    by_cases h0 : b1 = []
    · subst h0
      have hE : pre.map (·.2.2) = lines b := by have := HI.out.lns; rw [lines_nil, List.append_nil] at this; exact this.symm
      have HE := Lib.hid hE; clear hE
      gi_wp2
      go_end0
      exact ⟨⟨_, rfl⟩, .inl ⟨pre, HE.out, HI.out.j⟩⟩
    · have hpos := List.length_pos_iff.2 h0
      have hEn : EndsLn b1 := by rcases HI.out.ends with h | h; exact absurd h h0; exact h
      obtain ⟨t, ht⟩ := hEn
      have hel := eol_ends t
      rw [← ht] at hel
      obtain ⟨he2, hends⟩ := hel
      have hix := eol_index b1
      rw [if_pos (by
        cases hq : ([13, 10] : List UInt8).isPrefixOf (b1.drop (eol b1)) with
        | true => rfl
        | false => have := eol_none hq; omega)] at hix
      obtain ⟨E, hE⟩ : ∃ E, E = eol b1 := ⟨_, rfl⟩
      rw [← hE] at he2 hends hix
      have hbs : Bn < wr.heap.size := lt_of_block HI.out.box
      have hz : 0 < wr.heap.size := by have := HI.out.size; have := HK.out 0 hK0; omega
      have hb1 : Below wr.heap.size wr (wr.alloc (Obj.cells #[Value.int IntKind.u8 13, Value.int IntKind.u8 10] 5 (2, 3))) := (Below.refl _ wr).alloc (Nat.le_refl _) _
      have hm1 : wr.cell? ⟨0, 0, none⟩ = some (.int .i64 m) := (World.cell?_of_block (a := ⟨0, 0, none⟩) (HI.out.old 0 hK0 (Ne.symm hB0))).trans HM.out
      have hKr : ∀ k, K k → k < wr.heap.size := fun k hk => Nat.lt_of_lt_of_le (HK.out k hk) HI.out.size
      have hlen := HI.out.len
      have hcut := cut_seg A1 (some ⟨wr.heap.size, 0, none⟩) c1 2 b1 [13, 10] (wr.heap.size + 1) (wr.alloc (Obj.cells #[Value.int IntKind.u8 13, Value.int IntKind.u8 10] 5 (2, 3))) m
        (((HI.out.seg.seg (fun k hk => hKr k hk.1)).below hb1).more (by omega)) (Seg.lit wr 5 (2, 3) _ (Lib.byteCells [13, 10]) rfl (by simp [maxLen, Lib.byteCells])) HI.out.nil (by omega) ((hb1.cell (p := ⟨0, 0, none⟩) hz).trans hm1)
      rw [hix] at hcut
      have hcv2 : Lib.cutV A1 b1.length c1 ([13, 10] : List UInt8).length (E : Int) = .tuple #[.slice A1 E c1, fromV A1 b1.length c1 (E + 2), .bool true] := by
        unfold Lib.cutV
        rw [if_pos (by omega)]
        simp
      rw [hcv2] at hcut
      obtain ⟨-, hsf⟩ := seg_front HI.out.seg rfl E (by omega)
      obtain ⟨A2, e2, hsr, hnil2⟩ := seg_from HI.out.seg rfl (E + 2) (by omega) HI.out.nil
      rw [e2] at hcut
      have HCUT := Lib.hid hcut
      have HSF := Lib.hid hsf; have HSR := Lib.hid hsr; have HNIL := Lib.hid hnil2; have HB1 := Lib.hid hb1; have HENDS := Lib.hid hends; have HKR := Lib.hid hKr
      have HLNS : Hid (lines b = (pre.map (·.2.2) ++ [b1.take E]) ++ lines (b1.drop (E + 2))) := Lib.hid (by rw [HI.out.lns, lines_cons h0, ← hE]; simp)
      clear hcut hsf hsr hnil2 hb1 hends hKr hix hcv2 e2 hm1 ht t hE
      gi_wp2_with (gi_at_call 39; refine (callsIn_wide.2 HCUT.out).mono ?_; rintro e w2 ⟨rfl, q, rfl⟩)
      obtain ⟨W2, hW2⟩ : ∃ W2, W2 = (wr.alloc (Obj.cells #[Value.int IntKind.u8 13, Value.int IntKind.u8 10] 5 (2, 3))).drewN q := ⟨_, rfl⟩
      have hb2 : Below wr.heap.size wr W2 := by rw [hW2]; exact below_drewN HB1.out q
      rw [← hW2]
      clear hW2
      have hJ2 : J pre W2 := HJ.out _ _ _ HI.out.j (Kept.of_below hb2)
      have hl1 : (b1.take E).length = E := by rw [List.length_take]; omega
      have hC : CL (fun k => K k ∧ k ≠ Bn) b.length (A1, c1, b1.take E) W2 := by
        refine ⟨?_, HI.out.nil, by dsimp only; omega⟩
        dsimp only
        rw [hl1]
        exact HSF.out.keep fun k hk => ⟨hk, hb2.block k (HKR.out k hk.1)⟩
      obtain ⟨fn, tmps, assign, body, hy, hR⟩ := HY.out pre (A1, c1, b1.take E) W2 hJ2 hC (by omega)
      dsimp only [encL] at hy
      rw [hl1] at hy
      rw [hy, Oper.uponIn_round]
      refine ⟨(fun h => by cases h), ?_⟩
      refine hR.mono ?_
      rintro e W3 (⟨rfl, hJ3, hk3⟩ | ⟨rfl, hJx3⟩)
      · have h3B : W3.heap[Bn]? = some (.cells #[.slice A1 b1.length c1] 22 (0, 0)) := (hk3.2 Bn hKB).trans ((hb2.block Bn hbs).trans HI.out.box)
        obtain ⟨c3, f3⟩ := one_cellJ h3B
        have hz3 : wr.heap.size ≤ W3.heap.size := Nat.le_trans hb2.size hk3.1
        have hl2 : (b1.drop (E + 2)).length = b1.length - (E + 2) := by rw [List.length_drop]
        have hI3 : LnI K Bn b J W (pre ++ [(A1, c1, b1.take E)]) A2 (c1 - (E + 2)) (b1.drop (E + 2)) (W3.setCell ⟨Bn, 0, none⟩ (.slice A2 (b1.length - (E + 2)) (c1 - (E + 2)))) := by
          refine ⟨?_, ?_, HNIL.out, HENDS.out, ?_, ?_, ?_, fun k hk hn => ?_, ?_⟩
          · rw [hl2]; exact one_setJ h3B
          · exact HSR.out.keep fun k hk => ⟨hk, by rw [setCell_block hk.2, hk3.2 k hk.1, hb2.block k (HKR.out k hk.1)]⟩
          · rw [hl2]; simp; omega
          · rw [HLNS.out]; simp
          · have := HI.out.size; simp; omega
          · rw [setCell_block hn, hk3.2 k hk, hb2.block k (HKR.out k hk), HI.out.old k hk hn]
          · exact HJ.out _ _ _ hJ3 (Kept.setCell (F := fun x => x = Bn) (p := ⟨Bn, 0, none⟩) (Kept.refl _ _) (.inl rfl) _)
        have HI3 := Lib.hid hI3
        have c4 := (one_cellJ hI3.box).1
        rw [hl2] at c4
        have HM4 : Hid (boxLen Bn (W3.setCell ⟨Bn, 0, none⟩ (.slice A2 (b1.length - (E + 2)) (c1 - (E + 2)))) < boxLen Bn wr) := Lib.hid (by
          unfold boxLen
          rw [c4, cB]
          show b1.length - (E + 2) < b1.length
          omega)
        clear hJ3 hk3 hy hR hJ2 hC hb2 hI3 c4 h3B
        gi_wp2
        go_roundw
        case rel => exact ⟨A2, _, _, _, HI3.out⟩
        case measure => exact HM4.out
      · clear hy hR
        gi_wp2
        refine bodyPost_ret (results_none rfl _ _ _) rfl ?_
        exact ⟨⟨_, rfl⟩, .inr ⟨_, by rw [HLNS.out, List.map_append]; exact List.prefix_append _ _, hJx3⟩⟩
end Go.Proofs.YtffblcefnckacaaDoor
