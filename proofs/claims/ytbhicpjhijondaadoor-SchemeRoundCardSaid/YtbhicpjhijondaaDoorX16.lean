/- The reader of scheme: take, number, name. -/
import Derived.Test.YtbhicpjhijondaaDoorX12
import Derived.BigRegion
namespace Go.Proofs.YtbhicpjhijondaaDoor
open Go.RowKit Go.Lib Go.Vfs Go.Par Go.Typ Go.Shelf
set_option linter.unusedVariables false
set_option linter.unusedSimpArgs false

theorem slice_lhB (A : Option Addr) (n c l h : Nat) (w : World) (hlh : l ≤ h) (hh : h ≤ c) : (Instr.slice 47 (.slice A n c) (some (.int .i64 (l : Int))) (some (.int .i64 (h : Int))) none).run Tryd.prog w = .ok (sliced A l h c 1) w := by
  have ht' : Tryd.prog.underlying 47 = some (.slice (Tryd.prog.elem 47)) := by simp [Program.elem, Tryd.underlying47]
  have he : Tryd.prog.elem 47 = 5 := by simp [Program.elem, Tryd.underlying47]
  rw [run_slice_lh w 47 _ _ _ ht' .i64 .i64 _ _ (by omega) (by omega) (by omega), he, Tryd.sizeOf5]
  simp [Result.andThen]
theorem seg_sub {w : World} {B : Nat} {A : Option Addr} {c : Nat} {b : List UInt8} (hs : Seg w B (.slice A b.length c) (byteCells b)) (l h : Nat) (hlh : l ≤ h) (hh : h ≤ b.length) :
    h ≤ c ∧ ∃ A2 c2, sliced A l h c 1 = .slice A2 (h - l) c2 ∧ Seg w B (.slice A2 (h - l) c2) (byteCells ((b.drop l).take (h - l))) := by
  obtain ⟨A0, c0, e, h2, h3, h4⟩ := hs
  rw [byteCells_length] at e h2 h4
  injection e with e1 _ e3
  subst e1 e3
  have hl : ((b.drop l).take (h - l)).length = h - l := by simp; omega
  refine ⟨by omega, _, _, rfl, _, _, by rw [byteCells_length, hl], by rw [byteCells_length, hl]; omega, by omega, fun hp => ?_⟩
  rw [byteCells_length, hl] at hp
  obtain ⟨g, off, e, hb, hc⟩ := h4 (by omega)
  rw [e, if_neg (by omega)]
  refine ⟨g, off + l * 1, by simp [Addr.add], hb, fun i hi => ?_⟩
  rw [byteCells_length, hl] at hi
  rw [show off + l * 1 + i = off + (l + i) by omega, hc (l + i) (by omega)]
  unfold byteCells
  rw [List.getElem?_map, List.getElem?_map, List.getElem?_take, if_pos (by omega), List.getElem?_drop]
theorem conv_segB {w : World} {B : Nat} {v : Value} {l : List UInt8} (h : Seg w B v (Lib.byteCells l)) : (convert 47 9 v).run Tryd.prog w = .ok (.string ⟨l.toArray⟩) w := by
  obtain ⟨A, c, rfl, hc, hm, hat⟩ := h
  rw [Lib.byteCells_length] at hat ⊢
  rcases A with _ | a
  · have h0 : l.length = 0 := by
      rcases Nat.eq_zero_or_pos l.length with h | h
      · exact h
      · obtain ⟨_, _, e, _⟩ := hat h; cases e
    have : l = [] := List.eq_nil_of_length_eq_zero h0
    subst this
    rw [List.length_nil, run_convert_bytes_string _ 47 9 5 none 0 c Tryd.underlying47 Tryd.underlying5 Tryd.underlying9]
    rfl
  · refine run_convert_bytes_back (P := Tryd.prog) w 47 9 5 a c l Tryd.underlying47 Tryd.underlying5 Tryd.underlying9 (fun j hj => ?_)
    obtain ⟨b, off, e, _, hcell⟩ := hat (by omega)
    cases e
    rw [add_addr, hcell j hj]
    simp [Lib.byteCells, hj]

/-- the reader's block. -/
def srO (v : Value) (a : Nat) (q : Int) (bad : Bool) : Obj := .cells #[v, .int .i64 a, .int .i64 q, .bool bad] 96 (0, 0)
/-- a reader of these bytes in memory. -/
structure SR (L : List UInt8) (B p : Nat) (v : Value) (a : Nat) (q : Int) (bad : Bool) (W : World) : Prop where
  blk : W.heap[p]? = some (srO v a q bad)
  seg : Seg W B v (byteCells L)
  low : B ≤ p
  at_ : a ≤ L.length
section
variable {L : List UInt8} {B p : Nat} {v : Value} {a : Nat} {q : Int} {bad : Bool} {W W' : World}
theorem SR.cells (h : SR L B p v a q bad W) : (W.cell? ⟨p, 0, none⟩ = some v ∧ W.cell? ⟨p, 1, none⟩ = some (.int .i64 a) ∧ W.cell? ⟨p, 2, none⟩ = some (.int .i64 q) ∧ W.cell? ⟨p, 3, none⟩ = some (.bool bad)) := box4 h.blk
theorem SR.frozen (h : SR L B p v a q bad W) : (W.frozen? ⟨p, 0, none⟩ = false ∧ W.frozen? ⟨p, 1, none⟩ = false ∧ W.frozen? ⟨p, 2, none⟩ = false ∧ W.frozen? ⟨p, 3, none⟩ = false) := box4_frozen h.blk
theorem SR.lt (h : SR L B p v a q bad W) : p < W.heap.size := lt_blk h.blk
theorem SR.keep (h : SR L B p v a q bad W) (hk : ∀ g, g ≤ p → W'.heap[g]? = W.heap[g]?) : SR L B p v a q bad W' :=
  ⟨(hk p (Nat.le_refl _)).trans h.blk, h.seg.keep fun b o hb => World.cell?_of_block (w := W) (a := ⟨b, o, none⟩) (hk b (by have := h.low; omega)), h.low, h.at_⟩
theorem SR.drewN (h : SR L B p v a q bad W) (n : Nat) : SR L B p v a q bad (W.drewN n) := h.keep fun _ _ => rfl
theorem SR.put (h : SR L B p v a q bad W) {i : Nat} {x : Value} {a' : Nat} {q' : Int} {bad' : Bool} (ha : a' ≤ L.length)
    (hb : (W.setCell ⟨p, i, none⟩ x).heap[p]? = some (srO v a' q' bad')) : SR L B p v a' q' bad' (W.setCell ⟨p, i, none⟩ x) :=
  ⟨hb, h.seg.keep fun b o hb => World.cell?_of_block (w := W) (a := ⟨b, o, none⟩) (Below.heap_setCell _ _ _ _ (by have := h.low; show b ≠ p; omega)), h.low, ha⟩
theorem SR.setAt (h : SR L B p v a q bad W) {a' : Nat} (ha : a' ≤ L.length) : SR L B p v a' q bad (W.setCell ⟨p, 1, none⟩ (.int .i64 a')) :=
  h.put ha (by simpa [srO] using cells_put h.blk 1 (.int .i64 a'))
theorem SR.setParts (h : SR L B p v a q bad W) (q' : Int) : SR L B p v a q' bad (W.setCell ⟨p, 2, none⟩ (.int .i64 q')) :=
  h.put h.at_ (by simpa [srO] using cells_put h.blk 2 (.int .i64 q'))
theorem SR.setBad (h : SR L B p v a q bad W) (bad' : Bool) : SR L B p v a q bad' (W.setCell ⟨p, 3, none⟩ (.bool bad')) :=
  h.put h.at_ (by simpa [srO] using cells_put h.blk 3 (.bool bad'))
end
theorem setp_kept {p i : Nat} {w W : World} (h : Kept (· = p) w W) (x : Value) : Kept (· = p) w (W.setCell ⟨p, i, none⟩ x) :=
  Kept.setCell (F := (· = p)) (p := ⟨p, i, none⟩) h (.inl rfl) x

set_option maxRecDepth 20000 in
set_option maxHeartbeats 2000000 in
theorem take_bad (L : List UInt8) (B p : Nat) (v : Value) (a n : Nat) (q : Int) (bad : Bool) (w : World) (h : SR L B p v a q bad w) (hn : n ≤ 255) (hb : bad = true ∨ L.length < a + n) :
    Calls Tryd.prog 97 #[.pointer (some ⟨p, 0, none⟩), .int .i64 n] w fun e w' => e = .returned (.slice none 0 0) ∧ SR L B p v a q true w' ∧ Kept (· = p) w w' := by
  obtain ⟨A, c, rfl, hc, hm, _⟩ := h.seg.open_bytes
  obtain ⟨y0, y1, y2, y3⟩ := h.cells
  obtain ⟨q0, q1, q2, q3⟩ := h.frozen
  have ha := h.at_
  have HH := Lib.hid h
  clear h
  cases bad with
  | true =>
    clear hb
    go_enter Tryd.func97, Tryd.ntmps97
    go_wp2
    go_quiet (fail)
    go_wp2
    go_ret
    exact ⟨rfl, (HH.out.drewN _).setBad true, setp_kept ((Kept.refl _ _).drewN _) _⟩
  | false =>
    have hg : L.length < a + n := by simpa using hb
    have hd : ((L.length : Int) - (a : Int) < (n : Int)) := by omega
    clear hb
    go_enter Tryd.func97, Tryd.ntmps97
    go_wp2
    go_quiet (fail)
    go_wp2
    go_ret
    exact ⟨rfl, (HH.out.drewN _).setBad true, setp_kept ((Kept.refl _ _).drewN _) _⟩

set_option maxRecDepth 20000 in
set_option maxHeartbeats 2000000 in
theorem take_ok (L : List UInt8) (B p : Nat) (v : Value) (a n : Nat) (q : Int) (w : World) (h : SR L B p v a q false w) (hn : n ≤ 255) (hb : a + n ≤ L.length) :
    Calls Tryd.prog 97 #[.pointer (some ⟨p, 0, none⟩), .int .i64 n] w fun e w' => ∃ u, e = .returned u ∧ Seg w' B u (byteCells ((L.drop a).take n)) ∧ SR L B p v (a + n) q false w' ∧ Kept (· = p) w w' := by
  obtain ⟨A, c, rfl, hc, hm, _⟩ := h.seg.open_bytes
  obtain ⟨hc2, A2, c2, hsl, hsg⟩ := seg_sub h.seg a (a + n) (by omega) hb
  have hrun := fun w' => slice_lhB A L.length c a (a + n) w' (by omega) hc2
  rw [hsl] at hrun
  rw [Nat.add_sub_cancel_left] at hrun hsg
  obtain ⟨y0, y1, y2, y3⟩ := h.cells
  obtain ⟨q0, q1, q2, q3⟩ := h.frozen
  have hcast : ((a + n : Nat) : Int) = (a : Int) + (n : Int) := by omega
  have hdf : (a : Int) + (n : Int) - (n : Int) = (a : Int) := by omega
  have hnd : ¬ ((L.length : Int) - (a : Int) < (n : Int)) := by omega
  have hb64 : L.length ≤ 9223372036854775807 := by omega
  have HH := Lib.hid h; have HSG := Lib.hid hsg; have HSL := Lib.hid hsl; have HRUN := Lib.hid hrun; have HC := Lib.hid hcast
  clear hsg hsl h hrun hcast
  go_enter Tryd.func97, Tryd.ntmps97
  go_wp2
  go_quiet (fail)
  go_wp2
  obtain ⟨W1, hW1⟩ : ∃ W1, W1 = (w.drewN nq).setCell ⟨p, 1, none⟩ (.int .i64 ((a : Int) + (n : Int))) := ⟨_, rfl⟩
  rw [← hW1]
  have hs1 : SR L B p (.slice A L.length c) (a + n) q false W1 := by rw [hW1, ← HC.out]; exact (HH.out.drewN nq).setAt hb
  have hk1 : Kept (· = p) w W1 := by rw [hW1]; exact setp_kept ((Kept.refl _ _).drewN nq) _
  have hsg1 : Seg W1 B (sliced A a (a + n) c 1) (byteCells ((L.drop a).take n)) := by
    rw [HSL.out, Nat.add_sub_cancel_left]
    exact HSG.out.keep fun b o hb => by
      rw [hW1]; exact World.cell?_of_block (w := w) (a := ⟨b, o, none⟩) (Below.heap_setCell (w.drewN nq) _ _ _ (by have := HH.out.low; show b ≠ p; omega))
  obtain ⟨x0, x1, x2, x3⟩ := hs1.cells
  rw [HC.out] at x1
  have HE : Hid (((c = a → Seg W1 B (.slice A n 0) (byteCells ((L.drop a).take n))) ∧ (¬ c = a → Seg W1 B (.slice (A.map (·.add a)) n (c - a)) (byteCells ((L.drop a).take n)))) ∧ SR L B p (.slice A L.length c) (a + n) q false W1 ∧ Kept (· = p) w W1) := Lib.hid ⟨⟨fun e => by subst e; simpa [sliced] using hsg1, fun e => by simpa [sliced, e] using hsg1⟩, hs1, hk1⟩
  clear y0 y1 y2 y3 q0 q1 q2 q3 hW1 hs1 hk1 hsg1
  go_region
  go_wp2
  · go_ret
    have e : c = a := by assumption
    have h2 := HE.out.2.1
    rw [e] at h2
    exact ⟨_, rfl, (HE.out.1.1 e).drewN 1, h2.drewN 1, HE.out.2.2.drewN 1⟩
  · go_ret
    exact ⟨_, rfl, (HE.out.1.2 (by assumption)).drewN 1, HE.out.2.1.drewN 1, HE.out.2.2.drewN 1⟩


end Go.Proofs.YtbhicpjhijondaaDoor
namespace Go.Typ
/-- the number of so many bytes. -/
def numB (l : List UInt8) : Nat := l.foldl (fun s x => s * 256 + x.toNat) 0
theorem numB_lt : ∀ l : List UInt8, numB l < 256 ^ l.length := by
  have key : ∀ (l : List UInt8) (s : Nat), l.foldl (fun s x => s * 256 + x.toNat) s < (s + 1) * 256 ^ l.length := by
    intro l
    induction l with
    | nil => intro s; simp
    | cons x l ih =>
      intro s
      have h := ih (s * 256 + x.toNat)
      have hx := x.toNat_lt
      rw [List.foldl_cons, List.length_cons, Nat.pow_succ]
      refine Nat.lt_of_lt_of_le h ?_
      rw [Nat.mul_comm (256 ^ l.length) 256, ← Nat.mul_assoc]
      exact Nat.mul_le_mul_right _ (by omega)
  intro l
  have := key l 0
  simpa [numB] using this
theorem numB_snoc (l : List UInt8) (x : UInt8) : numB (l ++ [x]) = numB l * 256 + x.toNat := by simp [numB]
end Go.Typ
namespace Go.Proofs.YtbhicpjhijondaaDoor
open Go.RowKit Go.Lib Go.Vfs Go.Par Go.Typ Go.Shelf
theorem or_low8 (x y : Nat) (hx : x < 2 ^ 40) (hy : y < 256) : bits .or .i64 ((x * 256 : Nat) : Int) (y : Int) = ((x * 256 + y : Nat) : Int) := by
  have e1 : (BitVec.ofInt 64 ((x * 256 : Nat) : Int)).toNat = x * 256 := by rw [BitVec.ofInt_natCast, BitVec.toNat_ofNat]; exact Nat.mod_eq_of_lt (by omega)
  have e2 : (BitVec.ofInt 64 (y : Int)).toNat = y := by rw [BitVec.ofInt_natCast, BitVec.toNat_ofNat]; exact Nat.mod_eq_of_lt (by omega)
  have hj : x * 256 ||| y = x * 256 + y := nat_join 8 (x * 256) y (by omega) (by omega)
  show IntKind.i64.wrap ((BitVec.ofInt 64 ((x * 256 : Nat) : Int) ||| BitVec.ofInt 64 (y : Int)).toNat : Int) = _
  rw [BitVec.toNat_or, e1, e2, hj]
  unfold IntKind.wrap
  simp [IntKind.signed, IntKind.bits]
  omega
set_option maxRecDepth 20000 in
set_option maxHeartbeats 2000000 in
theorem number_go (L : List UInt8) (B p : Nat) (v : Value) (a n : Nat) (q : Int) (bad : Bool) (w : World) (h : SR L B p v a q bad w) (hn : n ≤ 4) (h1 : 1 ≤ n) :
    Calls Tryd.prog 76 #[.pointer (some ⟨p, 0, none⟩), .int .i64 n] w fun e w' => (bad = false ∧ a + n ≤ L.length ∧ e = .returned (.int .i64 (numB ((L.drop a).take n) : Nat)) ∧ SR L B p v (a + n) q false w' ∧ Kept (· = p) w w') ∨
      ((bad = true ∨ L.length < a + n) ∧ e = .returned (.int .i64 0) ∧ SR L B p v a q true w' ∧ Kept (· = p) w w') := by
  by_cases hb : bad = true ∨ L.length < a + n
  · have HT := Lib.hid (take_bad L B p v a n q bad w h (by omega) hb)
    clear h
    go_enter Tryd.func76, Tryd.ntmps76
    go_wp2_with fail
    refine HT.out.mono ?_
    rintro e w2 ⟨rfl, hs, hk⟩
    have HE := Lib.hid (And.intro hs hk)
    clear hs hk
    go_wp2
    go_loopw [5, 12] (fun sv iv W => sv = .int .i64 0 ∧ iv = .int .i64 0 ∧ W = w2) (fun _ _ _ => 0)
    case atStart => exact ⟨rfl, rfl, rfl⟩
    case round =>
      obtain ⟨rfl, rfl, rfl⟩ := hrel
      go_wp2
      go_ret
      exact .inr ⟨hb, rfl, HE.out.1, HE.out.2⟩
  · obtain ⟨hf, hl⟩ : bad = false ∧ a + n ≤ L.length := by
      constructor
      · simpa using fun h => hb (.inl h)
      · apply Nat.le_of_not_lt; exact fun h => hb (.inr h)
    subst hf
    have HT := Lib.hid (take_ok L B p v a n q w h (by omega) hl)
    clear h hb
    go_enter Tryd.func76, Tryd.ntmps76
    go_wp2_with fail
    refine HT.out.mono ?_
    rintro e w2 ⟨u, rfl, hg, hs, hk⟩
    obtain ⟨A, c, rfl, hc, hm, hat⟩ := hg.open_bytes
    have hlen : ((L.drop a).take n).length = n := by simp; omega
    obtain ⟨M, hM⟩ : ∃ M, M = (L.drop a).take n := ⟨_, rfl⟩
    rw [← hM] at hlen hat hc
    rw [← hM]
    rw [hlen] at hat hc ⊢
    have HE := Lib.hid (And.intro hs hk); have HAT := Lib.hid hat; have HLEN := Lib.hid hlen; have HMM := Lib.hid hM
    clear hs hk hat hg hM hlen
    go_wp2
    go_loopw [5, 12] (fun sv iv W => ∃ k : Nat, k ≤ n ∧ iv = .int .i64 k ∧ sv = .int .i64 (numB (M.take k) : Nat) ∧ ∃ m, W = w2.drewN m) (fun _ iv _ => n - (RowKit.intOf iv).toNat)
    case atStart => exact ⟨0, by omega, rfl, rfl, 0, rfl⟩
    case round =>
      obtain ⟨k, hk, rfl, rfl, m, rfl⟩ := hrel
      by_cases hlt : k < n
      · obtain ⟨b, off, x, rfl, hbb, hcl, hx, HX⟩ := (HAT.out.drewN m).byte hlt
        have hnl := numB_lt (M.take k)
        have htl : (M.take k).length = k := by rw [List.length_take]; have := HLEN.out; omega
        have hp : 256 ^ k ≤ 256 ^ 3 := Nat.pow_le_pow_right (by omega) (by omega)
        rw [htl] at hnl
        have hnx : numB (M.take (k + 1)) = numB (M.take k) * 256 + x := by
          have hkm : k < M.length := by have := HLEN.out; omega
          have hx' := HX.out
          rw [List.getD_eq_getElem?_getD, List.getElem?_eq_getElem hkm] at hx'
          rw [List.take_succ_eq_append_getElem hkm, numB_snoc, ← hx']
          rfl
        generalize numB (M.take k) = s at *
        have hor := or_low8 s x (by omega) hx
        have HNX := Lib.hid hnx
        clear hnx htl
        rw [show ((s * 256 : Nat) : Int) = (s : Int) * 256 by omega] at hor
        have hs2 : (s : Int) ≤ 16777216 := by
          have : (256 : Nat) ^ 3 = 16777216 := by decide
          omega
        clear hnl hp
        go_wp2
        go_roundw
        case rel => exact ⟨k + 1, by omega, by go_num, by rw [HNX.out]; go_num, m, rfl⟩
        case measure => simp [RowKit.intOf]; omega
      · have hkn : k = n := by omega
        subst hkn
        have hM : M.take k = M := List.take_of_length_le (by rw [HLEN.out]; exact Nat.le_refl _)
        rw [hM]
        go_wp2
        go_ret
        exact .inl ⟨trivial, hl, by rw [← HMM.out]; rfl, HE.out.1.drewN _, HE.out.2.drewN _⟩
end Go.Proofs.YtbhicpjhijondaaDoor
