/- The reader of scheme: typ. -/
import Derived.Test.YtbhicpjhijondaaDoorX17
import Derived.BigRegion
import Derived.Deep.CutBlock
namespace Go.Proofs.YtbhicpjhijondaaDoor
open Go.RowKit Go.Lib Go.Vfs Go.Par Go.Typ Go.Shelf
set_option linter.unusedVariables false
set_option linter.unusedSimpArgs false

theorem ownsRow_form {w : World} {B e k n : Nat} {v : Value} {xs : List Value} (h : w.ownsRow B e k v n xs) : ∃ A c, v = .slice A n c := by
  rcases h.2 with ⟨e, h0⟩ | ⟨g, cap, cur, e, _⟩
  · exact ⟨none, 0, by rw [e, h0]⟩
  · exact ⟨_, cap, e⟩
/-- a type under way: the reader, the result's block, the type's box. -/
structure TI (w : World) (L : List UInt8) (B p : Nat) (v : Value) (l : List UInt8) (q : Nat) (bad : Bool) (tb : Nat) (k num : Int) (s : ByteArray) (av : Value) (W : World) : Prop where
  rs : RS L B p v l q bad W
  res : W.heap[w.heap.size]? = some (.cells #[.int .i64 0, .int .i64 0, .string ⟨#[]⟩, .slice none 0 0] 24 (0, 0))
  box : W.heap[tb]? = some (.cells #[.int .i64 k, .int .i64 num, .string s, av] 24 (0, 0))
  kept : Kept (· = p) w W
  tlt : w.heap.size < tb
  plt : p < w.heap.size
section
variable {w : World} {L : List UInt8} {B p : Nat} {v : Value} {l : List UInt8} {q : Nat} {bad : Bool} {tb : Nat} {k num : Int} {s : ByteArray} {av : Value} {W W' : World}
theorem TI.lt (h : TI w L B p v l q bad tb k num s av W) : tb < W.heap.size := lt_blk h.box
theorem TI.call (h : TI w L B p v l q bad tb k num s av W) (hk : Kept (· = p) W W') {l' : List UInt8} {q' : Nat} {bad' : Bool} (hr : RS L B p v l' q' bad' W') : TI w L B p v l' q' bad' tb k num s av W' := by
  have h1 := h.lt; have h2 := h.tlt; have h3 := h.plt
  exact ⟨hr, (hk.block _ (by omega) (by omega)).trans h.res, (hk.block _ h1 (by omega)).trans h.box, h.kept.trans' hk, h2, h3⟩
theorem TI.blw (h : TI w L B p v l q bad tb k num s av W) (hb : Below W.heap.size W W') : TI w L B p v l q bad tb k num s av W' :=
  h.call (Kept.of_below hb) (h.rs.keep fun g hg => hb.block g (by have := h.lt; have := h.tlt; have := h.plt; omega))
theorem TI.drewN (h : TI w L B p v l q bad tb k num s av W) (n : Nat) : TI w L B p v l q bad tb k num s av (W.drewN n) := ⟨h.rs.drewN n, h.res, h.box, h.kept.drewN n, h.tlt, h.plt⟩
theorem TI.setBad (h : TI w L B p v l q bad tb k num s av W) (bad' : Bool) : TI w L B p v l q bad' tb k num s av (W.setCell ⟨p, 3, none⟩ (.bool bad')) :=
  h.call (setp_kept (Kept.refl _ _) _) (h.rs.setBad bad')
theorem TI.setBox (h : TI w L B p v l q bad tb k num s av W) {i : Nat} {x : Value} {num' : Int} {s' : ByteArray} {av' : Value}
    (hb : (W.setCell ⟨tb, i, none⟩ x).heap[tb]? = some (.cells #[.int .i64 k, .int .i64 num', .string s', av'] 24 (0, 0))) : TI w L B p v l q bad tb k num' s' av' (W.setCell ⟨tb, i, none⟩ x) := by
  have h1 := h.lt; have h2 := h.tlt; have h3 := h.plt
  refine ⟨h.rs.keep fun g hg => Below.heap_setCell _ _ _ _ (by show g ≠ tb; omega), ?_, hb, ?_, h2, h3⟩
  · rw [Below.heap_setCell _ _ _ _ (by show w.heap.size ≠ tb; omega)]; exact h.res
  · exact Kept.setCell (F := (· = p)) (p := ⟨tb, i, none⟩) h.kept (.inr (by show w.heap.size ≤ tb; omega)) x
theorem TI.setNum (h : TI w L B p v l q bad tb k num s av W) (n' : Int) : TI w L B p v l q bad tb k n' s av (W.setCell ⟨tb, 1, none⟩ (.int .i64 n')) := h.setBox (by simpa using cells_put h.box 1 (.int .i64 n'))
theorem TI.setName (h : TI w L B p v l q bad tb k num s av W) (s' : ByteArray) : TI w L B p v l q bad tb k num s' av (W.setCell ⟨tb, 2, none⟩ (.string s')) := h.setBox (by simpa using cells_put h.box 2 (.string s'))
theorem TI.setArgs (h : TI w L B p v l q bad tb k num s av W) (av' : Value) : TI w L B p v l q bad tb k num s av' (W.setCell ⟨tb, 3, none⟩ av') := h.setBox (by simpa using cells_put h.box 3 av')
end
theorem TI.grown {w : World} {L : List UInt8} {B p : Nat} {v : Value} {l : List UInt8} {q : Nat} {bad : Bool} {tb : Nat} {k num : Int} {s : ByteArray} {av : Value} {W W' : World} {o : Obj} {row : Option Nat} (h : TI w L B p v l q bad tb k num s av W)
    (hg : (W.alloc o).grownBy W' row) (hr : ∀ g, row = some g → tb < g) : TI w L B p v l q bad tb k num s av W' := by
  have h1 := h.lt; have h2 := h.tlt; have h3 := h.plt
  have key : ∀ g, g ≤ tb → W'.heap[g]? = W.heap[g]? := fun g hle => (hg.block g (by simp; omega) (fun e => by have := hr g e.symm; omega)).trans (Below.heap_alloc _ _ _ (by omega))
  refine ⟨h.rs.keep fun g hg => key g (by omega), (key _ (by omega)).trans h.res, (key _ (Nat.le_refl _)).trans h.box, (h.kept.alloc o).grown hg fun g e => .inr (by have := hr g e; omega), h2, h3⟩
/-- what typ leaves: X is what it should read, bd: the reader was bad before. -/
def TPost (L : List UInt8) (B p : Nat) (v : Value) (q : Nat) (bd : Bool) (X : Option (Ty × Nat × List UInt8)) (w : World) (e : Ending) (w' : World) : Prop :=
  ∃ (T : Ty) (A : Option Addr) (c : Nat) (l' : List UInt8) (q' : Nat) (bad' : Bool), e = .returned (tyV T.kind T.num T.name A T.args.length c) ∧ TyAt (fun g => w.heap.size ≤ g ∧ g < w'.heap.size) w' (tyV T.kind T.num T.name A T.args.length c) T ∧
    T.args.length ≤ 255 ∧ RS L B p v l' q' bad' w' ∧ Kept (· = p) w w' ∧ (bad' = false → bd = false ∧ X = some (T, q', l') ∧ q < q' ∧ q' ≤ 300) ∧ (bad' = true → bd = true ∨ X = none)
/-- the answer is stored. -/
theorem TI.fin {w : World} {L : List UInt8} {B p : Nat} {v : Value} {l : List UInt8} {q : Nat} {bad : Bool} {tb : Nat} {k num : Int} {s : ByteArray} {A : Option Addr} {c : Nat} {ts : List Ty} {W : World} (h : TI w L B p v l q bad tb k num s (.slice A ts.length c) W)
    (hT : TyAt (fun g => tb < g ∧ g < W.heap.size) W (tyV k num s A ts.length c) (.mk k num s ts)) (hl : ts.length ≤ 255) (q0 : Nat) (bd : Bool) (X : Option (Ty × Nat × List UInt8))
    (h1 : bad = false → bd = false ∧ X = some (.mk k num s ts, q, l) ∧ q0 < q ∧ q ≤ 300) (h2 : bad = true → bd = true ∨ X = none) :
    ∃ Wf, Wf = ((((W.setCell ⟨w.heap.size, 0, none⟩ (.int .i64 k)).setCell ⟨w.heap.size, 1, none⟩ (.int .i64 num)).setCell ⟨w.heap.size, 2, none⟩ (.string s)).setCell ⟨w.heap.size, 3, none⟩ (.slice A ts.length c)) ∧
      Wf.heap[w.heap.size]? = some (.cells #[.int .i64 k, .int .i64 num, .string s, .slice A ts.length c] 24 (0, 0)) ∧ TPost L B p v q0 bd X w (.returned (tyV k num s A ts.length c)) Wf := by
  obtain ⟨Wf, hWf, hbx, hkf⟩ := end4 (.int .i64 k) (.int .i64 num) (.string s) (.slice A ts.length c) h.res
  have hz := h.lt; have ht := h.tlt; have hp := h.plt
  have hzf := hkf.size
  refine ⟨Wf, hWf, hbx, .mk k num s ts, A, c, l, q, bad, rfl, hT.keep fun g hg => ⟨⟨by omega, by omega⟩, hkf.block g hg.2 (by omega)⟩, hl, h.rs.keep fun g hg => hkf.block g (by omega) (by omega), ?_, h1, h2⟩
  refine ⟨hkf.os.trans h.kept.os, hkf.tape.trans h.kept.tape, hkf.output.trans h.kept.output, by have := h.kept.size; omega, fun g hg hp => ?_⟩
  exact (hkf.block g (by omega) (by omega)).trans (h.kept.block g hg hp)

set_option maxRecDepth 20000 in
set_option maxHeartbeats 4000000 in
theorem srtyp_any (L : List UInt8) (B p : Nat) (v : Value) (f : Nat) : ∀ (l : List UInt8) (q : Nat) (bad : Bool) (w : World), RS L B p v l q bad w → q ≤ 300 → 301 ≤ f + q →
    Calls Tryd.prog 78 #[.pointer (some ⟨p, 0, none⟩)] w (TPost L B p v q bad (typR f q l) w) := by
  induction f with
  | zero => intro l q bad w h h1 h2; omega
  | succ f ih =>
    intro l q bad w h hq hf
    have IH := Lib.hid ih
    clear ih
    obtain ⟨Y, hY⟩ : ∃ Y, Y = typR (f + 1) q l := ⟨_, rfl⟩
    have HY := Lib.hid hY
    rw [← hY]
    clear hY
    have hpl := h.lt
    have hne : ¬ (p = w.heap.size) := by omega
    have hne2 : ¬ (w.heap.size = p) := by omega
    obtain ⟨W1, hW1⟩ : ∃ W1, W1 = (w.setCell ⟨p, 2, none⟩ (.int .i64 ((q + 1 : Nat) : Int))).alloc zero4 := ⟨_, rfl⟩
    have hsz : (w.setCell ⟨p, 2, none⟩ (.int .i64 ((q + 1 : Nat) : Int))).heap.size = w.heap.size := by simp [World.setCell]
    have hb0 : ∀ W : World, Below W.heap.size W (W.alloc zero4) := fun W => (Below.refl _ _).alloc (Nat.le_refl _) _
    have hr1 : RS L B p v l (q + 1) bad W1 := by
      obtain ⟨a, e, hs⟩ := h
      rw [hW1]
      exact ⟨a, e, (hs.setParts _).keep fun g hg => (hb0 _).block g (by omega)⟩
    have hk1 : Kept (· = p) w W1 := by rw [hW1]; exact (setp_kept (Kept.refl _ _) _).alloc _
    have hres1 : W1.heap[w.heap.size]? = some (.cells #[.int .i64 0, .int .i64 0, .string ⟨#[]⟩, .slice none 0 0] 24 (0, 0)) := by
      rw [hW1]
      have := heap_alloc_new (w.setCell ⟨p, 2, none⟩ (.int .i64 ((q + 1 : Nat) : Int))) zero4
      rw [hsz] at this
      exact this
    obtain ⟨a, -, -, y0, y1, y2, y3⟩ := h.cells
    obtain ⟨q0, q1, q2, q3⟩ := h.frozen
    have HR1 := Lib.hid hr1; have HK1 := Lib.hid hk1; have HRS := Lib.hid hres1
    have hcast : ((q + 1 : Nat) : Int) = (q : Int) + 1 := by omega
    rw [hcast] at hW1
    obtain ⟨a1, -, -, z0, z1, z2, z3⟩ := hr1.cells
    rw [hcast] at z2
    clear h hr1 hk1 hres1 hcast hsz hb0
    -- behind the mark: bad or not
    obtain ⟨bad1, hb1⟩ : ∃ bad1, bad1 = (bad || decide (300 < q + 1)) := ⟨_, rfl⟩
    have HB1 := Lib.hid hb1
    go_enter Tryd.func78, Tryd.ntmps78
    go_upto_region 2 with fail
    rw [show (w.setCell ⟨p, 2, none⟩ (.int .i64 ((q : Int) + 1))).alloc (.cells #[.int .i64 0, .int .i64 0, .string ⟨#[]⟩, .slice none 0 0] 24) = W1 from hW1.symm]
    clear hW1 y0 y1 y2 y3 q0 q1 q2 q3
    go_upto_if 17 with fail
    clear z0 z1 z2 z3
    go_cut [] from 18 to 20 (fun wx => Hid (RS L B p v l (q + 1) bad1 wx ∧ Kept (· = p) w wx ∧ wx.heap[w.heap.size]? = some (.cells #[.int .i64 0, .int .i64 0, .string ⟨#[]⟩, .slice none 0 0] 24 (0, 0))))
    case first =>
      obtain ⟨a1, -, -, z0, z1, z2, z3⟩ := HR1.out.cells
      obtain ⟨q0, q1, q2, q3⟩ := HR1.out.frozen
      rw [show ((q + 1 : Nat) : Int) = (q : Int) + 1 by omega] at z2
      by_cases hg : 300 < q + 1
      · have hgi : (300 : Int) < (q : Int) + 1 := by omega
        have hbt : bad1 = true := by rw [HB1.out, decide_eq_true hg, Bool.or_true]
        have HE : Hid (RS L B p v l (q + 1) bad1 (W1.setCell ⟨p, 3, none⟩ (.bool true)) ∧ Kept (· = p) w (W1.setCell ⟨p, 3, none⟩ (.bool true)) ∧ (W1.setCell ⟨p, 3, none⟩ (.bool true)).heap[w.heap.size]? = some (.cells #[.int .i64 0, .int .i64 0, .string ⟨#[]⟩, .slice none 0 0] 24 (0, 0))) :=
          Lib.hid ⟨by rw [hbt]; exact HR1.out.setBad true, setp_kept HK1.out _, (Below.heap_setCell _ _ _ _ (by show w.heap.size ≠ p; omega)).trans HRS.out⟩
        clear hbt
        go_wp2
        go_meet
        exact HE
      · have hgi : ¬ ((300 : Int) < (q : Int) + 1) := by omega
        have hbt : bad1 = bad := by rw [HB1.out, decide_eq_false hg, Bool.or_false]
        have HE : Hid (RS L B p v l (q + 1) bad1 W1 ∧ Kept (· = p) w W1 ∧ W1.heap[w.heap.size]? = some (.cells #[.int .i64 0, .int .i64 0, .string ⟨#[]⟩, .slice none 0 0] 24 (0, 0))) :=
          Lib.hid ⟨by rw [hbt]; exact HR1.out, HK1.out, HRS.out⟩
        clear hbt
        go_wp2
        go_meet
        exact HE
    case rest =>
      obtain ⟨hr, hk, hs⟩ := hcut.out
      have HN := Lib.hid (number_any L B p v l 1 (q + 1) bad1 wc hr (by decide) (by decide))
      have HK := Lib.hid hk; have HS := Lib.hid hs
      have HX : Hid ((bad1 = false → bad = false ∧ Y = bodyR (typR f) (q + 1) l ∧ q + 1 ≤ 300) ∧ (bad1 = true → bad = true ∨ Y = none)) := Lib.hid (by
        rw [HB1.out, HY.out, typR]
        constructor
        · intro e
          rw [Bool.or_eq_false_iff] at e
          have := of_decide_eq_false e.2
          exact ⟨e.1, by rw [if_neg this], by omega⟩
        · intro e
          rw [Bool.or_eq_true] at e
          exact e.imp_right fun e => by rw [if_pos (of_decide_eq_true e)])
      clear hr hk hs hcut HR1 HK1 HRS HB1 HY hb1
      go_wp2_with fail
      refine HN.out.mono ?_
      rintro e w2 ⟨x, l1, bad2, rfl, h2, k2, ok2, no2⟩
      have hx : x ≤ 255 := by
        cases bad2 with
        | true => have := (no2 rfl).2; omega
        | false =>
          obtain ⟨_, h2, h3, _⟩ := ok2 rfl
          have := numB_lt (l.take 1)
          rw [List.length_take, Nat.min_eq_left h2, ← h3] at this
          omega
      go_upto_region 5 with fail
      obtain ⟨W3, hW3⟩ : ∃ W3, W3 = w2.alloc (.cells #[.int .i64 (x : Int), .int .i64 0, .string ⟨#[]⟩, .slice none 0 0] 24) := ⟨_, rfl⟩
      rw [← hW3]
      have hb3 : Below w2.heap.size w2 W3 := by rw [hW3]; exact (Below.refl _ _).alloc (Nat.le_refl _) _
      have hT3 : TI w L B p v l1 (q + 1) bad2 w2.heap.size (x : Int) 0 ⟨#[]⟩ (.slice none 0 0) W3 := by
        have hz := HK.out.size
        have hzc := lt_blk HS.out
        have hz2 := k2.size
        refine ⟨h2.keep fun g hg => hb3.block g (by omega), (hb3.block _ (by omega)).trans ((k2.block _ (by omega) (by omega)).trans HS.out), by rw [hW3]; exact heap_alloc_new _ _, (HK.out.trans' k2).trans' (Kept.of_below hb3), by omega, hpl⟩
      have HX2 : Hid ((bad2 = false → bad = false ∧ Y = kindR (typR f) (q + 1) x l1 ∧ q + 1 ≤ 300) ∧ (bad2 = true → (bad = true ∨ Y = none) ∧ x = 0)) := Lib.hid (by
        constructor
        · intro e
          obtain ⟨e1, h3, h4, h5⟩ := ok2 e
          obtain ⟨e2, h6, h7⟩ := HX.out.1 e1
          refine ⟨e2, ?_, h7⟩
          cases l with
          | nil => simp at h3
          | cons c l =>
            have hc : x = c.toNat := by rw [h4]; simp [numB]
            have h5 : l1 = l := h5
            rw [h6, bodyR, hc, h5]
        · intro e
          refine ⟨?_, (no2 e).2⟩
          cases bad1 with
          | true => exact HX.out.2 rfl
          | false =>
            rcases (no2 e).1 with h | h
            · cases h
            · obtain ⟨e2, h6, h7⟩ := HX.out.1 rfl
              have : l = [] := List.eq_nil_of_length_eq_zero (by omega)
              right
              rw [h6, this, bodyR])
      have hw2 : p < w2.heap.size := by have := HK.out.size; have := k2.size; omega
      generalize w2.heap.size = tb at *
      have HT3 := Lib.hid hT3
      obtain ⟨y0, y1, y2, y3⟩ := box4 hT3.box
      clear hT3 hb3 h2 k2 ok2 no2 hW3 HX HN HK HS
      go_upto_block 0 with fail
      go_cut [] from 29 to 42 (fun wx => ∃ (s : ByteArray) (l3 : List UInt8) (bad3 : Bool), Hid (TI w L B p v l3 (q + 1) bad3 tb (x : Int) 0 s (.slice none 0 0) wx) ∧ s.size ≤ 255 ∧ Hid ((bad3 = false → bad = false ∧ Y = argsR (typR f) (x : Int) s (q + 1) l3 ∧ q + 1 ≤ 300) ∧ (bad3 = true → bad = true ∨ Y = none)))
      case first =>
        obtain ⟨f0, f1, f2, f3⟩ := box4_frozen HT3.out.box
        obtain ⟨a3, -, -, r0, r1, r2, r3⟩ := HT3.out.rs.cells
        obtain ⟨s0, s1, s2, s3⟩ := HT3.out.rs.frozen
        by_cases x1 : x = 1
        · subst x1
          have HNM := Lib.hid (number_any L B p v l1 4 (q + 1) bad2 W3 HT3.out.rs (by decide) (by decide))
          go_wp2_with fail
          refine HNM.out.mono ?_
          rintro e w4 ⟨x4, l4, bad4, rfl, h4, k4, ok4, no4⟩
          have HT4 := Lib.hid (HT3.out.call k4 h4)
          have hT5 := HT4.out.setNum (x4 : Int)
          obtain ⟨Wf, hWf, hbx, hpost⟩ := TI.fin (A := none) (c := 0) (ts := []) (k := 1) hT5 (TyAt.leaf _ _ 1 (x4 : Int) ⟨#[]⟩ none 0 (by simp [maxLen]) (by decide)) (by decide) q bad Y
            (by
              intro e
              obtain ⟨e1, h5, h6, h7⟩ := ok4 e
              obtain ⟨e2, h8, h9⟩ := HX2.out.1 e1
              refine ⟨e2, ?_, by omega, h9⟩
              rw [h8, kindR, if_pos rfl, if_pos h5, h6, h7])
            (by
              intro e
              cases bad2 with
              | true => exact (HX2.out.2 rfl).1
              | false =>
                rcases (no4 e).1 with h | h
                · cases h
                · obtain ⟨e2, h6, h7⟩ := HX2.out.1 rfl
                  right
                  rw [h6, kindR, if_pos rfl, if_neg (by omega)])
          simp only [List.length_nil] at hWf hbx
          have HW := Lib.hid hWf; have HBXF := Lib.hid hbx; have HPO := Lib.hid hpost
          clear y0 y1 y2 y3 f0 f1 f2 f3 r0 r1 r2 r3 s0 s1 s2 s3 h4 k4 ok4 no4 hT5 hWf hbx hpost
          obtain ⟨y0, y1, y2, y3⟩ := box4 HT4.out.box
          obtain ⟨f0, f1, f2, f3⟩ := box4_frozen HT4.out.box
          obtain ⟨r0, r1, r2, r3⟩ := box4 HT4.out.res
          obtain ⟨s0, s1, s2, s3⟩ := box4_frozen HT4.out.res
          have htl := HT4.out.tlt
          have hne3 : ¬ (w.heap.size = tb) := by omega
          have hne4 : ¬ (tb = w.heap.size) := by omega
          go_wp2
          rw [← HW.out]
          obtain ⟨x0, x1, x2, x3⟩ := box4 HBXF.out
          refine bodyPost_ret (v := .agg #[.int .i64 1, .int .i64 x4, .string ⟨#[]⟩, .slice none 0 0]) (by simp [results, Tryd.results78, go_sem, x0, x1, x2, x3]) rfl ?_
          exact HPO.out
        by_cases x2 : x = 2
        · subst x2
          have HNM := Lib.hid (srname_any L B p v l1 (q + 1) bad2 W3 HT3.out.rs)
          go_wp2_with fail
          refine HNM.out.mono ?_
          rintro e w4 ⟨s, l4, bad4, rfl, hs4, h4, k4, ok4, no4⟩
          have HT4 := Lib.hid (HT3.out.call k4 h4)
          have HE : Hid ((bad4 = false → bad = false ∧ Y = argsR (typR f) 2 s (q + 1) l4 ∧ q + 1 ≤ 300) ∧ (bad4 = true → bad = true ∨ Y = none)) := Lib.hid (by
            constructor
            · intro e
              obtain ⟨e1, h5⟩ := ok4 e
              obtain ⟨e2, h6, h7⟩ := HX2.out.1 e1
              refine ⟨e2, ?_, h7⟩
              rw [h6, kindR, if_neg (by decide), if_pos rfl, h5]
            · intro e
              cases bad2 with
              | true => exact (HX2.out.2 rfl).1
              | false =>
                rcases no4 e with h | h
                · cases h
                · obtain ⟨e2, h6, h7⟩ := HX2.out.1 rfl
                  right
                  rw [h6, kindR, if_neg (by decide), if_pos rfl, h])
          have HT5 := Lib.hid (HT4.out.setName s)
          clear y0 y1 y2 y3 f0 f1 f2 f3 r0 r1 r2 r3 s0 s1 s2 s3 h4 k4 ok4 no4
          obtain ⟨y0, y1, y2, y3⟩ := box4 HT4.out.box
          obtain ⟨f0, f1, f2, f3⟩ := box4_frozen HT4.out.box
          go_wp2
          go_meet
          exact ⟨s, l4, bad4, HT5, hs4, HE⟩
        by_cases x3 : x = 3 ∨ x = 4
        · have HE : Hid ((bad2 = false → bad = false ∧ Y = argsR (typR f) (x : Int) ⟨#[]⟩ (q + 1) l1 ∧ q + 1 ≤ 300) ∧ (bad2 = true → bad = true ∨ Y = none)) := Lib.hid (by
            refine ⟨fun e => ?_, fun e => (HX2.out.2 e).1⟩
            obtain ⟨e2, h6, h7⟩ := HX2.out.1 e
            exact ⟨e2, by rw [h6, kindR, if_neg x1, if_neg x2, if_pos x3], h7⟩)
          rcases x3 with rfl | rfl
          · go_wp2
            go_meet
            exact ⟨⟨#[]⟩, l1, bad2, HT3, by decide, HE⟩
          · go_wp2
            go_meet
            exact ⟨⟨#[]⟩, l1, bad2, HT3, by decide, HE⟩
        · have HE : Hid ((true = false → bad = false ∧ Y = argsR (typR f) (x : Int) ⟨#[]⟩ (q + 1) l1 ∧ q + 1 ≤ 300) ∧ (true = true → bad = true ∨ Y = none)) := Lib.hid (by
            refine ⟨fun e => (by cases e), fun _ => ?_⟩
            cases bad2 with
            | true => exact (HX2.out.2 rfl).1
            | false =>
              obtain ⟨e2, h6, h7⟩ := HX2.out.1 rfl
              right
              rw [h6, kindR, if_neg x1, if_neg x2, if_neg x3])
          have HT5 := Lib.hid (HT3.out.setBad true)
          have g1 : ((x : Int) == 1) = false := by simp; omega
          have g2 : ((x : Int) == 2) = false := by simp; omega
          have g3 : ((x : Int) == 3) = false := by simp; omega
          have g4 : ((x : Int) == 4) = false := by simp; omega
          go_wp2
          go_meet
          exact ⟨⟨#[]⟩, l1, true, HT5, by decide, Lib.hid ⟨HE.out.1, fun _ => HE.out.2 trivial⟩⟩
      case rest =>
        obtain ⟨s, l3, bad3, HTC, hsz, HXC⟩ := hcut
        clear y0 y1 y2 y3 HX2 HT3
        have HN := Lib.hid (number_any L B p v l3 1 (q + 1) bad3 wc HTC.out.rs (by decide) (by decide))
        go_wp2_with fail
        refine HN.out.mono ?_
        rintro e w5 ⟨n, l5, bad5, rfl, h5, k5, ok5, no5⟩
        have hn : n ≤ 255 := by
          cases bad5 with
          | true => have := (no5 rfl).2; omega
          | false =>
            obtain ⟨_, h2, h3, _⟩ := ok5 rfl
            have := numB_lt (l3.take 1)
            rw [List.length_take, Nat.min_eq_left h2, ← h3] at this
            omega
        obtain ⟨R, hR⟩ : ∃ R, R = lstA (typR f) n [] (q + 1) l5 := ⟨_, rfl⟩
        have HX5 : Hid ((bad5 = false → bad = false ∧ (∀ ts q' l', R = some (ts, q', l') → Y = some (.mk (x : Int) 0 s ts, q', l')) ∧ (R = none → Y = none) ∧ q + 1 ≤ 300) ∧ (bad5 = true → (bad = true ∨ Y = none) ∧ n = 0)) := Lib.hid (by
          constructor
          · intro e
            obtain ⟨e1, h3, h4, h6⟩ := ok5 e
            obtain ⟨e2, h7, h8⟩ := HXC.out.1 e1
            refine ⟨e2, ?_, ?_, h8⟩
            all_goals
              cases l3 with
              | nil => simp at h3
              | cons c l3 =>
                have hc : n = c.toNat := by rw [h4]; simp [numB]
                have h6 : l5 = l3 := h6
                rw [hc, h6] at hR
                intros
                rename_i hRR
                rw [h7, argsR, ← hR, hRR]
          · intro e
            refine ⟨?_, (no5 e).2⟩
            cases bad3 with
            | true => exact HXC.out.2 rfl
            | false =>
              rcases (no5 e).1 with h | h
              · cases h
              · obtain ⟨e2, h7, h8⟩ := HXC.out.1 rfl
                have : l3 = [] := List.eq_nil_of_length_eq_zero (by omega)
                right
                rw [h7, this, argsR])
        have HT5 := Lib.hid (HTC.out.call k5 h5)
        have HR5 := Lib.hid hR
        clear h5 k5 ok5 no5 HTC HXC HN hR
        go_wp2
        go_loopw [5] (fun iv W => ∃ (k qk : Nat) (lk : List UInt8) (badk : Bool) (ts : List Ty) (us : List Value) (av : Value), k ≤ n ∧ iv = .int .i64 k ∧ Hid (TI w L B p v lk qk badk tb (x : Int) 0 s av W) ∧ Hid (RowK 24 4 TyAt (tb + 1) (tb + 1) W ts av us) ∧ ts.length = k ∧
          Hid ((badk = false → bad5 = false ∧ lstA (typR f) (n - k) ts qk lk = R ∧ q + 1 ≤ qk ∧ qk ≤ 300) ∧ (badk = true → bad5 = true ∨ R = none))) (fun iv _ => n - (RowKit.intOf iv).toNat)
        case atStart =>
          refine ⟨0, q + 1, l5, bad5, [], [], _, by omega, rfl, HT5, Lib.hid (RowK.nil _), rfl, Lib.hid ⟨fun e => ⟨e, ?_, by omega, (HX5.out.1 e).2.2.2⟩, fun e => .inl e⟩⟩
          rw [HR5.out]; rfl
        case round =>
          obtain ⟨k, qk, lk, badk, ts, us, av, hk, rfl, HT, HR, htl, HXK⟩ := hrel
          obtain ⟨ak, -, -, r0, r1, r2, r3⟩ := HT.out.rs.cells
          obtain ⟨y0, y1, y2, y3⟩ := box4 HT.out.box
          by_cases hgo : k < n ∧ badk = false
          · obtain ⟨hlt, rfl⟩ := hgo
            obtain ⟨e5, hlst, hqk1, hqk2⟩ := HXK.out.1 rfl
            have hia := IH.out lk qk false wr.drew (HT.out.rs.drewN 1) hqk2 (by omega)
            have HCA : Hid (Calls Tryd.prog 78 #[.pointer (some ⟨p, 0, none⟩)] wr.drew fun e w' => ∃ (T : Ty) (A : Option Addr) (c : Nat), e = .returned (.agg #[.int .i64 T.kind, .int .i64 T.num, .string T.name, .slice A T.args.length c]) ∧ Hid (∃ (l' : List UInt8) (q' : Nat) (bad' : Bool), TyAt (fun g => wr.heap.size ≤ g ∧ g < w'.heap.size) w' (tyV T.kind T.num T.name A T.args.length c) T ∧ RS L B p v l' q' bad' w' ∧ Kept (· = p) wr.drew w' ∧ (bad' = false → typR f qk lk = some (T, q', l') ∧ qk < q' ∧ q' ≤ 300) ∧ (bad' = true → typR f qk lk = none)) ∧ tb < w'.heap.size ∧
                w'.cell? ⟨tb, 3, none⟩ = some av ∧ w'.frozen? ⟨tb, 3, none⟩ = false ∧ w'.ownsRow (tb + 1) 24 4 av k (us.flatMap flatC)) := Lib.hid (by
              refine hia.mono ?_
              rintro e w' ⟨T, A, c, l', q', bad', rfl, hT, hTl, hrs, hkk, okk, nok⟩
              have hti := (HT.out.drewN 1).call hkk hrs
              refine ⟨T, A, c, rfl, Lib.hid ⟨l', q', bad', hT, hrs, hkk, fun e => (okk e).2, fun e => (nok e).resolve_left (by simp)⟩, hti.lt, (box4 hti.box).2.2.2, (box4_frozen hti.box).2.2.2, ?_⟩
              have := HT.out.tlt; have := HT.out.plt
              have hr2 := RowK.above (R := TyAt) TyAt.keep (w' := w') HR.out (Lo := tb + 1) (Nat.le_refl _) (Nat.le_refl _) (fun g h1 h2 => hkk.block g h2 (by omega)) hkk.size
              have := hr2.own
              rw [htl] at this
              exact this)
            obtain ⟨us', hus⟩ : ∃ us', us' = us.flatMap flatC := ⟨_, rfl⟩
            rw [← hus] at HCA
            have htw := HT.out.lt
            obtain ⟨Aav, cav, rfl, hcav, -⟩ := HR.out.form
            rw [htl] at hcav y3 HCA HR HT
            have HNX : Hid (∀ (T : Ty) (A : Option Addr) (c : Nat) (w6 : World) (v7 : Value) (w7 : World), Hid (∃ (l' : List UInt8) (q' : Nat) (bad' : Bool), TyAt (fun g => wr.heap.size ≤ g ∧ g < w6.heap.size) w6 (tyV T.kind T.num T.name A T.args.length c) T ∧ RS L B p v l' q' bad' w6 ∧ Kept (· = p) wr.drew w6 ∧ (bad' = false → typR f qk lk = some (T, q', l') ∧ qk < q' ∧ q' ≤ 300) ∧ (bad' = true → typR f qk lk = none)) →
                w7.ownsRow (tb + 1) 24 4 v7 (k + 1) (us' ++ [.int .i64 T.kind, .int .i64 T.num, .string T.name, .slice A T.args.length c]) → (w6.alloc (.cells #[.int .i64 T.kind, .int .i64 T.num, .string T.name, .slice A T.args.length c] 24)).grownBy w7 (Value.slice Aav k cav).ownBlock → (v7.ownBlock = (Value.slice Aav k cav).ownBlock ∨ v7.ownBlock = some (w6.alloc (.cells #[.int .i64 T.kind, .int .i64 T.num, .string T.name, .slice A T.args.length c] 24)).heap.size) →
                ∃ (q2 : Nat) (l2 : List UInt8) (bad2 : Bool) (ts2 : List Ty) (us2 : List Value), Hid (TI w L B p v l2 q2 bad2 tb (x : Int) 0 s v7 (w7.setCell ⟨tb, 3, none⟩ v7)) ∧ Hid (RowK 24 4 TyAt (tb + 1) (tb + 1) (w7.setCell ⟨tb, 3, none⟩ v7) ts2 v7 us2) ∧ ts2.length = k + 1 ∧
                  Hid ((bad2 = false → bad5 = false ∧ lstA (typR f) (n - (k + 1)) ts2 q2 l2 = R ∧ q + 1 ≤ q2 ∧ q2 ≤ 300) ∧ (bad2 = true → bad5 = true ∨ R = none))) := Lib.hid (by
              rintro T A c w6 v7 w7 HTP hown7 hg7 hat7
              obtain ⟨l', q', bad', hT, hrs, hkk, okk, nok⟩ := HTP.out
              have h1 := HT.out.tlt; have h2 := HT.out.plt
              have hz6 : wr.heap.size ≤ w6.heap.size := hkk.size
              have hti := (HT.out.drewN 1).call hkk hrs
              have hti7 := hti.grown hg7 fun g e => by have := (HR.out.lt g e).1; omega
              have hr6 := RowK.above (R := TyAt) TyAt.keep (w' := w6) HR.out (Lo := tb + 1) (Nat.le_refl _) (Nat.le_refl _) (fun g h1 h2 => hkk.block g h2 (by omega)) hkk.size
              have hr7 := RowK.next (R := TyAt) TyAt.keep hr6 (u := tyV T.kind T.num T.name A T.args.length c) (x := T) (v' := v7) (w3 := w7) hT (fun g hg => ⟨by omega, hg.2, fun e => by have := (HR.out.lt g e).2; omega⟩) rfl _ (by rw [htl, ← hus]; exact hown7) hg7 hat7
              refine ⟨q', l', bad', ts ++ [T], us ++ [tyV T.kind T.num T.name A T.args.length c], Lib.hid (hti7.setArgs v7), Lib.hid ?_, by simp [htl], Lib.hid ⟨fun e => ?_, fun e => ?_⟩⟩
              · exact RowK.above (R := TyAt) TyAt.keep hr7 (Lo := tb + 1) (Nat.le_refl _) (Nat.le_refl _) (fun g h1 h2 => Below.heap_setCell _ _ _ _ (by show g ≠ tb; omega)) (by simp [World.setCell])
              · obtain ⟨e1, e2, e3⟩ := okk e
                refine ⟨e5, ?_, by omega, e3⟩
                rw [show n - k = (n - (k + 1)) + 1 by omega, lstA, e1] at hlst
                exact hlst
              · right
                rw [show n - k = (n - (k + 1)) + 1 by omega, lstA, nok e] at hlst
                exact hlst.symm)
            clear hia hlst hus
            go_wp2_with fail
            --<R18
            refine wp_region_held (S := fun _ : World => True) (by kernel_rfl) ?_
            refine takeD (i := 0) (s := 57) (v := Value.pointer (some ⟨tb, 3, none⟩)) rfl rfl (by kernel_rfl) (by kernel_rfl) (by kernel_rfl) (fun _ _ _ h => h) (Or.inl ⟨by rfl, fun w' hS => by go_simp⟩) trivial ?_
            try simp only [List.setIfInBounds_toArray, List.set_cons_zero, List.set_cons_succ]
            refine takeD (i := 2) (s := 59) (v := Value.pointer (some ⟨p, 0, none⟩)) rfl rfl (by kernel_rfl) (by kernel_rfl) (by kernel_rfl) (fun _ _ _ h => h) (Or.inl ⟨by rfl, fun w' hS => by go_simp⟩) trivial ?_
            try simp only [List.setIfInBounds_toArray, List.set_cons_zero, List.set_cons_succ]
            refine wpAnyH_all (rs := [1, 3]) (by kernel_rfl) (by simp) ?_
            intro i hi
            simp only [List.mem_cons, List.not_mem_nil, or_false] at hi
            rcases hi with rfl | rfl
            · refine wpOp_of rfl rfl (fun K hK => ?_)
              go_simp
              refine hK _ _ ⟨trivial, ?_⟩
              clear hK K
              try simp only [List.setIfInBounds_toArray, List.set_cons_zero, List.set_cons_succ]
              refine wpAnyH_all (rs := [3]) (by kernel_rfl) (by simp) ?_
              intro i hi
              simp only [List.mem_cons, List.not_mem_nil, or_false] at hi
              subst hi
              refine wpOp_of rfl rfl (fun K hK => ?_)
              go_simp
              refine HCA.out.mono ?_
              rintro e w6 ⟨T, A, c, rfl, HTP, htw6, u3, v3, hown⟩
              refine hK _ _ ⟨trivial, ?_⟩
              clear hK K
              try simp only [List.setIfInBounds_toArray, List.set_cons_zero, List.set_cons_succ]
              refine wpAnyH_all (rs := [4]) (by kernel_rfl) (by simp) ?_
              intro i hi
              simp only [List.mem_cons, List.not_mem_nil, or_false] at hi
              subst hi
              refine wpOp_of rfl rfl (fun K hK => ?_)
              go_simp
              refine hK _ _ ⟨trivial, ?_⟩
              clear hK K
              try simp only [List.setIfInBounds_toArray, List.set_cons_zero, List.set_cons_succ]
              refine wpAnyH_all (rs := [5]) (by kernel_rfl) (by simp) ?_
              intro i hi
              simp only [List.mem_cons, List.not_mem_nil, or_false] at hi
              subst hi
              refine wpOp_of rfl rfl (fun K hK => ?_)
              refine wp_appK _ (.tmp 58) (.tmp 61) 22 rfl (tb + 1) 24 4 tyE (.slice Aav k cav) k us' rfl (World.ownsRow.alloc hown _) ⟨w6.heap.size, 0, none⟩ 1 1 [.int .i64 T.kind, .int .i64 T.num, .string T.name, .slice A T.args.length c] rfl rfl (cells_new _ _ _) (one4 _ _ _ _ _ _) (by omega) (by simp; omega) (fun v7 w7 hown7 hg7 hat7 => ?_)
              obtain ⟨A7, c7, rfl⟩ := ownsRow_form hown7
              have hb7 : w7.heap[tb]? = w6.heap[tb]? := (hg7.block tb (by simp; omega) (fun e => by have := (hown.lt _ e.symm).1; omega)).trans (Below.heap_alloc _ _ _ htw6)
              have u7 := (World.cell?_of_block (w := w6) (a := ⟨tb, 3, none⟩) hb7).trans u3
              have v7f := (World.frozen?_of_block (w := w6) (a := ⟨tb, 3, none⟩) hb7).trans v3
              clear hb7
              refine hK _ _ ⟨trivial, ?_⟩
              clear hK K
              try simp only [List.setIfInBounds_toArray, List.set_cons_zero, List.set_cons_succ]
              refine takeD (i := 6) (s := 63) (v := Value.pointer (some ⟨tb, 3, none⟩)) rfl rfl (by kernel_rfl) (by kernel_rfl) (by kernel_rfl) (fun _ _ _ h => h) (Or.inl ⟨by rfl, fun w' hS => by go_simp⟩) trivial ?_
              try simp only [List.setIfInBounds_toArray, List.set_cons_zero, List.set_cons_succ]
              refine wpAnyH_all (rs := [7]) (by kernel_rfl) (by simp) ?_
              intro i hi
              simp only [List.mem_cons, List.not_mem_nil, or_false] at hi
              subst hi
              refine wpOp_of rfl rfl (fun K hK => ?_)
              go_simp
              refine hK _ _ ⟨trivial, ?_⟩
              clear hK K
              try simp only [List.setIfInBounds_toArray, List.set_cons_zero, List.set_cons_succ]
              refine wpAnyH_done (by kernel_rfl) ?_ _
              obtain ⟨q2, l2, bad2, ts2, us2, HT2, HR2, hl2, HX2⟩ := HNX.out T A c w6 _ w7 HTP hown7 hg7 hat7
              clear HNX HTP hown7 hg7 hat7 hown u7 v7f u3 v3 HCA HT HR
              go_wp2
              go_roundw
              case rel => exact ⟨k + 1, q2, l2, bad2, ts2, us2, _, by omega, by go_num, HT2, HR2, hl2, HX2⟩
              case measure => simp [RowKit.intOf]; omega
            · refine wpOp_of rfl rfl (fun K hK => ?_)
              go_simp
              refine HCA.out.mono ?_
              rintro e w6 ⟨T, A, c, rfl, HTP, htw6, u3, v3, hown⟩
              refine hK _ _ ⟨trivial, ?_⟩
              clear hK K
              try simp only [List.setIfInBounds_toArray, List.set_cons_zero, List.set_cons_succ]
              refine wpAnyH_all (rs := [1, 4]) (by kernel_rfl) (by simp) ?_
              intro i hi
              simp only [List.mem_cons, List.not_mem_nil, or_false] at hi
              rcases hi with rfl | rfl
              · refine wpOp_of rfl rfl (fun K hK => ?_)
                go_simp
                refine hK _ _ ⟨trivial, ?_⟩
                clear hK K
                try simp only [List.setIfInBounds_toArray, List.set_cons_zero, List.set_cons_succ]
                refine wpAnyH_all (rs := [4]) (by kernel_rfl) (by simp) ?_
                intro i hi
                simp only [List.mem_cons, List.not_mem_nil, or_false] at hi
                subst hi
                refine wpOp_of rfl rfl (fun K hK => ?_)
                go_simp
                refine hK _ _ ⟨trivial, ?_⟩
                clear hK K
                try simp only [List.setIfInBounds_toArray, List.set_cons_zero, List.set_cons_succ]
                refine wpAnyH_all (rs := [5]) (by kernel_rfl) (by simp) ?_
                intro i hi
                simp only [List.mem_cons, List.not_mem_nil, or_false] at hi
                subst hi
                refine wpOp_of rfl rfl (fun K hK => ?_)
                refine wp_appK _ (.tmp 58) (.tmp 61) 22 rfl (tb + 1) 24 4 tyE (.slice Aav k cav) k us' rfl (World.ownsRow.alloc hown _) ⟨w6.heap.size, 0, none⟩ 1 1 [.int .i64 T.kind, .int .i64 T.num, .string T.name, .slice A T.args.length c] rfl rfl (cells_new _ _ _) (one4 _ _ _ _ _ _) (by omega) (by simp; omega) (fun v7 w7 hown7 hg7 hat7 => ?_)
                obtain ⟨A7, c7, rfl⟩ := ownsRow_form hown7
                have hb7 : w7.heap[tb]? = w6.heap[tb]? := (hg7.block tb (by simp; omega) (fun e => by have := (hown.lt _ e.symm).1; omega)).trans (Below.heap_alloc _ _ _ htw6)
                have u7 := (World.cell?_of_block (w := w6) (a := ⟨tb, 3, none⟩) hb7).trans u3
                have v7f := (World.frozen?_of_block (w := w6) (a := ⟨tb, 3, none⟩) hb7).trans v3
                clear hb7
                refine hK _ _ ⟨trivial, ?_⟩
                clear hK K
                try simp only [List.setIfInBounds_toArray, List.set_cons_zero, List.set_cons_succ]
                refine takeD (i := 6) (s := 63) (v := Value.pointer (some ⟨tb, 3, none⟩)) rfl rfl (by kernel_rfl) (by kernel_rfl) (by kernel_rfl) (fun _ _ _ h => h) (Or.inl ⟨by rfl, fun w' hS => by go_simp⟩) trivial ?_
                try simp only [List.setIfInBounds_toArray, List.set_cons_zero, List.set_cons_succ]
                refine wpAnyH_all (rs := [7]) (by kernel_rfl) (by simp) ?_
                intro i hi
                simp only [List.mem_cons, List.not_mem_nil, or_false] at hi
                subst hi
                refine wpOp_of rfl rfl (fun K hK => ?_)
                go_simp
                refine hK _ _ ⟨trivial, ?_⟩
                clear hK K
                try simp only [List.setIfInBounds_toArray, List.set_cons_zero, List.set_cons_succ]
                refine wpAnyH_done (by kernel_rfl) ?_ _
                obtain ⟨q2, l2, bad2, ts2, us2, HT2, HR2, hl2, HX2⟩ := HNX.out T A c w6 _ w7 HTP hown7 hg7 hat7
                clear HNX HTP hown7 hg7 hat7 hown u7 v7f u3 v3 HCA HT HR
                go_wp2
                go_roundw
                case rel => exact ⟨k + 1, q2, l2, bad2, ts2, us2, _, by omega, by go_num, HT2, HR2, hl2, HX2⟩
                case measure => simp [RowKit.intOf]; omega
              · refine wpOp_of rfl rfl (fun K hK => ?_)
                go_simp
                refine hK _ _ ⟨trivial, ?_⟩
                clear hK K
                try simp only [List.setIfInBounds_toArray, List.set_cons_zero, List.set_cons_succ]
                refine wpAnyH_all (rs := [1]) (by kernel_rfl) (by simp) ?_
                intro i hi
                simp only [List.mem_cons, List.not_mem_nil, or_false] at hi
                subst hi
                refine wpOp_of rfl rfl (fun K hK => ?_)
                go_simp
                refine hK _ _ ⟨trivial, ?_⟩
                clear hK K
                try simp only [List.setIfInBounds_toArray, List.set_cons_zero, List.set_cons_succ]
                refine wpAnyH_all (rs := [5]) (by kernel_rfl) (by simp) ?_
                intro i hi
                simp only [List.mem_cons, List.not_mem_nil, or_false] at hi
                subst hi
                refine wpOp_of rfl rfl (fun K hK => ?_)
                refine wp_appK _ (.tmp 58) (.tmp 61) 22 rfl (tb + 1) 24 4 tyE (.slice Aav k cav) k us' rfl (World.ownsRow.alloc hown _) ⟨w6.heap.size, 0, none⟩ 1 1 [.int .i64 T.kind, .int .i64 T.num, .string T.name, .slice A T.args.length c] rfl rfl (cells_new _ _ _) (one4 _ _ _ _ _ _) (by omega) (by simp; omega) (fun v7 w7 hown7 hg7 hat7 => ?_)
                obtain ⟨A7, c7, rfl⟩ := ownsRow_form hown7
                have hb7 : w7.heap[tb]? = w6.heap[tb]? := (hg7.block tb (by simp; omega) (fun e => by have := (hown.lt _ e.symm).1; omega)).trans (Below.heap_alloc _ _ _ htw6)
                have u7 := (World.cell?_of_block (w := w6) (a := ⟨tb, 3, none⟩) hb7).trans u3
                have v7f := (World.frozen?_of_block (w := w6) (a := ⟨tb, 3, none⟩) hb7).trans v3
                clear hb7
                refine hK _ _ ⟨trivial, ?_⟩
                clear hK K
                try simp only [List.setIfInBounds_toArray, List.set_cons_zero, List.set_cons_succ]
                refine takeD (i := 6) (s := 63) (v := Value.pointer (some ⟨tb, 3, none⟩)) rfl rfl (by kernel_rfl) (by kernel_rfl) (by kernel_rfl) (fun _ _ _ h => h) (Or.inl ⟨by rfl, fun w' hS => by go_simp⟩) trivial ?_
                try simp only [List.setIfInBounds_toArray, List.set_cons_zero, List.set_cons_succ]
                refine wpAnyH_all (rs := [7]) (by kernel_rfl) (by simp) ?_
                intro i hi
                simp only [List.mem_cons, List.not_mem_nil, or_false] at hi
                subst hi
                refine wpOp_of rfl rfl (fun K hK => ?_)
                go_simp
                refine hK _ _ ⟨trivial, ?_⟩
                clear hK K
                try simp only [List.setIfInBounds_toArray, List.set_cons_zero, List.set_cons_succ]
                refine wpAnyH_done (by kernel_rfl) ?_ _
                obtain ⟨q2, l2, bad2, ts2, us2, HT2, HR2, hl2, HX2⟩ := HNX.out T A c w6 _ w7 HTP hown7 hg7 hat7
                clear HNX HTP hown7 hg7 hat7 hown u7 v7f u3 v3 HCA HT HR
                go_wp2
                go_roundw
                case rel => exact ⟨k + 1, q2, l2, bad2, ts2, us2, _, by omega, by go_num, HT2, HR2, hl2, HX2⟩
                case measure => simp [RowKit.intOf]; omega
            --R18>
          · have hex : badk = true ∨ k = n := by
              cases badk with
              | true => exact .inl rfl
              | false => right; have : ¬ k < n := fun h => hgo ⟨h, rfl⟩; omega
            obtain ⟨Aav, cav, rfl, hcav, hcm⟩ := HR.out.form
            obtain ⟨A2, c2, e2, hty⟩ := HR.out.ty (x : Int) 0 s (by omega)
            injection e2 with e3 _ e4
            subst e3 e4
            obtain ⟨Wf, hWf, hbx, hpost⟩ := TI.fin HT.out (hty.sub fun g hg => ⟨by omega, hg.2⟩) (by omega) q bad Y
              (by
                intro e
                obtain ⟨e5, hl, h1, h2⟩ := HXK.out.1 e
                obtain ⟨e6, h3, -, h4⟩ := HX5.out.1 e5
                have hkn : k = n := by
                  rcases hex with h | h
                  · rw [h] at e; cases e
                  · exact h
                rw [hkn, Nat.sub_self, lstA] at hl
                exact ⟨e6, h3 _ _ _ hl.symm, by omega, h2⟩)
              (by
                intro e
                rcases HXK.out.2 e with h | h
                · exact (HX5.out.2 h).1
                · cases hb5 : bad5 with
                  | true => exact (HX5.out.2 hb5).1
                  | false => exact .inr ((HX5.out.1 hb5).2.2.1 h))
            rw [htl] at hWf hbx y3
            have HW := Lib.hid hWf; have HBXF := Lib.hid hbx; have HPO := Lib.hid hpost
            have HF : Hid (∀ (r : Bool), True) := Lib.hid fun _ => trivial
            clear hWf hbx hpost hty hcav hcm HF
            obtain ⟨r4, r5, r6, r7⟩ := box4 HT.out.res
            obtain ⟨s4, s5, s6, s7⟩ := box4_frozen HT.out.res
            have htlt := HT.out.tlt
            have hne3 : ¬ (w.heap.size = tb) := by omega
            have hne4 : ¬ (tb = w.heap.size) := by omega
            have hgt : (if badk = true then True else ¬ ((k : Int) < (n : Int))) := by
              rcases hex with h | h
              · simp [h]
              · split
                · trivial
                · omega
            cases badk with
            | true =>
              clear hgt hex hgo
              go_wp2
              all_goals
                rw [← HW.out]
                obtain ⟨x0, x1, x2, x3⟩ := box4 HBXF.out
                refine bodyPost_ret (v := .agg #[.int .i64 (x : Int), .int .i64 0, .string s, .slice Aav k cav]) (by simp [results, Tryd.results78, go_sem, x0, x1, x2, x3]) rfl ?_
                have h := HPO.out
                unfold tyV at h
                rw [htl] at h
                exact h
            | false =>
              have hkn : k = n := by simpa using hex
              clear hgt hex hgo
              subst hkn
              go_wp2
              all_goals
                rw [← HW.out]
                obtain ⟨x0, x1, x2, x3⟩ := box4 HBXF.out
                refine bodyPost_ret (v := .agg #[.int .i64 (x : Int), .int .i64 0, .string s, .slice Aav k cav]) (by simp [results, Tryd.results78, go_sem, x0, x1, x2, x3]) rfl ?_
                have h := HPO.out
                unfold tyV at h
                rw [htl] at h
                exact h
end Go.Proofs.YtbhicpjhijondaaDoor
