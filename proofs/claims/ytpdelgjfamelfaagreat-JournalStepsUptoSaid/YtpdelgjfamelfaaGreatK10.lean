/- The reference's journal: Append. -/
import Derived.Test.YtpdelgjfamelfaaGreatK9
namespace Go.Proofs.YtpdelgjfamelfaaGreat
open Go.RowKit Go.Lib Go.Vfs Go.Par Go.Shelf
set_option linter.unusedVariables false
set_option linter.unusedSimpArgs false

theorem Rowed.more {w wr : World} {ls : List (List UInt8)} {v : Value} {us : List Value} (h : Rowed w ls ls.length v us wr) (p : List UInt8) : Rowed w (ls ++ [p]) ls.length v us wr :=
  ⟨h.below, h.len, h.own, fun i hi => by rw [getD_snoc_lt _ _ _ _ hi]; exact h.cells i hi⟩

/-- the blocks of the reference but for the box of a file system on the way. -/
def MidX (S : Nat → Prop) (w : World) (X : Nat) (W : World) (b : Nat) : Prop := Mid S w W b ∧ b ≠ X
/-- a file system on the way, in a box of its own. -/
structure TmpI (S : Nat → Prop) (w : World) (T : St) (pw g : Int) (v bv rv : Value) (b : Nat) (u : Value) (W : World) : Prop where
  box : W.heap[b]? = some (.cells #[.int .i64 T.power, u] 28 (0, 0))
  j5 : J5 w pw v g bv rv W
  ref : RefS (MidX S w b W) W u T.files
  lo : w.heap.size + 2 ≤ b
section
variable {S : Nat → Prop} {w W w6 : World} {T : St} {pw g : Int} {v bv rv u : Value}
theorem TmpI.late (hS : ∀ b, S b → b < w.heap.size) (hJ : J5 w pw v g bv rv w6) (hR : RefS (New S W w6) w6 u T.files) (hz : w.heap.size + 2 ≤ W.heap.size) : TmpI S w T pw g v bv rv w6.heap.size u (w6.alloc (.cells #[.int .i64 T.power, u] 28)) := by
  have hb := box_below w6 (.cells #[.int .i64 T.power, u] 28)
  have hj := hJ.size
  refine ⟨heap_alloc_new w6 _, hJ.go hb, hR.keep fun b hb2 => ?_, hj⟩
  have hlt : b < w6.heap.size := by
    rcases hb2 with hb2 | hb2
    · have := hS b hb2; omega
    · exact hb2.2
  have hsz := hb.size
  refine ⟨⟨?_, by omega⟩, hb.block b hlt⟩
  rcases hb2 with hb2 | hb2
  · exact .inl hb2
  · exact .inr ⟨by omega, by omega⟩
theorem TmpI.early (hS : ∀ b, S b → b < w.heap.size) (hJ : J5 w pw v g bv rv w6) (hR : RefS (New S W w6) w6 u T.files) {X : Nat} {a b : Value} (hX : w6.heap[X]? = some (.cells #[a, b] 28 (0, 0))) (h1 : w.heap.size + 2 ≤ X) (h2 : X < W.heap.size) : TmpI S w T pw g v bv rv X u ((w6.setCell ⟨X, 0, none⟩ (.int .i64 T.power)).setCell ⟨X, 1, none⟩ u) := by
  have hK := Pair.kept w6 X (.int .i64 T.power) u
  have hj := hJ.size
  have hxx := lt_of_block hX
  have hks := hK.size
  refine ⟨two_setCell (two_setCell0 hX), hJ.far (n := X) h1 (hK.below (by omega) (fun k hk => by omega)), hR.keep fun b hb2 => ?_, h1⟩
  have hne : b ≠ X := by
    rcases hb2 with hb2 | hb2
    · have := hS b hb2; omega
    · omega
  have hlt : b < w6.heap.size := by
    rcases hb2 with hb2 | hb2
    · have := hS b hb2; omega
    · exact hb2.2
  refine ⟨⟨?_, hne⟩, hK.block b hlt hne⟩
  rcases hb2 with hb2 | hb2
  · exact .inl hb2
  · exact .inr ⟨by omega, by omega⟩
theorem TmpI.cells {X : Nat} (h : TmpI S w T pw g v bv rv X u W) : W.cell? ⟨X, 0, none⟩ = some (.int .i64 T.power) ∧ W.cell? ⟨X, 1, none⟩ = some u ∧ W.frozen? ⟨X, 0, none⟩ = false ∧ W.frozen? ⟨X, 1, none⟩ = false := by
  have h0 := h.box
  simp [World.cell?, World.frozen?, h0]
end
/-- a box of a file system that is still empty. -/
def Zero2 (X : Nat) (W : World) : Prop := W.heap[X]? = some (.cells #[.int .i64 0, .slice none 0 0] 28 (0, 0))
theorem Zero2.cells {X : Nat} {W : World} (h : Zero2 X W) : W.cell? ⟨X, 0, none⟩ = some (.int .i64 0) ∧ W.cell? ⟨X, 1, none⟩ = some (.slice none 0 0) ∧ W.frozen? ⟨X, 0, none⟩ = false ∧ W.frozen? ⟨X, 1, none⟩ = false := by
  unfold Zero2 at h
  simp [World.cell?, World.frozen?, h]
theorem Zero2.go {X : Nat} {W W' : World} (h : Zero2 X W) (hb : Below W.heap.size W W') : Zero2 X W' := (hb.block _ (lt_of_block h)).trans h
theorem Zero2.new (W : World) : Zero2 W.heap.size (W.alloc (.cells #[.int .i64 0, .slice none 0 0] 28)) := heap_alloc_new W _

theorem Rowed.cast {w wr : World} {ls : List (List UInt8)} {k m : Nat} {v : Value} {us : List Value} (h : Rowed w ls k v us wr) (e : k = m) : Rowed w ls m v us wr := e ▸ h

set_option maxRecDepth 20000 in
set_option maxHeartbeats 8000000 in
theorem rjappend_any (st : St) (hp : st.power ≤ 9223372036854775807) (S : Nat → Prop) (w : World) (hS : ∀ b, S b → b < w.heap.size) (g : Nat) (hg : g < 4294967296) (base rest : List (List UInt8)) (A Ab Ar : Option Addr) (n c nb cb nr cr : Nat) (h : RJv S w st.files base rest (.slice A n c) (.slice Ab nb cb) (.slice Ar nr cr)) (hl : st.files.length ≤ 900000) (hd : ∀ f ∈ st.files, f.data.length ≤ 1000000)
    (Ap : Option Addr) (cp : Nat) (pay : List UInt8) (hv : Seg w w.heap.size (.slice Ap pay.length cp) (byteCells pay)) (hpl : pay.length ≤ 65536) (hrl : rest.length ≤ 1000000) (hrd : ∀ l ∈ rest, l.length ≤ 1000000) :
    Calls Tryz.prog 26 #[.agg #[.int .i64 st.power, .slice A n c, .int .i64 (g : Nat), .slice Ab nb cb, .slice Ar nr cr], .slice Ap pay.length cp] w (RJPost w S ((jAppend st g rest pay).1, (jAppend st g rest pay).2.1) (g : Nat) base (jAppend st g rest pay).2.2) := by
  have h0 := J5.start w st.power (g : Nat) (.slice A n c) (.slice Ab nb cb) (.slice Ar nr cr)
  obtain ⟨M, hM⟩ : ∃ M, M = (frameB g pay).length := ⟨_, rfl⟩
  have hMl : M ≤ 65548 := by rw [hM, frameB_length]; omega
  have HM := Lib.hid hM
  have H0 := Lib.hid h0; have H := Lib.hid h; have HS := Lib.hid hS; have HV := Lib.hid hv
  have HFR : Hid (∀ W, J5 w st.power (.slice A n c) (g : Nat) (.slice Ab nb cb) (.slice Ar nr cr) W → Calls Tryz.prog 63 #[.int .i64 (g : Nat), .slice Ap pay.length cp] W fun e w' => ∃ A3 c3, e = .returned (.slice A3 M c3) ∧ Hid (Par.Own w' W.heap.size 5 (.slice A3 M c3) (byteCells (frameB g pay))) ∧ Hid (J5 w st.power (.slice A n c) (g : Nat) (.slice Ab nb cb) (.slice Ar nr cr) w') ∧ (w'.cell? ⟨w.heap.size, 0, none⟩ = some (.int .i64 st.power) ∧ w'.cell? ⟨w.heap.size, 1, none⟩ = some (.slice A n c)) ∧ w.heap.size < w'.heap.size ∧ Hid (Below W.heap.size W w')) := Lib.hid fun W hW => by
    have hbel := hW.below
    have hz := hW.size
    refine (rframe_any g hg _ pay W ((HV.out.below hbel).more (by omega)) (by omega)).mono ?_
    rintro e w' ⟨A3, c3, rfl, ho, hb⟩
    have h2 := hW.go hb
    obtain ⟨x0, x1, -⟩ := h2.cells
    rw [← HM.out] at ho ⊢
    exact ⟨A3, c3, rfl, Lib.hid ho, Lib.hid h2, ⟨x0, x1⟩, by have := h2.size; omega, Lib.hid hb⟩
  obtain ⟨R, hR⟩ : ∃ R, R = stAppend st nLog (frameB g pay) := ⟨_, rfl⟩
  have HRA : Hid (∀ (W : World) (u3 : Value), J5 w st.power (.slice A n c) (g : Nat) (.slice Ab nb cb) (.slice Ar nr cr) W → RowsAt (· < W.heap.size) W u3 [frameB g pay] → Calls Tryz.prog 10 #[.agg #[.int .i64 st.power, .slice A n c], .string ⟨#[108, 111, 103]⟩, u3] W fun e w' => ∃ A2 n2 c2, e = .returned (.tuple #[.agg #[.int .i64 R.1.power, .slice A2 n2 c2], .int .i64 R.2]) ∧ Hid (J5 w st.power (.slice A n c) (g : Nat) (.slice Ab nb cb) (.slice Ar nr cr) w') ∧ Hid (RefS (New S W w') w' (.slice A2 n2 c2) R.1.files) ∧ Hid (Below W.heap.size W w') ∧ Hid (w.heap.size + 2 ≤ W.heap.size)) := Lib.hid fun W u3 hW1 hr => by
    have hz1 := hW1.size
    refine (rappend_any st hp _ S _ (fun b hb => by have := HS.out b hb; omega) (H.out.old HS.out hW1.below).ref nLog (by decide) hl hd _ [frameB g pay] hr (by simp; rw [← HM.out]; omega)).mono ?_
    rintro e w' ⟨v', rfl, g1, g2⟩
    have hfl : [frameB g pay].flatten = frameB g pay := by simp
    simp only [hfl] at g1 ⊢
    rw [← hR] at g1 ⊢
    obtain ⟨A2, c2, rfl, -, -⟩ := g1.form
    exact ⟨A2, _, c2, rfl, Lib.hid (hW1.go g2), Lib.hid g1, Lib.hid g2, Lib.hid hz1⟩
  have HJA : Hid (jAppend st g rest pay = (R.1, R.2, if R.2 = 0 then rest ++ [pay] else rest)) := Lib.hid (by unfold jAppend; rw [← hR])
  have HRD := Lib.hid hrd
  clear h0 h hS hd hv hM hrd hR
  obtain ⟨P, hP⟩ : ∃ P, P = RJPost w S ((jAppend st g rest pay).1, (jAppend st g rest pay).2.1) (g : Nat) base (jAppend st g rest pay).2.2 := ⟨_, rfl⟩
  rw [← hP]
  have HP := Lib.hid hP
  clear hP
  obtain ⟨T, er⟩ := R
  simp only at HJA
  have hpi : ¬ (65536 : Int) < (pay.length : Int) := by omega
  go_enter Tryz.func26, Tryz.ntmps26
  obtain ⟨x0, x1, x2, x3, x4, x5, x6, x7, x8, x9, x10, x11, x12, x13, x14, x15, x16, x17, x18, x19⟩ := H0.out.cells
  go_upto_region 3 with fail
  have HD0 := Lib.hid (H0.out.go ((Below.refl _ _).drew))
  have HT0 := Lib.hid ((H0.out.go (box_below _ (.cells #[.int .i64 0, .slice none 0 0] 28))).go ((Below.refl _ _).drew))
  have HZ0 : Hid (Zero2 (w.heap.size + 1 + 1) ((((w.alloc (.cells #[.int .i64 st.power, .slice A n c, .int .i64 (g : Nat), .slice Ab nb cb, .slice Ar nr cr] 45)).alloc (.cells #[.int .i64 0, .slice none 0 0, .int .i64 0, .slice none 0 0, .slice none 0 0] 45)).alloc (.cells #[.int .i64 0, .slice none 0 0] 28)).drew)) := Lib.hid (by
    have := Zero2.new ((w.alloc (.cells #[.int .i64 st.power, .slice A n c, .int .i64 (g : Nat), .slice Ab nb cb, .slice Ar nr cr] 45)).alloc (.cells #[.int .i64 0, .slice none 0 0, .int .i64 0, .slice none 0 0, .slice none 0 0] 45))
    simp only [World.size_alloc] at this
    exact this)
  have hrow : ∀ (W : World) (A3 : Option Addr) (c3 : Nat) (B x : Nat), x = W.heap.size → Par.Own W B 5 (.slice A3 M c3) (byteCells (frameB g pay)) → RowsAt (· < (W.alloc (.cells #[.slice A3 M c3] 22)).heap.size) (W.alloc (.cells #[.slice A3 M c3] 22)) (.slice (some ⟨x, 0, none⟩) 1 1) [frameB g pay] := fun W A3 c3 B x hx ho =>
    (RowsAt.new1 (F := fun _ => False) (fun j hj => hj.elim) (SegS.keep (S := (· < W.heap.size)) (S' := Out W fun _ => False) (Own.seg ho) fun j hj => ⟨⟨hj, fun hf => hf⟩, rfl⟩) x hx).sub fun j hj => hj.1
  have HROW := Lib.hid hrow
  have HROW2 : Hid (∀ (W : World) (A3 : Option Addr) (c3 : Nat) (B : Nat) (o : Obj), Par.Own W B 5 (.slice A3 M c3) (byteCells (frameB g pay)) → RowsAt (· < ((W.alloc (.cells #[.slice A3 M c3] 22)).alloc o).heap.size) ((W.alloc (.cells #[.slice A3 M c3] 22)).alloc o) (.slice (some ⟨W.heap.size, 0, none⟩) 1 1) [frameB g pay]) := Lib.hid fun W A3 c3 B o ho => (hrow W A3 c3 B _ rfl ho).keep fun b hb => ⟨by simp at hb ⊢; omega, (box_below _ _).block b hb⟩
  have HROW3 : Hid (∀ (W : World) (A3 : Option Addr) (c3 : Nat) (B : Nat) (o : Obj), Par.Own W B 5 (.slice A3 M c3) (byteCells (frameB g pay)) → RowsAt (· < ((W.alloc o).alloc (.cells #[.slice A3 M c3] 22)).heap.size) ((W.alloc o).alloc (.cells #[.slice A3 M c3] 22)) (.slice (some ⟨W.heap.size + 1, 0, none⟩) 1 1) [frameB g pay]) := Lib.hid fun W A3 c3 B o ho => hrow (W.alloc o) A3 c3 B _ (by simp) (ho.alloc o)
  clear hrow
  go_cut [6, 7] (fun f6 e7 wx => ∃ (b : Nat) (A2 : Option Addr) (n2 c2 : Nat), f6 = .pointer (some ⟨b, 0, none⟩) ∧ e7 = .int .i64 er ∧ Hid (TmpI S w T st.power (g : Nat) (.slice A n c) (.slice Ab nb cb) (.slice Ar nr cr) b (.slice A2 n2 c2) wx))
  case first =>
    --<A
    go_region_with (first
      | (go_at_call 63; (with_reducible refine (HFR.out _ HT0.out).mono ?_); rintro e w5 ⟨A3, c3, rfl, HO5, HJ5, ⟨y0, y1⟩, y2, HB5⟩; have HZ5 := Lib.hid (HZ0.out.go HB5.out); have HX := Lib.hid (And.intro (Nat.le_refl (w.heap.size + 2)) (show w.heap.size + 1 + 1 < w5.heap.size + 1 by have := HB5.out.size; simp at this; omega)); obtain ⟨z0, z1, z2, z3⟩ := HZ5.out.cells)
      | (go_at_call 63; (with_reducible refine (HFR.out _ HD0.out).mono ?_); rintro e w5 ⟨A3, c3, rfl, HO5, HJ5, ⟨y0, y1⟩, y2, HB5⟩)
      | (go_at_call 10; (with_reducible refine (HRA.out _ _ (HJ5.out.go (box_below _ _)) (HROW.out _ _ _ _ _ rfl HO5.out)).mono ?_); rintro e w6 ⟨A2, n2, c2, rfl, HJ6, HR6, HB6, HLO⟩; have HZ6 := Lib.hid ((HZ5.out.go (box_below _ _)).go HB6.out); have HX6 := Lib.hid (And.intro HX.out.1 (show w.heap.size + 1 + 1 < (w5.alloc (.cells #[.slice A3 M c3] 22)).heap.size by have := HX.out.2; simpa using this)); obtain ⟨t0, t1, t2, t3⟩ := HZ6.out.cells)
      | (go_at_call 10; (with_reducible refine (HRA.out _ _ (HJ5.out.go (box_below _ _)) (HROW.out _ _ _ _ _ rfl HO5.out)).mono ?_); rintro e w6 ⟨A2, n2, c2, rfl, HJ6, HR6, HB6, HLO⟩)
      | (go_at_call 10; (with_reducible refine (HRA.out _ _ ((HJ5.out.go (box_below _ _)).go (box_below _ _)) (HROW2.out _ _ _ _ _ HO5.out)).mono ?_); rintro e w6 ⟨A2, n2, c2, rfl, HJ6, HR6, HB6, HLO⟩; have HZ6 : Hid (Zero2 (w5.heap.size + 1) w6) := Lib.hid (Zero2.go (by have := Zero2.new (w5.alloc (.cells #[.slice A3 M c3] 22)); simp only [World.size_alloc] at this; exact this) HB6.out); have HX6 := Lib.hid (And.intro (show w.heap.size + 2 ≤ w5.heap.size + 1 by have := HJ5.out.size; omega) (show w5.heap.size + 1 < ((w5.alloc (.cells #[.slice A3 M c3] 22)).alloc (.cells #[.int .i64 0, .slice none 0 0] 28)).heap.size by simp)); obtain ⟨t0, t1, t2, t3⟩ := HZ6.out.cells)
      | (go_at_call 10; (with_reducible refine (HRA.out _ _ ((HJ5.out.go (box_below _ _)).go (box_below _ _)) (HROW3.out _ _ _ _ _ HO5.out)).mono ?_); rintro e w6 ⟨A2, n2, c2, rfl, HJ6, HR6, HB6, HLO⟩; have HZ6 : Hid (Zero2 (w5.heap.size) w6) := Lib.hid (((Zero2.new w5).go (box_below _ (.cells #[.slice A3 M c3] 22))).go HB6.out); have HX6 := Lib.hid (And.intro (show w.heap.size + 2 ≤ w5.heap.size from HJ5.out.size) (show w5.heap.size < ((w5.alloc (.cells #[.int .i64 0, .slice none 0 0] 28)).alloc (.cells #[.slice A3 M c3] 22)).heap.size by simp; omega)); obtain ⟨t0, t1, t2, t3⟩ := HZ6.out.cells))
    all_goals (
      go_wp2_with fail
      go_meet
      first
      | exact ⟨_, A2, n2, c2, rfl, rfl, Lib.hid (TmpI.early HS.out HJ6.out HR6.out HZ6.out HX6.out.1 HX6.out.2)⟩
      | exact ⟨_, A2, n2, c2, rfl, rfl, Lib.hid (TmpI.late HS.out HJ6.out HR6.out HLO.out)⟩)
    --A>
  case rest =>
    obtain ⟨b, A2, n2, c2, rfl, rfl, HTI⟩ := hcut
    clear x0 x1 x2 x3 x4 x5 x6 x7 x8 x9 x10 x11 x12 x13 x14 x15 x16 x17 x18 x19 HD0 HT0 HZ0 HROW HROW2 HROW3 HFR HRA H0
    obtain ⟨x0, x1, x2, x3, x4, x5, x6, x7, x8, x9, x10, x11, x12, x13, x14, x15, x16, x17, x18, x19⟩ := HTI.out.j5.cells
    obtain ⟨t0, t1, t2, t3⟩ := HTI.out.cells
    have HI3 := Lib.hid (HTI.out.j5.files T.power (.slice A2 n2 c2))
    have HM3 : Hid (RJv (Mid S w ((wc.setCell ⟨w.heap.size, 0, none⟩ (.int .i64 T.power)).setCell ⟨w.heap.size, 1, none⟩ (.slice A2 n2 c2))) ((wc.setCell ⟨w.heap.size, 0, none⟩ (.int .i64 T.power)).setCell ⟨w.heap.size, 1, none⟩ (.slice A2 n2 c2)) T.files base rest (.slice A2 n2 c2) (.slice Ab nb cb) (.slice Ar nr cr)) := Lib.hid (by
      have g2 := mid_go HS.out HTI.out.j5.size (setJ w wc (.int .i64 T.power) (.slice A2 n2 c2) 0 1) (fun k hk => .inl hk)
      have h1 := H.out.old HS.out HTI.out.j5.below
      exact ⟨(HTI.out.ref.sub fun b hb => hb.1).keep g2, (h1.rb.sub fun b hb => .inl hb).keep g2, (h1.rr.sub fun b hb => .inl hb).keep g2⟩)
    by_cases he : er = 0
    case neg =>
      have hef : (er != 0) = true := by simpa using he
      have HE : Hid (jAppend st g rest pay = (T, er, rest)) := Lib.hid (by rw [HJA.out, if_neg he])
      clear he HJA
      go_wp2
      refine bodyPost_ret (v := .tuple #[.agg #[.int .i64 T.power, .slice A2 n2 c2, .int .i64 g, .slice Ab nb cb, .slice Ar nr cr], .int .i64 er]) (by simp [results, Tryz.results26, go_sem, x0, x1, x2, x3, x4, x5, x6, x7, x8, x9, x10, x11, x12, x13, x14, x15, x16, x17, x18, x19]) rfl ?_
      rw [HP.out, HE.out]
      exact HI3.out.fin HS.out HM3.out
    case pos =>
      subst he
      have HE : Hid (jAppend st g rest pay = (T, 0, rest ++ [pay])) := Lib.hid (by rw [HJA.out, if_pos rfl])
      have hnr : nr = rest.length := by
        obtain ⟨_, _, hf, -⟩ := (HM3.out.rr.sub (S' := (· < ((wc.setCell ⟨w.heap.size, 0, none⟩ (.int .i64 T.power)).setCell ⟨w.heap.size, 1, none⟩ (.slice A2 n2 c2)).heap.size)) fun b hb => mid_lt HS.out HI3.out.size b hb).open_
        injection hf
      have HCR := Lib.hid (copyRowsX_any (.slice Ar nr cr) rest _ ((wc.setCell ⟨w.heap.size, 0, none⟩ (.int .i64 T.power)).setCell ⟨w.heap.size, 1, none⟩ (.slice A2 n2 c2)) (HM3.out.rr.sub fun b hb => mid_lt HS.out HI3.out.size b hb) (Nat.le_refl _) (by omega) HRD.out)
      have HNR := Lib.hid hnr
      clear HJA hnr
      go_wp2_with fail
      refine HCR.out.mono ?_
      rintro e w4 ⟨u, us, rfl, hx⟩
      obtain ⟨Au, cu, hform⟩ := hx.own.form
      rw [hx.len] at hform
      obtain ⟨N, hN⟩ : ∃ N, N = rest.length := ⟨_, rfl⟩
      rw [← hN] at hform
      have hNl : N ≤ 1000000 := by rw [hN]; exact hrl
      have HN := Lib.hid hN
      have HX := Lib.hid hx
      have HI4 := Lib.hid (HI3.out.go hx.below)
      clear hx hN HCR x0 x1 x2 x3 x4 x5 x6 x7 x8 x9 x10 x11 x12 x13 x14 x15 x16 x17 x18 x19 t0 t1 t2 t3
      subst hform
      have HV4 : Hid (Seg w4 w.heap.size (.slice Ap pay.length cp) (byteCells pay)) := Lib.hid (HV.out.below HI4.out.below)
      have hz4 : w.heap.size ≤ w4.heap.size := HI4.out.below.size
      have hz4' : w.heap.size < w4.heap.size := by have := HI4.out.size; omega
      go_wp2_with fail
      refine (copyBytes_any _ pay w.heap.size w4 HV4.out hz4 (by omega)).mono ?_
      rintro e w5 ⟨u5, rfl, hu5, hb5⟩
      obtain ⟨A5, c5, rfl⟩ := Own.formB hu5
      have hown5 := (HX.out.own.below hb5).alloc (.cells #[.slice A5 pay.length c5] 22)
      have hone := one_slices (Own.outS hu5 (F := fun _ => False) (fun _ h => h.elim))
      have hsg5 := Seg.new w5 22 #[.slice A5 pay.length c5] [.slice A5 pay.length c5] rfl (by simp [maxLen])
      have HU5 := Lib.hid hu5; have HB5 := Lib.hid hb5
      have hz5 := hb5.size
      have hxb := HX.out.below.size
      have hlen := HX.out.len
      rw [← HN.out] at hlen
      have HI5 := Lib.hid (HI4.out.go hb5)
      clear hu5 hb5 HV4
      go_wp2_with (at_builtin; refine wpList_app _ rfl _ _ _ rfl ((wc.setCell ⟨w.heap.size, 0, none⟩ (.int .i64 T.power)).setCell ⟨w.heap.size, 1, none⟩ (.slice A2 n2 c2)).heap.size 22 _ rowE _ _ rfl hown5 _ _ _ rfl hsg5 (fun x hx => by simp at hx; subst hx; exact hone) ?c1 ?c2 ?_)
      case c1 => simp; omega
      case c2 => simp at hxb ⊢; omega
      intro v6 w6 hown6 hg6 hat6
      have hown6' : Par.Own w6 ((wc.setCell ⟨w.heap.size, 0, none⟩ (.int .i64 T.power)).setCell ⟨w.heap.size, 1, none⟩ (.slice A2 n2 c2)).heap.size 22 v6 (us ++ [.slice A5 pay.length c5]) := by simpa using hown6
      have hnx := (HX.out.toRowed.more pay).next HB5.out (by rw [getD_snoc_eq]; exact HU5.out) _ hown6' hg6 hat6
      obtain ⟨A6, c6, hform6⟩ := hnx.own.form
      obtain ⟨N6, hN6⟩ : ∃ N6, N6 = (us ++ [Value.slice A5 pay.length c5]).length := ⟨_, rfl⟩
      rw [← hN6] at hform6
      have hrows := hnx.cast (by simp : rest.length + 1 = (rest ++ [pay]).length) |>.rows
      have HI6 := Lib.hid (HI3.out.go hnx.below)
      have HI7 := Lib.hid (HI6.out.setR (.slice A6 N6 c6))
      subst hform6
      have HM7 : Hid (RJv (Mid S w (w6.setCell ⟨w.heap.size, 4, none⟩ (.slice A6 N6 c6))) (w6.setCell ⟨w.heap.size, 4, none⟩ (.slice A6 N6 c6)) T.files base (rest ++ [pay]) (.slice A2 n2 c2) (.slice Ab nb cb) (.slice A6 N6 c6)) := Lib.hid (by
        have g1 := mid_go HS.out HI3.out.size (Kept.of_below (F := fun _ => False) hnx.below) (fun k hk => hk.elim)
        have g2 := mid_go HS.out HI6.out.size (setJ1 w w6 (.slice A6 N6 c6) 4) (fun k hk => .inl hk)
        have hz := HI3.out.size
        exact ⟨(HM3.out.ref.keep g1).keep g2, (HM3.out.rb.keep g1).keep g2, (hrows.sub (S' := Mid S w w6) fun b hb => .inr ⟨by have := hb.1; omega, hb.2⟩).keep g2⟩)
      clear hnx hrows hown6 hown6' hg6 hat6 hown5 hone hsg5 HU5 HB5 HI4 HI5 HX hN6
      obtain ⟨x0, x1, x2, x3, x4, x5, x6, x7, x8, x9, x10, x11, x12, x13, x14, x15, x16, x17, x18, x19⟩ := HI6.out.cells
      go_wp2
      refine bodyPost_ret (v := .tuple #[.agg #[.int .i64 T.power, .slice A2 n2 c2, .int .i64 g, .slice Ab nb cb, .slice A6 N6 c6], .int .i64 0]) (by simp [results, Tryz.results26, go_sem, x0, x1, x2, x3, x4, x5, x6, x7, x8, x9, x10, x11, x12, x13, x14, x15, x16, x17, x18, x19]) rfl ?_
      rw [HP.out, HE.out]
      exact HI7.out.fin HS.out HM7.out
end Go.Proofs.YtpdelgjfamelfaaGreat
