/- The reference's journal: Sync and Append. -/
import Derived.Test.YtpdelgjfamelfaaGreatK7
namespace Go.Proofs.YtpdelgjfamelfaaGreat
open Go.RowKit Go.Lib Go.Vfs Go.Par Go.Shelf
set_option linter.unusedVariables false
set_option linter.unusedSimpArgs false

/-- the boxes of a method of the reference's journal: the journal's, the answer's. -/
structure J5 (w : World) (pj : Int) (vj : Value) (gen : Int) (bv rv : Value) (W : World) : Prop where
  below : Below w.heap.size w W
  size : w.heap.size + 2 ≤ W.heap.size
  h0 : W.heap[w.heap.size]? = some (.cells #[.int .i64 pj, vj, .int .i64 gen, bv, rv] 45 (0, 0))
  h1 : W.heap[w.heap.size + 1]? = some (.cells #[.int .i64 0, .slice none 0 0, .int .i64 0, .slice none 0 0, .slice none 0 0] 45 (0, 0))
section
variable {w W W' : World} {pj gen : Int} {vj bv rv : Value}
theorem J5.far (h : J5 w pj vj gen bv rv W) {n : Nat} (hn : w.heap.size + 2 ≤ n) (hb : Below n W W') : J5 w pj vj gen bv rv W' := by
  have hz := h.size
  have hzz := hb.size
  exact ⟨h.below.trans (hb.mono (by omega)), by omega, (hb.block _ (by omega)).trans h.h0, (hb.block _ (by omega)).trans h.h1⟩
theorem J5.go (h : J5 w pj vj gen bv rv W) (hb : Below W.heap.size W W') : J5 w pj vj gen bv rv W' := h.far h.size hb
theorem J5.cells (h : J5 w pj vj gen bv rv W) :
    W.cell? ⟨w.heap.size, 0, none⟩ = some (.int .i64 pj) ∧ W.cell? ⟨w.heap.size, 1, none⟩ = some vj ∧ W.cell? ⟨w.heap.size, 2, none⟩ = some (.int .i64 gen) ∧ W.cell? ⟨w.heap.size, 3, none⟩ = some bv ∧ W.cell? ⟨w.heap.size, 4, none⟩ = some rv ∧
    W.frozen? ⟨w.heap.size, 0, none⟩ = false ∧ W.frozen? ⟨w.heap.size, 1, none⟩ = false ∧ W.frozen? ⟨w.heap.size, 2, none⟩ = false ∧ W.frozen? ⟨w.heap.size, 3, none⟩ = false ∧ W.frozen? ⟨w.heap.size, 4, none⟩ = false ∧ W.frozen? ⟨w.heap.size + 1, 0, none⟩ = false ∧ W.frozen? ⟨w.heap.size + 1, 1, none⟩ = false ∧ W.frozen? ⟨w.heap.size + 1, 2, none⟩ = false ∧ W.frozen? ⟨w.heap.size + 1, 3, none⟩ = false ∧ W.frozen? ⟨w.heap.size + 1, 4, none⟩ = false ∧ W.cell? ⟨w.heap.size + 1, 0, none⟩ = some (.int .i64 0) ∧ W.cell? ⟨w.heap.size + 1, 1, none⟩ = some (.slice none 0 0) ∧ W.cell? ⟨w.heap.size + 1, 2, none⟩ = some (.int .i64 0) ∧ W.cell? ⟨w.heap.size + 1, 3, none⟩ = some (.slice none 0 0) ∧ W.cell? ⟨w.heap.size + 1, 4, none⟩ = some (.slice none 0 0) := by
  have h0 := h.h0
  have h1 := h.h1
  simp [World.cell?, World.frozen?, h0, h1]
theorem J5.start (w : World) (pj gen : Int) (vj bv rv : Value) : J5 w pj vj gen bv rv ((w.alloc (.cells #[.int .i64 pj, vj, .int .i64 gen, bv, rv] 45)).alloc (.cells #[.int .i64 0, .slice none 0 0, .int .i64 0, .slice none 0 0, .slice none 0 0] 45)) := by
  have b1 := box_below w (.cells #[.int .i64 pj, vj, .int .i64 gen, bv, rv] 45)
  have b2 := box_below (w.alloc (.cells #[.int .i64 pj, vj, .int .i64 gen, bv, rv] 45)) (.cells #[.int .i64 0, .slice none 0 0, .int .i64 0, .slice none 0 0, .slice none 0 0] 45)
  have e1 : (w.alloc (.cells #[.int .i64 pj, vj, .int .i64 gen, bv, rv] 45)).heap.size = w.heap.size + 1 := by simp
  refine ⟨b1.trans (b2.mono (by omega)), by simp, ?_, ?_⟩
  · rw [b2.block _ (by omega)]; exact heap_alloc_new w _
  · rw [← e1]; exact heap_alloc_new _ _
theorem J5.kept (h : J5 w pj vj gen bv rv W) (hk : Kept (fun b => b = w.heap.size) W W') {pj' gen' : Int} {vj' bv' rv' : Value} (h0 : W'.heap[w.heap.size]? = some (.cells #[.int .i64 pj', vj', .int .i64 gen', bv', rv'] 45 (0, 0))) : J5 w pj' vj' gen' bv' rv' W' := by
  have hz := h.size
  have hks := hk.size
  exact ⟨h.below.trans (hk.below (by omega) (fun k hk => by omega)), by omega, h0, (hk.block _ (by omega) (by omega)).trans h.h1⟩
theorem setJ (w W : World) (a0 a1 : Value) (i j : Nat) : Kept (fun b => b = w.heap.size) W ((W.setCell ⟨w.heap.size, i, none⟩ a0).setCell ⟨w.heap.size, j, none⟩ a1) :=
  ((Kept.refl (fun b => b = w.heap.size) W).setCell (p := ⟨w.heap.size, i, none⟩) (.inl rfl) _).setCell (p := ⟨w.heap.size, j, none⟩) (.inl rfl) _
theorem setJ1 (w W : World) (a0 : Value) (i : Nat) : Kept (fun b => b = w.heap.size) W (W.setCell ⟨w.heap.size, i, none⟩ a0) := (Kept.refl (fun b => b = w.heap.size) W).setCell (p := ⟨w.heap.size, i, none⟩) (.inl rfl) _
theorem J5.files (h : J5 w pj vj gen bv rv W) (pj' : Int) (vj' : Value) : J5 w pj' vj' gen bv rv ((W.setCell ⟨w.heap.size, 0, none⟩ (.int .i64 pj')).setCell ⟨w.heap.size, 1, none⟩ vj') := by
  refine h.kept (setJ w W _ _ _ _) ?_
  have h2 := cells_setCell (cells_setCell h.h0 0 (.int .i64 pj')) 1 vj'
  simpa using h2
theorem J5.setG (h : J5 w pj vj gen bv rv W) (g : Int) : J5 w pj vj g bv rv (W.setCell ⟨w.heap.size, 2, none⟩ (.int .i64 g)) := by
  refine h.kept (setJ1 w W _ _) ?_
  have h2 := cells_setCell h.h0 2 (.int .i64 g)
  simpa using h2
theorem J5.setB (h : J5 w pj vj gen bv rv W) (u : Value) : J5 w pj vj gen u rv (W.setCell ⟨w.heap.size, 3, none⟩ u) := by
  refine h.kept (setJ1 w W _ _) ?_
  have h2 := cells_setCell h.h0 3 u
  simpa using h2
theorem J5.setR (h : J5 w pj vj gen bv rv W) (u : Value) : J5 w pj vj gen bv u (W.setCell ⟨w.heap.size, 4, none⟩ u) := by
  refine h.kept (setJ1 w W _ _) ?_
  have h2 := cells_setCell h.h0 4 u
  simpa using h2
/-- what a journal of the reference holds: files, records. -/
structure RJv (S : Nat → Prop) (w : World) (fs : List File) (base rest : List (List UInt8)) (v bv rv : Value) : Prop where
  ref : RefS S w v fs
  rb : RowsAt S w bv base
  rr : RowsAt S w rv rest
theorem RJv.keep {S S' : Nat → Prop} {fs : List File} {base rest : List (List UInt8)} {v bv rv : Value} (h : RJv S w fs base rest v bv rv) (hk : ∀ b, S b → S' b ∧ W.heap[b]? = w.heap[b]?) : RJv S' W fs base rest v bv rv := ⟨h.ref.keep hk, h.rb.keep hk, h.rr.keep hk⟩
theorem RJv.old {S : Nat → Prop} {fs : List File} {base rest : List (List UInt8)} {v b r : Value} (h : RJv S w fs base rest v b r) (hS : ∀ b, S b → b < w.heap.size) (hb : Below w.heap.size w W) : RJv S W fs base rest v b r := h.keep fun b hs => ⟨hs, hb.block b (hS b hs)⟩
/-- from the boxes on. -/
theorem mid_go {S : Nat → Prop} (hS : ∀ b, S b → b < w.heap.size) (hz : w.heap.size + 2 ≤ W.heap.size) {F : Nat → Prop} (hk : Kept F W W') (hF : ∀ k, F k → k = w.heap.size ∨ k = w.heap.size + 1 ∨ W.heap.size ≤ k) : ∀ b, Mid S w W b → Mid S w W' b ∧ W'.heap[b]? = W.heap[b]? := fun b hb => by
  have hks := hk.size
  rcases hb with hb | hb
  · have := hS b hb
    exact ⟨.inl hb, hk.block b (by omega) (fun hf => by have := hF b hf; omega)⟩
  · exact ⟨.inr ⟨hb.1, by omega⟩, hk.block b hb.2 (fun hf => by have := hF b hf; omega)⟩
theorem mid_lt {S : Nat → Prop} (hS : ∀ b, S b → b < w.heap.size) (hz : w.heap.size + 2 ≤ W.heap.size) : ∀ b, Mid S w W b → b < W.heap.size := fun b hb => by
  rcases hb with hb | hb
  · have := hS b hb; omega
  · exact hb.2
theorem mid_new {S : Nat → Prop} (hz : w.heap.size + 2 ≤ W.heap.size) (hzz : W.heap.size ≤ W'.heap.size) : ∀ b, New (Mid S w W) W W' b → Mid S w W' b := fun b hb => by
  rcases hb with (hb | hb) | hb
  · exact .inl hb
  · exact .inr ⟨hb.1, by omega⟩
  · exact .inr ⟨by omega, hb.2⟩
theorem mid_newest {S : Nat → Prop} (hzz : w.heap.size ≤ W.heap.size) : ∀ b, Mid S w W b → New S w W b := fun b hb => by
  rcases hb with hb | hb
  · exact .inl hb
  · exact .inr ⟨by omega, hb.2⟩
/-- what a method of the reference's journal answers. -/
def RJPost (w : World) (S : Nat → Prop) (r : St × Int) (gen : Int) (base rest : List (List UInt8)) (e : Ending) (w' : World) : Prop :=
  ∃ A n c Ab nb cb Ar nr cr, e = .returned (.tuple #[.agg #[.int .i64 r.1.power, .slice A n c, .int .i64 gen, .slice Ab nb cb, .slice Ar nr cr], .int .i64 r.2]) ∧ RJv (New S w w') w' r.1.files base rest (.slice A n c) (.slice Ab nb cb) (.slice Ar nr cr) ∧ Below w.heap.size w w'
theorem J5.fin {S : Nat → Prop} {T : St} {er : Int} {base rest : List (List UInt8)} {A Ab Ar : Option Addr} {n c nb cb nr cr : Nat} (h : J5 w T.power (.slice A n c) gen (.slice Ab nb cb) (.slice Ar nr cr) W) (hS : ∀ b, S b → b < w.heap.size) (hr : RJv (Mid S w W) W T.files base rest (.slice A n c) (.slice Ab nb cb) (.slice Ar nr cr)) :
    RJPost w S (T, er) gen base rest (.returned (.tuple #[.agg #[.int .i64 T.power, .slice A n c, .int .i64 gen, .slice Ab nb cb, .slice Ar nr cr], .int .i64 er])) (((((W.setCell ⟨w.heap.size + 1, 0, none⟩ (.int .i64 T.power)).setCell ⟨w.heap.size + 1, 1, none⟩ (.slice A n c)).setCell ⟨w.heap.size + 1, 2, none⟩ (.int .i64 gen)).setCell ⟨w.heap.size + 1, 3, none⟩ (.slice Ab nb cb)).setCell ⟨w.heap.size + 1, 4, none⟩ (.slice Ar nr cr)) := by
  have hk5 := ret5 w W (.int .i64 T.power) (.slice A n c) (.int .i64 gen) (.slice Ab nb cb) (.slice Ar nr cr)
  have hz := h.size
  have hks := hk5.size
  refine ⟨_, _, _, _, _, _, _, _, _, rfl, hr.keep fun b hb => ?_, h.below.trans (hk5.below (by omega) (fun k hk => by omega))⟩
  obtain ⟨h1, h2⟩ := mid_go hS hz hk5 (fun k hk => .inr (.inl hk)) b hb
  exact ⟨mid_newest (by omega) b h1, h2⟩
end

set_option maxRecDepth 20000 in
set_option maxHeartbeats 2000000 in
theorem rjsync_any (st : St) (hp : st.power ≤ 9223372036854775807) (S : Nat → Prop) (w : World) (hS : ∀ b, S b → b < w.heap.size) (g : Int) (base rest : List (List UInt8)) (A Ab Ar : Option Addr) (n c nb cb nr cr : Nat) (h : RJv S w st.files base rest (.slice A n c) (.slice Ab nb cb) (.slice Ar nr cr)) (hl : st.files.length ≤ 900000) (hd : ∀ f ∈ st.files, f.data.length ≤ 1000000) :
    Calls Tryz.prog 28 #[.agg #[.int .i64 st.power, .slice A n c, .int .i64 g, .slice Ab nb cb, .slice Ar nr cr]] w (RJPost w S (jSync st) g base rest) := by
  have h0 := J5.start w st.power g (.slice A n c) (.slice Ab nb cb) (.slice Ar nr cr)
  have HHAS := Lib.hid (rhas_any st _ S _ (fun b hb => by have := hS b hb; have := h0.size; omega) (h.old hS h0.below).ref nLog (by decide) (by decide) hd)
  have HSY : Hid (∀ W, J5 w st.power (.slice A n c) g (.slice Ab nb cb) (.slice Ar nr cr) W → Calls Tryz.prog 11 #[.agg #[.int .i64 st.power, .slice A n c], .string ⟨#[108, 111, 103]⟩] W (RPost W S (stSync st nLog))) := Lib.hid fun W hW =>
    rsync_any st hp _ S W (fun b hb => by have := hS b hb; have := hW.size; omega) (h.old hS hW.below).ref nLog (by decide) hl
  have H0 := Lib.hid h0; have H := Lib.hid h; have HS := Lib.hid hS
  clear h0 h hS hd
  obtain ⟨P, hP⟩ : ∃ P, P = RJPost w S (jSync st) g base rest := ⟨_, rfl⟩
  rw [← hP]
  have HP := Lib.hid hP
  clear hP
  go_enter Tryz.func28, Tryz.ntmps28
  go_wp2_with fail
  refine HHAS.out.mono ?_
  rintro e w1 ⟨rfl, hb1⟩
  have HI1 := Lib.hid (H0.out.go hb1)
  have HM1 : Hid (RJv (Mid S w w1) w1 st.files base rest (.slice A n c) (.slice Ab nb cb) (.slice Ar nr cr)) := Lib.hid (H.out.keep fun b hb => ⟨.inl hb, HI1.out.below.block b (HS.out b hb)⟩)
  clear hb1 HHAS H0
  cases hh : hasF st.files nLog
  · have HE : Hid (jSync st = (st, 0)) := Lib.hid (by unfold jSync; rw [hh]; rfl)
    clear hh
    obtain ⟨x0, x1, x2, x3, x4, x5, x6, x7, x8, x9, x10, x11, x12, x13, x14, x15, x16, x17, x18, x19⟩ := HI1.out.cells
    go_wp2
    refine bodyPost_ret (v := .tuple #[.agg #[.int .i64 st.power, .slice A n c, .int .i64 g, .slice Ab nb cb, .slice Ar nr cr], .int .i64 0]) (by simp [results, Tryz.results28, go_sem, x0, x1, x2, x3, x4, x5, x6, x7, x8, x9, x10, x11, x12, x13, x14, x15, x16, x17, x18, x19]) rfl ?_
    rw [HP.out, HE.out]
    exact HI1.out.fin HS.out HM1.out
  · have HE : Hid (jSync st = stSync st nLog) := Lib.hid (by unfold jSync; rw [hh]; rfl)
    have HSZ := HSY.out w1 HI1.out
    rw [← HE.out] at HSZ
    have HSZ := Lib.hid HSZ
    clear hh HSY
    obtain ⟨R, hR⟩ : ∃ R, R = jSync st := ⟨_, rfl⟩
    rw [← hR] at HSZ HP
    clear hR HE
    obtain ⟨T, er⟩ := R
    obtain ⟨x0, x1, x2, x3, x4, x5, x6, x7, x8, x9, x10, x11, x12, x13, x14, x15, x16, x17, x18, x19⟩ := HI1.out.cells
    go_wp2_with fail
    refine HSZ.out.mono ?_
    rintro e w2 ⟨v2, rfl, hr2, hb2⟩
    obtain ⟨A2, c2, rfl, -⟩ := hr2.form
    simp only at hr2
    have hi2 := ((HI1.out.go hb2).go (box_below w2 (.cells #[.int .i64 T.power, .slice A2 T.files.length c2] 28)))
    have HI3 := Lib.hid (hi2.files T.power (.slice A2 T.files.length c2))
    have hbb : Below w1.heap.size w1 (w2.alloc (.cells #[.int .i64 T.power, .slice A2 T.files.length c2] 28)) := hb2.trans ((box_below w2 _).mono hb2.size)
    have HM3 : Hid (RJv (Mid S w ((((w2.alloc (.cells #[.int .i64 T.power, .slice A2 T.files.length c2] 28)).setCell ⟨w.heap.size, 0, none⟩ (.int .i64 T.power)).setCell ⟨w.heap.size, 1, none⟩ (.slice A2 T.files.length c2)))) ((((w2.alloc (.cells #[.int .i64 T.power, .slice A2 T.files.length c2] 28)).setCell ⟨w.heap.size, 0, none⟩ (.int .i64 T.power)).setCell ⟨w.heap.size, 1, none⟩ (.slice A2 T.files.length c2))) T.files base rest (.slice A2 T.files.length c2) (.slice Ab nb cb) (.slice Ar nr cr)) := by
      have hz2 := hi2.size
      have g1 : ∀ b, Mid S w w1 b → Mid S w (w2.alloc (.cells #[.int .i64 T.power, .slice A2 T.files.length c2] 28)) b ∧ _ := mid_go HS.out HI1.out.size (Kept.of_below (F := fun _ => False) hbb) (fun k hk => hk.elim)
      have g2 := mid_go HS.out hz2 (setJ w (w2.alloc (.cells #[.int .i64 T.power, .slice A2 T.files.length c2] 28)) (.int .i64 T.power) (.slice A2 T.files.length c2) 0 1) (fun k hk => .inl hk)
      have g12 := fun b hb => (⟨(g2 b (g1 b hb).1).1, (g2 b (g1 b hb).1).2.trans (g1 b hb).2⟩ : _ ∧ _)
      refine Lib.hid ⟨?_, HM1.out.rb.keep g12, HM1.out.rr.keep g12⟩
      have h3 : RefS (Mid S w (w2.alloc (.cells #[.int .i64 T.power, .slice A2 T.files.length c2] 28))) (w2.alloc (.cells #[.int .i64 T.power, .slice A2 T.files.length c2] 28)) (.slice A2 T.files.length c2) T.files := hr2.keep fun b hb => by
        have hzz := hb2.size
        have hs1 := HI1.out.size
        have hlt : b < w2.heap.size := by
          rcases hb with hb | hb
          · have := HS.out b hb; omega
          · exact hb.2
        refine ⟨?_, (box_below w2 _).block b hlt⟩
        rcases hb with hb | hb
        · exact .inl hb
        · exact .inr ⟨by omega, by have := (box_below w2 (.cells #[.int .i64 T.power, .slice A2 T.files.length c2] 28)).size; omega⟩
      exact h3.keep g2
    clear x0 x1 x2 x3 x4 x5 x6 x7 x8 x9 x10 x11 x12 x13 x14 x15 x16 x17 x18 x19
    obtain ⟨x0, x1, x2, x3, x4, x5, x6, x7, x8, x9, x10, x11, x12, x13, x14, x15, x16, x17, x18, x19⟩ := hi2.cells
    clear hi2 hr2 hb2 hbb HSZ HI1
    go_wp2
    refine bodyPost_ret (v := .tuple #[.agg #[.int .i64 T.power, .slice A2 T.files.length c2, .int .i64 g, .slice Ab nb cb, .slice Ar nr cr], .int .i64 er]) (by simp [results, Tryz.results28, go_sem, x0, x1, x2, x3, x4, x5, x6, x7, x8, x9, x10, x11, x12, x13, x14, x15, x16, x17, x18, x19]) rfl ?_
    rw [HP.out]
    exact HI3.out.fin HS.out HM3.out
end Go.Proofs.YtpdelgjfamelfaaGreat
