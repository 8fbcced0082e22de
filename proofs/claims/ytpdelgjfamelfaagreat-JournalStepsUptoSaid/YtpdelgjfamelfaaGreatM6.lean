/- Merged of V40 V41 V42 V43. -/
import Derived.Test.YtpdelgjfamelfaaGreatM5
import Derived.Test.YtpdelgjfamelfaaGreatM4
import Derived.Deep.RegionWith
import Derived.Deep.DeepCutAuto
import Derived.BigRegion
import Derived.Test.YtpdelgjfamelfaaGreatV36
import Derived.Test.YtpdelgjfamelfaaGreatV37
import Derived.Test.YtpdelgjfamelfaaGreatV38
import Derived.Test.YtpdelgjfamelfaaGreatM3
import Derived.Test.YtpdelgjfamelfaaGreatV39
/- V40 -/
/- The reference's file system: Crash. -/
namespace Go.Proofs.YtpdelgjfamelfaaGreat
open Go.RowKit Go.Lib Go.Vfs Go.Par
set_option linter.unusedVariables false
set_option linter.unusedSimpArgs false

/-- where the loop of Crash stands: the box of f, the box of the result, the box of out and its row. -/
structure CrR (w : World) (pow : Int) (v : Value) (power : Int) (u : Value) (ls : List (File × Value)) (wr : World) : Prop where
  below : Below w.heap.size w wr
  size : w.heap.size + 3 ≤ wr.heap.size
  h0 : wr.heap[w.heap.size]? = some (.cells #[.int .i64 pow, v] 28 (0, 0))
  h1 : wr.heap[w.heap.size + 1]? = some (.cells #[.int .i64 0, .slice none 0 0] 28 (0, 0))
  h2 : wr.heap[w.heap.size + 2]? = some (.cells #[.int .i64 power, u] 28 (0, 0))
  own : wr.ownsRow (w.heap.size + 3) 86 3 u ls.length (ls.flatMap fcells)
  data : ∀ x ∈ ls, SegS (fun b => w.heap.size + 3 ≤ b ∧ b < wr.heap.size ∧ u.ownBlock ≠ some b) wr x.2 (byteCells x.1.data)
theorem CrR.form {w : World} {pow : Int} {v : Value} {power : Int} {u : Value} {ls : List (File × Value)} {wr : World} (h : CrR w pow v power u ls wr) : ∃ A c, u = .slice A ls.length c := by
  rcases h.own.2 with ⟨rfl, h0⟩ | ⟨g, cap, cur, rfl, _⟩
  · exact ⟨none, 0, by rw [h0]⟩
  · exact ⟨_, cap, rfl⟩
theorem CrR.go {w : World} {pow : Int} {v : Value} {power : Int} {u : Value} {ls : List (File × Value)} {wr X : World} (h : CrR w pow v power u ls wr) (hb : Below wr.heap.size wr X) : CrR w pow v power u ls X := by
  have hz := h.size
  have hzz := hb.size
  refine ⟨h.below.trans (hb.mono (by omega)), by omega, (hb.block _ (by omega)).trans h.h0, (hb.block _ (by omega)).trans h.h1, (hb.block _ (by omega)).trans h.h2, World.ownsRow.kept (row := .none) h.own ⟨hb.os, hb.tape, hb.output, hb.size, fun k hk _ => hb.block k hk⟩ (by cases u.ownBlock <;> simp), fun x hx => ?_⟩
  exact (h.data x hx).keep fun b ⟨b1, b2, b3⟩ => ⟨⟨b1, by omega, b3⟩, hb.block b b2⟩
theorem CrR.push {w : World} {pow : Int} {v : Value} {power : Int} {u : Value} {ls : List (File × Value)} {X w5 : World} (h : CrR w pow v power u ls X) {f : File} {u2 : Value}
    (hu : SegS (fun b => w.heap.size + 3 ≤ b ∧ b < X.heap.size ∧ u.ownBlock ≠ some b) X u2 (byteCells f.data)) {u' : Value}
    (hown : w5.ownsRow (w.heap.size + 3) 86 3 u' (ls.length + 1) (ls.flatMap fcells ++ fcells (f, u2))) (hg : X.grownBy w5 u.ownBlock) (hat : u'.ownBlock = u.ownBlock ∨ u'.ownBlock = some X.heap.size) :
    CrR w pow v power u' (ls ++ [(f, u2)]) (w5.setCell ⟨w.heap.size + 2, 1, none⟩ u') := by
  have hz := h.size
  have hgs := hg.size
  have hv : ∀ g, u.ownBlock = some g → w.heap.size + 3 ≤ g ∧ g < X.heap.size := fun g e => World.ownsRow.lt h.own g e
  have hv' : ∀ g, u'.ownBlock = some g → w.heap.size + 3 ≤ g ∧ g < w5.heap.size := fun g e => World.ownsRow.lt hown g e
  have hs : ∀ k, k ≠ w.heap.size + 2 → (w5.setCell ⟨w.heap.size + 2, 1, none⟩ u').heap[k]? = w5.heap[k]? := fun k hk => Below.heap_setCell _ _ _ _ hk
  have hss : (w5.setCell ⟨w.heap.size + 2, 1, none⟩ u').heap.size = w5.heap.size := by simp [World.setCell]
  have hlow : ∀ k, k < w.heap.size + 3 → w5.heap[k]? = X.heap[k]? := fun k hk => hg.block k (by omega) (fun e => by have := (hv k e.symm).1; omega)
  have hstep : ∀ b, w.heap.size + 3 ≤ b ∧ b < X.heap.size ∧ u.ownBlock ≠ some b → (w.heap.size + 3 ≤ b ∧ b < (w5.setCell ⟨w.heap.size + 2, 1, none⟩ u').heap.size ∧ u'.ownBlock ≠ some b) ∧ (w5.setCell ⟨w.heap.size + 2, 1, none⟩ u').heap[b]? = X.heap[b]? := fun b ⟨b1, b2, b3⟩ => by
    refine ⟨⟨b1, by omega, fun e => ?_⟩, (hs b (by omega)).trans (hg.block b b2 (fun e => b3 e.symm))⟩
    rcases hat with e1 | e1
    · exact b3 (e1.symm.trans e)
    · rw [e1] at e; cases e; omega
  refine ⟨(h.below.grown hg h.below.size (fun g e => by have := (hv g e).1; omega)).setCell (by simp) _, by omega, (hs _ (by omega)).trans ((hlow _ (by omega)).trans h.h0), (hs _ (by omega)).trans ((hlow _ (by omega)).trans h.h1), two_setCell ((hlow _ (by omega)).trans h.h2), ?_, fun x hx => ?_⟩
  · have e : (ls ++ [(f, u2)]).flatMap fcells = ls.flatMap fcells ++ fcells (f, u2) := by simp
    rw [e, List.length_append]
    exact ownsRow_block hown (fun g hg => hs g (by have := (hv' g hg).1; omega))
  · rcases List.mem_append.1 hx with hx | hx
    · exact (h.data x hx).keep hstep
    · simp at hx
      subst hx
      exact hu.keep hstep
theorem CrR.cells {w : World} {pow : Int} {v : Value} {power : Int} {u : Value} {ls : List (File × Value)} {wr : World} (h : CrR w pow v power u ls wr) :
    (wr.cell? ⟨w.heap.size, 0, none⟩ = some (.int .i64 pow) ∧ wr.cell? ⟨w.heap.size, 1, none⟩ = some v) ∧ (wr.frozen? ⟨w.heap.size + 1, 0, none⟩ = false ∧ wr.frozen? ⟨w.heap.size + 1, 1, none⟩ = false ∧ wr.cell? ⟨w.heap.size + 1, 0, none⟩ = some (.int .i64 0) ∧ wr.cell? ⟨w.heap.size + 1, 1, none⟩ = some (.slice none 0 0)) ∧
    (wr.cell? ⟨w.heap.size + 1 + 1, 0, none⟩ = some (.int .i64 power) ∧ wr.cell? ⟨w.heap.size + 1 + 1, 1, none⟩ = some u ∧ wr.frozen? ⟨w.heap.size + 1 + 1, 0, none⟩ = false ∧ wr.frozen? ⟨w.heap.size + 1 + 1, 1, none⟩ = false) := by
  have h0 := h.h0
  have h1 := h.h1
  have h2 : wr.heap[w.heap.size + 1 + 1]? = some (.cells #[.int .i64 power, u] 28 (0, 0)) := h.h2
  simp [World.cell?, World.frozen?, h0, h1, h2]
theorem CrR.outcell {w : World} {pow : Int} {v : Value} {power : Int} {u : Value} {ls : List (File × Value)} {X w5 : World} (h : CrR w pow v power u ls X) (hg : X.grownBy w5 u.ownBlock) :
    w5.cell? ⟨w.heap.size + 1 + 1, 0, none⟩ = some (.int .i64 power) ∧ w5.cell? ⟨w.heap.size + 1 + 1, 1, none⟩ = some u ∧ w5.frozen? ⟨w.heap.size + 1 + 1, 0, none⟩ = false ∧ w5.frozen? ⟨w.heap.size + 1 + 1, 1, none⟩ = false := by
  have hz := h.size
  have h2 : w5.heap[w.heap.size + 1 + 1]? = some (.cells #[.int .i64 power, u] 28 (0, 0)) := (hg.block _ (by omega) (fun e => by have := (World.ownsRow.lt h.own _ e.symm).1; omega)).trans h.h2
  simp [World.cell?, World.frozen?, h2]
theorem CrR.start (w : World) (pow : Int) (v : Value) (power : Int) : CrR w pow v power (.slice none 0 0) [] (((w.alloc (.cells #[.int .i64 pow, v] 28)).alloc (.cells #[.int .i64 0, .slice none 0 0] 28)).alloc (.cells #[.int .i64 power, .slice none 0 0] 28)) := by
  have h1 := heap_alloc_new (w.alloc (.cells #[.int .i64 pow, v] 28)) (.cells #[.int .i64 0, .slice none 0 0] 28)
  have h2 := heap_alloc_new ((w.alloc (.cells #[.int .i64 pow, v] 28)).alloc (.cells #[.int .i64 0, .slice none 0 0] 28)) (.cells #[.int .i64 power, .slice none 0 0] 28)
  simp only [World.size_alloc] at h1 h2
  refine ⟨(box2_below w _ _).alloc (by simp; omega) _, by simp, ?_, ?_, h2, World.ownsRow_nil _ _ _ _, fun x hx => by cases hx⟩
  · rw [Below.heap_alloc _ _ _ (by simp; omega), Below.heap_alloc _ _ _ (by simp)]
    exact heap_alloc_new w _
  · rw [Below.heap_alloc _ _ _ (by simp)]
    exact h1
/-- the reference's answer. -/
theorem CrR.fin {w : World} {pow : Int} {v : Value} {power : Int} {u : Value} {ls : List (File × Value)} {wr w' : World} (h : CrR w pow v power u ls wr) (hK : Kept (fun b => b = w.heap.size + 1) wr w') (S : Nat → Prop) :
    RefS (New S w w') w' u (ls.map (·.1)) ∧ Below w.heap.size w w' := by
  have hz := h.size
  have hks := hK.size
  have hv : ∀ g, u.ownBlock = some g → w.heap.size + 3 ≤ g ∧ g < wr.heap.size := fun g e => World.ownsRow.lt h.own g e
  refine ⟨?_, h.below.trans (hK.below (by omega) (fun k hk => by omega))⟩
  have hr : RefS (fun b => w.heap.size + 3 ≤ b ∧ b < wr.heap.size) wr u (ls.map (·.1)) := by
    rcases h.own.2 with ⟨rfl, h0⟩ | ⟨g, cap, cur, rfl, hg, hh, hnc, hcm, hsz, htake⟩
    · have : ls = [] := List.eq_nil_of_length_eq_zero h0
      subst this
      exact RefS.nil _ _
    · refine ⟨some ⟨g, 0, none⟩, cap, by simp, by simpa using hnc, by simpa [maxLen] using hcm, fun i hi => ?_⟩
      have hi' : i < ls.length := by simpa using hi
      have hc : ∀ j, j < 3 → wr.cell? ⟨g, 0 + i * 3 + j, none⟩ = (fcells ls[i])[j]? := fun j hj => by
        have hl := fcells_len ls
        have hj' : i * 3 + j < (ls.flatMap fcells).length := by omega
        have := World.ownsRow.cells (g := g) h.own rfl (i * 3 + j) _ (List.getElem?_eq_getElem hj')
        rw [add_addr] at this
        rw [← fcells_get ls i j hi' hj, List.getElem?_eq_getElem hj', ← this]
        congr 2
        omega
      refine ⟨g, 0, rfl, hv g rfl, ls[i].2, ?_, ?_, ?_, ?_⟩
      · have := hc 0 (by omega); simp [fcells] at this ⊢; exact this
      · have := hc 1 (by omega); simp [fcells] at this ⊢; exact this
      · have := hc 2 (by omega); simp [fcells] at this ⊢; exact this
      · have := (h.data ls[i] (List.getElem_mem hi')).keep (S' := fun b => w.heap.size + 3 ≤ b ∧ b < wr.heap.size) (w' := wr) fun b hb => ⟨⟨hb.1, hb.2.1⟩, rfl⟩
        simpa using this
  exact hr.keep fun b hb => ⟨.inr ⟨by omega, by omega⟩, hK.block b hb.2 (by omega)⟩

/-- the box of the file, and its bytes copied. -/
theorem CrR.copied {w : World} {pow : Int} {v : Value} {power : Int} {u : Value} {ls : List (File × Value)} {wr : World} (h : CrR w pow v power u ls wr) {o : Obj} {w2 : World} (hb : Below (wr.alloc o).heap.size (wr.alloc o) w2) {u2 : Value} {d : List UInt8}
    (hu : Par.Own w2 (wr.alloc o).heap.size 5 u2 (byteCells d)) {X : World} (hX : Kept (fun b => b = wr.heap.size) w2 X) :
    CrR w pow v power u ls X ∧ SegS (fun b => w.heap.size + 3 ≤ b ∧ b < X.heap.size ∧ u.ownBlock ≠ some b) X u2 (byteCells d) := by
  have hz := h.size
  have hbs := hb.size
  simp only [World.size_alloc] at hbs
  have hxs := hX.size
  have hbX : Below wr.heap.size wr X := ((box_below wr o).trans (hb.mono (by simp))).trans (hX.below (by omega) (fun k hk => by omega))
  refine ⟨h.go hbX, (Own.outS hu (F := fun b => b ≤ wr.heap.size) (fun k hk => by simp; omega)).keep fun b hb2 => ?_⟩
  have h1 : wr.heap.size < b := by have := hb2.2; omega
  refine ⟨⟨by omega, by have := hb2.1; omega, fun e => ?_⟩, hX.block b hb2.1 (by omega)⟩
  have := (World.ownsRow.lt h.own b e).2
  omega

/-- how many bytes more are kept. -/
def cutM (k : Int) (f : File) : Nat := min k.toNat (f.data.length - f.safe)
theorem cutN_M (k : Int) (f : File) : cutN k f = f.safe + cutM k f := rfl

set_option maxRecDepth 20000 in
set_option maxHeartbeats 4000000 in
theorem rcrash_any (pow : Int) (v : Value) (fs : List File) (S : Nat → Prop) (w : World) (hS : ∀ b, S b → b < w.heap.size) (h : RefS S w v fs) (hl : fs.length ≤ 900000) (hd : ∀ f ∈ fs, f.data.length ≤ 1000000 ∧ f.safe ≤ f.data.length)
    (kv : Value) (keeps : List Int) (hk : Seg w w.heap.size kv (ints keeps)) (power : Int) :
    Calls Tryz.prog 15 #[.agg #[.int .i64 pow, v], kv, .int .i64 power] w fun e w' => ∃ v', e = .returned (.agg #[.int .i64 power, v']) ∧ RefS (New S w w') w' v' (crashL keeps 0 fs) ∧ Below w.heap.size w w' := by
  obtain ⟨A, c, rfl, hc, hm⟩ := h.form
  obtain ⟨Ak, ck, rfl, hkc, hkm, hkat⟩ := hk.open_ints
  have H := Lib.hid h; clear h
  have HS := Lib.hid hS; clear hS
  have HD := Lib.hid hd; clear hd
  have HKA := Lib.hid hkat; clear hkat hk
  have R0 := Lib.hid (CrR.start w pow (.slice A fs.length c) power)
  go_enter Tryz.func15, Tryz.ntmps15
  go_wp2
  go_loopw [8] (fun i wr => ∃ (k : Nat) (u : Value) (ls : List (File × Value)), k ≤ fs.length ∧ i = .int .i64 k ∧ Hid (CrR w pow (.slice A fs.length c) power u ls wr) ∧ Hid (ls.map (·.1) = crashL keeps 0 (fs.take k)) ∧ ls.length = k) (fun i _ => fs.length - (intOf i).toNat)
  case atStart => exact ⟨0, _, [], by omega, rfl, R0, Lib.hid rfl, rfl⟩
  case round =>
    obtain ⟨k, u, ls, hk, rfl, HR, HE, hlk⟩ := hrel
    obtain ⟨Ax, cx, hform⟩ := HR.out.form
    rw [hlk] at hform
    have HLK := Lib.hid hlk; clear hlk
    subst hform
    obtain ⟨⟨x0, x1⟩, ⟨y0, y1, y2, y3⟩, z0, z1, z2, z3⟩ := HR.out.cells
    by_cases hlt : k < fs.length
    · obtain ⟨b, off, Au, nu, cu, rfl, hb, g0, g1, g2, g3⟩ := H.out.there HS.out HR.out.below k hlt
      obtain rfl := seg_len g3
      have hsg : Seg wr wr.heap.size (.slice Au fs[k].data.length cu) (byteCells fs[k].data) := g3.seg fun b hb => by have := HS.out b hb; have := HR.out.size; omega
      obtain ⟨hdl, hsf⟩ := HD.out fs[k] (List.getElem_mem hlt)
      have hts := List.take_succ_eq_append_getElem hlt
      have HTS := Lib.hid hts
      have HSG := Lib.hid hsg
      clear g3 hts hsg
      generalize fs[k] = f at *
      obtain ⟨nm, data, safe⟩ := f
      simp only at g0 g1 g2 hdl hsf HSG
      have hzr := HR.out.size
      have hzr1 : w.heap.size + 2 < wr.heap.size := by omega
      have hzr2 : ¬ w.heap.size + 2 = wr.heap.size := by omega
      have hzr3 : ¬ wr.heap.size = w.heap.size + 2 := by omega
      have hzr4 : w.heap.size < wr.heap.size := by omega
      have hzr5 : b < wr.heap.size := by omega
      -- the cut
      obtain ⟨M, hM⟩ : ∃ M, M = cutM (cutK keeps k) ⟨nm, data, safe⟩ := ⟨_, rfl⟩
      have hMb : safe + M ≤ data.length := by rw [hM]; unfold cutM; simp only; omega
      have HM := Lib.hid hM
      have HN : Hid (cutN (cutK keeps k) ⟨nm, data, safe⟩ = safe + M) := Lib.hid (by rw [hM]; rfl)
      clear hM
      go_upto_if 27 with fail
      go_cut [10] from 13 to 69 (fun kk wx => kk = .int .i64 (cutK keeps k) ∧ wx = wr.alloc (.cells #[.string ⟨nm.toArray⟩, .slice Au data.length cu, .int .i64 safe] 86))
      case first =>
        by_cases hk0 : keeps.length = 0
        · have hd0 : decide (0 < keeps.length) = false := decide_eq_false (by omega)
          have HC : Hid (cutK keeps k = 0) := Lib.hid (by unfold cutK; rw [if_pos hk0])
          have hnp : ¬ 0 < keeps.length := by omega
          clear hk0
          go_wp2
          go_meet
          exact ⟨by rw [HC.out], rfl⟩
        · have hkp : 0 < keeps.length := by omega
          have hd0 : decide (0 < keeps.length) = true := decide_eq_true hkp
          obtain ⟨j, hj⟩ : ∃ j, j = k % keeps.length := ⟨_, rfl⟩
          have hjl : j < keeps.length := by rw [hj]; exact Nat.mod_lt _ hkp
          obtain ⟨bk, ok, xk, rfl, hbk, hck, Hxk⟩ := HKA.out.int hjl
          have hckW : wr.cell? ⟨bk, ok + j, none⟩ = some (.int .i64 xk) := (HR.out.below.cell (p := ⟨bk, ok + j, none⟩) hbk).trans hck
          have q0 : ((k : Int)).tmod (keeps.length : Int) = (j : Int) := by rw [hj]; rfl
          have q1 : (k : Int) % (keeps.length : Int) = (j : Int) := by rw [hj]; rfl
          have hbz : bk < wr.heap.size := by omega
          have HC : Hid (cutK keeps k = xk) := Lib.hid (by unfold cutK; rw [if_neg hk0, ← hj]; exact Hxk.out)
          clear hj hck hk0
          go_wp2
          go_meet
          exact ⟨by rw [HC.out], rfl⟩
      case rest =>
        obtain ⟨rfl, rfl⟩ := hcut
        generalize hK0 : cutK keeps k = K0 at *
        have HK0 := Lib.hid hK0; clear hK0
        go_upto_if 36 with fail
        go_cut [10] from 13 to 69 (fun kk wx => kk = .int .i64 (K0.toNat : Nat) ∧ wx = wr.alloc (.cells #[.string ⟨nm.toArray⟩, .slice Au data.length cu, .int .i64 safe] 86))
        case first =>
          by_cases hneg : K0 < 0
          · have HC : Hid (K0.toNat = 0) := Lib.hid (by omega)
            go_wp2
            go_meet
            exact ⟨by rw [HC.out]; rfl, rfl⟩
          · have HC : Hid ((K0.toNat : Int) = K0) := Lib.hid (by omega)
            go_wp2
            go_meet
            exact ⟨by rw [HC.out], rfl⟩
        case rest =>
          obtain ⟨rfl, rfl⟩ := hcut
          have hK1 : M = min K0.toNat (data.length - safe) := HM.out
          generalize K0.toNat = K1 at *
          have HK1 := Lib.hid hK1; clear hK1 HM
          go_upto_if 44 with fail
          go_cut [10] from 13 to 69 (fun kk wx => kk = .int .i64 (M : Nat) ∧ wx = wr.alloc (.cells #[.string ⟨nm.toArray⟩, .slice Au data.length cu, .int .i64 safe] 86))
          case first =>
            by_cases hbig : (data.length : Int) - (safe : Int) < (K1 : Int)
            · have HC : Hid ((M : Int) = (data.length : Int) - (safe : Int)) := Lib.hid (by have := HK1.out; omega)
              go_wp2
              go_meet
              exact ⟨by rw [HC.out], rfl⟩
            · have HC : Hid (M = K1) := Lib.hid (by have := HK1.out; omega)
              go_wp2
              go_meet
              exact ⟨by rw [HC.out], rfl⟩
          case rest =>
            obtain ⟨rfl, rfl⟩ := hcut
            obtain ⟨hcu, hseg⟩ := seg_takeR HSG.out (safe + M) hMb
            have hsl : ∀ w', (Instr.slice 22 (.slice Au data.length cu) none (some (.int .i64 ((safe : Int) + (M : Int)))) none).run Tryz.prog w' = .ok (.slice Au (safe + M) cu) w' := fun w' => by
              have := slice_front Au data.length cu (safe + M) w' hcu
              rwa [show ((safe + M : Nat) : Int) = (safe : Int) + (M : Int) by omega] at this
            have hbl : (byteCells (data.take (safe + M))).length = safe + M := by rw [byteCells_length]; simp; omega
            have HBL := Lib.hid hbl
            have hs1 := hseg.below (box_below wr (.cells #[.string ⟨nm.toArray⟩, .slice Au data.length cu, .int .i64 safe] 86))
            have HS1 := Lib.hid hs1
            clear hseg hbl hs1
            go_wp2_with fail
            refine (copyBytes_any _ (data.take (safe + M)) _ _ HS1.out (by simp) (by simp; omega)).mono ?_
            rintro e w2 ⟨u2, rfl, hu2, hb2⟩
            obtain ⟨A2, c2, hf2⟩ := hu2.form
            rw [HBL.out] at hf2
            generalize hN2 : safe + M = n2 at *
            have HN2 := Lib.hid hN2; clear hN2
            subst hf2
            have hx2 : w2.heap[wr.heap.size]? = some (.cells #[.string ⟨nm.toArray⟩, .slice Au data.length cu, .int .i64 safe] 86 (0, 0)) := (hb2.block _ (by simp)).trans (heap_alloc_new wr _)
            obtain ⟨q0, q1, q2, q3, q4, q5⟩ := three_cells hx2
            have r2 := HR.out.go ((box_below wr (.cells #[.string ⟨nm.toArray⟩, .slice Au data.length cu, .int .i64 safe] 86)).trans (hb2.mono (by simp)))
            clear x0 x1 y0 y1 y2 y3 z0 z1 z2 z3
            obtain ⟨⟨x0, x1⟩, ⟨y0, y1, y2, y3⟩, z0, z1, z2, z3⟩ := r2.cells
            obtain ⟨X2, hX2⟩ : ∃ X2, X2 = (w2.setCell ⟨wr.heap.size, 1, none⟩ (.slice A2 n2 c2)).setCell ⟨wr.heap.size, 2, none⟩ (.int .i64 (n2 : Nat)) := ⟨_, rfl⟩
            have hKX : Kept (fun b => b = wr.heap.size) w2 X2 := by rw [hX2]; exact ((Kept.refl (fun b => b = wr.heap.size) w2).setCell (p := ⟨wr.heap.size, 1, none⟩) (.inl rfl) _).setCell (p := ⟨wr.heap.size, 2, none⟩) (.inl rfl) _
            have hXs : X2.heap.size = w2.heap.size := by rw [hX2]; simp [World.setCell]
            obtain ⟨rX, sX⟩ := HR.out.copied hb2 hu2 hKX
            have r3 := rX.go (box_below X2 (.cells #[.string ⟨nm.toArray⟩, .slice A2 n2 c2, .int .i64 n2] 86))
            have s3 := sX.keep (S' := fun b => w.heap.size + 3 ≤ b ∧ b < (X2.alloc (.cells #[.string ⟨nm.toArray⟩, .slice A2 n2 c2, .int .i64 n2] 86)).heap.size ∧ (Value.slice Ax k cx).ownBlock ≠ some b) (w' := X2.alloc (.cells #[.string ⟨nm.toArray⟩, .slice A2 n2 c2, .int .i64 n2] 86)) fun b hb => ⟨⟨hb.1, by simp; omega, hb.2.2⟩, (box_below X2 _).block b hb.2.1⟩
            have hown := r3.own
            have hcells := three_new X2 ⟨nm, data.take n2, n2⟩ (.slice A2 n2 c2) 86
            rw [hXs] at hcells
            have R3 := Lib.hid r3; have S3 := Lib.hid s3
            have hw2 : wr.heap.size < w2.heap.size := by have := hb2.size; simp at this; omega
            clear r2 rX sX r3 s3 hu2 hb2 hKX hXs hx2 HSG HS1
            rw [hX2] at hown hcells R3 S3
            clear hX2
            go_wp2_with (at_builtin; refine wpList_app1 _ rfl _ _ _ rfl (w.heap.size + 3) 86 3 48 fileE _ _ _ rfl hown w2.heap.size _ rfl ?c0 hcells (one_fcells _ _ _ _) ?c1 ?c2 ?c3 ?_)
            case c0 => rfl
            case c1 => rw [HLK.out]; omega
            case c2 => rw [HLK.out]; omega
            case c3 => simp; omega
            intro v3 w3 hown4 hg3 hat3
            obtain ⟨o0, o1, o2, o3⟩ := R3.out.outcell hg3
            have hat4 := hat3
            rw [show w2.heap.size + 1 = (((w2.setCell ⟨wr.heap.size, 1, none⟩ (.slice A2 n2 c2)).setCell ⟨wr.heap.size, 2, none⟩ (.int .i64 (n2 : Nat))).alloc (.cells #[.string ⟨nm.toArray⟩, .slice A2 n2 c2, .int .i64 n2] 86)).heap.size by simp [World.setCell]] at hat4
            have RP := Lib.hid (R3.out.push S3.out hown4 hg3 hat4)
            obtain ⟨A3, c3, hform3⟩ := RP.out.form
            have hf3 : v3 = .slice A3 (ls.length + 1) c3 := by rw [hform3]; simp
            clear hform3 hat4
            subst hf3
            clear hown4 hg3 hat3 hown hcells x0 x1 y0 y1 y2 y3 z0 z1 z2 z3 q0 q1 q2 q3 q4 q5 R3 S3
            go_wp2
            go_roundw
            case rel =>
              refine ⟨k + 1, _, _, by omega, by go_num, RP, Lib.hid ?_, by rw [List.length_append, HLK.out]; rfl⟩
              rw [HTS.out, crashL_snoc, List.map_append, HE.out]
              simp only [Nat.zero_add, List.length_take, Nat.min_eq_left hk]
              unfold crashF
              simp only [HK0.out, HN.out, HN2.out]
              rfl
            case measure => simp [intOf]; omega
    · have hkl : k = fs.length := by omega
      have HKL := Lib.hid hkl; clear hkl
      go_wp2
      refine bodyPost_ret (v := .agg #[.int .i64 power, .slice Ax k cx]) (by simp [results, Tryz.results15, go_sem, y0, y1, y2, y3, z0, z1, z2, z3]) rfl ⟨_, rfl, ?_⟩
      have := HR.out.fin (((Kept.refl (fun b => b = w.heap.size + 1) wr).setCell (p := ⟨w.heap.size + 1, 0, none⟩) (.inl rfl) (.int .i64 power)).setCell (p := ⟨w.heap.size + 1, 1, none⟩) (.inl rfl) (.slice Ax k cx)) S
      rw [HE.out, HKL.out, List.take_length] at this
      rw [HKL.out]
      exact this
end Go.Proofs.YtpdelgjfamelfaaGreat
/- V41 -/
/- does: a call on the reference. -/
namespace Go.Proofs.YtpdelgjfamelfaaGreat
open Go.RowKit Go.Lib Go.Vfs Go.Par
set_option linter.unusedVariables false
set_option linter.unusedSimpArgs false

theorem str_back (s : ByteArray) : (⟨s.data.toList.toArray⟩ : ByteArray) = s := by cases s; simp

end Go.Proofs.YtpdelgjfamelfaaGreat
/- V42 -/
/- same: the file system reads as the reference. -/
namespace Go.Proofs.YtpdelgjfamelfaaGreat
open Go.RowKit Go.Lib Go.Vfs Go.Par
set_option linter.unusedVariables false
set_option linter.unusedSimpArgs false

theorem Fsy.rising {w : World} {p : Nat} {st : St} {F : Nat → Prop} (h : Fsy w p st F) : Rising File.name st.files := by
  obtain ⟨xs, mb, h1, h2, rfl⟩ := h
  rw [h1]
  exact List.pairwise_map.2 h2.rising
theorem Fsy.finds {w : World} {p : Nat} {st : St} {F : Nat → Prop} (h : Fsy w p st F) {f : File} (hf : f ∈ st.files) (hn : nameB f.name = true) : stFind st f.name = .ok f := by
  unfold stFind
  rw [if_pos hn, h.rising.findL hf]

end Go.Proofs.YtpdelgjfamelfaaGreat
/- V43 -/
/- The file system and the reference side by side. -/
namespace Go.Proofs.YtpdelgjfamelfaaGreat
open Go.RowKit Go.Lib Go.Vfs Go.Par
set_option linter.unusedVariables false
set_option linter.unusedSimpArgs false

/-- the blocks of the reference. -/
def PS (W w : World) (F : Nat → Prop) (bm b : Nat) : Prop := W.heap.size ≤ b ∧ b < w.heap.size ∧ ¬ F b ∧ b ≠ bm
/-- f at p reads as st; the reference in its box bm reads as sm. -/
structure Pair (W w : World) (p : Nat) (st : St) (F : Nat → Prop) (bm : Nat) (sm : St) (v : Value) : Prop where
  held : Held W.heap.size W w p st F
  box : w.heap[bm]? = some (.cells #[.int .i64 sm.power, v] 28 (0, 0))
  lo : W.heap.size ≤ bm
  out : ¬ F bm
  ref : RefS (PS W w F bm) w v sm.files
section
variable {W w w' : World} {p : Nat} {st : St} {F : Nat → Prop} {bm : Nat} {sm : St} {v : Value}
theorem Pair.lt (h : Pair W w p st F bm sm v) : bm < w.heap.size := lt_of_block h.box
theorem Pair.sz (h : Pair W w p st F bm sm v) : W.heap.size ≤ w.heap.size := h.held.below.size
theorem Pair.hS (h : Pair W w p st F bm sm v) : ∀ b, PS W w F bm b → b < w.heap.size := fun b hb => hb.2.1
theorem refGo (h : Pair W w p st F bm sm v) (hb : Below w.heap.size w w') {u : Value} {fs : List File} (hr : RefS (PS W w F bm) w u fs) : RefS (PS W w' F bm) w' u fs :=
  hr.keep fun b ⟨b1, b2, b3, b4⟩ => ⟨⟨b1, Nat.lt_of_lt_of_le b2 hb.size, b3, b4⟩, hb.block b b2⟩
theorem Pair.go (h : Pair W w p st F bm sm v) (hb : Below w.heap.size w w') : Pair W w' p st F bm sm v :=
  ⟨h.held.go (Nat.le_refl _) hb, (hb.block _ h.lt).trans h.box, h.lo, h.out, refGo h hb h.ref⟩
theorem refNew (h : Pair W w p st F bm sm v) (hb : Below w.heap.size w w') {u : Value} {fs : List File} (hr : RefS (New (PS W w F bm) w w') w' u fs) : RefS (PS W w' F bm) w' u fs :=
  hr.sub fun b hbb => by
    rcases hbb with ⟨b1, b2, b3, b4⟩ | ⟨b1, b2⟩
    · exact ⟨b1, Nat.lt_of_lt_of_le b2 hb.size, b3, b4⟩
    · have := h.sz
      have := h.lt
      exact ⟨by omega, b2, fun hf => by have := h.held.fs.lt b hf; omega, by omega⟩
theorem Pair.cells (h : Pair W w p st F bm sm v) : w.cell? ⟨bm, 0, none⟩ = some (.int .i64 sm.power) ∧ w.cell? ⟨bm, 1, none⟩ = some v ∧ w.frozen? ⟨bm, 0, none⟩ = false ∧ w.frozen? ⟨bm, 1, none⟩ = false := by
  have h0 := h.box
  simp [World.cell?, World.frozen?, h0]
theorem Pair.kept (w : World) (bm : Nat) (x y : Value) : Kept (fun b => b = bm) w ((w.setCell ⟨bm, 0, none⟩ x).setCell ⟨bm, 1, none⟩ y) :=
  ((Kept.refl (fun b => b = bm) w).setCell (p := ⟨bm, 0, none⟩) (.inl rfl) _).setCell (p := ⟨bm, 1, none⟩) (.inl rfl) _
theorem Pair.store (h : Pair W w p st F bm sm v) {sm' : St} {v' : Value} (hr : RefS (PS W w F bm) w v' sm'.files) : Pair W ((w.setCell ⟨bm, 0, none⟩ (.int .i64 sm'.power)).setCell ⟨bm, 1, none⟩ v') p st F bm sm' v' := by
  have hK := Pair.kept w bm (.int .i64 sm'.power) v'
  refine ⟨⟨h.held.fs.keep fun k hk => hK.block k (h.held.fs.lt k hk) (fun e => h.out (e ▸ hk)), h.held.new, h.held.below.trans (hK.below h.sz (fun k hk => by have := h.lo; omega))⟩, two_setCell (two_setCell0 h.box), h.lo, h.out, ?_⟩
  exact hr.keep fun b ⟨b1, b2, b3, b4⟩ => ⟨⟨b1, Nat.lt_of_lt_of_le b2 hK.size, b3, b4⟩, hK.block b b2 b4⟩
theorem Pair.crash (h : Pair W w p st F bm sm v) {k d : Nat} (hc : Calm st.files k d) (hk : k ≤ 100000) (hd : d ≤ 2147483648) {kv : Value} {keeps : List Int} (hkv : Seg w w.heap.size kv (ints keeps)) (power : Int) :
    Calls Tryz.prog 12 #[.pointer (some ⟨p, 0, none⟩), kv, .int .i64 power] w fun e w' => ∃ p' F', e = .returned (.pointer (some ⟨p', 0, none⟩)) ∧ Hid (Pair W w' p' (stCrash st keeps power) F' bm sm v) ∧ Hid (Pair W w' p st F bm sm v) ∧ Hid (Below w.heap.size w w') := by
  refine (h.held.crash (Nat.le_refl _) hc hk hd kv keeps hkv power).mono ?_
  rintro e w' ⟨p', F', rfl, h1, h2, h3, hb⟩
  have hg := h.go hb
  have hlt := h.lt
  refine ⟨p', F', rfl, Lib.hid ⟨h1, hg.box, h.lo, fun hf => by have := h3 _ hf; omega, ?_⟩, Lib.hid hg, Lib.hid hb⟩
  exact h.ref.keep fun b ⟨b1, b2, b3, b4⟩ => ⟨⟨b1, Nat.lt_of_lt_of_le b2 hb.size, fun hf => by have := h3 _ hf; omega, b4⟩, hb.block b b2⟩
theorem Pair.rcrash (h : Pair W w p st F bm sm v) {k d : Nat} (hc : Calm sm.files k d) (hk : k ≤ 100000) (hd : d ≤ 1000000) {kv : Value} {keeps : List Int} (hkv : Seg w w.heap.size kv (ints keeps)) (power : Int) :
    Calls Tryz.prog 15 #[.agg #[.int .i64 sm.power, v], kv, .int .i64 power] w fun e w' => ∃ A n c, e = .returned (.agg #[.int .i64 power, .slice A n c]) ∧ Hid (Pair W w' p st F bm sm v) ∧ Hid (RefS (PS W w' F bm) w' (.slice A n c) (crashL keeps 0 sm.files)) ∧ Hid (Below w.heap.size w w') := by
  refine (rcrash_any sm.power v sm.files _ w h.hS h.ref (Nat.le_trans hc.files (by omega)) (fun f hf => ⟨Nat.le_trans (hc.data f hf) hd, hc.safe f hf⟩) kv keeps hkv power).mono ?_
  rintro e w' ⟨v', rfl, hr, hb⟩
  obtain ⟨A, c, rfl, -, -⟩ := hr.form
  exact ⟨A, _, c, rfl, Lib.hid (h.go hb), Lib.hid (refNew h hb hr), Lib.hid hb⟩
/-- what is read: the bytes and the error. -/
def rdR (r : Except Int File) : List UInt8 × Int := match r with | .error n => ([], n) | .ok f => (f.data, 0)
theorem ReadPost.both {r : Except Int File} {e : Ending} (h : ReadPost w r e w') : ∃ A c, e = .returned (.tuple #[.slice A (rdR r).1.length c, .int .i64 (rdR r).2]) ∧ Hid (Seg w' w'.heap.size (.slice A (rdR r).1.length c) (byteCells (rdR r).1)) ∧ Hid (Below w.heap.size w w') := by
  obtain ⟨hb, h⟩ := h
  cases r with
  | error n => exact ⟨none, 0, h, Lib.hid (Seg.nil _ _), Lib.hid hb⟩
  | ok f =>
    obtain ⟨u, he, hu⟩ := h
    obtain ⟨A, c, rfl⟩ := Own.formB hu
    exact ⟨A, c, he, Lib.hid (Own.seg hu), Lib.hid hb⟩
theorem Pair.read (h : Pair W w p st F bm sm v) {k d : Nat} (hc : Calm st.files k d) (hd : d ≤ 1000000) {s : ByteArray} (hs : s.size ≤ 9223372036854775807) :
    Calls Tryz.prog 47 #[.pointer (some ⟨p, 0, none⟩), .string s] w fun e w' => ∃ A c, e = .returned (.tuple #[.slice A (rdR (stFind st s.data.toList)).1.length c, .int .i64 (rdR (stFind st s.data.toList)).2]) ∧ Hid (Seg w' w'.heap.size (.slice A (rdR (stFind st s.data.toList)).1.length c) (byteCells (rdR (stFind st s.data.toList)).1)) ∧ Hid (Below w.heap.size w w') :=
  (read_any w p st F h.held.fs s hs (fun f hf => by have := hc.data f hf; omega)).mono fun e w' h => h.both
theorem Pair.rread (h : Pair W w p st F bm sm v) {k d : Nat} (hc : Calm sm.files k d) (hd : d ≤ 1000000) {s : ByteArray} (hs : s.size ≤ 9223372036854775807) :
    Calls Tryz.prog 53 #[.agg #[.int .i64 sm.power, v], .string s] w fun e w' => ∃ A c, e = .returned (.tuple #[.slice A (rdR (stFind sm s.data.toList)).1.length c, .int .i64 (rdR (stFind sm s.data.toList)).2]) ∧ Hid (Seg w' w'.heap.size (.slice A (rdR (stFind sm s.data.toList)).1.length c) (byteCells (rdR (stFind sm s.data.toList)).1)) ∧ Hid (Below w.heap.size w w') := by
  have := rread_any sm v _ w h.hS h.ref s.data.toList (by simpa using hs) (fun f hf => by have := hc.data f hf; omega)
  rw [str_back] at this
  exact this.mono fun e w' h => h.both
end
theorem six_cells {W : World} {b : Nat} {u0 u1 u2 u3 u4 u5 : Value} {t : TypeId} (h : W.heap[b]? = some (.cells #[u0, u1, u2, u3, u4, u5] t (0, 0))) :
    W.cell? ⟨b, 0, none⟩ = some u0 ∧ W.cell? ⟨b, 1, none⟩ = some u1 ∧ W.cell? ⟨b, 2, none⟩ = some u2 ∧ W.cell? ⟨b, 3, none⟩ = some u3 ∧ W.cell? ⟨b, 4, none⟩ = some u4 ∧ W.cell? ⟨b, 5, none⟩ = some u5 := by
  simp [World.cell?, h]
theorem actSt_power (st : St) (o : OpR) (h : st.power ≤ 9223372036854775807) : (actSt st o).1.power ≤ 9223372036854775807 := by
  by_cases hc : Call o
  · cases hf : actF st.files o with
    | error e => rw [(actSt_err (fs := st.files) hc hf st.power).1]; exact h
    | ok fs' =>
      rw [actSt_ok (fs := st.files) hc hf st.power]
      unfold doSt
      split
      · exact h
      · have := dec_le st.power; simp only; omega
  · rw [actSt_no hc]; exact h
/-- where a script stands on both. -/
structure StepI (W w : World) (os : List OpR) (k : Nat) (p : Nat) (F : Nat → Prop) (bm : Nat) (st : St) (v : Value) : Prop where
  pair : Pair W w p st F bm st v
  calm : Calm st.files k (sizeO (os.take k))
  power : st.power ≤ 9223372036854775807
theorem StepI.act {W w w' : World} {os : List OpR} {k p : Nat} {F F' : Nat → Prop} {bm : Nat} {st : St} {v v' : Value} (h : StepI W w os k p F bm st v) (hk : k < os.length) (hp : Pair W w' p (actSt st os[k]).1 F' bm (actSt st os[k]).1 v') : StepI W w' os (k + 1) p F' bm (actSt st os[k]).1 v' :=
  ⟨hp, (Calm.act h.calm os[k]).mono (Nat.le_refl _) (by rw [sizeO_succ os k hk]; have := flat_sizeP os[k].parts; omega), actSt_power st _ h.power⟩
theorem StepI.crash {W w w' : World} {os : List OpR} {k p p' : Nat} {F F' : Nat → Prop} {bm : Nat} {st : St} {v v' : Value} (h : StepI W w os k p F bm st v) (hk : k < os.length) (keeps : List Int) (power : Int) (hpw : power ≤ 9223372036854775807) (hp : Pair W w' p' (stCrash st keeps power) F' bm (stCrash st keeps power) v') : StepI W w' os (k + 1) p' F' bm (stCrash st keeps power) v' :=
  ⟨hp, (h.calm.crash keeps 0).mono (by omega) (by rw [sizeO_succ os k hk]; omega), hpw⟩
theorem StepI.go {W w w' : World} {os : List OpR} {k p : Nat} {F : Nat → Prop} {bm : Nat} {st : St} {v : Value} (h : StepI W w os k p F bm st v) (hb : Below w.heap.size w w') : StepI W w' os k p F bm st v := ⟨h.pair.go hb, h.calm, h.power⟩
end Go.Proofs.YtpdelgjfamelfaaGreat
