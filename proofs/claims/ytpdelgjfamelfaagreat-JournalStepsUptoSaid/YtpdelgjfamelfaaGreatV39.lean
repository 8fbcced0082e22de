/- The reference's file system: Read, Names. -/
import Derived.Test.YtpdelgjfamelfaaGreatM5
import Derived.Deep.RegionWith
import Derived.Deep.DeepCutAuto
import Derived.BigRegion
namespace Go.Proofs.YtpdelgjfamelfaaGreat
open Go.RowKit Go.Lib Go.Vfs Go.Par
set_option linter.unusedVariables false
set_option linter.unusedSimpArgs false

/-- one box alone. -/
structure Box1 (w : World) (pow : Int) (v : Value) (W : World) : Prop where
  below : Below w.heap.size w W
  size : w.heap.size + 1 ≤ W.heap.size
  h0 : W.heap[w.heap.size]? = some (.cells #[.int .i64 pow, v] 28 (0, 0))
theorem Box1.start (w : World) (pow : Int) (v : Value) : Box1 w pow v (w.alloc (.cells #[.int .i64 pow, v] 28)) := ⟨box_below w _, by simp, heap_alloc_new w _⟩
theorem Box1.go {w W W' : World} {pow : Int} {v : Value} (h : Box1 w pow v W) (hb : Below W.heap.size W W') : Box1 w pow v W' := by
  have hz := h.size
  have hzz := hb.size
  exact ⟨h.below.trans (hb.mono (by omega)), by omega, (hb.block _ (by omega)).trans h.h0⟩
theorem Box1.cells {w W : World} {pow : Int} {v : Value} (h : Box1 w pow v W) : W.cell? ⟨w.heap.size, 0, none⟩ = some (.int .i64 pow) ∧ W.cell? ⟨w.heap.size, 1, none⟩ = some v := by
  have h0 := h.h0
  simp [World.cell?, h0]
theorem Box1.old {w W : World} {pow : Int} {v u : Value} {S : Nat → Prop} {fs : List File} (hS : ∀ b, S b → b < w.heap.size) (h : Box1 w pow v W) (hr : RefS S w u fs) : RefS S W u fs := hr.keep fun b hb => ⟨hb, h.below.block b (hS b hb)⟩
theorem at_box1 {w : World} {S : Nat → Prop} {pd : Int} {A : Option Addr} {c : Nat} {fs : List File} {s : List UInt8} {f : File}
    (hf : findL File.name s fs = some f) (hS : ∀ b, S b → b < w.heap.size) (h : RefS S w (.slice A fs.length c) fs) (W : World) (hW : Box1 w pd (.slice A fs.length c) W) :
    Calls Tryz.prog 41 #[.agg #[.int .i64 pd, .slice A fs.length c], .string ⟨s.toArray⟩] W fun e w5 => ∃ (i b off : Nat) (Au : Option Addr) (cu : Nat), e = .returned (.int .i64 (i : Nat)) ∧ A = some ⟨b, off, none⟩ ∧
      Hid (Box1 w pd (.slice A fs.length c) w5) ∧ i < fs.length ∧
      (w5.cell? ⟨w.heap.size, 0, none⟩ = some (.int .i64 pd) ∧ w5.cell? ⟨w.heap.size, 1, none⟩ = some (.slice A fs.length c)) ∧
      w5.cell? ⟨b, off + i * 3, none⟩ = some (.string ⟨f.name.toArray⟩) ∧ w5.cell? ⟨b, off + i * 3 + 1, none⟩ = some (.slice Au f.data.length cu) ∧ w5.cell? ⟨b, off + i * 3 + 2, none⟩ = some (.int .i64 f.safe) ∧ Hid (Seg w5 w5.heap.size (.slice Au f.data.length cu) (byteCells f.data)) := by
  refine (rat_found (fun b hb => by have := hS b hb; have := hW.size; omega) (hW.old hS h) hf).mono ?_
  rintro e w5 ⟨i, hi, rfl, hfi, hb5⟩
  have B5 := hW.go hb5
  obtain ⟨b, off, Au, cu, rfl, hb, g0, g1, g2, g3⟩ := found_cells h hS B5.below hi hfi
  have hz := B5.size
  refine ⟨i, b, off, Au, cu, rfl, rfl, Lib.hid B5, hi, B5.cells, g0, g1, g2, Lib.hid ?_⟩
  have : SegS S w5 (.slice Au f.data.length cu) (byteCells f.data) := g3.keep fun b hb => ⟨hb, B5.below.block b (hS b hb)⟩
  exact this.seg fun b hb => by have := hS b hb; omega

set_option maxRecDepth 20000 in
set_option maxHeartbeats 2000000 in
theorem rread_any (st : St) (v : Value) (S : Nat → Prop) (w : World) (hS : ∀ b, S b → b < w.heap.size) (h : RefS S w v st.files) (s : List UInt8) (hs : s.length ≤ 9223372036854775807) (hd : ∀ f ∈ st.files, f.data.length ≤ 1000000) :
    Calls Tryz.prog 53 #[.agg #[.int .i64 st.power, v], .string ⟨s.toArray⟩] w (ReadPost w (stFind st s)) := by
  obtain ⟨pow, fs⟩ := st
  simp only at h hd ⊢
  obtain ⟨A, c, rfl, hc, hm⟩ := h.form
  have H := Lib.hid h; clear h
  have HS := Lib.hid hS; clear hS
  have HDL := Lib.hid hd; clear hd
  have b1 := Box1.start w pow (.slice A fs.length c)
  have hck := rcheck_any pow _ fs S _ (fun b hb => by have := HS.out b hb; have := b1.size; omega) (b1.old HS.out H.out) s hs true
  have B1 := Lib.hid b1; have HCK := Lib.hid hck; clear b1 hck
  cases hf : stFind ⟨pow, fs⟩ s with
  | error er =>
    obtain ⟨e1, e2⟩ := chk_err hf
    simp only at e1
    rw [e1] at HCK
    clear e1 hf
    obtain ⟨P, hP⟩ : ∃ P, P = ReadPost w (.error er) := ⟨_, rfl⟩
    rw [← hP]
    have HP := Lib.hid hP; clear hP
    go_enter Tryz.func53, Tryz.ntmps53
    go_wp2_with fail
    refine HCK.out.mono ?_
    rintro e w2 ⟨rfl, hb2⟩
    have B2 := Lib.hid (B1.out.go hb2)
    clear hb2 HCK B1
    obtain ⟨x0, x1⟩ := B2.out.cells
    go_wp2
    try go_ret2
    rw [HP.out]
    exact ⟨B2.out.below, rfl⟩
  | ok f =>
    obtain ⟨e1, e2⟩ := chk_ok hf
    simp only at e1 e2
    rw [e1] at HCK
    have HFL := Lib.hid (HDL.out f (findL_inR e2))
    have HAT := Lib.hid (at_box1 (pd := pow) e2 HS.out H.out)
    clear e1 e2 hf
    obtain ⟨P, hP⟩ : ∃ P, P = ReadPost w (.ok f) := ⟨_, rfl⟩
    rw [← hP]
    have HP := Lib.hid hP; clear hP
    go_enter Tryz.func53, Tryz.ntmps53
    go_wp2_with fail
    refine HCK.out.mono ?_
    rintro e w2 ⟨rfl, hb2⟩
    have B2 := Lib.hid (B1.out.go hb2)
    obtain ⟨x0, x1⟩ := B2.out.cells
    clear hb2 HCK B1
    have HA1 := Lib.hid (HAT.out _ (B2.out.go ((Below.refl _ w2).drew)))
    clear HAT
    go_upto_region 4 with fail
    go_region_with (first
      | (go_at_call 41; refine HA1.out.mono ?_; rintro e w5 ⟨i, b, off, Au, cu, rfl, rfl, HB5, hi, ⟨y0, y1⟩, g0, g1, g2, G3⟩)
      | (go_at_call 8; refine (copyBytes_any _ f.data _ _ G3.out (Nat.le_refl _) HFL.out).mono ?_; rintro e w6 ⟨u, rfl, hu, hb6⟩; obtain ⟨A6, c6, hf6⟩ := hu.form; subst hf6; have HU := Lib.hid hu; have HB6 := Lib.hid hb6; clear hu hb6))
    all_goals (
      go_wp2_with fail
      go_ret2
      rw [HP.out]
      exact ⟨(HB5.out.below).trans (HB6.out.mono (by have := HB5.out.size; omega)), _, rfl, HU.out.base (by have := HB5.out.size; omega)⟩)

theorem own_new1 (w : World) (o : Obj) (t : TypeId) : Par.Own ((w.alloc o).alloc (.cells #[] t)) (w.heap.size + 1) t (.slice (some ⟨w.heap.size + 1, 0, none⟩) 0 0) [] := by
  have := Par.Own.new (w.alloc o) (w.heap.size + 1) t #[] [] rfl (by simp) (by simp)
  simpa using this
theorem Box1.app {w W : World} {pow : Int} {v u : Value} (h : Box1 w pow v W) {o : Obj} {t : TypeId} {xs : List Value} (hown : Par.Own (W.alloc o) (w.heap.size + 1) t u xs) {w3 : World} (hg : (W.alloc o).grownBy w3 u.ownBlock) : Box1 w pow v w3 := by
  have hz := h.size
  have h1 := h.go (box_below W o)
  have hz1 := h1.size
  have hb : Below (w.heap.size + 1) (W.alloc o) w3 := below_app (Below.refl _ _) hown hg hz1
  have hzb := hb.size
  exact ⟨h1.below.trans (hb.mono (by omega)), by omega, (hb.block _ (by omega)).trans h1.h0⟩

set_option maxRecDepth 20000 in
set_option maxHeartbeats 2000000 in
theorem rnames_any (pow : Int) (v : Value) (fs : List File) (S : Nat → Prop) (w : World) (hS : ∀ b, S b → b < w.heap.size) (h : RefS S w v fs) (hl : fs.length ≤ 1000000) :
    Calls Tryz.prog 59 #[.agg #[.int .i64 pow, v]] w fun e w' => ∃ u, e = .returned u ∧ Par.Own w' w.heap.size 9 u (strs (fs.map File.name)) ∧ Below w.heap.size w w' := by
  obtain ⟨A, c, rfl, hc, hm⟩ := h.form
  have H := Lib.hid h; clear h
  have HS := Lib.hid hS; clear hS
  have b1 := Box1.start w pow (.slice A fs.length c)
  have hown := Par.Own.new (w.alloc (.cells #[.int .i64 pow, .slice A fs.length c] 28)) w.heap.size 9 #[] [] rfl (by simp) (by simp)
  simp only [World.size_alloc] at hown
  have B1 := Lib.hid (b1.go (box_below _ (.cells #[] 9))); clear b1
  have HO := Lib.hid hown; clear hown
  go_enter Tryz.func59, Tryz.ntmps59
  go_wp2
  go_loopw [3, 4] (fun u i wr => ∃ k : Nat, k ≤ fs.length ∧ i = .int .i64 k ∧ Hid (Par.Own wr (w.heap.size + 1) 9 u (strs ((fs.take k).map File.name))) ∧ Hid (Box1 w pow (.slice A fs.length c) wr)) (fun _ i _ => fs.length - (intOf i).toNat)
  case atStart => exact ⟨0, by omega, rfl, Lib.hid (by simpa [strs] using own_new1 w _ _), B1⟩
  case round =>
    obtain ⟨k, hk, rfl, HOk, HBk⟩ := hrel
    obtain ⟨x0, x1⟩ := HBk.out.cells
    have hzk := HBk.out.size
    obtain ⟨Ax, cx, hform⟩ := HOk.out.form
    rw [strs_length, List.length_map, List.length_take, Nat.min_eq_left hk] at hform
    by_cases hlt : k < fs.length
    · obtain ⟨b, off, Au, nu, cu, rfl, hb, g0, g1, g2, g3⟩ := H.out.there HS.out HBk.out.below k hlt
      have hts := List.take_succ_eq_append_getElem hlt
      have HTS := Lib.hid hts
      clear g1 g2 g3 hts
      generalize fs[k] = f at *
      have hown := (HOk.out).alloc (.cells #[.string ⟨f.name.toArray⟩] 9)
      have hsg := Seg.new wr 9 #[.string ⟨f.name.toArray⟩] [.string ⟨f.name.toArray⟩] rfl (by simp [maxLen])
      have hln : (strs ((fs.take k).map File.name)).length = k := by rw [strs_length, List.length_map, List.length_take, Nat.min_eq_left hk]
      subst hform
      go_wp2_with (at_builtin; refine wpList_app _ rfl _ _ _ rfl (w.heap.size + 1) 9 _ strE _ _ rfl hown _ _ _ rfl hsg (fun x hx => by simp at hx; subst hx; rfl) ?c1 ?c2 ?_)
      case c1 => rw [hln]; simp; omega
      case c2 => simp; omega
      intro v3 w3 hown4 hg3 hat3
      have HB3 := Lib.hid (HBk.out.app hown hg3)
      have hown5 : Par.Own w3 (w.heap.size + 1) 9 v3 (strs ((fs.take (k + 1)).map File.name)) := by
        rw [HTS.out, List.map_append, strs_append]
        simpa [strs] using hown4
      have HO3 := Lib.hid hown5
      clear hown4 hown5 hg3 hat3 hown hsg hln
      go_wp2
      go_roundw
      case rel => exact ⟨k + 1, by omega, by go_num, HO3, HB3⟩
      case measure => simp [intOf]; omega
    · have hkl : k = fs.length := by omega
      have hO := HOk.out
      rw [hkl, List.take_length] at hO
      have HOE := Lib.hid hO; clear hO
      go_wp2
      go_ret
      exact ⟨_, rfl, HOE.out.base (by omega), HBk.out.below⟩
end Go.Proofs.YtpdelgjfamelfaaGreat
