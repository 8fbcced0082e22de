/- scheme.Encode. -/
import Derived.Test.YtbhicpjhijondaaDoorX10
namespace Go.Typ
/-- an export's bytes; exports' bytes. -/
def exB (x : Ex) : List UInt8 := [x.name.size.toUInt8] ++ (x.name.data.toList ++ wrT x.ty)
def exsB : List Ex → List UInt8
  | [] => []
  | x :: xs => exB x ++ exsB xs
def encX (xs : List Ex) : List UInt8 := [(xs.length / 256).toUInt8, xs.length.toUInt8] ++ exsB xs
theorem exsB_step {xs : List Ex} {k : Nat} (hk : k < xs.length) : exsB (xs.drop k) = exB xs[k] ++ exsB (xs.drop (k + 1)) := by
  rw [List.drop_eq_getElem_cons hk, exsB]
end Go.Typ
namespace Go.Proofs.YtbhicpjhijondaaDoor
open Go.RowKit Go.Lib Go.Vfs Go.Par Go.Typ Go.Shelf
set_option linter.unusedVariables false
set_option linter.unusedSimpArgs false

theorem rightX_len {xs : List Ex} (h : rightX xs = true) : xs.length ≤ 1000 := by
  unfold rightX at h
  rw [Bool.and_eq_true] at h
  exact of_decide_eq_true h.1
theorem rightX_good {xs : List Ex} (h : rightX xs = true) {k : Nat} (hk : k < xs.length) : goodX xs k = true := by
  unfold rightX at h
  rw [Bool.and_eq_true, List.all_eq_true] at h
  exact h.2 k (List.mem_range.2 hk)
/-- what is so of an export among right ones. -/
theorem rightX_each {xs : List Ex} (h : rightX xs = true) {k : Nat} (hk : k < xs.length) : xs[k].name.size ≤ 255 ∧ nameOk xs[k].name.data.toList = true ∧ closedT xs[k].ty = true ∧ shortT xs[k].ty = true := by
  have hg := rightX_good h hk
  rw [goodX_at hk] at hg
  simp only [okX, typX, Bool.and_eq_true] at hg
  exact ⟨of_decide_eq_true hg.1.1, hg.1.2, hg.2.2.1, hg.2.2.2⟩
theorem closedT_right {T : Ty} (h : closedT T = true) : rightT T = true := by
  unfold closedT at h
  rw [Bool.and_eq_true] at h
  exact h.1
def EncPost (xs : List Ex) (w : World) (e : Ending) (w' : World) : Prop :=
  ∃ v', e = .returned (.tuple #[v', .int .i64 (if rightX xs then 0 else 140)]) ∧ Below w.heap.size w w' ∧ (rightX xs = true → Par.Own w' w.heap.size 5 v' (byteCells (encX xs))) ∧ (rightX xs = false → v' = .slice none 0 0)

set_option maxRecDepth 20000 in
set_option maxHeartbeats 4000000 in
theorem encode_any (xs : List Ex) (v : Value) (w : World) (hX : ExsAt (· < w.heap.size) w v xs) : Calls Tryd.prog 37 #[v] w (EncPost xs w) := by
  obtain ⟨P, hP⟩ : ∃ P, P = EncPost xs w := ⟨_, rfl⟩
  have HPO := Lib.hid hP
  rw [← hP]
  clear hP
  obtain ⟨A, c, rfl, hc, hm⟩ := hX.form
  have hla : xs.length ≤ 9223372036854775807 := by simp only [maxLen] at hm; omega
  have HRI := Lib.hid (right14_any xs _ w hX)
  have HX := Lib.hid hX
  clear hX hc hm
  go_enter Tryd.func37, Tryd.ntmps37
  go_wp2_with fail
  refine HRI.out.mono ?_
  rintro e w2 ⟨rfl, hb2⟩
  have HB2 := Lib.hid hb2
  have hz2 := hb2.size
  clear hb2
  by_cases hr : rightX xs = true
  rotate_left
  · have hr' : rightX xs = false := by simpa using hr
    have HE : Hid (P (.returned (.tuple #[.slice none 0 0, .int .i64 140])) w2) := Lib.hid (by
      rw [HPO.out]
      unfold EncPost
      refine ⟨.slice none 0 0, by rw [hr']; rfl, HB2.out, fun h => ?_, fun _ => rfl⟩
      rw [hr'] at h; cases h)
    rw [hr']
    clear hr hr'
    go_wp2
    exact HE.out
  have hl := rightX_len hr
  have HRT := Lib.hid hr
  rw [hr]
  clear hr
  obtain ⟨n, hn⟩ : ∃ n, n = xs.length := ⟨_, rfl⟩
  obtain ⟨W3, hW3⟩ : ∃ W3, W3 = w2.alloc (.cells #[.int .u8 ((xs.length : Int) / 256), .int .u8 ((xs.length : Int) % 256)] 5) := ⟨_, rfl⟩
  have hb3 : Below w2.heap.size w2 W3 := by rw [hW3]; exact (Below.refl _ _).alloc (Nat.le_refl _) _
  have hown3 : Par.Own W3 w.heap.size 5 (.slice (some ⟨w2.heap.size, 0, none⟩) 2 2) (byteCells [(xs.length / 256).toUInt8, xs.length.toUInt8]) := by
    rw [hW3]
    have h := Par.Own.new w2 w.heap.size 5 #[.int .u8 ((xs.length : Int) / 256), .int .u8 ((xs.length : Int) % 256)] (byteCells [(xs.length / 256).toUInt8, xs.length.toUInt8]) (by
      rw [show byteCells [(xs.length / 256).toUInt8, xs.length.toUInt8] = byteCells [(xs.length / 256).toUInt8] ++ byteCells [xs.length.toUInt8] from rfl, ← cell_u8 (xs.length / 256) ((xs.length : Int) / 256) (by omega), ← cell_u8 xs.length ((xs.length : Int) % 256) (by omega)]
      rfl) hz2 (by simp [byteCells, maxLen])
    simpa [byteCells] using h
  have HWS3 : Hid (WS w.heap.size W3 (.slice (some ⟨w2.heap.size, 0, none⟩) 2 2) [(xs.length / 256).toUInt8, xs.length.toUInt8] (.slice (some ⟨w2.heap.size, 0, none⟩) 2 2) W3) := Lib.hid ⟨hown3, Gr.refl _ _⟩
  have HB3 : Hid (Below w.heap.size w W3) := Lib.hid (HB2.out.trans (hb3.mono hz2))
  have hzz : w.heap.size ≤ w2.heap.size ∧ w2.heap.size < W3.heap.size := ⟨hz2, by rw [hW3]; simp⟩
  clear hown3 hb3 hn
  go_wp2
  rw [← hW3]
  clear hW3
  go_loopw [4, 20] (fun sv iv W => ∃ (k : Nat) (cur : List UInt8), k ≤ xs.length ∧ iv = .int .i64 k ∧ Hid (WS w.heap.size W3 (.slice (some ⟨w2.heap.size, 0, none⟩) 2 2) cur sv W) ∧ Hid (cur ++ exsB (xs.drop k) = encX xs) ∧ cur.length ≤ 2 + 100000 * k) (fun _ iv _ => xs.length - (RowKit.intOf iv).toNat)
  case atStart => exact ⟨0, _, by omega, rfl, HWS3, Lib.hid (by rw [List.drop_zero]; rfl), by simp⟩
  case round =>
    obtain ⟨k, cur, hk, rfl, HWS, HEQ, hcl⟩ := hrel
    have hbb : Below w.heap.size W3 wr := HWS.out.gr.below (by omega) fun g e => by
      have e : w2.heap.size = g := by simpa [Value.ownBlock] using e
      omega
    have HBW : Hid (Below w.heap.size w wr) := Lib.hid (HB3.out.trans hbb)
    have hzr := HBW.out.size
    obtain ⟨As, cs, es⟩ := HWS.out.form
    subst es
    clear hbb
    by_cases hlt : k < xs.length
    · obtain ⟨b, off, A', c', rfl, hb, hns, ht, x0, x1, x2, x3, x4⟩ := (HX.out.keep (S' := (· < w.heap.size)) fun g hg => ⟨hg, HBW.out.block g hg⟩).arg hlt
      obtain ⟨hn1, hn2, hn3, hn4⟩ := rightX_each HRT.out hlt
      have heq := HEQ.out
      rw [exsB_step hlt] at heq
      obtain ⟨hpp, hfa⟩ := rightT_iff.1 (closedT_right hn3)
      have hwl := wrT_len xs[k].ty hn4
      obtain ⟨W4, hW4⟩ : ∃ W4, W4 = wr.alloc (.cells #[.string xs[k].name, .int .i64 xs[k].ty.kind, .int .i64 xs[k].ty.num, .string xs[k].ty.name, .slice A' xs[k].ty.args.length c'] 46) := ⟨_, rfl⟩
      have hb4 : Below wr.heap.size wr W4 := by rw [hW4]; exact (Below.refl _ _).alloc (Nat.le_refl _) _
      have hbx : W4.heap[wr.heap.size]? = some (.cells #[.string xs[k].name, .int .i64 xs[k].ty.kind, .int .i64 xs[k].ty.num, .string xs[k].ty.name, .slice A' xs[k].ty.args.length c'] 46 (0, 0)) := by rw [hW4]; exact heap_alloc_new _ _
      have HT4 : Hid (TyAt (· < w.heap.size) W4 (tyV xs[k].ty.kind xs[k].ty.num xs[k].ty.name A' xs[k].ty.args.length c') xs[k].ty) := Lib.hid (ht.keep fun g hg => ⟨hg, hb4.block g (by omega)⟩)
      have HWR : Hid (∀ cur bv W, w.heap.size ≤ W.heap.size → TyAt (· < w.heap.size) W (tyV xs[k].ty.kind xs[k].ty.num xs[k].ty.name A' xs[k].ty.args.length c') xs[k].ty → Par.Own W w.heap.size 5 bv (byteCells cur) → cur.length ≤ 1000000000 → _) :=
        Lib.hid fun cur bv W h1 h2 h3 h4 => written_any w.heap.size xs[k].ty cur bv _ W h1 h2 h3 hfa hn4 (by omega)
      have HNX : Hid ((((cur ++ [xs[k].name.size.toUInt8]) ++ xs[k].name.data.toList) ++ wrT xs[k].ty) ++ exsB (xs.drop (k + 1)) = encX xs) := Lib.hid (by
        rw [← heq]; unfold exB; simp only [List.append_assoc])
      have h3l : xs[k].name.data.toList.length = xs[k].name.size := by rw [Array.length_toList]; rfl
      have hnl3 : (((cur ++ [xs[k].name.size.toUInt8]) ++ xs[k].name.data.toList) ++ wrT xs[k].ty).length ≤ 2 + 100000 * (k + 1) := by
        simp only [List.length_append, List.length_singleton]; omega
      have HZ4 : Hid (wr.heap.size < W4.heap.size) := Lib.hid (lt_blk hbx)
      have HWS4 : Hid (WS w.heap.size W3 (.slice (some ⟨w2.heap.size, 0, none⟩) 2 2) cur (.slice As cur.length cs) W4) := Lib.hid ⟨HWS.out.own.below hb4, HWS.out.gr.trans (Gr.of_below hb4 _)⟩
      have HOL : Hid (∀ g, (Value.slice As cur.length cs).ownBlock = some g → w.heap.size ≤ g ∧ g < wr.heap.size) := Lib.hid HWS.out.own.lt
      have HBX := Lib.hid hbx
      clear hn2 hn3 hn4 heq hpp hfa hwl hb4 hbx ht hns
      generalize xs[k] = X at *
      have hwn : IntKind.u8.wrap (X.name.size : Int) = (X.name.size : Int) := by unfold IntKind.wrap; simp [IntKind.signed, IntKind.bits]; omega
      have hsg3 := seg_u8 W4 X.name.size (by omega)
      have hal4 : ∀ o, Par.Own (W4.alloc o) w.heap.size 5 (.slice As cur.length cs) (byteCells cur) := fun o => HWS4.out.own.alloc o
      obtain ⟨z0, z1, z2, z3, z4⟩ := box5 HBX.out
      have hz4B : w.heap.size ≤ W4.heap.size := by have := HZ4.out; omega
      go_upto_region 7 with fail
      rw [← hW4]
      clear hW4 x0 x1 x2 x3 x4
      go_upto_region 8 with (at_builtin; refine wpList_app _ rfl _ _ _ rfl w.heap.size 5 _ byteE _ _ rfl (hal4 _) _ _ _ rfl hsg3 (one_bytes _) ?c1 ?c2 ?_)
      case c1 => rw [byteCells_length]; simp [byteCells]; omega
      case c2 => simp; omega
      intro v5 w5 hown5 hg5 hat5
      have hws5 := WS.app (xs := [X.name.size.toUInt8]) HWS4.out hown5 hg5 (by rw [World.size_alloc]; exact hat5)
      have hgr5 : Gr W4 w5 (.slice As cur.length cs) v5 := Gr.app hg5 (by rw [World.size_alloc]; exact hat5)
      have hbx5 := (hgr5.block HZ4.out (fun e => by have := (HOL.out _ e).2; omega)).trans HBX.out
      obtain ⟨cur5, hcur5⟩ : ∃ cur5, cur5 = cur ++ [X.name.size.toUInt8] := ⟨_, rfl⟩
      have hcl5 : cur5.length ≤ 3 + 100000 * k := by rw [hcur5, List.length_append]; simp; omega
      rw [← hcur5] at hws5
      obtain ⟨A5, c5, rfl⟩ := hws5.form
      have HWS5 := Lib.hid hws5
      have HGR5 := Lib.hid hgr5
      have HCUR5 := Lib.hid hcur5
      have hown5 := hws5.own
      have hz5B : w.heap.size ≤ w5.heap.size := by have := hgr5.1.size; omega
      clear z0 z1 z2 z3 z4
      obtain ⟨z0, z1, z2, z3, z4⟩ := box5 hbx5
      clear hcur5 hws5 hgr5 hg5 hat5 hsg3 hal4 hwn hbx5
      obtain ⟨i0, hi, hz0, hz1, hz2'⟩ := byteInfo
      go_upto_region 9 with (at_builtin; refine wpList_app_str _ rfl _ _ 47 9 rfl w.heap.size 5 i0 Tryd.underlying47 Tryd.underlying9 hi hz0 hz1 hz2' _ _ rfl hown5 X.name rfl ?c3 ?c5 ?_)
      case c3 => rw [byteCells_length]; omega
      case c5 => omega
      intro v6 w6 hown6 hg6 hat6
      rw [strCells_bytes] at hown6
      have hws6 := WS.app0 (xs := X.name.data.toList) HWS5.out hown6 hg6 hat6
      have hgr6 : Gr W4 w6 (.slice As cur.length cs) v6 := HGR5.out.trans ⟨hg6, hat6.imp_right fun h g e => by rw [h] at e; injection e with e; omega⟩
      have hbx6 := (hgr6.block HZ4.out (fun e => by have := (HOL.out _ e).2; omega)).trans HBX.out
      have hb46 : Below w.heap.size W4 w6 := hgr6.below hz4B fun g e => (HOL.out g e).1
      obtain ⟨cur6, hcur6⟩ : ∃ cur6, cur6 = cur5 ++ X.name.data.toList := ⟨_, rfl⟩
      have hcl6 : cur6.length ≤ 300 + 100000 * k := by
        rw [hcur6, List.length_append]; omega
      rw [← hcur6] at hws6
      obtain ⟨A6, c6, rfl⟩ := hws6.form
      have hca := HWR.out cur6 (.slice A6 cur6.length c6) w6 (by have := hb46.size; omega) (HT4.out.keep fun g hg => ⟨hg, hb46.block g hg⟩) hws6.own (by omega)
      have HGR6 := Lib.hid hws6.gr
      have hnx := HNX.out
      rw [← HCUR5.out, ← hcur6] at hnx hnl3
      generalize cur6 ++ wrT X.ty = cur7 at *
      have HNX7 := Lib.hid hnx
      unfold tyV at hca
      have HCA := Lib.hid hca
      clear z0 z1 z2 z3 z4
      obtain ⟨z0, z1, z2, z3, z4⟩ := box5 hbx6
      clear hcur6 hws6 hgr6 hg6 hat6 hown6 hbx6 hb46 hca hnx hown5 HWR HNX
      go_wp2_with fail
      refine HCA.out.mono ?_
      rintro e w7 ⟨v7, rfl, hO7, hg7⟩
      have HWS7 : Hid (WS w.heap.size W3 (.slice (some ⟨w2.heap.size, 0, none⟩) 2 2) cur7 v7 w7) := Lib.hid ⟨hO7, HGR6.out.trans hg7⟩
      clear hO7 hg7 z0 z1 z2 z3 z4
      go_wp2
      go_roundw
      case rel => exact ⟨k + 1, cur7, by omega, by go_num, HWS7, HNX7, hnl3⟩
      case measure => simp [RowKit.intOf]; omega
    · have hkl : k = xs.length := by omega
      have heq := HEQ.out
      rw [hkl, List.drop_length, exsB, List.append_nil] at heq
      have HE : Hid (P (.returned (.tuple #[.slice As cur.length cs, .int .i64 0])) wr) := Lib.hid (by
        rw [HPO.out]
        unfold EncPost
        refine ⟨.slice As cur.length cs, by rw [HRT.out]; rfl, HBW.out, fun _ => ?_, fun h => ?_⟩
        · rw [← heq]; exact HWS.out.own
        · rw [HRT.out] at h; cases h)
      clear heq
      go_wp2
      exact HE.out
end Go.Proofs.YtbhicpjhijondaaDoor
