/- The reader's arrow. -/
import Derived.Test.YtbhicpjhijondaaDoorT27
namespace Go.Proofs.YtbhicpjhijondaaDoor
open Go.RowKit Go.Lib Go.Vfs Go.Par Go.Typ Go.Shelf
set_option linter.unusedVariables false
set_option linter.unusedSimpArgs false

/-- a type, and perhaps an arrow behind it. -/
def arr1 (pr arr : Nat → Nat → Option (Ty × Nat × Nat)) (s : ByteArray) (a c : Nat) : Option (Ty × Nat × Nat) :=
  match pr a c with
  | none => none
  | some (T, a1, c1) => if preB s [32, 45, 62, 32] a1 = true then
      (match arr (a1 + 4) c1 with | none => none | some (U, a2, c2) => partP (.mk 4 0 ⟨#[]⟩ [T, U]) a2 c2)
    else some (T, a1, c1)
/-- the parser: a type that may stand so deep. -/
def arrowP (s : ByteArray) : Nat → Nat → Nat → Option (Ty × Nat × Nat)
  | 0, _, _ => none
  | f + 1, a, c => arr1 (pairP (arrowP s f) s) (arrowP s f) s a c

/-- a type in a box of its own. -/
structure BI (w : World) (p b5 : Nat) (T : Ty) (A : Option Addr) (cc : Nat) (W : World) : Prop where
  box : W.heap[b5]? = some (.cells #[.int .i64 T.kind, .int .i64 T.num, .string T.name, .slice A T.args.length cc] 24 (0, 0))
  gt : w.heap.size < b5
  ty : TyAt (fun g => w.heap.size < g ∧ g < W.heap.size) W (tyV T.kind T.num T.name A T.args.length cc) T
theorem BI.t {w : World} {p b5 : Nat} {T : Ty} {A : Option Addr} {cc : Nat} {W W' : World} (h : BI w p b5 T A cc W) (hp : p < w.heap.size) (hk : Kept (fun x => x = p) W W') : BI w p b5 T A cc W' := by
  have hg := h.gt
  have hz := hk.size
  exact ⟨(hk.block _ (lt_blk h.box) (by omega)).trans h.box, hg, h.ty.keep fun g hg2 => ⟨⟨hg2.1, by omega⟩, hk.block g hg2.2 (by omega)⟩⟩
theorem BI.new {w : World} {p b5 : Nat} {T : Ty} {A : Option Addr} {cc : Nat} {W W' : World} (h : BI w p b5 T A cc W) (hb : Below W.heap.size W W') : BI w p b5 T A cc W' := by
  have hz := hb.size
  exact ⟨(hb.block _ (lt_blk h.box)).trans h.box, h.gt, h.ty.keep fun g hg => ⟨⟨hg.1, by omega⟩, hb.block g hg.2⟩⟩
/-- two types as the arguments in a new block. -/
theorem BI.two {w : World} {p b5 b6 : Nat} {T U : Ty} {A A' : Option Addr} {cc cc' : Nat} {W : World} (h : BI w p b5 T A cc W) (h' : BI w p b6 U A' cc' W) {bn : Nat} (hn : W.heap[bn]? = some (.cells #[.int .i64 T.kind, .int .i64 T.num, .string T.name, .slice A T.args.length cc, .int .i64 U.kind, .int .i64 U.num, .string U.name, .slice A' U.args.length cc'] 24 (0, 0))) (hg : w.heap.size < bn) :
    TyAt (fun g => w.heap.size < g ∧ g < W.heap.size) W (tyV 4 0 ⟨#[]⟩ (some ⟨bn, 0, none⟩) 2 2) (.mk 4 0 ⟨#[]⟩ [T, U]) := by
  have hbn := lt_blk hn
  refine .mk 4 0 ⟨#[]⟩ [T, U] _ 2 (fun i => if i = 0 then tyV T.kind T.num T.name A T.args.length cc else tyV U.kind U.num U.name A' U.args.length cc') (by simp) (by simp [maxLen]) (by show 0 ≤ _; omega) (fun _ => ⟨bn, 0, rfl, ⟨hg, hbn⟩, fun i hi j hj => ?_⟩) (fun i hi => ?_)
  · have hi2 : i = 0 ∨ i = 1 := by have : i < 2 := hi; omega
    have hj4 : j = 0 ∨ j = 1 ∨ j = 2 ∨ j = 3 := by omega
    rcases hi2 with rfl | rfl <;> rcases hj4 with rfl | rfl | rfl | rfl <;> simp [World.cell?, hn, fld, tyV]
  · have hi2 : i = 0 ∨ i = 1 := by have : i < 2 := hi; omega
    rcases hi2 with rfl | rfl
    · exact h.ty
    · exact h'.ty

set_option maxRecDepth 20000 in
set_option maxHeartbeats 2000000 in
theorem arrow_deep (p : Nat) (s : ByteArray) (hs : s.size ≤ 1000000000) : RdC 58 400 p s 301 (arrowP s 0) := by
  intro a c w h ha hc
  have hlt := lt_blk h
  obtain ⟨W1, hW1⟩ : ∃ W1, W1 = w.alloc zero4 := ⟨_, rfl⟩
  have hi1 := RdI.start h
  rw [← hW1] at hi1
  have HI1 := Lib.hid hi1
  obtain ⟨y0, y1, y2, y3⟩ := rdr_cells hi1.rd
  have HFL := Lib.hid (fail_any p s a c false W1 hi1.rd)
  clear h hi1
  go_enter Tryd.func58, Tryd.ntmps58
  go_upto_region 1 with fail
  rw [show w.alloc (.cells #[.int .i64 0, .int .i64 0, .string ⟨#[]⟩, .slice none 0 0] 24) = W1 from hW1.symm]
  clear hW1
  go_wp2_with fail
  refine HFL.out.mono ?_
  rintro e w8 ⟨rfl, H8, K8⟩
  have hi8 := HI1.out.t hlt K8 H8
  have hx := hi8.fin hlt 400 s a (.mk 0 0 ⟨#[]⟩ []) none 0 (TyAt.leaf _ _ 0 0 ⟨#[]⟩ none 0 (by simp [maxLen]) (by show 0 ≤ _; omega))
  simp only [Ty.kind, Ty.num, Ty.name, Ty.args, List.length_nil] at hx
  obtain ⟨Wf, hWf, hbx, hpost⟩ := hx
  obtain ⟨r0, r1, r2, r3⟩ := box4 hi8.res
  obtain ⟨s0, s1, s2, s3⟩ := box4_frozen hi8.res
  have HW := Lib.hid hWf; have HBXF := Lib.hid hbx; have HPO := Lib.hid (hpost (arrowP s 0 a c) ⟨a, c, ha, by omega, rfl⟩)
  clear hWf hbx hpost hi8 H8 K8
  unfold tyV
  go_wp2
  rw [← HW.out]
  obtain ⟨f0, f1, f2, f3⟩ := box4 HBXF.out
  refine bodyPost_ret (v := .agg #[.int .i64 0, .int .i64 0, .string ⟨#[]⟩, .slice none 0 0]) (by simp [results, Tryd.results58, go_sem, f0, f1, f2, f3]) rfl ?_
  exact HPO.out

set_option maxRecDepth 20000 in
set_option maxHeartbeats 2000000 in
theorem arrow_one (p : Nat) (s : ByteArray) (d : Int) (pr arr : Nat → Nat → Option (Ty × Nat × Nat)) (N : Nat) (hN : 400 ≤ N) (hN2 : N ≤ 1000000) (hd0 : 0 ≤ d) (hd : d ≤ 300) (HP : RdC 88 (N + 1) p s d pr) (HA : RdC 58 N p s (d + 1) arr) (hs : s.size ≤ 1000000000) : RdC 58 (N + 4) p s d (arr1 pr arr s) := by
  intro a c w h ha hc
  have hlt := lt_blk h
  obtain ⟨W1, hW1⟩ : ∃ W1, W1 = w.alloc zero4 := ⟨_, rfl⟩
  have hi1 := RdI.start h
  rw [← hW1] at hi1
  have HI1 := Lib.hid hi1
  obtain ⟨y0, y1, y2, y3⟩ := rdr_cells hi1.rd
  have HP1 := Lib.hid (HP a c W1 hi1.rd ha hc)
  have HAR := Lib.hid HA
  have gd : ¬ (300 : Int) < d := by omega
  clear h hi1 HP HA
  go_enter Tryd.func58, Tryd.ntmps58
  go_upto_region 1 with fail
  rw [show w.alloc (.cells #[.int .i64 0, .int .i64 0, .string ⟨#[]⟩, .slice none 0 0] 24) = W1 from hW1.symm]
  clear hW1
  go_wp2_with fail
  refine HP1.out.mono ?_
  rintro e w2 ⟨T, A, cc, o2, rfl, hT, hk2, ho2, hm2⟩
  have hi2 := HI1.out.t hlt hk2 ho2
  have hz1 := HI1.out.size
  have hz2 := hk2.size
  obtain ⟨W3, hW3⟩ : ∃ W3, W3 = w2.alloc (.cells #[.int .i64 T.kind, .int .i64 T.num, .string T.name, .slice A T.args.length cc] 24) := ⟨_, rfl⟩
  have hb3 : Below w2.heap.size w2 W3 := by rw [hW3]; exact (Below.refl _ _).alloc (Nat.le_refl _) _
  have hi3 := hi2.new hb3
  have hbi3 : BI w p w2.heap.size T A cc W3 := ⟨by rw [hW3]; exact heap_alloc_new _ _, by omega, hT.keep fun g hg => ⟨⟨by omega, by have := hb3.size; omega⟩, hb3.block g hg.2⟩⟩
  have HI3 := Lib.hid hi3; have HB3 := Lib.hid hbi3; have HM2 := Lib.hid hm2
  clear y0 y1 y2 y3 hi2 hz1 hz2 hb3 hi3 hbi3 hT hk2 ho2 hm2
  unfold tyV
  cases hpr : pr a c with
  | none =>
    have hm := HM2.out
    rw [hpr] at hm
    obtain ⟨a', z, has, hz, ho⟩ := hm
    subst ho
    have HNONE : Hid (arr1 pr arr s a c = none) := Lib.hid (by unfold arr1; rw [hpr])
    have HSK := Lib.hid (skip_bad p s ⟨#[32, 45, 62, 32]⟩ a' z W3 HI3.out.rd)
    clear hpr
    go_wp2_with fail
    rw [← hW3]
    clear hW3
    refine HSK.out.mono ?_
    rintro e w4 ⟨rfl, H4, K4⟩
    have hi4 := HI3.out.t hlt K4 H4
    have hbi4 := HB3.out.t hlt K4
    obtain ⟨x0, x1, x2, x3⟩ := box4 hbi4.box
    obtain ⟨r0, r1, r2, r3⟩ := box4 hi4.res
    obtain ⟨s0, s1, s2, s3⟩ := box4_frozen hi4.res
    obtain ⟨Wf, hWf, hbx, hpost⟩ := hi4.fin hlt (N + 4) s a T A cc hbi4.ty
    have HW := Lib.hid hWf; have HBXF := Lib.hid hbx; have HPO := Lib.hid (hpost (arr1 pr arr s a c) (by rw [HNONE.out]; exact ⟨a', z, has, by omega, rfl⟩))
    clear hWf hbx hpost hi4 hbi4 H4 K4
    go_wp2
    rw [← HW.out]
    obtain ⟨f0, f1, f2, f3⟩ := box4 HBXF.out
    refine bodyPost_ret (v := .agg #[.int .i64 T.kind, .int .i64 T.num, .string T.name, .slice A T.args.length cc]) (by simp [results, Tryd.results58, go_sem, f0, f1, f2, f3]) rfl ?_
    exact HPO.out
  | some x =>
    obtain ⟨T', a', c'⟩ := x
    have hm := HM2.out
    rw [hpr] at hm
    obtain ⟨rfl, ha0, has, hc', ho⟩ := hm
    subst ho
    have hsk := skip_ok p s ⟨#[32, 45, 62, 32]⟩ a' c' W3 HI3.out.rd has (by omega) (by decide)
    obtain ⟨q, hq⟩ : ∃ q, q = preB s [32, 45, 62, 32] a' := ⟨_, rfl⟩
    rw [show ((⟨#[32, 45, 62, 32]⟩ : ByteArray).data.toList.isPrefixOf (s.data.toList.drop a')) = q from hq.symm] at hsk
    have HSK := Lib.hid hsk; have HQ := Lib.hid hq; have HPR := Lib.hid hpr
    clear hpr hsk hq
    cases q
    · have HSOME : Hid (arr1 pr arr s a c = some (T, a', c')) := Lib.hid (by unfold arr1; rw [HPR.out]; simp only; rw [if_neg (by rw [← HQ.out]; simp)])
      go_wp2_with fail
      rw [← hW3]
      clear hW3
      refine HSK.out.mono ?_
      rintro e w4 ⟨rfl, H4, K4⟩
      have hi4 := HI3.out.t hlt K4 H4
      have hbi4 := HB3.out.t hlt K4
      obtain ⟨x0, x1, x2, x3⟩ := box4 hbi4.box
      obtain ⟨r0, r1, r2, r3⟩ := box4 hi4.res
      obtain ⟨s0, s1, s2, s3⟩ := box4_frozen hi4.res
      obtain ⟨Wf, hWf, hbx, hpost⟩ := hi4.fin hlt (N + 4) s a T A cc hbi4.ty
      have HW := Lib.hid hWf; have HBXF := Lib.hid hbx; have HPO := Lib.hid (hpost (arr1 pr arr s a c) (by rw [HSOME.out]; exact ⟨rfl, ha0, has, hc', rfl⟩))
      clear hWf hbx hpost hi4 hbi4 H4 K4
      go_wp2
      rw [← HW.out]
      obtain ⟨f0, f1, f2, f3⟩ := box4 HBXF.out
      refine bodyPost_ret (v := .agg #[.int .i64 T.kind, .int .i64 T.num, .string T.name, .slice A T.args.length cc]) (by simp [results, Tryd.results58, go_sem, f0, f1, f2, f3]) rfl ?_
      exact HPO.out
    · have hle := preB_le HQ.out.symm (by decide)
      have hle4 : a' + 4 ≤ s.size := hle
      go_wp2_with fail
      rw [← hW3]
      clear hW3
      refine HSK.out.mono ?_
      rintro e w4 ⟨rfl, H4, K4⟩
      have HI4 := Lib.hid (HI3.out.t hlt K4 H4)
      have HB4 := Lib.hid (HB3.out.t hlt K4)
      have HA4 := Lib.hid (HAR.out (a' + 4) c' w4 H4 hle4 hc')
      clear H4 K4
      go_wp2_with fail
      refine HA4.out.mono ?_
      rintro e w5 ⟨U, A5, cc5, o5, rfl, hU, hk5, ho5, hm5⟩
      have hz4 := HI4.out.size
      have hi5 := HI4.out.t hlt hk5 ho5
      have hbi5 := HB4.out.t hlt hk5
      obtain ⟨W6, hW6⟩ : ∃ W6, W6 = w5.alloc (.cells #[.int .i64 U.kind, .int .i64 U.num, .string U.name, .slice A5 U.args.length cc5] 24) := ⟨_, rfl⟩
      have hb6 : Below w5.heap.size w5 W6 := by rw [hW6]; exact (Below.refl _ _).alloc (Nat.le_refl _) _
      have hz5 := hk5.size
      have hbu6 : BI w p w5.heap.size U A5 cc5 W6 := ⟨by rw [hW6]; exact heap_alloc_new _ _, by omega, hU.keep fun g hg => ⟨⟨by omega, by have := hb6.size; omega⟩, hb6.block g hg.2⟩⟩
      have hi6 := hi5.new hb6
      have hbt6 := hbi5.new hb6
      obtain ⟨x0, x1, x2, x3⟩ := box4 hbt6.box
      obtain ⟨z0, z1, z2, z3⟩ := box4 hbu6.box
      obtain ⟨W7, hW7⟩ : ∃ W7, W7 = W6.alloc (.cells #[.int .i64 T.kind, .int .i64 T.num, .string T.name, .slice A T.args.length cc, .int .i64 U.kind, .int .i64 U.num, .string U.name, .slice A5 U.args.length cc5] 24) := ⟨_, rfl⟩
      have hb7 : Below W6.heap.size W6 W7 := by rw [hW7]; exact (Below.refl _ _).alloc (Nat.le_refl _) _
      have hz6 : W6.heap.size = w5.heap.size + 1 := by rw [hW6]; simp
      have hbn7 : W7.heap[w5.heap.size + 1]? = some (.cells #[.int .i64 T.kind, .int .i64 T.num, .string T.name, .slice A T.args.length cc, .int .i64 U.kind, .int .i64 U.num, .string U.name, .slice A5 U.args.length cc5] 24 (0, 0)) := by rw [hW7, ← hz6]; exact heap_alloc_new _ _
      have HI7 := Lib.hid (hi6.new hb7); have HT7 := Lib.hid (hbt6.new hb7); have HU7 := Lib.hid (hbu6.new hb7); have HBN := Lib.hid hbn7; have HM5 := Lib.hid hm5
      have hgw5 : w.heap.size < w5.heap.size + 1 := by omega
      have hpn : p ≠ w5.heap.size + 1 := by omega
      rw [hW6] at x0 x1 x2 x3 z0 z1 z2 z3
      clear hz4 hi5 hbi5 hb6 hz5 hbu6 hi6 hbt6 hU hk5 ho5 hm5 hb7 hbn7 hz6
      unfold tyV
      cases har : arr (a' + 4) c' with
      | none =>
        have hm := HM5.out
        rw [har] at hm
        obtain ⟨b', z, hbs, hz, ho⟩ := hm
        subst ho
        have HOK : Hid (OkM (N + 4) s a (arr1 pr arr s a c) (.mk 4 0 ⟨#[]⟩ [T, U]) (rdr s b' ((z : Int) + 1) (true || decide (300 < (z : Int) + 1)))) := Lib.hid (by
          unfold arr1
          rw [HPR.out]
          simp only
          rw [if_pos HQ.out.symm, har]
          refine ⟨b', z + 1, hbs, by omega, ?_⟩
          rw [Bool.true_or, show ((z + 1 : Nat) : Int) = (z : Int) + 1 by omega])
        have HPT := Lib.hid (part_any p s b' z true 4 0 ⟨#[]⟩ (some ⟨w5.heap.size + 1, 0, none⟩) 2 2 W7 HI7.out.rd (by omega) (by omega))
        unfold tyV at HPT
        clear har
        go_wp2_with fail
        rw [← hW6, ← hW7]
        clear hW6 hW7
        refine HPT.out.mono ?_
        rintro e w8 ⟨rfl, H8, K8⟩
        have hi8 := HI7.out.t hlt K8 H8
        have hbt8 := HT7.out.t hlt K8
        have hbu8 := HU7.out.t hlt K8
        have hbn8 := (K8.block _ (lt_blk HBN.out) (by omega)).trans HBN.out
        have hty8 := BI.two hbt8 hbu8 hbn8 (by omega)
        have hx := hi8.fin hlt (N + 4) s a (.mk 4 0 ⟨#[]⟩ [T, U]) (some ⟨w5.heap.size + 1, 0, none⟩) 2 hty8
        simp only [Ty.kind, Ty.num, Ty.name, Ty.args, List.length_cons, List.length_nil] at hx
        obtain ⟨Wf, hWf, hbx, hpost⟩ := hx
        obtain ⟨r0, r1, r2, r3⟩ := box4 hi8.res
        obtain ⟨s0, s1, s2, s3⟩ := box4_frozen hi8.res
        have HW := Lib.hid hWf; have HBXF := Lib.hid hbx; have HPO := Lib.hid (hpost _ HOK.out)
        clear hWf hbx hpost hi8 hbt8 hbu8 hbn8 hty8 H8 K8
        go_wp2
        rw [← HW.out]
        obtain ⟨f0, f1, f2, f3⟩ := box4 HBXF.out
        refine bodyPost_ret (v := .agg #[.int .i64 4, .int .i64 0, .string ⟨#[]⟩, .slice (some ⟨w5.heap.size + 1, 0, none⟩) 2 2]) (by simp [results, Tryd.results58, go_sem, f0, f1, f2, f3]) rfl ?_
        exact HPO.out
      | some y =>
        obtain ⟨U', b', c2⟩ := y
        have hm := HM5.out
        rw [har] at hm
        obtain ⟨rfl, hb0, hbs, hc2, ho⟩ := hm
        subst ho
        have HOK : Hid (OkM (N + 4) s a (arr1 pr arr s a c) (.mk 4 0 ⟨#[]⟩ [T, U]) (rdr s b' ((c2 : Int) + 1) (false || decide (300 < (c2 : Int) + 1)))) := Lib.hid (by
          unfold arr1
          rw [HPR.out]
          simp only
          rw [if_pos HQ.out.symm, har]
          unfold OkM partP
          simp only
          by_cases h3 : c2 + 1 ≤ 300
          · rw [if_pos h3]
            refine ⟨rfl, by omega, hbs, h3, ?_⟩
            rw [Bool.false_or, decide_eq_false (by omega), show ((c2 + 1 : Nat) : Int) = (c2 : Int) + 1 by omega]
          · rw [if_neg h3]
            refine ⟨b', c2 + 1, hbs, by omega, ?_⟩
            rw [Bool.false_or, decide_eq_true (by omega), show ((c2 + 1 : Nat) : Int) = (c2 : Int) + 1 by omega])
        have HPT := Lib.hid (part_any p s b' c2 false 4 0 ⟨#[]⟩ (some ⟨w5.heap.size + 1, 0, none⟩) 2 2 W7 HI7.out.rd (by omega) (by omega))
        unfold tyV at HPT
        clear har
        go_wp2_with fail
        rw [← hW6, ← hW7]
        clear hW6 hW7
        refine HPT.out.mono ?_
        rintro e w8 ⟨rfl, H8, K8⟩
        have hi8 := HI7.out.t hlt K8 H8
        have hbt8 := HT7.out.t hlt K8
        have hbu8 := HU7.out.t hlt K8
        have hbn8 := (K8.block _ (lt_blk HBN.out) (by omega)).trans HBN.out
        have hty8 := BI.two hbt8 hbu8 hbn8 (by omega)
        have hx := hi8.fin hlt (N + 4) s a (.mk 4 0 ⟨#[]⟩ [T, U]) (some ⟨w5.heap.size + 1, 0, none⟩) 2 hty8
        simp only [Ty.kind, Ty.num, Ty.name, Ty.args, List.length_cons, List.length_nil] at hx
        obtain ⟨Wf, hWf, hbx, hpost⟩ := hx
        obtain ⟨r0, r1, r2, r3⟩ := box4 hi8.res
        obtain ⟨s0, s1, s2, s3⟩ := box4_frozen hi8.res
        have HW := Lib.hid hWf; have HBXF := Lib.hid hbx; have HPO := Lib.hid (hpost _ HOK.out)
        clear hWf hbx hpost hi8 hbt8 hbu8 hbn8 hty8 H8 K8
        go_wp2
        rw [← HW.out]
        obtain ⟨f0, f1, f2, f3⟩ := box4 HBXF.out
        refine bodyPost_ret (v := .agg #[.int .i64 4, .int .i64 0, .string ⟨#[]⟩, .slice (some ⟨w5.heap.size + 1, 0, none⟩) 2 2]) (by simp [results, Tryd.results58, go_sem, f0, f1, f2, f3]) rfl ?_
        exact HPO.out
end Go.Proofs.YtbhicpjhijondaaDoor
