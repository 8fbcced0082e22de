/- types.Read. -/
import Derived.Test.YtbhicpjhijondaaDoorT29
namespace Go.Typ
/-- no type. -/
def zeroT : Ty := .mk 0 0 ⟨#[]⟩ []
end Go.Typ
namespace Go.Proofs.YtbhicpjhijondaaDoor
open Go.RowKit Go.Lib Go.Vfs Go.Par Go.Typ Go.Shelf
set_option linter.unusedVariables false
set_option linter.unusedSimpArgs false

/-- the type of a text. -/
def readT (s : ByteArray) : Option Ty :=
  match arrowP s 301 0 0 with
  | none => none
  | some (T, a, _) => if a = s.size then (if rightT T = true ∧ sayT T = s.data.toList then some T else none) else none
/-- what Read answers. -/
def ReadPost (s : ByteArray) (w : World) (e : Ending) (w' : World) : Prop :=
  ∃ (T : Ty) (A : Option Addr) (cc : Nat), e = .returned (.tuple #[tyV T.kind T.num T.name A T.args.length cc, .int .i64 (if (readT s).isSome then 0 else 120)]) ∧ TyAt (fun g => w.heap.size ≤ g ∧ g < w'.heap.size) w' (tyV T.kind T.num T.name A T.args.length cc) T ∧ Below w.heap.size w w' ∧ T = (readT s).getD zeroT

theorem below_of_kept {p B : Nat} {w W : World} (h : Kept (fun x => x = p) w W) (hp : B ≤ p) (hB : B ≤ w.heap.size) : Below B w W :=
  ⟨h.os, h.tape, h.output, h.size, fun g hg => h.block g (by omega) (by omega)⟩
theorem read_end {w W : World} (hr : W.heap[w.heap.size]? = some (.cells #[.int .i64 0, .int .i64 0, .string ⟨#[]⟩, .slice none 0 0] 24 (0, 0))) (hb : Below w.heap.size w W) (T : Ty) (A : Option Addr) (cc : Nat)
    (hT : TyAt (fun g => w.heap.size < g ∧ g < W.heap.size) W (tyV T.kind T.num T.name A T.args.length cc) T) :
    ∃ Wf, Wf = ((((W.setCell ⟨w.heap.size, 0, none⟩ (.int .i64 T.kind)).setCell ⟨w.heap.size, 1, none⟩ (.int .i64 T.num)).setCell ⟨w.heap.size, 2, none⟩ (.string T.name)).setCell ⟨w.heap.size, 3, none⟩ (.slice A T.args.length cc)) ∧
      Wf.heap[w.heap.size]? = some (.cells #[.int .i64 T.kind, .int .i64 T.num, .string T.name, .slice A T.args.length cc] 24 (0, 0)) ∧
      (∀ s r, T = (readT s).getD zeroT → r = (if (readT s).isSome then 0 else 120) → ReadPost s w (.returned (.tuple #[tyV T.kind T.num T.name A T.args.length cc, .int .i64 r])) Wf) := by
  obtain ⟨Wf, hWf, hbx, hkf⟩ := end4 (.int .i64 T.kind) (.int .i64 T.num) (.string T.name) (.slice A T.args.length cc) hr
  have hz := lt_blk hr
  have hzf := hkf.size
  refine ⟨Wf, hWf, hbx, fun s r hs hr => ⟨T, A, cc, by rw [hr], hT.keep fun g hg => ⟨⟨by omega, by omega⟩, hkf.block g hg.2 (by omega)⟩, hb.trans (below_of_kept hkf (Nat.le_refl _) hb.size), hs⟩⟩
theorem read_zero {w W : World} (hr : W.heap[w.heap.size]? = some (.cells #[.int .i64 0, .int .i64 0, .string ⟨#[]⟩, .slice none 0 0] 24 (0, 0))) (hb : Below w.heap.size w W) (s : ByteArray) (hs : readT s = none) :
    ∃ Wf, Wf = ((((W.setCell ⟨w.heap.size, 0, none⟩ (.int .i64 0)).setCell ⟨w.heap.size, 1, none⟩ (.int .i64 0)).setCell ⟨w.heap.size, 2, none⟩ (.string ⟨#[]⟩)).setCell ⟨w.heap.size, 3, none⟩ (.slice none 0 0)) ∧
      Wf.heap[w.heap.size]? = some (.cells #[.int .i64 0, .int .i64 0, .string ⟨#[]⟩, .slice none 0 0] 24 (0, 0)) ∧
      ReadPost s w (.returned (.tuple #[.agg #[.int .i64 0, .int .i64 0, .string ⟨#[]⟩, .slice none 0 0], .int .i64 120])) Wf := by
  obtain ⟨Wf, h1, h2, h3⟩ := read_end hr hb zeroT none 0 (TyAt.leaf _ _ 0 0 ⟨#[]⟩ none 0 (by simp [maxLen]) (by show 0 ≤ _; omega))
  exact ⟨Wf, h1, h2, h3 s 120 (by rw [hs]; rfl) (by rw [hs]; rfl)⟩

set_option maxRecDepth 20000 in
set_option maxHeartbeats 2000000 in
theorem read_any (s : ByteArray) (hs : s.size ≤ 1000000000) (w : World) (htb : Tb w) : Calls Tryd.prog 23 #[.string s] w (ReadPost s w) := by
  obtain ⟨W1, hW1⟩ : ∃ W1, W1 = w.alloc zero4 := ⟨_, rfl⟩
  have hz1 : W1.heap.size = w.heap.size + 1 := by rw [hW1]; simp
  obtain ⟨W2, hW2⟩ : ∃ W2, W2 = W1.alloc (.cells #[.string s, .int .i64 0, .int .i64 0, .bool false] 77) := ⟨_, rfl⟩
  have hz2 : W2.heap.size = w.heap.size + 2 := by rw [hW2]; simp [hz1]
  have hb1 : Below w.heap.size w W1 := by rw [hW1]; exact (Below.refl _ _).alloc (Nat.le_refl _) _
  have hb2 : Below W1.heap.size W1 W2 := by rw [hW2]; exact (Below.refl _ _).alloc (Nat.le_refl _) _
  have hb02 : Below w.heap.size w W2 := hb1.trans (hb2.mono (by omega))
  have hr2 : W2.heap[w.heap.size]? = some (.cells #[.int .i64 0, .int .i64 0, .string ⟨#[]⟩, .slice none 0 0] 24 (0, 0)) := (hb2.block _ (by omega)).trans (by rw [hW1]; exact heap_alloc_new _ _)
  have hp2 : W2.heap[w.heap.size + 1]? = some (rdr s 0 0 false) := by rw [hW2, ← hz1]; exact heap_alloc_new _ _
  have HAR := Lib.hid (arrow_any (w.heap.size + 1) s hs 301 (Nat.le_refl _) 0 0 W2 hp2 (Nat.zero_le _) (by omega))
  have HB2 := Lib.hid hb02; have HR2 := Lib.hid hr2; have HTB := Lib.hid htb
  clear hb1 hb2 hb02 hr2 hp2 htb
  go_enter Tryd.func23, Tryd.ntmps23
  go_wp2_with fail
  rw [show w.alloc (.cells #[.int .i64 0, .int .i64 0, .string ⟨#[]⟩, .slice none 0 0] 24) = W1 from hW1.symm, ← hW2]
  clear hW1 hW2
  refine HAR.out.mono ?_
  rintro e w3 ⟨T, A, cc, o3, rfl, hT, hk3, ho3, hm3⟩
  have hz3 := hk3.size
  obtain ⟨W4, hW4⟩ : ∃ W4, W4 = w3.alloc (.cells #[.int .i64 T.kind, .int .i64 T.num, .string T.name, .slice A T.args.length cc] 24) := ⟨_, rfl⟩
  have hb4 : Below w3.heap.size w3 W4 := by rw [hW4]; exact (Below.refl _ _).alloc (Nat.le_refl _) _
  have hz4 := hb4.size
  have hbx4 : W4.heap[w3.heap.size]? = some (.cells #[.int .i64 T.kind, .int .i64 T.num, .string T.name, .slice A T.args.length cc] 24 (0, 0)) := by rw [hW4]; exact heap_alloc_new _ _
  have hB4 : Below w.heap.size w W4 := HB2.out.trans ((below_of_kept hk3 (by omega) (by omega)).trans (hb4.mono (by omega)))
  have hr4 := (hb4.block _ (by omega)).trans ((hk3.block _ (lt_blk HR2.out) (by omega)).trans HR2.out)
  have ho4 := (hb4.block _ (lt_blk ho3)).trans ho3
  have hT4 : TyAt (fun g => w.heap.size < g ∧ g < W4.heap.size) W4 (tyV T.kind T.num T.name A T.args.length cc) T := hT.keep fun g hg => ⟨⟨by omega, by omega⟩, hb4.block g hg.2⟩
  have HB4 := Lib.hid hB4; have HR4 := Lib.hid hr4; have HT4 := Lib.hid hT4; have HTB4 := Lib.hid (HTB.out.below hB4)
  have HBX4 := Lib.hid hbx4; have HM := Lib.hid hm3
  clear hT hk3 ho3 hz3 hb4 hz4 hbx4 hB4 hr4 hT4 hm3
  cases har : arrowP s 301 0 0 with
  | none =>
    have hm := HM.out
    rw [har] at hm
    obtain ⟨a', z, has, hz, ho⟩ := hm
    subst ho
    obtain ⟨o0, o1, o2, o3⟩ := rdr_cells ho4
    have HNONE : Hid (readT s = none) := Lib.hid (by unfold readT; rw [har])
    clear har ho4
    obtain ⟨Wf, hWf, hbx, hpost⟩ := read_zero HR4.out HB4.out s HNONE.out
    obtain ⟨r0, r1, r2, r3⟩ := box4 HR4.out
    obtain ⟨s0, s1, s2, s3⟩ := box4_frozen HR4.out
    have HW := Lib.hid hWf; have HBXF := Lib.hid hbx; have HPO := Lib.hid hpost
    clear hWf hbx hpost
    rw [hW4] at o0 o1 o2 o3 r0 r1 r2 r3 s0 s1 s2 s3
    unfold tyV
    go_wp2
    rw [← hW4]
    rw [← HW.out]
    obtain ⟨f0, f1, f2, f3⟩ := box4 HBXF.out
    refine bodyPost_ret (v := .tuple #[.agg #[.int .i64 0, .int .i64 0, .string ⟨#[]⟩, .slice none 0 0], .int .i64 120]) (by simp [results, Tryd.results23, go_sem, f0, f1, f2, f3]) rfl ?_
    exact HPO.out
  | some y =>
    obtain ⟨T', a', c'⟩ := y
    have hm := HM.out
    rw [har] at hm
    obtain ⟨rfl, -, has, hc', ho⟩ := hm
    subst ho
    obtain ⟨o0, o1, o2, o3⟩ := rdr_cells ho4
    have HNM := Lib.hid (PNm.arrow s 301 0 0 _ _ _ har)
    have HARR := Lib.hid har
    clear har ho4
    by_cases hae : a' = s.size
    · have HRD : Hid (readT s = if rightT T = true ∧ sayT T = s.data.toList then some T else none) := Lib.hid (by unfold readT; rw [HARR.out]; simp only; rw [if_pos hae])
      have HSH := Lib.hid (show_any T _ W4 (HT4.out.sub fun g hg => hg.2) HTB4.out fun hr => by
        have := say_le s.size T (rightT_iff.1 hr).2 HNM.out
        have h3 := Nat.mul_le_mul_right (s.size + 40) (rightT_iff.1 hr).1
        omega)
      have g0 : ((a' : Int) == (s.size : Int)) = true := by simp; omega
      obtain ⟨x0, x1, x2, x3⟩ := box4 HBX4.out
      unfold tyV at HSH
      rw [hW4] at o0 o1 o2 o3 x0 x1 x2 x3
      unfold tyV
      go_wp2_with fail
      rw [← hW4]
      clear hW4 o0 o1 o2 o3 x0 x1 x2 x3 g0
      refine HSH.out.mono ?_
      rintro e w5 ⟨rfl, H5⟩
      have HR5 := Lib.hid ((H5.block _ (lt_blk HR4.out)).trans HR4.out)
      have HBX5 := Lib.hid ((H5.block _ (lt_blk HBX4.out)).trans HBX4.out)
      have HB5 := Lib.hid (HB4.out.trans (H5.mono HB4.out.size))
      have hz5 := H5.size
      have HT5 := Lib.hid (HT4.out.keep (S' := fun g => w.heap.size < g ∧ g < w5.heap.size) fun g hg => ⟨⟨hg.1, by omega⟩, H5.block g hg.2⟩)
      clear H5 hz5
      cases hq : rightT T with
      | false =>
        have HE : Hid (showT T = ([], 120)) := Lib.hid (by unfold showT; rw [hq]; rfl)
        have HNONE : Hid (readT s = none) := Lib.hid (by rw [HRD.out, hq]; rfl)
        rw [HE.out]
        clear hq
        obtain ⟨Wf, hWf, hbx, hpost⟩ := read_zero HR5.out HB5.out s HNONE.out
        obtain ⟨r0, r1, r2, r3⟩ := box4 HR5.out
        obtain ⟨s0, s1, s2, s3⟩ := box4_frozen HR5.out
        have HW := Lib.hid hWf; have HBXF := Lib.hid hbx; have HPO := Lib.hid hpost
        clear hWf hbx hpost
        go_wp2
        rw [← HW.out]
        obtain ⟨f0, f1, f2, f3⟩ := box4 HBXF.out
        refine bodyPost_ret (v := .tuple #[.agg #[.int .i64 0, .int .i64 0, .string ⟨#[]⟩, .slice none 0 0], .int .i64 120]) (by simp [results, Tryd.results23, go_sem, f0, f1, f2, f3]) rfl ?_
        exact HPO.out
      | true =>
        have HE : Hid (showT T = (sayT T, 0)) := Lib.hid (by unfold showT; rw [hq]; rfl)
        rw [HE.out]
        by_cases heq : sayT T = s.data.toList
        · have HSOME : Hid (readT s = some T) := Lib.hid (by rw [HRD.out, if_pos ⟨hq, heq⟩])
          have hst : (⟨(sayT T).toArray⟩ : ByteArray) = s := by rw [heq]
          rw [hst]
          clear heq hst hq
          obtain ⟨Wf, hWf, hbx, hpost⟩ := read_end HR5.out HB5.out T A cc HT5.out
          obtain ⟨r0, r1, r2, r3⟩ := box4 HR5.out
          obtain ⟨s0, s1, s2, s3⟩ := box4_frozen HR5.out
          obtain ⟨x0, x1, x2, x3⟩ := box4 HBX5.out
          have HW := Lib.hid hWf; have HBXF := Lib.hid hbx; have HPO := Lib.hid (hpost s 0 (by rw [HSOME.out]; rfl) (by rw [HSOME.out]; rfl))
          clear hWf hbx hpost
          go_wp2
          rw [← HW.out]
          obtain ⟨f0, f1, f2, f3⟩ := box4 HBXF.out
          refine bodyPost_ret (v := .tuple #[.agg #[.int .i64 T.kind, .int .i64 T.num, .string T.name, .slice A T.args.length cc], .int .i64 0]) (by simp [results, Tryd.results23, go_sem, f0, f1, f2, f3]) rfl ?_
          exact HPO.out
        · have HNONE : Hid (readT s = none) := Lib.hid (by rw [HRD.out, if_neg (fun h => heq h.2)])
          have g1 : ((⟨(sayT T).toArray⟩ : ByteArray).toList == s.toList) = false := beqS_ne fun h => heq (by rw [← h])
          clear heq hq
          generalize (⟨(sayT T).toArray⟩ : ByteArray) = tx at *
          obtain ⟨Wf, hWf, hbx, hpost⟩ := read_zero HR5.out HB5.out s HNONE.out
          obtain ⟨r0, r1, r2, r3⟩ := box4 HR5.out
          obtain ⟨s0, s1, s2, s3⟩ := box4_frozen HR5.out
          have HW := Lib.hid hWf; have HBXF := Lib.hid hbx; have HPO := Lib.hid hpost
          clear hWf hbx hpost
          go_wp2
          rw [← HW.out]
          obtain ⟨f0, f1, f2, f3⟩ := box4 HBXF.out
          refine bodyPost_ret (v := .tuple #[.agg #[.int .i64 0, .int .i64 0, .string ⟨#[]⟩, .slice none 0 0], .int .i64 120]) (by simp [results, Tryd.results23, go_sem, f0, f1, f2, f3]) rfl ?_
          exact HPO.out
    · have HNONE : Hid (readT s = none) := Lib.hid (by unfold readT; rw [HARR.out]; simp only; rw [if_neg hae])
      have g0 : ((a' : Int) == (s.size : Int)) = false := by simp; omega
      obtain ⟨Wf, hWf, hbx, hpost⟩ := read_zero HR4.out HB4.out s HNONE.out
      obtain ⟨r0, r1, r2, r3⟩ := box4 HR4.out
      obtain ⟨s0, s1, s2, s3⟩ := box4_frozen HR4.out
      have HW := Lib.hid hWf; have HBXF := Lib.hid hbx; have HPO := Lib.hid hpost
      clear hWf hbx hpost hae
      rw [hW4] at o0 o1 o2 o3 r0 r1 r2 r3 s0 s1 s2 s3
      unfold tyV
      go_wp2
      rw [← hW4]
      rw [← HW.out]
      obtain ⟨f0, f1, f2, f3⟩ := box4 HBXF.out
      refine bodyPost_ret (v := .tuple #[.agg #[.int .i64 0, .int .i64 0, .string ⟨#[]⟩, .slice none 0 0], .int .i64 120]) (by simp [results, Tryd.results23, go_sem, f0, f1, f2, f3]) rfl ?_
      exact HPO.out
end Go.Proofs.YtbhicpjhijondaaDoor
