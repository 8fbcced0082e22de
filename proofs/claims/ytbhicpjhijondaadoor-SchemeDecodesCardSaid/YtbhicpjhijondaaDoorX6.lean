/- scheme.Find, scheme.Drop. -/
import Derived.Test.YtbhicpjhijondaaDoorX5
namespace Go.Typ
open Go.RowKit Go.Lib Go.Vfs Go.Par
open Classical in
/-- the type of the last export of that name. -/
noncomputable def findX : List Ex → ByteArray → Option Ty
  | [], _ => none
  | x :: xs, nm => match findX xs nm with
    | some t => some t
    | none => if x.name = nm then some x.ty else none
theorem findX_drop {xs : List Ex} {nm : ByteArray} {t : Ty} : ∀ (k : Nat), findX (xs.drop k) nm = some t → findX xs nm = some t := by
  induction xs with
  | nil => intro k h; simpa using h
  | cons x xs ih =>
    intro k h
    cases k with
    | zero => simpa using h
    | succ k =>
      rw [List.drop_succ_cons] at h
      rw [findX, ih k h]
theorem findX_here {xs : List Ex} {nm : ByteArray} {k : Nat} (hk : k < xs.length) (h : findX (xs.drop (k + 1)) nm = none) (hn : xs[k].name = nm) : findX xs nm = some xs[k].ty := by
  refine findX_drop k ?_
  rw [List.drop_eq_getElem_cons hk, findX, h]
  simp [hn]
theorem findX_next {xs : List Ex} {nm : ByteArray} {k : Nat} (hk : k < xs.length) (h : findX (xs.drop (k + 1)) nm = none) (hn : ¬ xs[k].name = nm) : findX (xs.drop k) nm = none := by
  rw [List.drop_eq_getElem_cons hk, findX, h]
  simp [hn]
open Classical in
/-- the exports of other names. -/
noncomputable def dropX (xs : List Ex) (nm : ByteArray) : List Ex := xs.filter fun x => decide (¬ x.name = nm)
theorem dropX_nil (nm : ByteArray) : dropX [] nm = [] := rfl
theorem dropX_keep {xs : List Ex} {nm : ByteArray} {k : Nat} (hk : k < xs.length) (h : ¬ xs[k].name = nm) : dropX (xs.take (k + 1)) nm = dropX (xs.take k) nm ++ [xs[k]] := by
  unfold dropX
  rw [List.take_succ_eq_append_getElem hk, List.filter_append]
  simp [h]
theorem dropX_skip {xs : List Ex} {nm : ByteArray} {k : Nat} (hk : k < xs.length) (h : xs[k].name = nm) : dropX (xs.take (k + 1)) nm = dropX (xs.take k) nm := by
  unfold dropX
  rw [List.take_succ_eq_append_getElem hk, List.filter_append]
  simp [h]
theorem dropX_len (xs : List Ex) (nm : ByteArray) : (dropX xs nm).length ≤ xs.length := List.length_filter_le _ _
end Go.Typ
namespace Go.Proofs.YtbhicpjhijondaaDoor
open Go.RowKit Go.Lib Go.Vfs Go.Par Go.Typ Go.Shelf
set_option linter.unusedVariables false
set_option linter.unusedSimpArgs false

def FindPost (xs : List Ex) (nm : ByteArray) (w : World) (e : Ending) (w' : World) : Prop :=
  ∃ (R : Ty) (A : Option Addr) (cc : Nat), e = .returned (.tuple #[tyV R.kind R.num R.name A R.args.length cc, .bool (findX xs nm).isSome]) ∧ TyAt (fun g => w.heap.size ≤ g ∧ g < w'.heap.size) w' (tyV R.kind R.num R.name A R.args.length cc) R ∧ Below w.heap.size w w' ∧ R = (findX xs nm).getD zeroT

set_option maxRecDepth 20000 in
set_option maxHeartbeats 2000000 in
theorem find_any (xs : List Ex) (hp : ∀ x ∈ xs, RowOk x.ty) (nm : ByteArray) (v : Value) (w : World) (hX : ExsAt (· < w.heap.size) w v xs) : Calls Tryd.prog 44 #[v, .string nm] w (FindPost xs nm w) := by
  obtain ⟨P, hP⟩ : ∃ P, P = FindPost xs nm w := ⟨_, rfl⟩
  have HPO := Lib.hid hP
  rw [← hP]
  clear hP
  obtain ⟨A, c, rfl, hc, hm⟩ := hX.form
  have hla : xs.length ≤ 9223372036854775807 := by simp only [maxLen] at hm; omega
  obtain ⟨W1, hW1⟩ : ∃ W1, W1 = w.alloc (.cells #[.int .i64 0, .int .i64 0, .string ⟨#[]⟩, .slice none 0 0] 24) := ⟨_, rfl⟩
  have hb1 : Below w.heap.size w W1 := by rw [hW1]; exact (Below.refl _ _).alloc (Nat.le_refl _) _
  have hres : W1.heap[w.heap.size]? = some (.cells #[.int .i64 0, .int .i64 0, .string ⟨#[]⟩, .slice none 0 0] 24 (0, 0)) := by rw [hW1]; exact heap_alloc_new _ _
  have HX := Lib.hid hX; have HB1 := Lib.hid hb1; have HRS := Lib.hid hres; have HP := Lib.hid hp
  have HZ1 : Hid (W1.heap.size = w.heap.size + 1) := Lib.hid (by rw [hW1]; simp)
  clear hX hc hm hb1 hres hp
  go_enter Tryd.func44, Tryd.ntmps44
  go_wp2
  rw [← hW1]
  clear hW1
  go_loopw [6] (fun iv W => ∃ (k : Nat), k ≤ xs.length ∧ iv = .int .i64 ((k : Int) - 1) ∧ Hid (findX (xs.drop k) nm = none) ∧ Hid (W = W1)) (fun iv _ => (RowKit.intOf iv + 1).toNat)
  case atStart => exact ⟨xs.length, by omega, rfl, Lib.hid (by rw [List.drop_length, findX]), Lib.hid rfl⟩
  case round =>
    obtain ⟨k, hk, rfl, HF, HW⟩ := hrel
    have hww := HW.out
    subst hww
    by_cases hk0 : k = 0
    · subst hk0
      have HR : Hid (findX xs nm = none) := Lib.hid (by have := HF.out; rw [List.drop_zero] at this; exact this)
      obtain ⟨Wf, hWf, hbf, hkf⟩ := end4 (.int .i64 0) (.int .i64 0) (.string ⟨#[]⟩) (.slice none 0 0) HRS.out
      obtain ⟨r0, r1, r2, r3⟩ := box4 HRS.out
      obtain ⟨s0, s1, s2, s3⟩ := box4_frozen HRS.out
      have HE : Hid (P (.returned (.tuple #[.agg #[.int .i64 0, .int .i64 0, .string ⟨#[]⟩, .slice none 0 0], .bool false])) Wf) := Lib.hid (by
        rw [HPO.out]
        exact ⟨zeroT, none, 0, by rw [HR.out]; rfl, TyAt.leaf _ _ 0 0 ⟨#[]⟩ none 0 (by simp [maxLen]) (by decide), HB1.out.trans (below_of_kept (p := w.heap.size) hkf (Nat.le_refl _) HB1.out.size), by rw [HR.out]; rfl⟩)
      have HBF := Lib.hid hbf
      have HWF := Lib.hid hWf
      clear hbf hkf hWf
      go_wp2
      rw [← HWF.out]
      obtain ⟨f0, f1, f2, f3⟩ := box4 HBF.out
      refine bodyPost_ret (v := .tuple #[.agg #[.int .i64 0, .int .i64 0, .string ⟨#[]⟩, .slice none 0 0], .bool false]) (by simp [results, Tryd.results44, go_sem, f0, f1, f2, f3]) rfl ?_
      exact HE.out
    · obtain ⟨j, hj⟩ : ∃ j, k = j + 1 := ⟨k - 1, by omega⟩
      have hij : (k : Int) - 1 = (j : Int) := by omega
      have hlt : j < xs.length := by omega
      obtain ⟨b, off, A', c', rfl, hb, hns, ht, x0, x1, x2, x3, x4⟩ := (HX.out.blw HB1.out).arg hlt
      have hF := HF.out
      rw [hj] at hF
      by_cases hn : xs[j].name = nm
      · have HR : Hid (findX xs nm = some xs[j].ty) := Lib.hid (findX_here hlt hF hn)
        have hca := copied_any xs[j].ty _ wr ht (HP.out _ (List.getElem_mem hlt))
        have hnn : (xs[j].name.toList == nm.toList) = true := (beqS _ _).2 hn
        rw [hij]
        clear hn hF ht hns hj hk0 hij
        generalize xs[j] = X at *
        unfold tyV at hca
        have HCA := Lib.hid hca
        clear hca
        go_wp2_with fail
        refine HCA.out.mono ?_
        rintro e w2 ⟨A2, c2, rfl, hu, hb2⟩
        have hres2 := (hb2.block _ (lt_blk HRS.out)).trans HRS.out
        obtain ⟨Wf, hWf, hbf, hkf⟩ := end4 (.int .i64 X.ty.kind) (.int .i64 X.ty.num) (.string X.ty.name) (.slice A2 X.ty.args.length c2) hres2
        obtain ⟨r0, r1, r2, r3⟩ := box4 hres2
        obtain ⟨s0, s1, s2, s3⟩ := box4_frozen hres2
        have HE : Hid (P (.returned (.tuple #[.agg #[.int .i64 X.ty.kind, .int .i64 X.ty.num, .string X.ty.name, .slice A2 X.ty.args.length c2], .bool true])) Wf) := Lib.hid (by
          rw [HPO.out]
          have h1 := HZ1.out
          have h5 := hkf.size
          have h6 := hb2.size
          exact ⟨X.ty, A2, c2, by rw [HR.out]; rfl, hu.keep fun g hg => ⟨by omega, hkf.block g hg.2 (by show ¬ g = _; omega)⟩, (HB1.out.trans (hb2.mono (by omega))).trans (below_of_kept (p := w.heap.size) hkf (Nat.le_refl _) (by omega)), by rw [HR.out]; rfl⟩)
        have HBF := Lib.hid hbf
        have HWF := Lib.hid hWf
        clear hbf hkf hWf hres2 hb2 hu
        go_wp2
        rw [← HWF.out]
        obtain ⟨f0, f1, f2, f3⟩ := box4 HBF.out
        refine bodyPost_ret (v := .tuple #[.agg #[.int .i64 X.ty.kind, .int .i64 X.ty.num, .string X.ty.name, .slice A2 X.ty.args.length c2], .bool true]) (by simp [results, Tryd.results44, go_sem, f0, f1, f2, f3]) rfl ?_
        exact HE.out
      · have HN : Hid (findX (xs.drop j) nm = none) := Lib.hid (findX_next hlt hF hn)
        have hnn : (xs[j].name.toList == nm.toList) = false := beqS_ne hn
        rw [hij]
        clear hn hF ht hns hj hk0 hij
        generalize xs[j] = X at *
        go_wp2
        go_roundw
        case rel => exact ⟨j, by omega, by go_num, HN, Lib.hid trivial⟩
        case measure => simp [RowKit.intOf]

set_option maxRecDepth 20000 in
set_option maxHeartbeats 4000000 in
theorem drop_any (xs : List Ex) (hp : ∀ x ∈ xs, RowOk x.ty) (nm : ByteArray) (v : Value) (w : World) (hX : ExsAt (· < w.heap.size) w v xs) (hl : xs.length ≤ 1000000) :
    Calls Tryd.prog 47 #[v, .string nm] w fun e w' => ∃ v', e = .returned v' ∧ ExsAt (fun g => w.heap.size ≤ g ∧ g < w'.heap.size) w' v' (dropX xs nm) ∧ Below w.heap.size w w' := by
  obtain ⟨A, c, rfl, hc, hm⟩ := hX.form
  have HX := Lib.hid hX; have HP := Lib.hid hp
  clear hX hc hm hp
  go_enter Tryd.func47, Tryd.ntmps47
  go_wp2
  go_loopw [5, 10] (fun sv iv W => ∃ (k : Nat) (us : List Value), k ≤ xs.length ∧ iv = .int .i64 k ∧ Hid (RowK 46 5 ExAt w.heap.size w.heap.size W (dropX (xs.take k) nm) sv us) ∧ Hid (Below w.heap.size w W)) (fun _ iv _ => xs.length - (RowKit.intOf iv).toNat)
  case atStart => exact ⟨0, [], by omega, rfl, Lib.hid (by rw [List.take_zero, dropX_nil]; exact RowK.nil w), Lib.hid (Below.refl _ _)⟩
  case round =>
    obtain ⟨k, us, hk, rfl, HR, HB⟩ := hrel
    by_cases hlt : k < xs.length
    · obtain ⟨b, off, A', c', rfl, hb, hns, ht, x0, x1, x2, x3, x4⟩ := (HX.out.blw HB.out).arg hlt
      obtain ⟨W2, hW2⟩ : ∃ W2, W2 = wr.alloc (.cells #[.string xs[k].name, .int .i64 xs[k].ty.kind, .int .i64 xs[k].ty.num, .string xs[k].ty.name, .slice A' xs[k].ty.args.length c'] 46) := ⟨_, rfl⟩
      have hb2 : Below wr.heap.size wr W2 := by rw [hW2]; exact (Below.refl _ _).alloc (Nat.le_refl _) _
      have hbx : W2.heap[wr.heap.size]? = some (.cells #[.string xs[k].name, .int .i64 xs[k].ty.kind, .int .i64 xs[k].ty.num, .string xs[k].ty.name, .slice A' xs[k].ty.args.length c'] 46 (0, 0)) := by rw [hW2]; exact heap_alloc_new _ _
      have hr2 := RowK.below (R := ExAt) ExAt.keep HR.out hb2
      have HRK2 := Lib.hid hr2
      have HZ2 : Hid (wr.heap.size ≤ W2.heap.size) := Lib.hid hb2.size
      have HB2 : Hid (Below w.heap.size w W2) := Lib.hid (HB.out.trans (hb2.mono HB.out.size))
      have hol : u5.ownBlock ≠ some wr.heap.size := fun e => by have := HR.out.lt _ e; omega
      have HOL := Lib.hid hol
      have HOLT : Hid (∀ g, u5.ownBlock = some g → w.heap.size ≤ g ∧ g < wr.heap.size) := Lib.hid fun g e => HR.out.lt g e
      obtain ⟨z0, z1, z2, z3, z4⟩ := box5 hbx
      by_cases hn : xs[k].name = nm
      · have HDS := Lib.hid (dropX_skip hlt hn)
        have hnn : (xs[k].name.toList == nm.toList) = true := (beqS _ _).2 hn
        rw [hW2] at z0 z1 z2 z3 z4
        clear hn ht hns hbx hb2 hol hr2
        generalize xs[k] = X at *
        go_wp2
        rw [← hW2]
        go_roundw
        case rel => exact ⟨k + 1, us, by omega, by go_num, Lib.hid (by rw [HDS.out]; exact HRK2.out), HB2⟩
        case measure => simp [RowKit.intOf]; omega
      · have HDS := Lib.hid (dropX_keep hlt hn)
        have hnn : (xs[k].name.toList == nm.toList) = false := beqS_ne hn
        have hd2 : Below W2.heap.size W2 W2.drew := (Below.refl W2.heap.size _).drew
        have hca := copied_any xs[k].ty _ W2.drew ((ht.blw hb2).blw hd2) (HP.out _ (List.getElem_mem hlt))
        have HNS := Lib.hid hns
        have HRD := Lib.hid (RowK.below (R := ExAt) ExAt.keep hr2 hd2)
        have HD2 : Hid (Below W2.heap.size W2 W2.drew) := Lib.hid hd2
        have HDW : Hid (Below w.heap.size W2 W2.drew) := Lib.hid (Below.refl _ _).drew
        have hlb := lt_blk hbx
        have HSK : Hid (∀ W' v', Gr W2 W' u5 v' → W'.cell? ⟨wr.heap.size, 0, none⟩ = some (.string xs[k].name) ∧ W'.cell? ⟨wr.heap.size, 1, none⟩ = some (.int .i64 xs[k].ty.kind) ∧ W'.cell? ⟨wr.heap.size, 2, none⟩ = some (.int .i64 xs[k].ty.num) ∧ W'.cell? ⟨wr.heap.size, 3, none⟩ = some (.string xs[k].ty.name) ∧ W'.cell? ⟨wr.heap.size, 4, none⟩ = some (.slice A' xs[k].ty.args.length c')) :=
          Lib.hid fun W' v' h => box5 ((h.block hlb hol).trans hbx)
        have hzw := HB2.out.size
        have hzb : w.heap.size ≤ W2.drew.heap.size := hzw
        rw [hW2] at z0 z1 z2 z3 z4
        clear hn ht hns hbx hb2 hol hr2 hd2 hlb
        generalize xs[k] = X at *
        have HS0 := Lib.hid (HSK.out W2.drew u5 (Gr.of_below HD2.out u5))
        unfold tyV at hca
        have HCA := Lib.hid hca
        clear hca
        go_wp2_with fail
        rw [← hW2]
        clear hW2 z0 z1 z2 z3 z4
        refine wp_region_held (S := (fun w2 : World => w2.cell? ⟨wr.heap.size, 0, none⟩ = some (.string X.name) ∧ w2.cell? ⟨wr.heap.size, 1, none⟩ = some (.int .i64 X.ty.kind) ∧ w2.cell? ⟨wr.heap.size, 2, none⟩ = some (.int .i64 X.ty.num) ∧ w2.cell? ⟨wr.heap.size, 3, none⟩ = some (.string X.ty.name) ∧ w2.cell? ⟨wr.heap.size, 4, none⟩ = some (.slice A' X.ty.args.length c'))) (by kernel_rfl) ?_
        refine takeD (i := 0) (s := 18) (v := u5) rfl rfl (by kernel_rfl) (by kernel_rfl) (by kernel_rfl) (fun _ _ _ h => h) (Or.inl ⟨by rfl, fun w' hS => by obtain ⟨s0, s1, s2, s3, s4⟩ := hS; go_simp⟩) HS0.out ?_
        try simp only [List.setIfInBounds_toArray, List.set_cons_zero, List.set_cons_succ]
        refine takeD (i := 1) (s := 19) (v := .pointer (some ⟨wr.heap.size, 0, none⟩)) rfl rfl (by kernel_rfl) (by kernel_rfl) (by kernel_rfl) (fun _ _ _ h => h) (Or.inl ⟨by rfl, fun w' hS => by obtain ⟨s0, s1, s2, s3, s4⟩ := hS; go_simp⟩) HS0.out ?_
        try simp only [List.setIfInBounds_toArray, List.set_cons_zero, List.set_cons_succ]
        refine takeD (i := 2) (s := 20) (v := .string X.name) rfl rfl (by kernel_rfl) (by kernel_rfl) (by kernel_rfl) (fun _ _ _ h => h) (Or.inl ⟨by rfl, fun w' hS => by obtain ⟨s0, s1, s2, s3, s4⟩ := hS; go_simp⟩) HS0.out ?_
        try simp only [List.setIfInBounds_toArray, List.set_cons_zero, List.set_cons_succ]
        refine takeD (i := 3) (s := 21) (v := .pointer (some ⟨wr.heap.size, 1, none⟩)) rfl rfl (by kernel_rfl) (by kernel_rfl) (by kernel_rfl) (fun _ _ _ h => h) (Or.inl ⟨by rfl, fun w' hS => by obtain ⟨s0, s1, s2, s3, s4⟩ := hS; go_simp⟩) HS0.out ?_
        try simp only [List.setIfInBounds_toArray, List.set_cons_zero, List.set_cons_succ]
        refine takeD (i := 4) (s := 22) (v := .agg #[.int .i64 X.ty.kind, .int .i64 X.ty.num, .string X.ty.name, .slice A' X.ty.args.length c']) rfl rfl (by kernel_rfl) (by kernel_rfl) (by kernel_rfl) (fun _ _ _ h => h) (Or.inl ⟨by rfl, fun w' hS => by obtain ⟨s0, s1, s2, s3, s4⟩ := hS; go_simp⟩) HS0.out ?_
        try simp only [List.setIfInBounds_toArray, List.set_cons_zero, List.set_cons_succ]
        refine wpAnyH_all (rs := [5]) (by kernel_rfl) (by simp) ?_
        intro i hi
        simp only [List.mem_cons, List.not_mem_nil, or_false] at hi
        subst hi
        refine wpOp_of rfl rfl (fun K hK => ?_)
        go_simp
        refine HCA.out.mono ?_
        rintro e w3 ⟨A2, c2, rfl, hu, HB3⟩
        have hr2 := RowK.below (R := ExAt) ExAt.keep HRD.out HB3
        have HR2 := Lib.hid hr2
        have HU : Hid (ExAt (fun g => W2.heap.size ≤ g ∧ g < w3.heap.size) w3 (exV X A2 c2) X) := Lib.hid ⟨A2, c2, rfl, HNS.out, hu⟩
        have hown := hr2.own
        obtain ⟨m, hm⟩ : ∃ m, m = (dropX (xs.take k) nm).length := ⟨_, rfl⟩
        rw [← hm] at hown
        have HM := Lib.hid hm
        have hml : m ≤ 1000000 := by have := dropX_len (xs.take k) nm; rw [List.length_take] at this; omega
        clear hm
        obtain ⟨us', hus⟩ : ∃ us', us' = us.flatMap flatC := ⟨_, rfl⟩
        rw [← hus] at hown
        have hz3 : W2.heap.size ≤ w3.heap.size := HB3.size
        have HBW3 : Hid (Below w.heap.size w w3) := Lib.hid (HB2.out.trans (HDW.out.trans (HB3.mono hzb)))
        have HS3 := Lib.hid (HSK.out w3 u5 (Gr.of_below (HD2.out.trans HB3) u5))
        clear hr2 hu
        refine hK _ _ ⟨HS3.out, ?_⟩
        clear hK K
        try simp only [List.setIfInBounds_toArray, List.set_cons_zero, List.set_cons_succ]
        refine takeD (i := 6) (s := 24) (v := .agg #[.string X.name, .int .i64 X.ty.kind, .int .i64 X.ty.num, .string X.ty.name, .slice A2 X.ty.args.length c2]) rfl rfl (by kernel_rfl) (by kernel_rfl) (by kernel_rfl) (fun _ _ _ h => h) (Or.inl ⟨by rfl, fun w' hS => by obtain ⟨s0, s1, s2, s3, s4⟩ := hS; go_simp⟩) HS3.out ?_
        try simp only [List.setIfInBounds_toArray, List.set_cons_zero, List.set_cons_succ]
        refine wpAnyH_all (rs := [7]) (by kernel_rfl) (by simp) ?_
        intro i hi
        simp only [List.mem_cons, List.not_mem_nil, or_false] at hi
        subst hi
        refine wpOp_of rfl rfl (fun K hK => ?_)
        go_simp
        have HS4 := Lib.hid (HSK.out (w3.alloc (.cells #[.string X.name, .int .i64 X.ty.kind, .int .i64 X.ty.num, .string X.ty.name, .slice A2 X.ty.args.length c2] 46)) u5 (Gr.of_below ((HD2.out.trans HB3).alloc hz3 _) u5))
        refine hK _ _ ⟨HS4.out, ?_⟩
        clear hK K
        try simp only [List.setIfInBounds_toArray, List.set_cons_zero, List.set_cons_succ]
        refine wpAnyH_all (rs := [8]) (by kernel_rfl) (by simp) ?_
        intro i hi
        simp only [List.mem_cons, List.not_mem_nil, or_false] at hi
        subst hi
        refine wpOp_of rfl rfl (fun K hK => ?_)
        refine wp_appK _ (.tmp 18) (.tmp 25) 42 rfl w.heap.size 46 5 exE _ m us' rfl (World.ownsRow.alloc hown _) ⟨w3.heap.size, 0, none⟩ 1 1 [.string X.name, .int .i64 X.ty.kind, .int .i64 X.ty.num, .string X.ty.name, .slice A2 X.ty.args.length c2] rfl rfl (cells_new _ _ _) (one5 _ _ _ _ _ _ _) (by omega) (by simp; omega) (fun v3 w4 hown4 hg4 hat4 => ?_)
        have HS5 := Lib.hid (HSK.out w4 _ ((Gr.of_below (HD2.out.trans HB3) u5).trans (Gr.app hg4 hat4)))
        refine hK _ _ ⟨HS5.out, ?_⟩
        clear hK K
        try simp only [List.setIfInBounds_toArray, List.set_cons_zero, List.set_cons_succ]
        refine takeD (i := 9) (s := 5) (v := v3) rfl rfl (by kernel_rfl) (by kernel_rfl) (by kernel_rfl) (fun _ _ _ h => h) (Or.inl ⟨by rfl, fun w' hS => by obtain ⟨s0, s1, s2, s3, s4⟩ := hS; go_simp⟩) HS5.out ?_
        try simp only [List.setIfInBounds_toArray, List.set_cons_zero, List.set_cons_succ]
        refine wpAnyH_done (by kernel_rfl) ?_ _
        go_wp2
        go_roundw
        case rel =>
          refine ⟨k + 1, us ++ [exV X A2 c2], by omega, by go_num, Lib.hid ?_, Lib.hid ?_⟩
          · rw [HDS.out]
            refine RowK.next (R := ExAt) ExAt.keep HR2.out HU.out (fun g hg => ⟨by omega, hg.2, fun e => ?_⟩) rfl _ ?_ hg4 hat4
            · have := HOLT.out g e; have := HZ2.out; omega
            · rw [← HM.out, ← hus]; exact hown4
          · exact below_grow HBW3.out (by omega) _ hg4 (fun g e => (hown.lt g e).1)
        case measure => simp [RowKit.intOf]; omega
    · have hkl : k = xs.length := by omega
      have hr := HR.out
      rw [hkl, List.take_length] at hr
      have HE := Lib.hid hr.exs
      clear hr
      go_wp2
      go_ret
      exact ⟨_, rfl, HE.out.sub fun g hg => ⟨by omega, hg.2⟩, HB.out⟩
end Go.Proofs.YtbhicpjhijondaaDoor
