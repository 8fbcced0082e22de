import Derived.Test.YtpdelgjfamelfaaV24
namespace Go.Proofs.Ytpdelgjfamelfaa
open Go.RowKit Go.Lib Go.Vfs Go.Par
set_option linter.unusedVariables false
set_option linter.unusedSimpArgs false

theorem box_below (w : World) (o : Obj) : Below w.heap.size w (w.alloc o) := (Below.refl _ w).alloc (Nat.le_refl _) _

set_option maxRecDepth 20000 in
set_option maxHeartbeats 1000000 in
theorem act_trunc (w : World) (p : Nat) (st : St) (F : Nat → Prop) (h : Fsy w p st F) (o : OpR) (B : Nat) (ho : OpAt w B o) (hpw : st.power ≤ 9223372036854775807) (hfl : st.files.length < 2147483648) (hw : o.what = 2) :
    Calls Try.prog 27 #[.pointer (some ⟨p, 0, none⟩), .agg #[.int .i64 o.what, .int .i64 o.n, .string o.name, .string o.other, o.pv, o.kv]] w (OpPost w p F (actSt st o)) := by
  have hst : actSt st o = stTruncate st o.name.data.toList o.n := by unfold actSt; rw [hw]; rfl
  rw [hst]
  obtain ⟨what, n, name, other, pv, kv, parts, keeps⟩ := o
  have hw' : what = 2 := hw
  subst hw'
  obtain ⟨hrow, hints, hname, hother, hfew⟩ := ho
  simp only at hrow hints hname hother hfew ⊢
  obtain ⟨A1, n1, c1, hpv⟩ := hrow.few
  obtain ⟨A2, c2, hkv, -⟩ := hints
  have HF := Lib.hid h
  clear hrow h hst hw
  subst hpv hkv
  generalize hkl : (ints keeps).length = kl
  clear hkl
  go_enter Try.func27, Try.ntmps27
  go_wp2_with fail
  refine (truncate_any _ p st F (HF.out.below (box_below w _)) name hname hpw n).mono ?_
  rintro e w3 ⟨F3, rfl, h1, h2, h3⟩
  go_wp2
  go_ret
  exact OpPost.pre (box_below w _) ⟨F3, rfl, h1, h2, h3⟩

set_option maxRecDepth 20000 in
set_option maxHeartbeats 1000000 in
theorem act_rename (w : World) (p : Nat) (st : St) (F : Nat → Prop) (h : Fsy w p st F) (o : OpR) (B : Nat) (ho : OpAt w B o) (hpw : st.power ≤ 9223372036854775807) (hfl : st.files.length < 2147483648) (hw : o.what = 3) :
    Calls Try.prog 27 #[.pointer (some ⟨p, 0, none⟩), .agg #[.int .i64 o.what, .int .i64 o.n, .string o.name, .string o.other, o.pv, o.kv]] w (OpPost w p F (actSt st o)) := by
  have hst : actSt st o = stRename st o.name.data.toList o.other.data.toList := by unfold actSt; rw [hw]; rfl
  rw [hst]
  obtain ⟨what, n, name, other, pv, kv, parts, keeps⟩ := o
  have hw' : what = 3 := hw
  subst hw'
  obtain ⟨hrow, hints, hname, hother, hfew⟩ := ho
  simp only at hrow hints hname hother hfew ⊢
  obtain ⟨A1, n1, c1, hpv⟩ := hrow.few
  obtain ⟨A2, c2, hkv, -⟩ := hints
  have HF := Lib.hid h
  clear hrow h hst hw
  subst hpv hkv
  generalize hkl : (ints keeps).length = kl
  clear hkl
  go_enter Try.func27, Try.ntmps27
  go_wp2_with fail
  refine (rename_any _ p st F (HF.out.below (box_below w _)) name other hname hother hpw hfl).mono ?_
  rintro e w3 ⟨F3, rfl, h1, h2, h3⟩
  go_wp2
  go_ret
  exact OpPost.pre (box_below w _) ⟨F3, rfl, h1, h2, h3⟩

set_option maxRecDepth 20000 in
set_option maxHeartbeats 1000000 in
theorem act_remove (w : World) (p : Nat) (st : St) (F : Nat → Prop) (h : Fsy w p st F) (o : OpR) (B : Nat) (ho : OpAt w B o) (hpw : st.power ≤ 9223372036854775807) (hfl : st.files.length < 2147483648) (hw : o.what = 4) :
    Calls Try.prog 27 #[.pointer (some ⟨p, 0, none⟩), .agg #[.int .i64 o.what, .int .i64 o.n, .string o.name, .string o.other, o.pv, o.kv]] w (OpPost w p F (actSt st o)) := by
  have hst : actSt st o = stRemove st o.name.data.toList := by unfold actSt; rw [hw]; rfl
  rw [hst]
  obtain ⟨what, n, name, other, pv, kv, parts, keeps⟩ := o
  have hw' : what = 4 := hw
  subst hw'
  obtain ⟨hrow, hints, hname, hother, hfew⟩ := ho
  simp only at hrow hints hname hother hfew ⊢
  obtain ⟨A1, n1, c1, hpv⟩ := hrow.few
  obtain ⟨A2, c2, hkv, -⟩ := hints
  have HF := Lib.hid h
  clear hrow h hst hw
  subst hpv hkv
  generalize hkl : (ints keeps).length = kl
  clear hkl
  go_enter Try.func27, Try.ntmps27
  go_wp2_with fail
  refine (remove_any _ p st F (HF.out.below (box_below w _)) name hname hpw).mono ?_
  rintro e w3 ⟨F3, rfl, h1, h2, h3⟩
  go_wp2
  go_ret
  exact OpPost.pre (box_below w _) ⟨F3, rfl, h1, h2, h3⟩

set_option maxRecDepth 20000 in
set_option maxHeartbeats 1000000 in
theorem act_sync (w : World) (p : Nat) (st : St) (F : Nat → Prop) (h : Fsy w p st F) (o : OpR) (B : Nat) (ho : OpAt w B o) (hpw : st.power ≤ 9223372036854775807) (hfl : st.files.length < 2147483648) (hw : o.what = 5) :
    Calls Try.prog 27 #[.pointer (some ⟨p, 0, none⟩), .agg #[.int .i64 o.what, .int .i64 o.n, .string o.name, .string o.other, o.pv, o.kv]] w (OpPost w p F (actSt st o)) := by
  have hst : actSt st o = stSync st o.name.data.toList := by unfold actSt; rw [hw]; rfl
  rw [hst]
  obtain ⟨what, n, name, other, pv, kv, parts, keeps⟩ := o
  have hw' : what = 5 := hw
  subst hw'
  obtain ⟨hrow, hints, hname, hother, hfew⟩ := ho
  simp only at hrow hints hname hother hfew ⊢
  obtain ⟨A1, n1, c1, hpv⟩ := hrow.few
  obtain ⟨A2, c2, hkv, -⟩ := hints
  have HF := Lib.hid h
  clear hrow h hst hw
  subst hpv hkv
  generalize hkl : (ints keeps).length = kl
  clear hkl
  go_enter Try.func27, Try.ntmps27
  go_wp2_with fail
  refine (sync_any _ p st F (HF.out.below (box_below w _)) name hname hpw).mono ?_
  rintro e w3 ⟨F3, rfl, h1, h2, h3⟩
  go_wp2
  go_ret
  exact OpPost.pre (box_below w _) ⟨F3, rfl, h1, h2, h3⟩

set_option maxRecDepth 20000 in
set_option maxHeartbeats 1000000 in
theorem act_other (w : World) (p : Nat) (st : St) (F : Nat → Prop) (h : Fsy w p st F) (o : OpR) (B : Nat) (ho : OpAt w B o) (h1 : ¬ o.what = 1) (h2 : ¬ o.what = 2) (h3 : ¬ o.what = 3) (h4 : ¬ o.what = 4) (h5 : ¬ o.what = 5) :
    Calls Try.prog 27 #[.pointer (some ⟨p, 0, none⟩), .agg #[.int .i64 o.what, .int .i64 o.n, .string o.name, .string o.other, o.pv, o.kv]] w (OpPost w p F (actSt st o)) := by
  have hst : actSt st o = (st, 0) := by unfold actSt; rw [if_neg h1, if_neg h2, if_neg h3, if_neg h4, if_neg h5]
  rw [hst]
  obtain ⟨what, n, name, other, pv, kv, parts, keeps⟩ := o
  obtain ⟨hrow, hints, hname, hother, hfew⟩ := ho
  simp only at hrow hints hname hother hfew h1 h2 h3 h4 h5 ⊢
  obtain ⟨A1, n1, c1, hpv⟩ := hrow.few
  obtain ⟨A2, c2, hkv, -⟩ := hints
  have HF := Lib.hid h
  clear hrow h hst
  subst hpv hkv
  generalize hkl : (ints keeps).length = kl
  clear hkl
  go_enter Try.func27, Try.ntmps27
  go_wp2
  go_ret
  exact OpPost.same HF.out (box_below w _)

theorem act_any (w : World) (p : Nat) (st : St) (F : Nat → Prop) (h : Fsy w p st F) (o : OpR) (B : Nat) (hB : B ≤ w.heap.size) (hF : ∀ k, F k → B ≤ k) (ho : OpAt w B o) (hm : Modest st (sizeP o.parts)) (hp : sizeP o.parts ≤ 1000000) :
    Calls Try.prog 27 #[.pointer (some ⟨p, 0, none⟩), .agg #[.int .i64 o.what, .int .i64 o.n, .string o.name, .string o.other, o.pv, o.kv]] w (OpPost w p F (actSt st o)) := by
  have hpw := hm.2.2.2
  have hfl := hm.2.2.1
  by_cases h1 : o.what = 1
  · exact act_app w p st F h o B hB hF ho hm hp h1
  by_cases h2 : o.what = 2
  · exact act_trunc w p st F h o B ho hpw hfl h2
  by_cases h3 : o.what = 3
  · exact act_rename w p st F h o B ho hpw hfl h3
  by_cases h4 : o.what = 4
  · exact act_remove w p st F h o B ho hpw hfl h4
  by_cases h5 : o.what = 5
  · exact act_sync w p st F h o B ho hpw hfl h5
  exact act_other w p st F h o B ho h1 h2 h3 h4 h5
end Go.Proofs.Ytpdelgjfamelfaa
