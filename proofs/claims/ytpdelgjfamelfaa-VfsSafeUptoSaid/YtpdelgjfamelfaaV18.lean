import Derived.Test.YtpdelgjfamelfaaVP
namespace Go.Proofs.Ytpdelgjfamelfaa
open Go.RowKit Go.Lib Go.Vfs Go.Par
set_option linter.unusedVariables false

theorem below_drewN {n : Nat} {w w' : World} (h : Below n w w') (k : Nat) : Below n w (w'.drewN k) := ⟨h.os, h.tape, h.output, h.size, h.block⟩

theorem toL_ne {a b : ByteArray} (h : a ≠ b) : ¬ a.toList = b.toList := by
  rw [ByteArray.toList_eq, ByteArray.toList_eq]
  intro e
  apply h
  cases a; cases b
  simp only [ByteArray.mk.injEq]
  exact Array.ext' e
theorem dat_ne {a b : ByteArray} (h : a ≠ b) : a.data.toList ≠ b.data.toList := by
  have := toL_ne h
  rwa [ByteArray.toList_eq, ByteArray.toList_eq] at this

set_option maxRecDepth 20000 in
set_option maxHeartbeats 2000000 in
theorem vfsRename_walk (a : ByteArray) (ha : a.size ≤ 9223372036854775807) (b : ByteArray) (hb : b.size ≤ 9223372036854775807) (c : ByteArray) (hc : c.size ≤ 9223372036854775807)
    (vx : Value) (x : List UInt8) (hx : x.length ≤ 140737488351232) (vy : Value) (y : List UInt8) (hy : y.length ≤ 140737488351232) (W : World)
    (gx : Seg W W.heap.size vx (byteCells x)) (gy : Seg W W.heap.size vy (byteCells y)) :
    Calls Try.prog 4 #[.string a, .string b, .string c, vx, vy] W fun e W' => e = .returned (.bool true) ∧ Below W.heap.size W W' := by
  obtain ⟨A, ca, rfl, -⟩ := gx.open_bytes
  obtain ⟨A', ca', rfl, -⟩ := gy.open_bytes
  have GX := Lib.hid gx; have GY := Lib.hid gy; clear gx gy
  go_enter Try.func4, Try.ntmps4
  go_wp2_with fail
  refine (alive_any W).mono ?_
  rintro e w1 ⟨rfl, hb1⟩
  have HB1 := Lib.hid hb1; clear hb1
  go_wp2_with fail
  refine (new_fs (-1) w1).mono ?_
  rintro e w2 ⟨p, F2, rfl, hfs, hF, hb2⟩
  have hs1 := HB1.out.size
  have H2 : Hid (Held W.heap.size W w2 p ⟨-1, []⟩ F2) := Lib.hid ⟨hfs, fun k hk => Nat.le_trans hs1 (hF k hk).1, HB1.out.trans (hb2.mono hs1)⟩
  clear hfs hF hb2 HB1 hs1
  by_cases hlen : (x.length : Int) + y.length > 5000
  · go_wp2
    go_ret
    exact ⟨rfl, H2.out.below⟩
  have hle : x.length + y.length ≤ 5000 := by omega
  have HLE := Lib.hid hle; clear hle
  have hB : W.heap.size ≤ W.heap.size := Nat.le_refl _
  go_wp2_with fail
  have hs2 := H2.out.size hB
  refine (copyBytes_any _ x W.heap.size w2 (GX.out.below H2.out.below) hs2 (by have := HLE.out; omega)).mono ?_
  rintro e w3 ⟨u, rfl, hu, hb3⟩
  have H3 : Hid (Held W.heap.size W w3 p ⟨-1, []⟩ F2) := Lib.hid (H2.out.go hB hb3)
  have hus := Own.outS hu (fun k hk => H2.out.fs.lt k hk)
  obtain ⟨A3, c3, rfl⟩ := hu.form
  have hr3 := RowsAt.new1 (fun k hk => H3.out.fs.lt k hk) hus w3.heap.size rfl
  have HR3 := Lib.hid hr3; have H3' := Lib.hid (H3.out.go hB ((Below.refl _ w3).alloc (Nat.le_refl _) (.cells #[.slice A3 (byteCells x).length c3] 22)))
  clear hu hb3 hus hr3 H3 H2 hs2
  go_wp2_with fail
  refine (H3'.out.append hB ha HR3.out ⟨by simp, by have := HLE.out; simp; omega, by simp, by decide⟩).mono ?_
  rintro e w4 ⟨F4, rfl, H4, -, -⟩
  rw [show [x].flatten = x by simp] at H4 ⊢
  clear HR3 H3'
  obtain ⟨n4, st4, hn4, hcase⟩ : ∃ n4 st4, stAppend ⟨-1, []⟩ a.data.toList x = (st4, n4) ∧ ((n4 = 10 ∧ st4 = ⟨-1, []⟩) ∨ (n4 = 0 ∧ nameB a.data.toList = true ∧ st4 = ⟨-1, [⟨a.data.toList, x, 0⟩]⟩)) := by
    cases hna : nameB a.data.toList with
    | false => exact ⟨_, _, stAppend_no hna, .inl ⟨rfl, rfl⟩⟩
    | true => exact ⟨_, _, stAppend_yes hna rfl, .inr ⟨rfl, rfl, rfl⟩⟩
  rw [hn4] at H4 ⊢
  have HC4 := Lib.hid hcase
  have H4 := Lib.hid H4
  clear hcase hn4
  go_wp2_with fail
  have hs4 := H4.out.size hB
  refine (copyBytes_any _ y W.heap.size w4 (GY.out.below H4.out.below) hs4 (by have := HLE.out; omega)).mono ?_
  rintro e w5 ⟨u', rfl, hu, hb5⟩
  have H5 : Hid (Held W.heap.size W w5 p st4 F4) := Lib.hid (H4.out.go hB hb5)
  have hus := Own.outS hu (fun k hk => H4.out.fs.lt k hk)
  obtain ⟨A5, c5, rfl⟩ := hu.form
  have hr5 := RowsAt.new1 (fun k hk => H5.out.fs.lt k hk) hus w5.heap.size rfl
  have HR5 := Lib.hid hr5; have H5' := Lib.hid (H5.out.go hB ((Below.refl _ w5).alloc (Nat.le_refl _) (.cells #[.slice A5 (byteCells y).length c5] 22)))
  clear hu hb5 hus hr5 H5 H4 hs4
  go_wp2_with fail
  refine (H5'.out.append hB hc HR5.out ⟨by
      intro f hf
      rcases HC4.out with ⟨_, rfl⟩ | ⟨_, _, rfl⟩
      · cases hf
      · simp at hf; subst hf; have := HLE.out; simp; omega, by have := HLE.out; simp; omega, by rcases HC4.out with ⟨_, rfl⟩ | ⟨_, _, rfl⟩ <;> simp, by rcases HC4.out with ⟨_, rfl⟩ | ⟨_, _, rfl⟩ <;> simp⟩).mono ?_
  rintro e w6 ⟨F6, rfl, H6, -, -⟩
  rw [show [y].flatten = y by simp] at H6 ⊢
  clear HR5 H5'
  obtain ⟨n6, st6, hn6, hcase⟩ : ∃ n6 st6, stAppend st4 c.data.toList y = (st6, n6) ∧ (n6 = 10 ∨ (n6 = 0 ∧ nameB c.data.toList = true ∧ st6 = ⟨-1, appF c.data.toList y st4.files⟩)) := by
    cases hnc : nameB c.data.toList with
    | false => exact ⟨_, _, stAppend_no hnc, .inl rfl⟩
    | true => exact ⟨_, _, stAppend_yes hnc (by rcases HC4.out with ⟨_, rfl⟩ | ⟨_, _, rfl⟩ <;> rfl), .inr ⟨rfl, rfl, rfl⟩⟩
  rw [hn6] at H6 ⊢
  have H6 := Lib.hid H6
  clear hn6
  rcases HC4.out with ⟨rfl, rfl⟩ | ⟨rfl, hna, rfl⟩
  · rcases hcase with rfl | ⟨rfl, -, -⟩
    · go_wp2
      go_ret
      exact ⟨rfl, H6.out.below⟩
    · go_wp2
      go_ret
      exact ⟨rfl, H6.out.below⟩
  rcases hcase with rfl | ⟨rfl, hnc, rfl⟩
  · clear hna
    go_wp2
    go_ret
    exact ⟨rfl, H6.out.below⟩
  clear HC4
  have NA := Lib.hid hna; have NC := Lib.hid hnc; clear hna hnc
  have H6 : Hid (Held W.heap.size W w6 p (st2 a.data.toList c.data.toList x y) F6) := H6
  obtain ⟨f, hf, hfl⟩ := st2_a (c := c.data.toList) (x := x) (y := y) NA.out
  have HF := Lib.hid hf; have HFL := Lib.hid hfl; clear hf hfl
  go_wp2_with fail
  refine (read_any w6 p _ _ H6.out.fs a ha (fun g hg => by have := st2_data _ _ _ _ g hg; have := HLE.out; omega)).mono ?_
  rintro e w7 ⟨hb7, hr⟩
  rw [HF.out] at hr
  obtain ⟨u7, rfl, hu7⟩ := hr
  have H7 := Lib.hid (H6.out.go hB hb7)
  have S7 := Lib.hid (Own.outS hu7 (fun k hk => H6.out.fs.lt k hk))
  obtain ⟨A7, c7, rfl⟩ := hu7.form
  clear hu7 hb7 H6
  have hl2 : Hid (∀ a c : List UInt8, (st2 a c x y).files.length < 2147483648) := Lib.hid fun a c => by have := st2_len a c x y; omega
  go_wp2_with fail
  cases hnb : nameB b.data.toList with
  | false =>
    have NB := Lib.hid hnb; clear hnb
    refine (H7.out.rename hB ha hb (show (-1 : Int) ≤ _ by decide) (hl2.out _ _)).mono ?_
    rintro e w8 ⟨F8, rfl, H8, -, -⟩
    rw [stRename_name (.inr NB.out)] at H8 ⊢
    have H8 := Lib.hid H8
    clear S7 H7
    go_wp2_with fail
    refine (H8.out.rename hB ha hb (show (-1 : Int) ≤ _ by decide) (hl2.out _ _)).mono ?_
    rintro e w9 ⟨F9, rfl, H9, -, -⟩
    rw [stRename_name (.inr NB.out)] at H9 ⊢
    have H9 := Lib.hid H9
    clear H8
    go_wp2_with fail
    refine (H9.out.rename hB hb ha (show (-1 : Int) ≤ _ by decide) (hl2.out _ _)).mono ?_
    rintro e w10 ⟨F10, rfl, H10, -, -⟩
    rw [stRename_name (.inl NB.out)] at H10 ⊢
    have H10 := Lib.hid H10
    clear H9
    go_wp2
    go_ret
    exact ⟨rfl, H10.out.below⟩
  | true =>
    have NB := Lib.hid hnb; clear hnb
    refine (H7.out.rename hB ha hb (show (-1 : Int) ≤ _ by decide) (hl2.out _ _)).mono ?_
    rintro e w8 ⟨F8, rfl, H8, k8, g8⟩
    have e8 : stRename (st2 a.data.toList c.data.toList x y) a.data.toList b.data.toList = (st3 (st2 a.data.toList c.data.toList x y) a.data.toList b.data.toList f, 0) := by
      rw [stRename_ok NA.out NB.out HF.out]; rfl
    rw [e8] at H8 ⊢
    have H8 := Lib.hid H8
    have S8 := Lib.hid (S7.out.kept k8 g8)
    clear S7 H7 k8 g8 e8
    have hd3 : Hid (∀ g ∈ (st3 (st2 a.data.toList c.data.toList x y) a.data.toList b.data.toList f).files, g.data.length ≤ 2147483648) := Lib.hid fun g hg => by
      have h1 := st3_data (n := x.length + y.length) (st2_data _ _ _ _) HFL.out g hg
      have := HLE.out
      omega
    go_wp2_with fail
    refine (read_any w8 p _ _ H8.out.fs b hb hd3.out).mono ?_
    rintro e w9 ⟨hb9, hr⟩
    rw [st3_b NB.out] at hr
    obtain ⟨u9, rfl, hu9⟩ := hr
    have H9 := Lib.hid (H8.out.go hB hb9)
    have S9 := Lib.hid (S8.out.below hb9).out
    have G9 := Lib.hid (Own.seg hu9)
    obtain ⟨A9, c9, rfl⟩ := hu9.form
    clear hu9 hb9 H8 S8
    go_wp2_with fail
    refine (sameBytes_any _ _ f.data f.data _ w9 G9.out S9.out).mono ?_
    rintro e w10 ⟨rfl, n10, rfl⟩
    rw [decide_eq_true rfl]
    have H10 := Lib.hid (H9.out.go hB (below_drewN (Below.refl _ _) n10))
    clear H9 S9 G9
    go_wp2_with fail
    by_cases hab : a = b
    · subst hab
      refine (read_any _ p _ _ H10.out.fs a ha hd3.out).mono ?_
      rintro e w11 ⟨hb11, hr⟩
      rw [st3_b NB.out] at hr
      obtain ⟨u11, rfl, hu11⟩ := hr
      have H11 := Lib.hid (H10.out.go hB hb11)
      obtain ⟨A11, c11, rfl⟩ := hu11.form
      clear hu11 hb11 H10
      by_cases hca : c = a
      · subst hca
        go_wp2
        go_ret
        exact ⟨rfl, H11.out.below⟩
      · have HCA := Lib.hid (dat_ne hca); have HCB := HCA
        have q1 := toL_ne hca
        have q2 : (c.toList == a.toList) = false := beq_eq_false_iff_ne.2 q1
        clear hca
        go_wp2_with fail
        refine (read_any _ p _ _ H11.out.fs c hc hd3.out).mono ?_
        rintro e w12 ⟨hb12, hr⟩
        rw [st3_c NC.out HCA.out HCB.out (st2_c HCA.out)] at hr
        obtain ⟨u12, rfl, hu12⟩ := hr
        have H12 := Lib.hid (H11.out.go hB hb12)
        have G12 := Lib.hid (Own.seg hu12)
        obtain ⟨A12, c12, rfl⟩ := hu12.form
        clear hu12 hb12 H11
        go_wp2_with fail
        refine (sameBytes_any _ _ y y _ w12 G12.out ((Seg.toS (GY.out.below H12.out.below)).seg fun _ hk => Nat.lt_of_lt_of_le hk (H12.out.size hB))).mono ?_
        rintro e w13 ⟨rfl, n13, rfl⟩
        rw [decide_eq_true rfl]
        go_wp2
        go_ret
        exact ⟨rfl, below_drewN H12.out.below _⟩
    · have HAB := Lib.hid (dat_ne hab)
      have q3 := toL_ne hab
      have q4 : (a.toList == b.toList) = false := beq_eq_false_iff_ne.2 q3
      clear hab
      refine (read_any _ p _ _ H10.out.fs a ha hd3.out).mono ?_
      rintro e w11 ⟨hb11, hr⟩
      rw [st3_a NA.out HAB.out] at hr
      obtain rfl := hr
      have H11 := Lib.hid (H10.out.go hB hb11)
      clear hb11 H10
      by_cases hca : c = a
      · subst hca
        go_wp2
        go_ret
        exact ⟨rfl, H11.out.below⟩
      by_cases hcb : c = b
      · subst hcb
        have q1 := toL_ne hca
        have q2 : (c.toList == a.toList) = false := beq_eq_false_iff_ne.2 q1
        clear hca
        go_wp2
        go_ret
        exact ⟨rfl, H11.out.below⟩
      · have HCA := Lib.hid (dat_ne hca); have HCB := Lib.hid (dat_ne hcb)
        have q1 := toL_ne hca
        have q2 : (c.toList == a.toList) = false := beq_eq_false_iff_ne.2 q1
        have q5 := toL_ne hcb
        have q6 : (c.toList == b.toList) = false := beq_eq_false_iff_ne.2 q5
        clear hca hcb
        go_wp2_with fail
        refine (read_any _ p _ _ H11.out.fs c hc hd3.out).mono ?_
        rintro e w12 ⟨hb12, hr⟩
        rw [st3_c NC.out HCA.out HCB.out (st2_c HCA.out)] at hr
        obtain ⟨u12, rfl, hu12⟩ := hr
        have H12 := Lib.hid (H11.out.go hB hb12)
        have G12 := Lib.hid (Own.seg hu12)
        obtain ⟨A12, c12, rfl⟩ := hu12.form
        clear hu12 hb12 H11
        go_wp2_with fail
        refine (sameBytes_any _ _ y y _ w12 G12.out ((Seg.toS (GY.out.below H12.out.below)).seg fun _ hk => Nat.lt_of_lt_of_le hk (H12.out.size hB))).mono ?_
        rintro e w13 ⟨rfl, n13, rfl⟩
        rw [decide_eq_true rfl]
        go_wp2
        go_ret
        exact ⟨rfl, below_drewN H12.out.below _⟩
end Go.Proofs.Ytpdelgjfamelfaa
