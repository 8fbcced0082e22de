/- The walk of IndexMemory. -/
import Derived.Test.YtaalbcfpacpgfaaGreatI22
namespace Go.Proofs.YtaalbcfpacpgfaaGreat
open Go.RowKit Go.Lib Go.Vfs Go.Par Go.Typ Go.Shelf Go.Ix
set_option linter.unusedVariables false
set_option linter.unusedSimpArgs false

set_option maxRecDepth 100000 in
set_option maxHeartbeats 8000000 in
theorem indexMemory_walk (v : Value) (E : En) (W : World) (hE : EntAt (· < W.heap.size) W v E) (hok : (∀ x ∈ E.exs, RowOk x.ty) ∧ E.uri.size ≤ 140737488355328) :
    Calls Tryz.prog 4 #[v] W fun e w' => e = .returned (.bool true) ∧ Below W.heap.size W w' := by
  obtain ⟨A, c, rfl, hus, hex⟩ := hE
  obtain ⟨n, hn⟩ : ∃ n, n = E.exs.length := ⟨_, rfl⟩
  have HN := Lib.hid hn
  obtain ⟨W1, hW1⟩ : ∃ W1, W1 = W.alloc (.cells #[.string E.uri, .int .i64 E.ver, .slice A n c] 55) := ⟨_, rfl⟩
  have hb1 : Below W.heap.size W W1 := by rw [hW1]; exact (Below.refl _ _).alloc (Nat.le_refl _) _
  have hz1 : W1.heap.size = W.heap.size + 1 := by rw [hW1]; simp
  have hbx : W1.heap[W.heap.size]? = some (.cells #[.string E.uri, .int .i64 E.ver, .slice A n c] 55 (0, 0)) := by rw [hW1]; exact heap_alloc_new _ _
  have HBX : Hid (∀ W', Below W1.heap.size W1 W' → (W'.cell? ⟨W.heap.size, 0, none⟩ = some (.string E.uri) ∧ W'.cell? ⟨W.heap.size, 1, none⟩ = some (.int .i64 E.ver) ∧ W'.cell? ⟨W.heap.size, 2, none⟩ = some (.slice A n c))) :=
    Lib.hid fun W' h => box3 ((h.block _ (by omega)).trans hbx)
  have HEX : Hid (∀ W', Below W1.heap.size W1 W' → ExsAt (· < W'.heap.size) W' (.slice A E.exs.length c) E.exs) := Lib.hid fun W' h =>
    hex.keep fun g (hg : g < W.heap.size) => ⟨by show g < W'.heap.size; have := h.size; omega, (h.block g (by omega)).trans (hb1.block g hg)⟩
  have HEA : Hid (∀ W', Below W1.heap.size W1 W' → EntsAt (· < (W'.alloc (.cells #[.string E.uri, .int .i64 E.ver, .slice A n c] 55)).heap.size) (W'.alloc (.cells #[.string E.uri, .int .i64 E.ver, .slice A n c] 55)) (.slice (some ⟨W'.heap.size, 0, none⟩) 1 1) [E]) := Lib.hid fun W' h =>
    EntsAt.one (S := fun _ => True) hus (HEX.out W' h) _ (by rw [HN.out])
  have HB1 := Lib.hid hb1; have HZ1 := Lib.hid hz1; have HOK := Lib.hid hok; have HUS := Lib.hid hus
  clear hex hbx hb1 hz1 hok hn
  unfold enV
  rw [← HN.out]
  go_enter Tryz.func4, Tryz.ntmps4
  go_wp2_with fail
  rw [← hW1]
  refine (ixalive_any W1).mono ?_
  rintro e w2 ⟨rfl, hb2⟩
  obtain ⟨y0, y1, y2⟩ := HBX.out w2 hb2
  have HB2 := Lib.hid hb2
  have HEA2 := Lib.hid (HEA.out w2 hb2)
  obtain ⟨W3, hW3⟩ : ∃ W3, W3 = w2.alloc (.cells #[.string E.uri, .int .i64 E.ver, .slice A n c] 55) := ⟨_, rfl⟩
  rw [← hW3] at HEA2
  have HGR := Lib.hid (great20_any [E] (fun e he => by simp at he; subst he; exact HOK.out.2) _ W3 HEA2.out)
  have HB3 : Hid (Below W1.heap.size W1 W3) := Lib.hid (by rw [hW3]; exact hb2.alloc hb2.size _)
  clear hb2 hW1
  go_wp2_with fail
  rw [← hW3]
  clear y0 y1 y2 hW3
  refine HGR.out.mono ?_
  rintro e w4 ⟨q, rfl, hq, hb4⟩
  have HB4 : Hid (Below W1.heap.size W1 w4) := Lib.hid (HB3.out.trans (hb4.mono HB3.out.size))
  clear hb4 HGR HEA2 HB2 HB3
  cases q with
  | true =>
    clear hq
    go_wp2
    go_ret
    exact ⟨rfl, HB1.out.trans (HB4.out.mono HB1.out.size)⟩
  | false =>
  have hwt := hq (by simp) rfl
  have HXL : Hid (n ≤ 3000) := Lib.hid (by rw [HN.out]; exact light_exs hwt (by simp))
  have HWT := Lib.hid hwt
  clear hq hwt
  have hz4 := HB4.out.size
  go_wp2_with fail
  refine (new_fs (-1) w4).mono ?_
  rintro e w5 ⟨p, F, rfl, hfs, hF, hb5⟩
  have hz5 := hb5.size
  have HOP := Lib.hid (ixopen_any w5 p ⟨-1, []⟩ F hfs Calm.nil (by omega) (by omega) (by decide) (fun x hx => by rw [open_new] at hx; injection hx with hx; subst hx; exact ⟨by decide, fun l hl => (by cases hl)⟩))
  have HB5 : Hid (Below W1.heap.size W1 w5) := Lib.hid (HB4.out.trans (hb5.mono hz4))
  have HF := Lib.hid (fun k hk => Nat.le_trans hz4 (hF k hk).1 : ∀ k, F k → W1.heap.size ≤ k)
  clear hfs hF hb5
  go_wp2_with fail
  refine HOP.out.mono ?_
  rintro e w6 hop
  rw [open_new] at hop
  obtain ⟨px, F6, H6, S6, rfl, hx6, -⟩ := hop.held (es := []) rfl HB5.out (Nat.le_refl _) HF.out
  have HX6 := Lib.hid hx6.xi
  have HB6 := Lib.hid hx6.below
  obtain ⟨y0, y1, y2⟩ := HBX.out w6 hx6.below
  have HCP := Lib.hid (copiedCl_any20 E ⟨HOK.out.1, by rw [← HN.out]; have := HXL.out; omega⟩ (.agg #[.string E.uri, .int .i64 E.ver, .slice A E.exs.length c]) w6 ⟨A, c, rfl, HUS.out, HEX.out w6 hx6.below⟩)
  rw [← HN.out] at HCP
  clear hop hx6 HOP HF HB5 hz4 hz5
  go_wp2_with fail
  refine HCP.out.mono ?_
  rintro e w7 ⟨A7, c7, rfl, hx7, hb7⟩
  obtain ⟨W8, hW8⟩ : ∃ W8, W8 = w7.alloc (.cells #[.string E.uri, .int .i64 E.ver, .slice A7 n c7] 55) := ⟨_, rfl⟩
  have hb8 : Below w6.heap.size w6 W8 := by rw [hW8]; exact hb7.alloc hb7.size _
  have hz8 : W8.heap.size = w7.heap.size + 1 := by rw [hW8]; simp
  have hz7 := hb7.size
  have hbo : W8.heap[w7.heap.size]? = some (.cells #[.string E.uri, .int .i64 E.ver, .slice A7 n c7] 55 (0, 0)) := by rw [hW8]; exact heap_alloc_new _ _
  have hx8 : ExsC (fun g => w6.heap.size ≤ g ∧ g < W8.heap.size) W8 (.slice A7 n c7) E.exs := ExsC.keep hx7 fun g hg => ⟨by omega, by rw [hW8, Below.heap_alloc _ _ _ hg.2]⟩
  have hx8' : ExsAt (fun g => w6.heap.size ≤ g ∧ g < W8.heap.size) W8 (.slice A7 E.exs.length c7) E.exs := by rw [← HN.out]; exact ExsC.at_ hx8
  have HPU := Lib.hid (HX6.out.publish hb8 (.agg #[.string E.uri, .int .i64 E.ver, .slice A7 E.exs.length c7]) E ⟨A7, c7, rfl, HUS.out, hx8'⟩ (by omega) (by omega))
  rw [← HN.out] at HPU
  obtain ⟨o0, o1, o2⟩ := box3 hbo
  rw [hW8] at o0 o1 o2
  have HBO := Lib.hid hbo; have HX8 := Lib.hid hx8; have HZ8 := Lib.hid hz8; have HB8 := Lib.hid hb8; have HZ7 := Lib.hid hz7
  clear hx7 hb7 hb8 hz8 hz7 hbo hx8 hx8' y0 y1 y2 HCP
  go_wp2_with fail
  rw [← hW8]
  clear hW8 o0 o1 o2
  refine HPU.out.mono ?_
  rintro e w9 ⟨r, rfl, hr, HNN⟩
  obtain ⟨F9, H9, S9, fs9, lg9, hx9, hk9, g1, g2, g3⟩ := HNN.out
  have hlt6 := HX6.out.xh.xf.lt
  have hz6 := HX6.out.xh.below.size
  have hz8 := HZ8.out
  have hz7 := HZ7.out
  cases hac : accB E with
  | false =>
    have hr0 : (r != 0) = true := by
      have : ¬ r = 0 := fun e => by have := hr.1 e; rw [hac] at this; cases this
      simpa using this
    rw [pubE_none hac] at hx9
    have HEN := Lib.hid (hx9.xh.entries hx9.xk.good (by simp))
    have HB9 := Lib.hid hx9.xh.below
    clear hx9 hk9 g1 g2 g3 hlt6 hr hac HPU HNN
    go_wp2_with fail
    refine HEN.out.mono ?_
    rintro e w10 ⟨A10, c10, he, -, hb10⟩
    replace he : e = .returned (.slice A10 0 c10) := he
    subst he
    have HB10 : Hid (Below W.heap.size W w10) := Lib.hid (HB1.out.trans ((HB9.out.trans (hb10.mono HB9.out.size)).mono HB1.out.size))
    clear hb10
    go_wp2
    go_ret
    exact ⟨rfl, HB10.out⟩
  | true =>
  have hr0 : r = 0 := hr.2 hac
  subst hr0
  rw [pubE_one hac] at hx9
  have HX9 := Lib.hid hx9
  have hbo9 : w9.heap[w7.heap.size]? = some (.cells #[.string E.uri, .int .i64 E.ver, .slice A7 n c7] 55 (0, 0)) :=
    (hk9.block _ (by omega) (fun h => by rcases h with h | h; · have := hlt6 _ (.inl h); omega
                                         · have := hlt6 _ (.inr (.inl h)); omega)).trans HBO.out
  have HO2 := Lib.hid (box3 hbo9).2.2
  have HX9E : Hid (ExsC (fun g => w6.heap.size ≤ g ∧ g < W8.heap.size) w9 (.slice A7 n c7) E.exs) := Lib.hid (ExsC.keep HX8.out fun g hg => ⟨hg, hk9.block g hg.2 (fun h => by
    rcases h with h | h
    · have := hlt6 g (.inl h); omega
    · have := hlt6 g (.inr (.inl h)); omega)⟩)
  have HD9 : Hid (∀ k, (w6.heap.size ≤ k ∧ k < W8.heap.size) → W1.heap.size ≤ k ∧ ¬ (F9 k ∨ H9 k ∨ S9 k)) := Lib.hid fun k hk => ⟨by omega, fun h => by
    rcases h with h | h | h
    · rcases g1 k h with h | h
      · have := hlt6 k (.inl h); omega
      · omega
    · rcases g2 k h with h | h
      · have := hlt6 k (.inr (.inl h)); omega
      · omega
    · rcases g3 k h with h | h
      · have := hlt6 k (.inr (.inr h)); omega
      · omega⟩
  clear hx9 hk9 g1 g2 g3 hlt6 hr hac hbo9 HPU HNN HX8 HBO HX6 HB6 hz8 hz7 hz6 HZ8 HZ7
  have hnl : n ≤ 3000 := HXL.out
  go_wp2
  go_loopw [7] (fun iv W' => ∃ (i : Nat), i ≤ n ∧ iv = .int .i64 i ∧ Hid (FlipC (fun g => w6.heap.size ≤ g ∧ g < W8.heap.size) w9 W')) (fun iv _ => n - (RowKit.intOf iv).toNat)
  case atStart => exact ⟨0, by omega, rfl, Lib.hid (FlipC.refl _ _)⟩
  case round =>
    obtain ⟨i, hi, rfl, HFL⟩ := hrel
    have o2 := HFL.out.sl HO2.out
    by_cases hlt : i < n
    · obtain ⟨b, off, A', c', rfl, hb, -, -, x0, x1, -⟩ := ExsAt.arg (show ExsAt _ w9 (.slice A7 n c7) E.exs from HX9E.out) (i := i) (by rw [← HN.out]; exact hlt)
      obtain ⟨s', z0⟩ := HFL.out.str x0
      obtain ⟨k', z1⟩ := HFL.out.int x1
      have hcl := HFL.out.clean b hb.2
      have f0 := hcl.frozen (off + i * 5)
      have f1 := hcl.frozen (off + i * 5 + 1)
      have hfl2 := HFL.out.set hb.1 z0 hcl (Fk.s s' ⟨#[122, 122]⟩)
      have z1' : (wr.setCell ⟨b, off + i * 5, none⟩ (.string ⟨#[122, 122]⟩)).cell? ⟨b, off + i * 5 + 1, none⟩ = some (.int .i64 k') := by
        rw [World.cell?_setCell_other _ _ _ _ (by simp)]; exact z1
      have HFL3 := Lib.hid (hfl2.set hb.1 z1' (hfl2.clean b hb.2) (Fk.i k' 9))
      have o2' : (wr.setCell ⟨b, off + i * 5, none⟩ (.string ⟨#[122, 122]⟩)).cell? ⟨w7.heap.size, 2, none⟩ = some (.slice (some ⟨b, off, none⟩) n c7) := hfl2.sl HO2.out
      clear x0 x1 hcl hfl2 hb
      go_wp2
      go_roundw
      case rel => exact ⟨i + 1, by omega, by go_num, HFL3⟩
      case measure => simp [RowKit.intOf]; omega
    · have hxq := HX9.out.kept HFL.out.kept HD9.out
      have HXQ := Lib.hid hxq
      clear hxq HFL HX9 HD9 HX9E HO2
      go_wp2
      go_loopw [8] (fun rv W' => ∃ (r : Nat), r ≤ 2 ∧ rv = .int .i64 r ∧ Hid (XI W1 W' px p 0 [] (pubL [] E) [E] 0 (0 + 1) (0 + 12 + lenA E) (0 + lenA E) F9 H9 S9 fs9 lg9)) (fun rv _ => 2 - (RowKit.intOf rv).toNat)
      case atStart => exact ⟨0, by omega, rfl, HXQ⟩
      case round =>
        clear HXQ o2
        obtain ⟨r, hr, rfl, HX⟩ := hrel
        obtain ⟨wo, rfl⟩ : ∃ wo : World, wo = wr := ⟨_, rfl⟩
        by_cases hlt : r < 2
        · have HEN := Lib.hid (HX.out.xh.entriesC HX.out.xk.good (by simp))
          go_wp2_with fail
          refine HEN.out.mono ?_
          rintro e w11 ⟨A1, c1, he, hen, hb11⟩
          replace he : e = .returned (.slice A1 1 c1) := he
          subst he
          have hx11 := HX.out.go hb11
          have HFI := Lib.hid (hx11.xh.findC hx11.xk.good E.uri HUS.out)
          obtain ⟨y0, y1, y2⟩ := HBX.out w11 hx11.xh.below
          have HX11 := Lib.hid hx11
          have HGOT := Lib.hid hen
          have HB11 := Lib.hid hb11
          have hz11 := hb11.size
          clear hx11 hen hb11 HEN
          go_wp2_with fail
          refine HFI.out.mono ?_
          rintro e w12 ⟨A6, c6, he, hone, hb12⟩
          have he' : e = .returned (.tuple #[.agg #[.string E.uri, .int .i64 E.ver, .slice A6 n c6], .bool true]) := by
            rw [he, (found_one E).2]
            unfold enV
            rw [(found_one E).1, HN.out]
          subst he'
          rw [(found_one E).1, ← HN.out] at hone
          obtain ⟨W13, hW13⟩ : ∃ W13, W13 = w12.alloc (.cells #[.string E.uri, .int .i64 E.ver, .slice A6 n c6] 55) := ⟨_, rfl⟩
          have hb13 : Below w12.heap.size w12 W13 := by rw [hW13]; exact (Below.refl _ _).alloc (Nat.le_refl _) _
          have hbt : W13.heap[w12.heap.size]? = some (.cells #[.string E.uri, .int .i64 E.ver, .slice A6 n c6] 55 (0, 0)) := by rw [hW13]; exact heap_alloc_new _ _
          have hz13 : W13.heap.size = w12.heap.size + 1 := by rw [hW13]; simp
          have hx13 := (HX11.out.go hb12).go hb13
          obtain ⟨W14, hW14⟩ : ∃ W14, W14 = W13.alloc (.cells #[.string E.uri, .int .i64 E.ver, .slice A n c] 55) := ⟨_, rfl⟩
          have hb14 : Below W13.heap.size W13 W14 := by rw [hW14]; exact (Below.refl _ _).alloc (Nat.le_refl _) _
          have hea := HEA.out W13 hx13.xh.below
          rw [← hW14, hz13] at hea
          have hz12 := hb12.size
          have hb1114 : Below w11.heap.size w11 W14 := (hb12.trans (hb13.mono hz12)).trans (hb14.mono (by omega))
          have hg14 : EntsAt (· < W14.heap.size) W14 (.slice A1 1 c1) [E] := EntsAt.keep (EntsC.at_ HGOT.out) fun g hg => ⟨by show g < W14.heap.size; have := hb1114.size; omega, hb1114.block g hg.2⟩
          have HSA := Lib.hid (sameEntries_any [E] [E] (.slice A1 1 c1) _ W14 hg14 hea)
          obtain ⟨q0, q1, q2⟩ := HBX.out W13 hx13.xh.below
          rw [hW13] at q0 q1 q2
          have HBT := Lib.hid ((hb14.block _ (by omega)).trans hbt)
          have HX14 := Lib.hid (hx13.go hb14)
          have hz14 := hb14.size
          have HG14 : Hid (EntsC (fun g => wo.heap.size ≤ g ∧ g < w11.heap.size) W14 (.slice A1 1 c1) [E]) := Lib.hid (EntsC.keep HGOT.out fun g hg => ⟨hg, hb1114.block g hg.2⟩)
          have HO14 : Hid (ExsC (fun g => wo.heap.size ≤ g ∧ g < W14.heap.size) W14 (.slice A6 n c6) E.exs) := Lib.hid (ExsC.keep hone fun g hg => ⟨by omega, (hb14.block g (by omega)).trans (hb13.block g hg.2)⟩)
          clear he hone hb12 hb13 hbt hx13 hb14 hea hb1114 hg14 y0 y1 y2 HFI HX11 HGOT HB11
          go_wp2_with fail
          rw [← hW13, ← hW14]
          clear q0 q1 q2 hW13 hW14
          refine HSA.out.mono ?_
          rintro e w15 ⟨he15, hb15⟩
          rw [sameN_true rfl] at he15
          subst he15
          have hz15 := hb15.size
          have hx15 := HX14.out.go hb15
          obtain ⟨t0, t1, t2⟩ := box3 ((hb15.block _ (by omega)).trans HBT.out)
          obtain ⟨W16, hW16⟩ : ∃ W16, W16 = w15.alloc (.cells #[.string E.uri, .int .i64 E.ver, .slice A6 n c6] 55) := ⟨_, rfl⟩
          have hb16 : Below w15.heap.size w15 W16 := by rw [hW16]; exact (Below.refl _ _).alloc (Nat.le_refl _) _
          have hx16 := hx15.go hb16
          obtain ⟨W17, hW17⟩ : ∃ W17, W17 = W16.alloc (.cells #[.string E.uri, .int .i64 E.ver, .slice A n c] 55) := ⟨_, rfl⟩
          have hb17 : Below W16.heap.size W16 W17 := by rw [hW17]; exact (Below.refl _ _).alloc (Nat.le_refl _) _
          have hea := HEA.out W16 hx16.xh.below
          have hz16' : W16.heap.size = w15.heap.size + 1 := by rw [hW16]; simp
          rw [← hW17, hz16'] at hea
          have hon0 : ExsAt (fun g => wo.heap.size ≤ g ∧ g < W14.heap.size) W14 (.slice A6 E.exs.length c6) E.exs := by
            have h := ExsC.at_ HO14.out
            rw [HN.out] at h
            exact h
          have hon : EntsAt (· < W16.heap.size) W16 (.slice (some ⟨w15.heap.size, 0, none⟩) 1 1) [E] := by
            rw [hW16]
            refine EntsAt.one (S := fun _ => True) HUS.out (hon0.keep fun g hg => ⟨by show g < w15.heap.size; omega, hb15.block g hg.2⟩ : ExsAt (· < w15.heap.size) w15 (.slice A6 E.exs.length c6) E.exs) _ (by rw [HN.out])
          have HSB := Lib.hid (sameEntries_any [E] [E] _ _ W17 (hon.blw hb17) hea)
          obtain ⟨q0, q1, q2⟩ := HBX.out W16 hx16.xh.below
          rw [hW16] at q0 q1 q2
          have hz16 := hb16.size
          have hz17 := hb17.size
          have HB1417 : Hid (Below W14.heap.size W14 W17) := Lib.hid ((hb15.trans (hb16.mono hz15)).trans (hb17.mono (by omega)))
          have HX17 := Lib.hid (hx16.go hb17)
          clear hb15 hb16 hb17 hx15 hx16 hea hon hon0 HSA hz16'
          go_wp2_with fail
          rw [← hW16, ← hW17]
          clear q0 q1 q2 t0 t1 t2 hW16 hW17
          refine HSB.out.mono ?_
          rintro e w18 ⟨he18, hb18⟩
          rw [sameN_true rfl] at he18
          subst he18
          have hb1418 := HB1417.out.trans (hb18.mono HB1417.out.size)
          have HX18 := Lib.hid (HX17.out.go hb18)
          have HT2 := Lib.hid (box3 ((hb1418.block _ (by omega)).trans HBT.out)).2.2
          obtain ⟨b1, off1, A5, c5, rfl, hb1', -, hx5, -, -, u2⟩ := EntsAt.arg (show EntsAt _ W14 (.slice A1 1 c1) [E] from HG14.out) (i := 0) (by simp)
          simp only [List.getElem_cons_zero, Nat.zero_mul, Nat.add_zero] at hx5 u2
          rw [← HN.out] at hx5 u2
          have HZ2 : Hid (w18.cell? ⟨b1, off1 + 2, none⟩ = some (.slice A5 n c5)) := Lib.hid ((hb1418.cell (p := ⟨b1, off1 + 2, none⟩) (by have := hb1'.1.2; show b1 < W14.heap.size; omega)).trans u2)
          have HG : Hid (ExsC (fun g => wo.heap.size ≤ g) w18 (.slice A5 n c5) E.exs) := Lib.hid (ExsC.keep (S := fun g => wo.heap.size ≤ g ∧ g < w11.heap.size) hx5 fun g hg => ⟨hg.1, hb1418.block g (by omega)⟩)
          have HO1 : Hid (ExsC (fun g => wo.heap.size ≤ g) w18 (.slice A6 n c6) E.exs) := Lib.hid (ExsC.keep HO14.out fun g hg => ⟨hg.1, hb1418.block g hg.2⟩)
          clear hb18 hb1418 hx5 u2 hb1' HB1417 HX17 HBT HG14 HO14 HX14 HSB
          go_wp2
          go_loopw [12] (fun iv W' => ∃ (i : Nat), i ≤ n ∧ iv = .int .i64 i ∧ Hid (FlipC (fun g => wo.heap.size ≤ g) w18 W')) (fun iv _ => n - (RowKit.intOf iv).toNat)
          case atStart => exact ⟨0, by omega, rfl, Lib.hid (FlipC.refl _ _)⟩
          case round =>
            obtain ⟨i, hi, rfl, HFL⟩ := hrel
            obtain ⟨wp, rfl⟩ : ∃ wp : World, wp = wr := ⟨_, rfl⟩
            have z2 := HFL.out.sl HZ2.out
            have t2 := HFL.out.sl HT2.out
            by_cases hlt : i < n
            · have hiE : i < E.exs.length := by rw [← HN.out]; exact hlt
              obtain ⟨b, off, A', c', rfl, hb, -, hty, -, -, -, x3, x4⟩ := ExsAt.arg (show ExsAt _ w18 (.slice A5 n c5) E.exs from HG.out) hiE
              obtain ⟨b', off', A'', c'', rfl, hb', -, -, v0, -⟩ := ExsAt.arg (show ExsAt _ w18 (.slice A6 n c6) E.exs from HO1.out) hiE
              obtain ⟨m, hm⟩ : ∃ m, m = E.exs[i].ty.args.length := ⟨_, rfl⟩
              have hml : m ≤ 9223372036854775807 := by
                obtain ⟨_, _, e, h1, h2, -⟩ := hty.form
                simp only [maxLen] at h2
                omega
              rw [← hm] at x4
              have HX4 := Lib.hid x4; have HTY := Lib.hid hty; have HM := Lib.hid hm
              obtain ⟨s1, z3⟩ := HFL.out.str x3
              obtain ⟨s2, z0⟩ := HFL.out.str v0
              have hcl := HFL.out.clean b hb.2
              have hcl' := HFL.out.clean b' hb'.2
              have f3 := hcl.frozen (off + i * 5 + 3)
              have f0 := hcl'.frozen (off' + i * 5)
              have hfl2 := HFL.out.set hb.1 z3 hcl (Fk.s s1 ⟨#[115, 112, 111, 105, 108, 116]⟩)
              obtain ⟨s3, z0'⟩ := hfl2.str v0
              have HFL3 := Lib.hid (hfl2.set hb'.1 z0' (hfl2.clean b' hb'.2) (Fk.s s3 ⟨#[115, 112, 111, 105, 108, 116]⟩))
              have t2' := hfl2.sl HT2.out
              clear x3 x4 v0 hcl hcl' hfl2 hty hm
              go_wp2
              go_loopw [13] (fun jv W' => ∃ (j : Nat), j ≤ m ∧ jv = .int .i64 j ∧ Hid (FlipC (fun g => wo.heap.size ≤ g) w18 W')) (fun jv _ => m - (RowKit.intOf jv).toNat)
              case atStart => exact ⟨0, by omega, rfl, HFL3⟩
              case round =>
                obtain ⟨j, hj, rfl, HFJ⟩ := hrel
                have z2 := HFJ.out.sl HZ2.out
                have z4 := HFJ.out.sl HX4.out
                by_cases hltj : j < m
                · have hjT : j < E.exs[i].ty.args.length := by rw [← HM.out]; exact hltj
                  obtain ⟨b3, off3, A3, c3, rfl, hb3, -, k0, -⟩ := TyAt.arg HTY.out hjT
                  obtain ⟨k3, k0'⟩ := HFJ.out.int k0
                  have hcl3 := HFJ.out.clean b3 hb3.2
                  have f3 := hcl3.frozen (off3 + j * 4)
                  have HFJ2 := Lib.hid (HFJ.out.set hb3.1 k0' hcl3 (Fk.i k3 77))
                  clear k0 hcl3
                  go_wp2
                  go_roundw
                  case rel => exact ⟨j + 1, by omega, by go_num, HFJ2⟩
                  case measure => simp [RowKit.intOf]; omega
                · go_wp2
                  go_roundw
                  case rel => exact ⟨i + 1, by omega, by go_num, HFJ⟩
                  case measure => simp [RowKit.intOf]; omega
            · have hxo := HX18.out.kept HFL.out.kept (fun k (hk : wo.heap.size ≤ k) => ⟨by have := HX.out.xh.below.size; omega, fun h => by have := HX.out.xh.xf.lt k h; omega⟩)
              have HXO := Lib.hid hxo
              clear hxo
              go_wp2
              go_roundw
              case rel => exact ⟨r + 1, by omega, by go_num, HXO⟩
              case measure => simp [RowKit.intOf]; omega
        · have HBF : Hid (Below W.heap.size W wo) := Lib.hid (HB1.out.trans (HX.out.xh.below.mono HB1.out.size))
          go_wp2
          go_ret
          exact ⟨rfl, HBF.out⟩
end Go.Proofs.YtaalbcfpacpgfaaGreat
