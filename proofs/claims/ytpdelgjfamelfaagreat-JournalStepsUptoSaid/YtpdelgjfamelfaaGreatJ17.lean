/- A journal that is held, new since B; alive. -/
import Derived.Test.YtpdelgjfamelfaaGreatJV
namespace Go.Proofs.YtpdelgjfamelfaaGreat
open Go.RowKit Go.Lib Go.Vfs Go.Par Go.Shelf
set_option linter.unusedVariables false
set_option linter.unusedSimpArgs false

/-- a journal with its files, all of it laid since B; whatever lay lies as it lay. -/
structure JH (B : Nat) (w0 w : World) (pj p : Nat) (st : St) (gen : Nat) (base log : List (List UInt8)) (F G : Nat → Prop) : Prop where
  jf : JF w pj p st gen base log F G
  fnew : ∀ k, F k → B ≤ k
  gnew : ∀ k, G k → B ≤ k
  below : Below B w0 w
section
variable {B : Nat} {w0 w w' : World} {pj p gen : Nat} {st : St} {base log : List (List UInt8)} {F G : Nat → Prop}
theorem JH.size (h : JH B w0 w pj p st gen base log F G) (hB : B ≤ w0.heap.size) : B ≤ w.heap.size := Nat.le_trans hB h.below.size
theorem JH.go (h : JH B w0 w pj p st gen base log F G) (hB : B ≤ w0.heap.size) (hb : Below w.heap.size w w') : JH B w0 w' pj p st gen base log F G :=
  ⟨h.jf.below hb, h.fnew, h.gnew, h.below.trans (hb.mono (h.size hB))⟩
theorem JH.op (h : JH B w0 w pj p st gen base log F G) (hB : B ≤ w0.heap.size) {st' : St} {gen' : Nat} {base' log' : List (List UInt8)} (hp : JPost w pj p F G st' gen' base' log' w') : ∃ F' G', JH B w0 w' pj p st' gen' base' log' F' G' ∧ Kept (fun k => F k ∨ G k) w w' ∧ Grows w F F' ∧ Grows w G G' := by
  obtain ⟨F', G', h1, h2, h3, h4⟩ := hp
  have hs := h.size hB
  refine ⟨F', G', ⟨h1, fun k hk => ?_, fun k hk => ?_, h.below.trans (h2.below hs fun k hk => ?_)⟩, h2, h3, h4⟩
  · rcases h3 k hk with a | a
    · exact h.fnew k a
    · omega
  · rcases h4 k hk with a | a
    · exact h.gnew k a
    · omega
  · rcases hk with hk | hk
    · exact h.fnew k hk
    · exact h.gnew k hk
theorem JH.lt (h : JH B w0 w pj p st gen base log F G) : ∀ k, (F k ∨ G k) → k < w.heap.size := fun k hk => by
  rcases hk with hk | hk
  · exact h.jf.fs.lt k hk
  · exact h.jf.js.lt k hk
theorem rows_out {w : World} {F G : Nat → Prop} {v : Value} {ls : List (List UInt8)} (h : RowsAt (Out w fun k => F k ∨ G k) w v ls) : RowsAt (fun k => k < w.heap.size ∧ ¬ F k ∧ ¬ G k) w v ls :=
  h.keep fun b hb => ⟨⟨hb.1, fun hf => hb.2 (.inl hf), fun hg => hb.2 (.inr hg)⟩, rfl⟩
theorem seg_out {w : World} {F G : Nat → Prop} {v : Value} {xs : List Value} (h : SegS (Out w fun k => F k ∨ G k) w v xs) : SegS (fun k => k < w.heap.size ∧ ¬ F k) w v xs :=
  h.keep fun b hb => ⟨⟨hb.1, fun hf => hb.2 (.inl hf)⟩, rfl⟩
end
theorem encR_len (g : Nat) : ∀ ps : List (List UInt8), (encR g ps).length = 12 * ps.length + ps.flatten.length
  | [] => rfl
  | p :: ps => by rw [encR_cons, List.length_append, frameB_length, encR_len g ps, List.flatten_cons, List.length_append, List.length_cons]; omega
theorem open_new : openSt ⟨-1, []⟩ = (⟨-1, []⟩, .ok (0, [], [])) := rfl
/-- a new file system, and the journal in it. -/
theorem OpenPost.fresh {w0 w w' : World} {p : Nat} {F : Nat → Prop} {e : Ending} (h : OpenPost w p F (openSt ⟨-1, []⟩) e w') (hb : Below w0.heap.size w0 w) (hF : ∀ k, F k → w0.heap.size ≤ k) : ∃ pj F' G, e = .returned (.tuple #[.pointer (some ⟨pj, 0, none⟩), .int .i64 0]) ∧ JH w0.heap.size w0 w' pj p ⟨-1, []⟩ 0 [] [] F' G := by
  rw [open_new] at h
  obtain ⟨F', h1, h2, h3, pj, G, rfl, h4, h5⟩ := h
  have hz := hb.size
  exact ⟨pj, F', G, rfl, h4, fun k hk => by
    rcases h3 k hk with a | a
    · exact hF k a
    · omega, fun k hk => by have := h5 k hk; omega, hb.trans (h2.below hz hF)⟩

set_option maxRecDepth 20000 in
set_option maxHeartbeats 2000000 in
theorem jalive_any (w : World) : Calls Tryz.prog 5 #[] w fun e w' => e = .returned (.bool true) ∧ Below w.heap.size w w' := by
  go_enter Tryz.func5, Tryz.ntmps5
  go_wp2_with fail
  refine (new_fs (-1) w).mono ?_
  rintro e w1 ⟨p, F, rfl, hfs, hF, hb1⟩
  have hop := jopen_any w1 p ⟨-1, []⟩ F hfs Calm.nil (by omega) (by omega) (by decide)
  have HF := Lib.hid hF; have HB1 := Lib.hid hb1; have HOP := Lib.hid hop
  clear hfs hF hb1 hop
  go_wp2_with fail
  refine HOP.out.mono ?_
  rintro e w2 hop
  obtain ⟨pj, F2, G2, rfl, h2⟩ := hop.fresh HB1.out (fun k hk => (HF.out k hk).1)
  have H2 := Lib.hid h2
  clear hop h2 HOP HF HB1
  have kc := fun (w : World) (C : Array Value) (n c g : Nat) (hg : g = w.heap.size) => _root_.Go.Joins.run_convert_bytes_const_at (P := Tryz.prog) w 22 5 C n c g hg Tryz.underlying22 Tryz.underlying5
  have k1 := kc w2 #[.int .u8 120] 1 1 _ rfl
  have KC := Lib.hid kc; clear kc
  simp only [List.size_toArray, List.length_cons, List.length_nil, Nat.reduceAdd] at k1
  go_wp2_with fail
  have hn2 : ∀ j, (F2 j ∨ G2 j) → j < w2.heap.size := H2.out.lt
  have hr1 := rows_out (RowsAt.new1 (w := w2.alloc (.cells #[.int .u8 120] 5 (1, 2))) (F := fun j => F2 j ∨ G2 j) (fun j hj => by have := hn2 j hj; simp; omega) (SegS.new hn2 (byteCells [120]) _ rfl 1 rfl (by decide) _ _ w2.heap.size rfl) (w2.heap.size + 1) (by simp))
  have h3 := (H2.out.go (Nat.le_refl _) ((Below.refl _ w2).alloc (Nat.le_refl _) (.cells #[.int .u8 120] 5 (1, 2)))).go (Nat.le_refl _) ((Below.refl _ _).alloc (Nat.le_refl _) (.cells #[.slice (some ⟨w2.heap.size, 0, none⟩) 1 1] 22))
  have HLC : Hid (Calm (⟨-1, []⟩ : St).files 0 0) := Lib.hid Calm.nil
  refine (jlay_any h3.jf _ [[120]] hr1 (by decide) (by decide) (by decide) (by rw [encR_len]; simp [be4_length]) HLC.out (by omega) (by omega) (by decide)).mono ?_
  rintro e w4 ⟨r, hr, rfl, hp⟩
  obtain ⟨fs, hl, hv3⟩ := V3.nil.lay (encR 1 (be4 1 :: [[120]]))
  have hr' : r = (⟨-1, fs⟩, 0) := by rw [← hr]; exact hl
  have hcm := lay_calm (b := encR 1 (be4 1 :: [[120]])) (stepsOf (hasF [] nLog)) HLC.out
  rw [hl] at hcm
  subst hr'
  simp only at hp
  obtain ⟨F4, G4, h4, -, -, -⟩ := h3.op (Nat.le_refl _) hp
  have H4 : Hid (JH w.heap.size w w4 pj p ⟨-1, fs⟩ 1 [[120]] [] F4 G4) := Lib.hid (by simpa using h4)
  have HV3 := Lib.hid hv3
  have HCM : Hid (Calm fs 10 1000) := Lib.hid (hcm.mono (by decide) (by decide))
  clear hn2 hr1 h3 hr hp hl hv3 hcm h4 H2 k1
  have k2 := KC.out w4 #[.int .u8 121] 1 1 _ rfl
  simp only [List.size_toArray, List.length_cons, List.length_nil, Nat.reduceAdd] at k2
  go_wp2_with fail
  have h5 := H4.out.go (Nat.le_refl _) ((Below.refl _ w4).alloc (Nat.le_refl _) (.cells #[.int .u8 121] 5 (1, 2)))
  have hs5 := seg_out (SegS.new (F := fun j => F4 j ∨ G4 j) H4.out.lt (byteCells [121]) #[.int .u8 121] rfl 1 rfl (by decide) 5 (1, 2) w4.heap.size rfl)
  refine (jappend_any h5.jf _ [121] hs5 (by decide) (HCM.out.modest (show (-1 : Int) ≤ 9223372036854775807 by decide) (by decide) (by decide)) (by decide)).mono ?_
  have hap : jAppend ⟨-1, fs⟩ 1 [] [121] = (⟨-1, appF nLog (frameB 1 [121]) fs⟩, 0, [[121]]) := by
    unfold jAppend
    rw [HV3.out.append, do_on (by decide)]
    rfl
  rw [hap]
  rintro e w6 ⟨rfl, hp⟩
  obtain ⟨F6, G6, h6, -, -, -⟩ := h5.op (Nat.le_refl _) hp
  have H6 := Lib.hid h6
  clear h5 hs5 hap hp h6 H4 k2
  have HB6 := Lib.hid H6.out.below
  have k3 := KC.out w6 #[.int .u8 49, .int .u8 50, .int .u8 51, .int .u8 52] 4 4 _ rfl
  have k4 := KC.out (w6.alloc (.cells #[.int .u8 49, .int .u8 50, .int .u8 51, .int .u8 52] 5 (4, 5))) #[.int .u8 53, .int .u8 54, .int .u8 55, .int .u8 56, .int .u8 57] 5 5 (w6.heap.size + 1) (by simp)
  simp only [List.size_toArray, List.length_cons, List.length_nil, Nat.reduceAdd] at k3 k4
  go_wp2_with fail
  have hF0 : ∀ (W : World) (j : Nat), (fun _ : Nat => False) j → j < W.heap.size := fun W j h => h.elim
  have hs7 := SegS.alloc (SegS.new (hF0 w6) (byteCells [49, 50, 51, 52]) #[.int .u8 49, .int .u8 50, .int .u8 51, .int .u8 52] rfl 4 rfl (by decide) 5 (4, 5) w6.heap.size rfl) (.cells #[.int .u8 53, .int .u8 54, .int .u8 55, .int .u8 56, .int .u8 57] 5 (5, 6))
  have hs8 := SegS.new (hF0 (w6.alloc (.cells #[.int .u8 49, .int .u8 50, .int .u8 51, .int .u8 52] 5 (4, 5)))) (byteCells [53, 54, 55, 56, 57]) #[.int .u8 53, .int .u8 54, .int .u8 55, .int .u8 56, .int .u8 57] rfl 5 rfl (by decide) 5 (5, 6) (w6.heap.size + 1) (by simp)
  have hr7 := RowsAt.new2 (hF0 _) hs7 hs8 (w6.heap.size + 1 + 1) (by simp)
  have hb7 : Below w6.heap.size w6 (((w6.alloc (.cells #[.int .u8 49, .int .u8 50, .int .u8 51, .int .u8 52] 5 (4, 5))).alloc (.cells #[.int .u8 53, .int .u8 54, .int .u8 55, .int .u8 56, .int .u8 57] 5 (5, 6))).alloc (.cells #[.slice (some ⟨w6.heap.size, 0, none⟩) 4 4, .slice (some ⟨w6.heap.size + 1, 0, none⟩) 5 5] 22)) :=
    ((box_below w6 _).alloc (by simp) _).alloc (by simp; omega) _
  refine (sum_any _ _ _ (hr7.sub fun j hj => hj.1)).mono ?_
  rintro e w8 ⟨he, n8, hw8⟩
  have hcrc : crc [[49, 50, 51, 52], [53, 54, 55, 56, 57]].flatten = 3421780262 := by kernel_rfl
  rw [hcrc] at he
  subst he
  have H8 : Hid (JH w.heap.size w w8 pj p ⟨-1, appF nLog (frameB 1 [121]) fs⟩ 1 [[120]] [[121]] F6 G6) := Lib.hid (by rw [hw8]; exact H6.out.go (Nat.le_refl _) (below_drewN hb7 n8))
  clear hs7 hs8 hr7 hb7 hw8 hcrc H6 HB6 k3 k4 HV3 HCM
  go_wp2_with fail
  refine (jrecords_any H8.out.jf.js (by decide) (by decide) (by decide) (by decide)).mono ?_
  rintro e w9 ⟨v9, us9, rfl, hr9⟩
  have H9 := Lib.hid (H8.out.go (Nat.le_refl _) hr9.below)
  obtain ⟨A9, c9, hf9⟩ := hr9.own.form
  have hr9r := hr9.rows
  subst hf9
  have HR9 := Lib.hid hr9r
  have k5 := KC.out w9 #[.int .u8 120] 1 1 _ rfl
  have k6 := KC.out (w9.alloc (.cells #[.int .u8 120] 5 (1, 2))) #[.int .u8 121] 1 1 (w9.heap.size + 1) (by simp)
  simp only [List.size_toArray, List.length_cons, List.length_nil, Nat.reduceAdd] at k5 k6
  clear hr9 hr9r H8
  go_wp2_with fail
  have hs10 := SegS.alloc (SegS.new (hF0 w9) (byteCells [120]) #[.int .u8 120] rfl 1 rfl (by decide) 5 (1, 2) w9.heap.size rfl) (.cells #[.int .u8 121] 5 (1, 2))
  have hs11 := SegS.new (hF0 (w9.alloc (.cells #[.int .u8 120] 5 (1, 2)))) (byteCells [121]) #[.int .u8 121] rfl 1 rfl (by decide) 5 (1, 2) (w9.heap.size + 1) (by simp)
  have hr10 := RowsAt.new2 (hF0 _) hs10 hs11 (w9.heap.size + 1 + 1) (by simp)
  have hb10 : Below w9.heap.size w9 (((w9.alloc (.cells #[.int .u8 120] 5 (1, 2))).alloc (.cells #[.int .u8 121] 5 (1, 2))).alloc (.cells #[.slice (some ⟨w9.heap.size, 0, none⟩) 1 1, .slice (some ⟨w9.heap.size + 1, 0, none⟩) 1 1] 22)) :=
    ((box_below w9 _).alloc (by simp) _).alloc (by simp; omega) _
  refine (sameRows_any _ _ _ _ _ (HR9.out.keep fun j hj => ⟨by have := hb10.size; omega, hb10.block j hj.2⟩) (hr10.sub fun j hj => hj.1)).mono ?_
  rintro e w11 ⟨he, n11, hw11⟩
  have H11 : Hid (JH w.heap.size w w11 pj p ⟨-1, appF nLog (frameB 1 [121]) fs⟩ 1 [[120]] [[121]] F6 G6) := Lib.hid (by rw [hw11]; exact H9.out.go (Nat.le_refl _) (below_drewN hb10 n11))
  replace he : e = .returned (.bool true) := he
  subst he
  clear hs10 hs11 hr10 hb10 hw11 H9 HR9 k5 k6
  go_wp2_with fail
  refine (jlog_any H11.out.jf).mono ?_
  rintro e w12 ⟨he, n12, hw12⟩
  replace he : e = .returned (.int .i64 1) := he
  subst he
  have HB12 : Hid (Below w.heap.size w w12) := Lib.hid (by rw [hw12]; exact below_drewN H11.out.below n12)
  clear hw12
  go_wp2
  go_ret
  exact ⟨rfl, HB12.out⟩
end Go.Proofs.YtpdelgjfamelfaaGreat
