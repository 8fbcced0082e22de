/- types.replaced, types.Close: the walks. -/
import Derived.Test.YtbhicpjhijondaaDoorT45
namespace Go.Typ
theorem metV_len (met : List Int) (n : Int) : (metV met n).length ≤ met.length + 1 := by
  unfold metV; split <;> simp
theorem closeL_len2 : ∀ (ts : List Ty), (∀ t ∈ ts, ∀ met : List Int, (closeT t met).2.length ≤ met.length + t.parts) → ∀ met : List Int, (closeL ts met).2.length ≤ met.length + partsL ts
  | [], _, met => by simp [closeL]
  | t :: ts, h, met => by
    rw [closeL, partsL]
    have h1 := h t (by simp) met
    have h2 := closeL_len2 ts (fun x hx => h x (by simp [hx])) (closeT t met).2
    simp only
    omega
theorem closeT_len (T : Ty) : ∀ met : List Int, (closeT T met).2.length ≤ met.length + T.parts := by
  induction T using Ty.ind with
  | h T ih =>
    intro met
    rw [closeT_eq]
    have hp := T.parts_pos
    split
    · have := metV_len met T.num; simp only; omega
    · have := closeL_len2 T.args (fun t ht => by obtain ⟨i, hi, rfl⟩ := List.getElem_of_mem ht; exact ih i hi) met
      have := T.parts_eq
      simp only
      omega
theorem partsL_step {ts : List Ty} {k : Nat} (hk : k < ts.length) : partsL (ts.drop k) = ts[k].parts + partsL (ts.drop (k + 1)) := by
  rw [List.drop_eq_getElem_cons hk, partsL]
end Go.Typ
namespace Go.Proofs.YtbhicpjhijondaaDoor
open Go.RowKit Go.Lib Go.Vfs Go.Par Go.Typ
set_option linter.unusedVariables false
set_option linter.unusedSimpArgs false

set_option maxRecDepth 20000 in
set_option maxHeartbeats 2000000 in
theorem replaced_any (p b : Nat) (T : Ty) : ∀ (met : List Int) (v : Value) (w : World), NumAt w p b 82 met → TyAt (fun g => g < w.heap.size ∧ g ≠ p) w v T → met.length + T.parts ≤ 1099511627776 →
    Calls Tryd.prog 61 #[v, .func (.func 62) #[] #[.pointer (some ⟨b, 0, none⟩)]] w fun e w' => ∃ A c, e = .returned (tyV (closeT T met).1.kind (closeT T met).1.num (closeT T met).1.name A (closeT T met).1.args.length c) ∧
      TyC (fun g => w.heap.size ≤ g ∧ g < w'.heap.size) w' (tyV (closeT T met).1.kind (closeT T met).1.num (closeT T met).1.name A (closeT T met).1.args.length c) (closeT T met).1 ∧ NumAt w' p b 82 (closeT T met).2 ∧ Kept (· = p) w w' := by
  induction T using Ty.ind with
  | h T ih =>
    intro met v w hN hT hp
    have IH := Lib.hid ih
    clear ih
    obtain ⟨A, c, rfl, hc, hm, hn⟩ := hT.form
    have hla : T.args.length ≤ 1099511627776 := by have := length_parts T.args; rw [T.parts_eq] at hp; omega
    have hpl := hN.map.lt
    have hbl := lt_blk hN.box
    have hne := hN.ne
    obtain ⟨W1, hW1⟩ : ∃ W1, W1 = (w.alloc (.cells #[.int .i64 T.kind, .int .i64 T.num, .string T.name, .slice A T.args.length c] 24)).alloc (.cells #[.int .i64 0, .int .i64 0, .string ⟨#[]⟩, .slice none 0 0] 24) := ⟨_, rfl⟩
    have hb1 : Below w.heap.size w W1 := by rw [hW1]; exact ((Below.refl _ _).alloc (Nat.le_refl _) _).alloc (by simp) _
    have hbx : W1.heap[w.heap.size]? = some (.cells #[.int .i64 T.kind, .int .i64 T.num, .string T.name, .slice A T.args.length c] 24 (0, 0)) := by
      rw [hW1, Below.heap_alloc _ _ _ (by simp)]
      exact heap_alloc_new _ _
    have hres : W1.heap[w.heap.size + 1]? = some (.cells #[.int .i64 0, .int .i64 0, .string ⟨#[]⟩, .slice none 0 0] 24 (0, 0)) := by
      rw [hW1]
      have := heap_alloc_new (w.alloc (.cells #[.int .i64 T.kind, .int .i64 T.num, .string T.name, .slice A T.args.length c] 24)) (.cells #[.int .i64 0, .int .i64 0, .string ⟨#[]⟩, .slice none 0 0] 24)
      simpa using this
    have hz1 : W1.heap.size = w.heap.size + 2 := by rw [hW1]; simp
    have hN1 := hN.below hb1
    have hT1 : TyAt (fun g => g < w.heap.size ∧ g ≠ p) W1 (tyV T.kind T.num T.name A T.args.length c) T := hT.keep fun g hg => ⟨hg, hb1.block g hg.1⟩
    have HBX := Lib.hid hbx; have HRS := Lib.hid hres; have HP := Lib.hid hp; have HZ1 := Lib.hid hz1; have HN1 := Lib.hid hN1; have HT1 := Lib.hid hT1; have HB1 := Lib.hid hb1
    have HPL := Lib.hid hpl; have HBL := Lib.hid hbl; have HNE := Lib.hid hne; have HNM := Lib.hid hn
    obtain ⟨y0, y1, y2, y3⟩ := box4 hbx
    obtain ⟨r0, r1, r2, r3⟩ := box4 hres
    obtain ⟨s0, s1, s2, s3⟩ := box4_frozen hres
    clear hT hbx hres hp hN hN1 hT1 hb1 hpl hbl hne hz1 hn hc hm
    unfold tyV
    by_cases k1 : T.kind = 1
    · have hce : closeT T met = (.mk 1 (met.idxOf T.num) ⟨#[]⟩ [], metV met T.num) := by rw [closeT_eq, if_pos k1]
      rw [hce]
      have hcl := closeC_any p b T.num met (by have := HP.out; omega) W1 HN1.out
      have HCL := Lib.hid hcl
      have h1 : (T.kind == 1) = true := by simp [k1]
      rw [k1] at h1 y0 hW1 ⊢
      rw [hW1] at y0 y1 y2 y3
      clear k1 hce hcl r0 r1 r2 r3 s0 s1 s2 s3
      obtain ⟨ix, hix⟩ : ∃ ix, ix = met.idxOf T.num := ⟨_, rfl⟩
      rw [← hix] at HCL ⊢
      clear hix
      go_enter Tryd.func61, Tryd.ntmps61
      go_wp2_with fail
      rw [← hW1]
      clear hW1 y0 y1 y2 y3
      refine HCL.out.mono ?_
      rintro e w2 ⟨rfl, hN2, hk2⟩
      have hres2 := (hk2.block (w.heap.size + 1) (by have := HZ1.out; omega) (by have := HPL.out; omega)).trans HRS.out
      obtain ⟨Wf, hWf, hbx, hkf⟩ := end4 (.int .i64 1) (.int .i64 ix) (.string ⟨#[]⟩) (.slice none 0 0) hres2
      obtain ⟨u0, u1, u2, u3⟩ := box4 hres2
      obtain ⟨v0, v1, v2, v3⟩ := box4_frozen hres2
      have HE : Hid (NumAt Wf p b 82 (metV met T.num) ∧ Kept (· = p) w Wf) := Lib.hid (by
        have h1 := HPL.out; have h2 := HBL.out; have h3 := HZ1.out; have h4 := hk2.size; have h5 := hkf.size
        refine ⟨hN2.keep (hkf.block p (by omega) (by show ¬ p = _; omega)) (hkf.block b (by omega) (by show ¬ b = _; omega)), ?_⟩
        exact ((Kept.of_below HB1.out).trans' hk2).trans (F' := (· = w.heap.size + 1)) hkf (fun k hk => .inr (by show w.heap.size ≤ k; have : k = w.heap.size + 1 := hk; omega)))
      have HBXF := Lib.hid hbx
      have HWF := Lib.hid hWf
      clear hN2 hk2 hres2 hbx hkf hWf
      go_wp2
      rw [← HWF.out]
      obtain ⟨f0, f1, f2, f3⟩ := box4 HBXF.out
      refine bodyPost_ret (v := .agg #[.int .i64 1, .int .i64 ix, .string ⟨#[]⟩, .slice none 0 0]) (by simp [results, Tryd.results61, go_sem, f0, f1, f2, f3]) rfl ?_
      exact ⟨none, 0, rfl, TyC.nil _ _ 1 ix ⟨#[]⟩ none 0 (by simp [maxLen]) (by decide), HE.out.1, HE.out.2⟩
    · have hce : closeT T met = (.mk T.kind 0 T.name (closeL T.args met).1, (closeL T.args met).2) := by rw [closeT_eq, if_neg k1]
      have h1 : (T.kind == 1) = false := by simp [k1]
      have hcl := closeL_len T.args met
      rw [hce]
      change Calls Tryd.prog 61 _ w fun e w' => ∃ A c, e = .returned (.agg #[.int .i64 T.kind, .int .i64 0, .string T.name, .slice A (closeL T.args met).1.length c]) ∧
        TyC (fun g => w.heap.size ≤ g ∧ g < w'.heap.size) w' (.agg #[.int .i64 T.kind, .int .i64 0, .string T.name, .slice A (closeL T.args met).1.length c]) (.mk T.kind 0 T.name (closeL T.args met).1) ∧ NumAt w' p b 82 (closeL T.args met).2 ∧ Kept (· = p) w w'
      rw [hcl]
      have HCLN := Lib.hid hcl
      rw [hW1] at y0 y1 y2 y3
      clear hce k1 hcl r0 r1 r2 r3 s0 s1 s2 s3
      go_enter Tryd.func61, Tryd.ntmps61
      go_wp2
      rw [← hW1]
      clear hW1 y0 y1 y2 y3 h1
      go_loopw [5, 18] (fun sv iv W => ∃ (k : Nat) (us : List Value) (mt : List Int), k ≤ T.args.length ∧ iv = .int .i64 k ∧ Hid (RowK 24 4 TyC W1.heap.size W1.heap.size W ((closeL T.args met).1.take k) sv us) ∧ Hid (NumAt W p b 82 mt) ∧
        Hid (closeL (T.args.drop k) mt = ((closeL T.args met).1.drop k, (closeL T.args met).2)) ∧ Hid (mt.length + partsL (T.args.drop k) ≤ met.length + partsL T.args) ∧ Hid (Kept (· = p) W1 W)) (fun _ iv _ => T.args.length - (RowKit.intOf iv).toNat)
      case atStart => exact ⟨0, [], met, by omega, rfl, Lib.hid (RowK.nil W1), HN1, Lib.hid (by rw [List.drop_zero, List.drop_zero]), Lib.hid (by rw [List.drop_zero]; exact Nat.le_refl _), Lib.hid (Kept.refl _ _)⟩
      case round =>
        obtain ⟨k, us, mt, hk, rfl, HR, HNM2, HST, HLE, HKR⟩ := hrel
        by_cases hlt : k < T.args.length
        · have hz1 := HZ1.out
          have hpl := HPL.out
          have hbl := HBL.out
          have hzr := HKR.out.size
          have hTr := HT1.out.keep (S' := fun g => g < w.heap.size ∧ g ≠ p) (W' := wr) fun g hg => ⟨hg, HKR.out.block g (by omega) hg.2⟩
          obtain ⟨bb, off, A', c', rfl, hb, ht, x0, x1, x2, x3⟩ := hTr.arg hlt
          obtain ⟨W2, hW2⟩ : ∃ W2, W2 = wr.alloc (.cells #[.int .i64 T.args[k].kind, .int .i64 T.args[k].num, .string T.args[k].name, .slice A' T.args[k].args.length c'] 24) := ⟨_, rfl⟩
          have hb2 : Below wr.heap.size wr W2 := by rw [hW2]; exact (Below.refl _ _).alloc (Nat.le_refl _) _
          have hz2 := hb2.size
          have hN2 := HNM2.out.below hb2
          have hst := HST.out
          rw [closeL_step hlt] at hst
          have hps := partsL_step hlt
          have hca := IH.out k hlt mt _ W2 hN2 (ht.keep fun g hg => ⟨⟨by omega, hg.2⟩, hb2.block g (by omega)⟩) (by
            have := HLE.out; have := HP.out; have := T.parts_eq; omega)
          have hml := closeT_len T.args[k] mt
          obtain ⟨z0, z1, z2, z3⟩ := box4 (show W2.heap[wr.heap.size]? = some (.cells #[.int .i64 T.args[k].kind, .int .i64 T.args[k].num, .string T.args[k].name, .slice A' T.args[k].args.length c'] 24 (0, 0)) by rw [hW2]; exact heap_alloc_new _ _)
          have hdk : (closeL T.args met).1.drop k = (closeT T.args[k] mt).1 :: (closeL (T.args.drop (k + 1)) (closeT T.args[k] mt).2).1 := by have := congrArg Prod.fst hst; exact this.symm
          have hlk : ((closeL T.args met).1.take k).length = k := by rw [List.length_take, HCLN.out]; omega
          have hlt2 : k < (closeL T.args met).1.length := by rw [HCLN.out]; exact hlt
          have hgk : (closeL T.args met).1[k] = (closeT T.args[k] mt).1 := by
            rw [List.drop_eq_getElem_cons hlt2] at hdk
            exact (List.cons.inj hdk).1
          have HTK : Hid ((closeL T.args met).1.take (k + 1) = (closeL T.args met).1.take k ++ [(closeT T.args[k] mt).1]) := Lib.hid (by rw [List.take_succ_eq_append_getElem hlt2, hgk])
          have HNX : Hid (closeL (T.args.drop (k + 1)) (closeT T.args[k] mt).2 = ((closeL T.args met).1.drop (k + 1), (closeL T.args met).2)) := Lib.hid (by
            have e1 := congrArg Prod.snd hst
            rw [List.drop_eq_getElem_cons hlt2] at hdk
            exact Prod.ext (List.cons.inj hdk).2.symm e1)
          have HLX : Hid ((closeT T.args[k] mt).2.length + partsL (T.args.drop (k + 1)) ≤ met.length + partsL T.args) := Lib.hid (by have := HLE.out; omega)
          have HLK := Lib.hid hlk
          have HK2 : Hid (Kept (· = p) W1 W2) := Lib.hid (HKR.out.trans' (Kept.of_below hb2))
          have HR2 : Hid (RowK 24 4 TyC W1.heap.size W1.heap.size W2 ((closeL T.args met).1.take k) u5 us) := Lib.hid (RowK.below (R := TyC) TyC.keep HR.out hb2)
          clear ht hTr hst hps hml hdk hlk hlt2 hgk hN2
          generalize closeT T.args[k] mt = U at *
          generalize T.args[k] = V at *
          obtain ⟨U, mt2⟩ := U
          simp only at hca HTK HNX HLX
          unfold tyV at hca
          have HCA := Lib.hid hca
          rw [hW2] at z0 z1 z2 z3
          have HZW2 : Hid (W1.heap.size ≤ W2.heap.size) := Lib.hid HK2.out.size
          clear hca hb2 hz2 hzr hbl hpl hz1
          go_wp2_with fail
          rw [← hW2]
          clear hW2 z0 z1 z2 z3
          refine HCA.out.mono ?_
          rintro e w3 ⟨A2, c2, rfl, hu, hN3, hk3⟩
          have hz3 := hk3.size
          have hr3 := RowK.above (R := TyC) TyC.keep HR2.out (Nat.le_refl _) (Nat.le_refl _) (fun g h1 h2 => hk3.block g h2 (by show ¬ g = p; have := HPL.out; have := HZ1.out; omega)) hz3
          have HR3 := Lib.hid hr3; have HU3 := Lib.hid hu; have HN3 := Lib.hid hN3
          have HK3 := Lib.hid (HK2.out.trans' hk3)
          have hown := hr3.own
          rw [HLK.out] at hown
          obtain ⟨us', hus⟩ : ∃ us', us' = us.flatMap flatC := ⟨_, rfl⟩
          rw [← hus] at hown
          have hzw := HZW2.out
          clear hr3 hu hN3 hk3
          go_wp2_with (at_builtin; refine wpList_appK _ rfl _ _ _ rfl W1.heap.size _ 4 tyE _ k us' rfl (World.ownsRow.alloc hown _) ⟨w3.heap.size, 0, none⟩ 1 1 [.int .i64 U.kind, .int .i64 U.num, .string U.name, .slice A2 U.args.length c2] rfl rfl (cells_new _ _ _) (one4 _ _ _ _ _ _) (by omega) (by simp; omega) ?_; intro v3 w4 hown4 hg4 hat4)
          have HG4 : Hid (∀ g, g < w3.heap.size → u5.ownBlock ≠ some g → w4.heap[g]? = w3.heap[g]?) := Lib.hid fun g h1 h2 => by
            rw [hg4.block g (by simp; omega) (fun e => h2 e.symm), Below.heap_alloc _ _ _ h1]
          have HOL : Hid (∀ g, u5.ownBlock = some g → W1.heap.size ≤ g) := Lib.hid fun g e => (hown.lt g e).1
          have HK34 : Hid (Kept (· = p) W1 w4) := Lib.hid ((HK3.out.alloc _).grown hg4 (fun g e => .inr (HOL.out g e)))
          go_roundw
          case rel =>
            refine ⟨k + 1, us ++ [.agg #[.int .i64 U.kind, .int .i64 U.num, .string U.name, .slice A2 U.args.length c2]], mt2, by omega, by go_num, Lib.hid ?_, Lib.hid ?_, HNX, HLX, HK34⟩
            · rw [HTK.out]
              refine RowK.next (R := TyC) TyC.keep HR3.out HU3.out (fun g hg => ⟨by omega, hg.2, fun e => ?_⟩) rfl _ ?_ hg4 hat4
              · have := HR2.out.lt g e; omega
              · rw [HLK.out, ← hus]; exact hown4
            · have h1 := HPL.out; have h2 := HBL.out; have h3 := HZ1.out
              refine HN3.out.keep (HG4.out p (by omega) (fun e => ?_)) (HG4.out b (by omega) (fun e => ?_))
              · have := HOL.out p e; omega
              · have := HOL.out b e; omega
          case measure => simp [RowKit.intOf]; omega
        · have hkl : k = T.args.length := by omega
          subst hkl
          have hr := HR.out
          rw [show (closeL T.args met).1.take T.args.length = (closeL T.args met).1 from List.take_of_length_le (by rw [HCLN.out]; exact Nat.le_refl _)] at hr
          obtain ⟨A2, c2, rfl, hty⟩ := hr.tyC T.kind 0 T.name HNM.out
          have hmt : mt = (closeL T.args met).2 := by
            have := congrArg Prod.snd HST.out
            rw [List.drop_length, closeL] at this
            exact this
          have HMT := Lib.hid hmt
          have hz1 := HZ1.out
          have hpl := HPL.out
          have hres := (HKR.out.block (w.heap.size + 1) (by omega) (by omega)).trans HRS.out
          have hbox := (HKR.out.block w.heap.size (by omega) (by omega)).trans HBX.out
          obtain ⟨Wf, hWf, hbx, hkf⟩ := end4 (.int .i64 T.kind) (.int .i64 0) (.string T.name) (.slice A2 (closeL T.args met).1.length c2) hres
          obtain ⟨u0, u1, u2, u3⟩ := box4 hbox
          obtain ⟨r0, r1, r2, r3⟩ := box4 hres
          obtain ⟨s0, s1, s2, s3⟩ := box4_frozen hres
          have HE : Hid (NumAt Wf p b 82 mt ∧ Kept (· = p) w Wf ∧ TyC (fun g => w.heap.size ≤ g ∧ g < Wf.heap.size) Wf (tyV T.kind 0 T.name A2 (closeL T.args met).1.length c2) (.mk T.kind 0 T.name (closeL T.args met).1)) := Lib.hid (by
            have h2 := HBL.out; have h4 := HKR.out.size; have h5 := hkf.size
            refine ⟨HNM2.out.keep (hkf.block p (by omega) (by show ¬ p = _; omega)) (hkf.block b (by omega) (by show ¬ b = _; omega)), ?_, TyC.keep hty fun g hg => ⟨by omega, hkf.block g hg.2 (by show ¬ g = _; omega)⟩⟩
            exact ((Kept.of_below HB1.out).trans' HKR.out).trans (F' := (· = w.heap.size + 1)) hkf (fun k hk => .inr (by show w.heap.size ≤ k; have : k = w.heap.size + 1 := hk; omega)))
          have HBXF := Lib.hid hbx
          have HWF := Lib.hid hWf
          clear hty hr hmt hz1 hpl hres hbox hbx hkf hWf
          go_wp2
          rw [← HWF.out]
          obtain ⟨f0, f1, f2, f3⟩ := box4 HBXF.out
          refine bodyPost_ret (v := .agg #[.int .i64 T.kind, .int .i64 0, .string T.name, .slice A2 (closeL T.args met).1.length c2]) (by simp [results, Tryd.results61, go_sem, f0, f1, f2, f3]) rfl ?_
          have hE := HE.out
          rw [HCLN.out] at hE ⊢
          rw [← HMT.out]
          exact ⟨A2, c2, rfl, hE.2.2, hE.1, hE.2.1⟩
end Go.Proofs.YtbhicpjhijondaaDoor
