/- The reader's first: brackets. -/
import Derived.Test.YtbhicpjhijondaaDoorT24
namespace Go.Proofs.YtbhicpjhijondaaDoor
open Go.RowKit Go.Lib Go.Vfs Go.Par Go.Typ Go.Shelf
set_option linter.unusedVariables false
set_option linter.unusedSimpArgs false

/-- how much is left to be read. -/
def leftOf (W : World) (p n : Nat) : Nat := match W.cell? ⟨p, 3, none⟩ with | some (.bool true) => 0 | _ => n - atOf W p + 1
theorem leftOf_ok {W : World} {p n : Nat} {s : ByteArray} {a : Nat} {c : Int} (h : W.heap[p]? = some (rdr s a c false)) : leftOf W p n = n - a + 1 := by
  unfold leftOf
  rw [(rdr_cells h).2.2.2, atOf_rdr h]
theorem leftOf_bad {W : World} {p n : Nat} {s : ByteArray} {a : Nat} {c : Int} (h : W.heap[p]? = some (rdr s a c true)) : leftOf W p n = 0 := by
  unfold leftOf
  rw [(rdr_cells h).2.2.2]

/-- where a row of types is read: how the reader stands. -/
def LSt (m : Nat → Nat → Option (Ty × Nat × Nat)) (N : Nat) (s : ByteArray) (wd : List UInt8) (a0 : Nat) (D : Option (List Ty × Nat × Nat)) (ts : List Ty) (o : Obj) : Prop :=
  (∃ (a c f : Nat), o = rdr s a c false ∧ a0 ≤ a ∧ a ≤ s.size ∧ c ≤ 300 ∧ s.size - a ≤ f ∧ ts.length ≤ a + 1 ∧ D = listP m s wd f ts a c) ∨ (∃ (a z : Nat), o = rdr s a z true ∧ a ≤ s.size ∧ z ≤ N ∧ ts.length ≤ s.size + 2 ∧ D = none)

theorem LSt.start {m : Nat → Nat → Option (Ty × Nat × Nat)} {N : Nat} {s : ByteArray} {wd : List UInt8} {a0 a c : Nat} {T : Ty} {o : Obj} (h : OkM N s a (m a c) T o) (ha : a0 ≤ a) :
    LSt m N s wd a0 (manyP m s wd a c) [T] o := by
  unfold OkM at h
  unfold manyP
  cases hm : m a c with
  | none =>
    rw [hm] at h
    obtain ⟨b, z, h1, h2, h3⟩ := h
    exact .inr ⟨b, z, h3, h1, h2, by simp, rfl⟩
  | some x =>
    obtain ⟨T', b, c'⟩ := x
    rw [hm] at h
    obtain ⟨rfl, h2, h3, h4, h5⟩ := h
    exact .inl ⟨b, c', s.size, h5, by omega, h3, h4, by omega, by simp, rfl⟩
/-- a type more has been read. -/
theorem LSt.next {m : Nat → Nat → Option (Ty × Nat × Nat)} {N : Nat} {s : ByteArray} {wd : List UInt8} {a0 a c f : Nat} {D : Option (List Ty × Nat × Nat)} {ts : List Ty} {T : Ty} {o : Obj} (hw : 2 ≤ wd.length) (hpre : preB s wd a = true) (hle : a + wd.length ≤ s.size) (ha : a0 ≤ a) (hf : s.size - a ≤ f) (hl : ts.length ≤ a + 1)
    (hD : D = listP m s wd f ts a c) (h : OkM N s (a + wd.length) (m (a + wd.length) c) T o) : LSt m N s wd (a + wd.length) D (ts ++ [T]) o := by
  cases f with
  | zero => omega
  | succ f =>
    rw [listP, if_pos hpre] at hD
    unfold OkM at h
    cases hm : m (a + wd.length) c with
    | none =>
      rw [hm] at h hD
      obtain ⟨b, z, h1, h2, h3⟩ := h
      exact .inr ⟨b, z, h3, h1, h2, by simp; omega, hD⟩
    | some x =>
      obtain ⟨T', b, c'⟩ := x
      rw [hm] at h hD
      obtain ⟨rfl, h2, h3, h4, h5⟩ := h
      exact .inl ⟨b, c', f, h5, by omega, h3, h4, by omega, by simp; omega, hD⟩
theorem LSt.weak {m : Nat → Nat → Option (Ty × Nat × Nat)} {N : Nat} {s : ByteArray} {wd : List UInt8} {a0 a0' : Nat} {D : Option (List Ty × Nat × Nat)} {ts : List Ty} {o : Obj} (h : LSt m N s wd a0 D ts o) (ha : a0' ≤ a0) : LSt m N s wd a0' D ts o := by
  rcases h with ⟨b, c, f, h1, h2, h3⟩ | h
  · exact .inl ⟨b, c, f, h1, by omega, h3⟩
  · exact .inr h
theorem listP_end {m : Nat → Nat → Option (Ty × Nat × Nat)} {s : ByteArray} {wd : List UInt8} {f a c : Nat} {ts : List Ty} (h : preB s wd a = false) : listP m s wd f ts a c = some (ts, a, c) := by
  cases f with
  | zero => rfl
  | succ f => rw [listP, if_neg (by rw [h]; simp)]
theorem closeP_some (s : ByteArray) (ts : List Ty) (a2 c2 : Nat) : closeP s (some (ts, a2, c2)) = if preB s [41] a2 = true then
      (if ts.length = 1 then some (ts.getD 0 (.mk 0 0 ⟨#[]⟩ []), a2 + 1, c2)
       else if preB s [32] (a2 + 1) = true then partP (.mk 2 0 (s.extract (a2 + 2) (nmEnd s (a2 + 2))) ts) (nmEnd s (a2 + 2)) c2 else none)
    else none := rfl
/-- a type's value has four cells. -/
theorem flat_tyV (k num : Int) (name : ByteArray) (A : Option Addr) (n c : Nat) : (flatC (tyV k num name A n c)).length = 4 := rfl

set_option maxRecDepth 20000 in
set_option maxHeartbeats 2000000 in
theorem first_open (p : Nat) (s : ByteArray) (d : Int) (arr : Nat → Nat → Option (Ty × Nat × Nat)) (N : Nat) (hN : 400 ≤ N) (hN2 : N ≤ 1000000) (hd0 : 0 ≤ d) (hd : d ≤ 1000) (HA : RdC 58 N p s (d + 1) arr) (hs : s.size ≤ 1000000000) (a c : Nat) (w : World) (h : w.heap[p]? = some (rdr s a c false)) (ha : a ≤ s.size) (hc : c ≤ 300) (h39 : preB s [39] a = false) (h40 : preB s [40] a = true) :
    Calls Tryd.prog 114 #[.pointer (some ⟨p, 0, none⟩), .int .i64 d] w (RdPost N p s a (firstP arr s a c) w) := by
  have hlt := lt_blk h
  have hle := preB_le h40 (by decide)
  obtain ⟨W1, hW1⟩ : ∃ W1, W1 = w.alloc zero4 := ⟨_, rfl⟩
  have hi1 := RdI.start h
  rw [← hW1] at hi1
  have HI1 := Lib.hid hi1
  have hsk := skip_ok p s ⟨#[39]⟩ a c W1 hi1.rd ha (by omega) (by decide)
  rw [show ((⟨#[39]⟩ : ByteArray).data.toList.isPrefixOf (s.data.toList.drop a)) = false from h39] at hsk
  have HSK := Lib.hid hsk; have H39 := Lib.hid h39; have H40 := Lib.hid h40; have HAR := Lib.hid HA
  obtain ⟨D, hD⟩ : ∃ D, D = manyP arr s [44, 32] (a + 1) c := ⟨_, rfl⟩
  have HF : Hid (firstP arr s a c = closeP s D) := Lib.hid (by
    unfold firstP
    rw [if_neg (by rw [h39]; simp), if_pos h40, hD])
  have HD := Lib.hid hD
  clear h hi1 hsk h39 h40 HA hD
  go_enter Tryd.func114, Tryd.ntmps114
  go_wp2_with fail
  rw [show w.alloc (.cells #[.int .i64 0, .int .i64 0, .string ⟨#[]⟩, .slice none 0 0] 24) = W1 from hW1.symm]
  clear hW1
  refine HSK.out.mono ?_
  rintro e w2 ⟨rfl, H2, K2⟩
  have HI2 := Lib.hid (HI1.out.t hlt K2 H2)
  have hsk2 := skip_ok p s ⟨#[40]⟩ a c w2 H2 ha (by omega) (by decide)
  rw [show ((⟨#[40]⟩ : ByteArray).data.toList.isPrefixOf (s.data.toList.drop a)) = true from H40.out] at hsk2
  have HSK2 := Lib.hid hsk2
  clear H2 K2 hsk2
  go_wp2_with fail
  refine HSK2.out.mono ?_
  rintro e w3 ⟨rfl, H3, K3⟩
  have HI3 := Lib.hid (HI2.out.t hlt K3 H3)
  have HA3 := Lib.hid (HAR.out (a + 1) c w3 H3 (by simpa using hle) hc)
  clear H3 K3
  go_wp2_with fail
  refine HA3.out.mono ?_
  rintro e w4 ⟨T0, A0, cc0, o0, rfl, hT0, hk4, ho4, hm4⟩
  have hi4 := HI3.out.t hlt hk4 ho4
  have hz3 := HI3.out.size
  have hz4 := hk4.size
  obtain ⟨W5, hW5⟩ : ∃ W5, W5 = w4.alloc (.cells #[.int .i64 T0.kind, .int .i64 T0.num, .string T0.name, .slice A0 T0.args.length cc0] 24) := ⟨_, rfl⟩
  have hr5 : RowK 24 4 TyAt (w.heap.size + 1) (w.heap.size + 1) W5 [T0] (.slice (some ⟨w4.heap.size, 0, none⟩) 1 1) [tyV T0.kind T0.num T0.name A0 T0.args.length cc0] := by
    rw [hW5]
    exact RowK.one (R := TyAt) TyAt.keep hT0 (fun g hg => ⟨by omega, hg.2⟩) (by omega) rfl
  have hi5 : RdI w p o0 W5 := hi4.new (by rw [hW5]; exact (Below.refl _ _).alloc (Nat.le_refl _) _)
  have hst5 : LSt arr N s [44, 32] (a + 1) D [T0] o0 := by
    rw [HD.out]; exact LSt.start hm4 (Nat.le_refl _)
  have HR5 := Lib.hid hr5; have HI5 := Lib.hid hi5; have HST5 := Lib.hid hst5
  clear hr5 hi5 hst5 hT0 hk4 ho4 hm4 hi4 hz3 hz4
  unfold tyV
  go_wp2_with fail
  rw [← hW5]
  clear hW5
  go_loopw [5] (fun sv wr => ∃ (ts : List Ty) (us : List Value) (o : Obj), Hid (RowK 24 4 TyAt (w.heap.size + 1) (w.heap.size + 1) wr ts sv us) ∧ Hid (RdI w p o wr) ∧ Hid (LSt arr N s [44, 32] (a + 1) D ts o)) (fun _ wr => leftOf wr p s.size)
  case atStart => exact ⟨_, _, _, HR5, HI5, HST5⟩
  case round =>
    obtain ⟨ts, us, o, HR, HI, HL⟩ := hrel
    clear HR5 HI5 HST5 HI3 HI2 HA3 HSK2 HSK
    rcases HL.out with ⟨a', c', f, rfl, ha0, has, hc', hf, htl, hD⟩ | ⟨a', z, rfl, has, hz, htl, hD⟩
    · have hsk := skip_ok p s ⟨#[44, 32]⟩ a' c' wr HI.out.rd has (by omega) (by decide)
      obtain ⟨q, hq⟩ : ∃ q, q = preB s [44, 32] a' := ⟨_, rfl⟩
      rw [show ((⟨#[44, 32]⟩ : ByteArray).data.toList.isPrefixOf (s.data.toList.drop a')) = q from hq.symm] at hsk
      have HSK := Lib.hid hsk; have HQ := Lib.hid hq; have HDD := Lib.hid hD
      have HM := Lib.hid (leftOf_ok (n := s.size) HI.out.rd)
      clear hsk hq hD
      cases q
      · have HDE : Hid (D = some (ts, a', c')) := Lib.hid (by rw [HDD.out]; exact listP_end HQ.out.symm)
        go_wp2_with fail
        refine HSK.out.mono ?_
        rintro e w2 ⟨rfl, H2, K2⟩
        have HI2 := Lib.hid (HI.out.t hlt K2 H2)
        have HR2 := Lib.hid (RowK.above (R := TyAt) TyAt.keep HR.out (Nat.le_refl _) (Nat.le_refl _) (fun g h1 h2 => K2.block g h2 (by omega)) K2.size)
        have hsk2 := skip_ok p s ⟨#[41]⟩ a' c' w2 H2 has (by omega) (by decide)
        obtain ⟨q2, hq2⟩ : ∃ q, q = preB s [41] a' := ⟨_, rfl⟩
        rw [show ((⟨#[41]⟩ : ByteArray).data.toList.isPrefixOf (s.data.toList.drop a')) = q2 from hq2.symm] at hsk2
        have HSK2 := Lib.hid hsk2; have HQ2 := Lib.hid hq2
        clear H2 K2 hsk2 hq2
        go_wp2_with fail
        refine HSK2.out.mono ?_
        cases q2
        · rintro e w3 ⟨rfl, H3, K3⟩
          have HI3 := Lib.hid (HI2.out.t hlt K3 H3)
          have HNONE : Hid (firstP arr s a c = none) := Lib.hid (by rw [HF.out, HDE.out, closeP_some, if_neg (by rw [← HQ2.out]; simp)])
          clear H3 K3
          have HFL := Lib.hid (fail_any p s a' c' false w3 HI3.out.rd)
          go_wp2_with fail
          refine HFL.out.mono ?_
          rintro e w8 ⟨rfl, H8, K8⟩
          have hi8 := HI3.out.t hlt K8 H8
          have hx := hi8.fin hlt N s a (.mk 0 0 ⟨#[]⟩ []) none 0 (TyAt.leaf _ _ 0 0 ⟨#[]⟩ none 0 (by simp [maxLen]) (by show 0 ≤ _; omega))
          simp only [Ty.kind, Ty.num, Ty.name, Ty.args, List.length_nil] at hx
          obtain ⟨Wf, hWf, hbx, hpost⟩ := hx
          obtain ⟨r0, r1, r2, r3⟩ := box4 hi8.res
          obtain ⟨s0, s1, s2, s3⟩ := box4_frozen hi8.res
          have HW := Lib.hid hWf; have HBXF := Lib.hid hbx; have HPO := Lib.hid (hpost _ (show OkM N s a (firstP arr s a c) _ _ from by rw [HNONE.out]; exact ⟨a', c', by omega, by omega, rfl⟩))
          clear hWf hbx hpost hi8 H8 K8
          unfold tyV
          go_wp2
          rw [← HW.out]
          obtain ⟨f0, f1, f2, f3⟩ := box4 HBXF.out
          refine bodyPost_ret (v := .agg #[.int .i64 0, .int .i64 0, .string ⟨#[]⟩, .slice none 0 0]) (by simp [results, Tryd.results114, go_sem, f0, f1, f2, f3]) rfl ?_
          exact HPO.out
        · have hle3 := preB_le HQ2.out.symm (by decide)
          have hle4 : a' + 1 ≤ s.size := hle3
          rintro e w3 ⟨rfl, H3, K3⟩
          have HI3 := Lib.hid (HI2.out.t hlt K3 H3)
          have HR3 := Lib.hid (RowK.above (R := TyAt) TyAt.keep HR2.out (Nat.le_refl _) (Nat.le_refl _) (fun g h1 h2 => K3.block g h2 (by omega)) K3.size)
          have H3' : Hid (w3.heap[p]? = some (rdr s (a' + 1) c' false)) := Lib.hid H3
          clear H3 K3
          obtain ⟨Ar, cr, hur, hcr, hmr⟩ := HR3.out.form
          by_cases hl1 : ts.length = 1
          · have hp0 : 0 < ts.length := by omega
            obtain ⟨gg, ccr, hg1, hg2, hg3, hcells⟩ := HR3.out.cells hp0
            have hty := HR3.out.each 0 hp0
            obtain ⟨A1, c1, hv1, -, -, -⟩ := hty.form
            have hrow := hcells 0 hp0
            rw [hv1] at hty hrow
            have e0 := hrow 0 (by omega)
            have e1 := hrow 1 (by omega)
            have e2 := hrow 2 (by omega)
            have e3 := hrow 3 (by omega)
            simp only [Nat.zero_mul, Nat.add_zero, Nat.zero_add, flatC, tyV] at e0 e1 e2 e3
            have hT1 : ts.getD 0 (.mk 0 0 ⟨#[]⟩ []) = ts[0] := by rw [List.getD_eq_getElem?_getD, List.getElem?_eq_getElem hp0]; rfl
            have HT1 := Lib.hid hT1; have HTY := Lib.hid hty
            clear hT1 hty hrow hcells hv1
            generalize ts[0] = X at *
            have x0 : w3.cell? ⟨gg, 0, none⟩ = some (.int .i64 X.kind) := e0
            have x1 : w3.cell? ⟨gg, 1, none⟩ = some (.int .i64 X.num) := e1
            have x2 : w3.cell? ⟨gg, 2, none⟩ = some (.string X.name) := e2
            have x3 : w3.cell? ⟨gg, 3, none⟩ = some (.slice A1 X.args.length c1) := e3
            clear e0 e1 e2 e3
            rw [hg1] at hur
            obtain ⟨hA, hn, hcc⟩ := Value.slice.inj hur
            have hx := HI3.out.fin hlt N s a X A1 c1 (HTY.out.sub fun g hg => ⟨by omega, hg.2.1⟩)
            obtain ⟨Wf, hWf, hbx, hpost⟩ := hx
            obtain ⟨r0, r1, r2, r3⟩ := box4 HI3.out.res
            obtain ⟨s0, s1, s2, s3⟩ := box4_frozen HI3.out.res
            have HW := Lib.hid hWf; have HBXF := Lib.hid hbx; have HPO := Lib.hid (hpost _ (show OkM N s a (firstP arr s a c) X (rdr s (a' + 1) c' false) from by
              rw [HF.out, HDE.out, closeP_some, if_pos HQ2.out.symm, if_pos hl1]
              exact ⟨HT1.out.symm, by omega, by omega, hc', rfl⟩))
            have g0 : ((ts.length : Int) == 1) = true := by simp; omega
            have HL1 := Lib.hid hl1
            clear hWf hbx hpost hl1 hA hn hcc hur
            subst hg1
            go_wp2
            rw [← HW.out]
            obtain ⟨f0, f1, f2, f3⟩ := box4 HBXF.out
            refine bodyPost_ret (v := .agg #[.int .i64 X.kind, .int .i64 X.num, .string X.name, .slice A1 X.args.length c1]) (by simp [results, Tryd.results114, go_sem, f0, f1, f2, f3]) rfl ?_
            exact HPO.out
          · have hsk4 := skip_ok p s ⟨#[32]⟩ (a' + 1) c' w3 HI3.out.rd (by omega) (by omega) (by decide)
            obtain ⟨q4, hq4⟩ : ∃ q, q = preB s [32] (a' + 1) := ⟨_, rfl⟩
            rw [show ((⟨#[32]⟩ : ByteArray).data.toList.isPrefixOf (s.data.toList.drop (a' + 1))) = q4 from hq4.symm] at hsk4
            have HSK4 := Lib.hid hsk4; have HQ4 := Lib.hid hq4; have HL1 := Lib.hid hl1
            have g0 : ((ts.length : Int) == 1) = false := by simp; omega
            clear hsk4 hq4 hl1
            rw [hur]
            go_wp2_with fail
            refine HSK4.out.mono ?_
            cases q4
            · rintro e w4 ⟨rfl, H4, K4⟩
              have HI4 := Lib.hid (HI3.out.t hlt K4 H4)
              have HNONE : Hid (firstP arr s a c = none) := Lib.hid (by rw [HF.out, HDE.out, closeP_some, if_pos HQ2.out.symm, if_neg HL1.out, if_neg (by rw [← HQ4.out]; simp)])
              clear H4 K4
              have HFL := Lib.hid (fail_any p s (a' + 1) c' false w4 HI4.out.rd)
              go_wp2_with fail
              refine HFL.out.mono ?_
              rintro e w8 ⟨rfl, H8, K8⟩
              have hi8 := HI4.out.t hlt K8 H8
              have hx := hi8.fin hlt N s a (.mk 0 0 ⟨#[]⟩ []) none 0 (TyAt.leaf _ _ 0 0 ⟨#[]⟩ none 0 (by simp [maxLen]) (by show 0 ≤ _; omega))
              simp only [Ty.kind, Ty.num, Ty.name, Ty.args, List.length_nil] at hx
              obtain ⟨Wf, hWf, hbx, hpost⟩ := hx
              obtain ⟨r0, r1, r2, r3⟩ := box4 hi8.res
              obtain ⟨s0, s1, s2, s3⟩ := box4_frozen hi8.res
              have HW := Lib.hid hWf; have HBXF := Lib.hid hbx; have HPO := Lib.hid (hpost _ (show OkM N s a (firstP arr s a c) _ _ from by rw [HNONE.out]; exact ⟨(a' + 1), c', by omega, by omega, rfl⟩))
              clear hWf hbx hpost hi8 H8 K8
              unfold tyV
              go_wp2
              rw [← HW.out]
              obtain ⟨f0, f1, f2, f3⟩ := box4 HBXF.out
              refine bodyPost_ret (v := .agg #[.int .i64 0, .int .i64 0, .string ⟨#[]⟩, .slice none 0 0]) (by simp [results, Tryd.results114, go_sem, f0, f1, f2, f3]) rfl ?_
              exact HPO.out
            · have hle5 := preB_le HQ4.out.symm (by decide)
              have hle6 : a' + 2 ≤ s.size := hle5
              rintro e w4 ⟨rfl, H4, K4⟩
              have HI4 := Lib.hid (HI3.out.t hlt K4 H4)
              have HR4 := Lib.hid (RowK.above (R := TyAt) TyAt.keep HR3.out (Nat.le_refl _) (Nat.le_refl _) (fun g h1 h2 => K4.block g h2 (by omega)) K4.size)
              have HNM := Lib.hid (name_any p s (a' + 2) c' false w4 H4 hle6 (by omega))
              clear H4 K4
              go_wp2_with fail
              refine HNM.out.mono ?_
              rintro e w5 ⟨rfl, hne, H5, K5, -⟩
              have HI5 := Lib.hid (HI4.out.t hlt K5 H5)
              have HR5 := Lib.hid (RowK.above (R := TyAt) TyAt.keep HR4.out (Nat.le_refl _) (Nat.le_refl _) (fun g h1 h2 => K5.block g h2 (by omega)) K5.size)
              have hex := extract_le s (a' + 2) (nmEnd s (a' + 2))
              have hna := nmEnd_le s (a' + 2)
              have HPT := Lib.hid (part_any p s (nmEnd s (a' + 2)) c' false 2 0 (s.extract (a' + 2) (nmEnd s (a' + 2))) Ar ts.length cr w5 H5 (by omega) (by omega))
              unfold tyV at HPT
              clear H5 K5
              go_wp2_with fail
              refine HPT.out.mono ?_
              rintro e w6 ⟨rfl, H6, K6⟩
              have hi6 := HI5.out.t hlt K6 H6
              have hr6 := RowK.above (R := TyAt) TyAt.keep HR5.out (Nat.le_refl _) (Nat.le_refl _) (fun g h1 h2 => K6.block g h2 (by omega)) K6.size
              obtain ⟨A7, c7, he7, hty7⟩ := hr6.ty 2 0 (s.extract (a' + 2) (nmEnd s (a' + 2))) (by omega)
              rw [hur] at he7
              obtain ⟨rfl, -, rfl⟩ := Value.slice.inj he7
              have hx := hi6.fin hlt N s a (.mk 2 0 (s.extract (a' + 2) (nmEnd s (a' + 2))) ts) Ar cr (hty7.sub fun g hg => ⟨by omega, hg.2⟩)
              simp only [Ty.kind, Ty.num, Ty.name, Ty.args] at hx
              obtain ⟨Wf, hWf, hbx, hpost⟩ := hx
              obtain ⟨r0, r1, r2, r3⟩ := box4 hi6.res
              obtain ⟨s0, s1, s2, s3⟩ := box4_frozen hi6.res
              have hok : OkM N s a (firstP arr s a c) (.mk 2 0 (s.extract (a' + 2) (nmEnd s (a' + 2))) ts) (rdr s (nmEnd s (a' + 2)) ((c' : Int) + 1) (false || decide (300 < (c' : Int) + 1))) := by
                rw [HF.out, HDE.out, closeP_some, if_pos HQ2.out.symm, if_neg HL1.out, if_pos HQ4.out.symm]
                unfold OkM partP
                by_cases h3 : c' + 1 ≤ 300
                · rw [if_pos h3]
                  refine ⟨rfl, by omega, hne, h3, ?_⟩
                  rw [Bool.false_or, decide_eq_false (by omega), show ((c' + 1 : Nat) : Int) = (c' : Int) + 1 by omega]
                · rw [if_neg h3]
                  refine ⟨nmEnd s (a' + 2), c' + 1, hne, by omega, ?_⟩
                  rw [Bool.false_or, decide_eq_true (by omega), show ((c' + 1 : Nat) : Int) = (c' : Int) + 1 by omega]
              have HW := Lib.hid hWf; have HBXF := Lib.hid hbx; have HPO := Lib.hid (hpost _ hok)
              clear hWf hbx hpost hok hi6 hr6 hty7 he7 H6 K6
              generalize hnm : s.extract (a' + 2) (nmEnd s (a' + 2)) = nm at *
              go_wp2
              rw [← HW.out]
              obtain ⟨f0, f1, f2, f3⟩ := box4 HBXF.out
              refine bodyPost_ret (v := .agg #[.int .i64 2, .int .i64 0, .string nm, .slice Ar ts.length cr]) (by simp [results, Tryd.results114, go_sem, f0, f1, f2, f3]) rfl ?_
              exact HPO.out
      · have hle := preB_le HQ.out.symm (by decide)
        have hle2 : a' + 2 ≤ s.size := hle
        go_wp2_with fail
        refine HSK.out.mono ?_
        rintro e w2 ⟨rfl, H2, K2⟩
        have HI2 := Lib.hid (HI.out.t hlt K2 H2)
        have HA2 := Lib.hid (HAR.out (a' + 2) c' w2 H2 (by omega) hc')
        have hr2 := RowK.above (R := TyAt) TyAt.keep HR.out (Nat.le_refl _) (Nat.le_refl _) (fun g h1 h2 => K2.block g h2 (by omega)) K2.size
        have HR2 := Lib.hid hr2
        clear H2 K2 hr2
        go_wp2_with fail
        refine HA2.out.mono ?_
        rintro e w3 ⟨T, A, cc, o3, rfl, hT, hk3, ho3, hm3⟩
        have HI3 := Lib.hid (HI2.out.t hlt hk3 ho3)
        have hz2 := HI2.out.size
        have hr3 := RowK.above (R := TyAt) TyAt.keep HR2.out (Nat.le_refl _) (Nat.le_refl _) (fun g h1 h2 => hk3.block g h2 (by omega)) hk3.size
        have hst3 : LSt arr N s [44, 32] (a' + 2) D (ts ++ [T]) o3 := LSt.next (by decide) HQ.out.symm hle ha0 hf htl HDD.out hm3
        have HR3 := Lib.hid hr3; have HST3 := Lib.hid hst3; have HT3 := Lib.hid hT
        have hown := hr3.own
        obtain ⟨us', hus⟩ : ∃ us', us' = us.flatMap flatC := ⟨_, rfl⟩
        rw [← hus] at hown
        have hz3 := hk3.size
        have hlr : ∀ g, u5.ownBlock = some g → g < w2.heap.size := fun g e => (HR2.out.lt g e).2
        have HLR := Lib.hid hlr
        clear hr3 hst3 hT hk3 ho3 hm3 hlr
        have hnext : Hid (∀ (v' : Value) (W4 : World), W4.ownsRow (w.heap.size + 1) 24 4 v' (ts.length + 1) (us' ++ [.int .i64 T.kind, .int .i64 T.num, .string T.name, .slice A T.args.length cc]) → (w3.alloc (.cells #[.int .i64 T.kind, .int .i64 T.num, .string T.name, .slice A T.args.length cc] 24)).grownBy W4 u5.ownBlock →
            (v'.ownBlock = u5.ownBlock ∨ v'.ownBlock = some (w3.alloc (.cells #[.int .i64 T.kind, .int .i64 T.num, .string T.name, .slice A T.args.length cc] 24)).heap.size) →
            RowK 24 4 TyAt (w.heap.size + 1) (w.heap.size + 1) W4 (ts ++ [T]) v' (us ++ [tyV T.kind T.num T.name A T.args.length cc]) ∧ RdI w p o3 W4) := Lib.hid fun v' W4 h1 h2 h3 => by
          refine ⟨RowK.next (R := TyAt) TyAt.keep HR3.out HT3.out (fun g hg => ⟨by omega, hg.2, fun e => ?_⟩) rfl _ (by rw [← hus]; exact h1) h2 h3, ?_⟩
          · have := HLR.out g e; omega
          · have hal : (w3.alloc (.cells #[.int .i64 T.kind, .int .i64 T.num, .string T.name, .slice A T.args.length cc] 24)).heap.size = w3.heap.size + 1 := by simp
            have hI := HI3.out
            have hsz := hI.size
            have hlp := lt_blk hI.rd
            have hown3 := fun g e => HR3.out.lt g e
            have key : ∀ g, g < w3.heap.size → g ≤ w.heap.size → W4.heap[g]? = w3.heap[g]? := fun g hg hle2 => by
              rw [h2.block g (by omega) (fun e => by have := (hown3 g e.symm).1; omega), Below.heap_alloc _ _ _ hg]
            refine ⟨(key p hlp (by omega)).trans hI.rd, (key _ hsz (Nat.le_refl _)).trans hI.res, h2.os.trans hI.kept.os, h2.tape.trans hI.kept.tape, h2.output.trans hI.kept.output, by have := h2.size; omega, fun g hg hp => ?_⟩
            exact (key g (by omega) (by omega)).trans (hI.kept.block g hg hp)
        unfold tyV
        go_wp2_with (at_builtin; refine wpList_appK _ rfl _ _ _ rfl (w.heap.size + 1) _ 4 tyE _ ts.length us' rfl (World.ownsRow.alloc hown _) ⟨w3.heap.size, 0, none⟩ 1 1 [.int .i64 T.kind, .int .i64 T.num, .string T.name, .slice A T.args.length cc] rfl rfl (cells_new _ _ _) (one4 _ _ _ _ _ _) (by omega) (by simp; omega) ?_; intro v9 w9 hown9 hg9 hat9)
        obtain ⟨hr9, hi9⟩ := hnext.out v9 w9 hown9 hg9 hat9
        go_roundw
        case rel => exact ⟨ts ++ [T], _, o3, Lib.hid hr9, Lib.hid hi9, Lib.hid (HST3.out.weak (by omega))⟩
        case measure =>
          rw [HM.out]
          rcases HST3.out with ⟨b', e', f', rfl, h1, h2, -⟩ | ⟨b', z', rfl, -⟩
          · rw [leftOf_ok hi9.rd]; omega
          · rw [leftOf_bad hi9.rd]; omega
    · have HNONE : Hid (firstP arr s a c = none) := Lib.hid (by rw [HF.out, hD]; rfl)
      have HSK := Lib.hid (skip_bad p s ⟨#[44, 32]⟩ a' z wr HI.out.rd)
      clear hD
      go_wp2_with fail
      refine HSK.out.mono ?_
      rintro e w2 ⟨rfl, H2, K2⟩
      have HI2 := Lib.hid (HI.out.t hlt K2 H2)
      have HSK2 := Lib.hid (skip_bad p s ⟨#[41]⟩ a' z w2 H2)
      clear H2 K2
      go_wp2_with fail
      refine HSK2.out.mono ?_
      rintro e w3 ⟨rfl, H3, K3⟩
      have HI3 := Lib.hid (HI2.out.t hlt K3 H3)
      clear H3 K3
      have HFL := Lib.hid (fail_any p s a' z true w3 HI3.out.rd)
      go_wp2_with fail
      refine HFL.out.mono ?_
      rintro e w8 ⟨rfl, H8, K8⟩
      have hi8 := HI3.out.t hlt K8 H8
      have hx := hi8.fin hlt N s a (.mk 0 0 ⟨#[]⟩ []) none 0 (TyAt.leaf _ _ 0 0 ⟨#[]⟩ none 0 (by simp [maxLen]) (by show 0 ≤ _; omega))
      simp only [Ty.kind, Ty.num, Ty.name, Ty.args, List.length_nil] at hx
      obtain ⟨Wf, hWf, hbx, hpost⟩ := hx
      obtain ⟨r0, r1, r2, r3⟩ := box4 hi8.res
      obtain ⟨s0, s1, s2, s3⟩ := box4_frozen hi8.res
      have HW := Lib.hid hWf; have HBXF := Lib.hid hbx; have HPO := Lib.hid (hpost _ (show OkM N s a (firstP arr s a c) _ _ from by rw [HNONE.out]; exact ⟨a', z, by omega, by omega, rfl⟩))
      clear hWf hbx hpost hi8 H8 K8
      unfold tyV
      go_wp2
      rw [← HW.out]
      obtain ⟨f0, f1, f2, f3⟩ := box4 HBXF.out
      refine bodyPost_ret (v := .agg #[.int .i64 0, .int .i64 0, .string ⟨#[]⟩, .slice none 0 0]) (by simp [results, Tryd.results114, go_sem, f0, f1, f2, f3]) rfl ?_
      exact HPO.out
end Go.Proofs.YtbhicpjhijondaaDoor
