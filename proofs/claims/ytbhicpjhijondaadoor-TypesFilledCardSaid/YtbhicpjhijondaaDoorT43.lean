/- A type with types in the places of its variables: law12.filled. -/
import Derived.Test.YtbhicpjhijondaaDoorT42
namespace Go.Typ
open Go.RowKit Go.Lib Go.Vfs Go.Par
/-- what a variable becomes. -/
def fillV (ws : List Ty) (n : Int) : Ty := match ws[n.toNat % ws.length]? with | some U => U | none => .mk 1 n ⟨#[]⟩ []
mutual
def fillT (ws : List Ty) : Ty → Ty
  | .mk k n s ts => if k = 1 then (match ws[n.toNat % ws.length]? with | some U => U | none => .mk k n s ts) else .mk k n s (fillL ws ts)
def fillL (ws : List Ty) : List Ty → List Ty
  | [] => []
  | t :: ts => fillT ws t :: fillL ws ts
end
theorem fillL_map (ws ts : List Ty) : fillL ws ts = ts.map (fillT ws) := by
  induction ts with
  | nil => rfl
  | cons t ts ih => rw [fillL, ih, List.map_cons]
theorem fillT_other (ws : List Ty) {T : Ty} (h : ¬ T.kind = 1) : fillT ws T = .mk T.kind T.num T.name (T.args.map (fillT ws)) := by
  obtain ⟨k, n, s, ts⟩ := T
  have h : ¬ k = 1 := h
  rw [fillT, if_neg h, fillL_map]; rfl
theorem fillT_none {T : Ty} (h : T.kind = 1) : fillT [] T = T := by
  obtain ⟨k, n, s, ts⟩ := T
  have h : k = 1 := h
  rw [fillT, if_pos h]; rfl
theorem fillT_some {ws : List Ty} {T : Ty} (h : T.kind = 1) (hk : T.num.toNat % ws.length < ws.length) : fillT ws T = ws[T.num.toNat % ws.length] := by
  obtain ⟨k, n, s, ts⟩ := T
  have h : k = 1 := h
  have hk : n.toNat % ws.length < ws.length := hk
  rw [fillT, if_pos h, List.getElem?_eq_getElem hk]
  rfl
/-- a row of types. -/
def RowsT (S : Nat → Prop) (W : World) (v : Value) (ts : List Ty) : Prop := ∃ A c, v = .slice A ts.length c ∧ TyAt S W (tyV 3 0 ⟨#[]⟩ A ts.length c) (.mk 3 0 ⟨#[]⟩ ts)
theorem RowsT.blw {W W' : World} {v : Value} {ts : List Ty} (h : RowsT (· < W.heap.size) W v ts) (hb : Below W.heap.size W W') : RowsT (· < W'.heap.size) W' v ts := by
  obtain ⟨A, c, e, h⟩ := h; exact ⟨A, c, e, h.blw hb⟩
theorem RowsT.keep {S S' : Nat → Prop} {W W' : World} {v : Value} {ts : List Ty} (h : RowsT S W v ts) (hk : ∀ b, S b → S' b ∧ W'.heap[b]? = W.heap[b]?) : RowsT S' W' v ts := by
  obtain ⟨A, c, e, h⟩ := h; exact ⟨A, c, e, h.keep hk⟩
theorem RowsT.arg {S : Nat → Prop} {W : World} {A : Option Addr} {n c : Nat} {ts : List Ty} (h : RowsT S W (.slice A n c) ts) {i : Nat} (hi : i < ts.length) :
    ∃ b off A' c', A = some ⟨b, off, none⟩ ∧ S b ∧ TyAt S W (tyV ts[i].kind ts[i].num ts[i].name A' ts[i].args.length c') ts[i] ∧
      W.cell? ⟨b, off + i * 4, none⟩ = some (.int .i64 ts[i].kind) ∧ W.cell? ⟨b, off + i * 4 + 1, none⟩ = some (.int .i64 ts[i].num) ∧
      W.cell? ⟨b, off + i * 4 + 2, none⟩ = some (.string ts[i].name) ∧ W.cell? ⟨b, off + i * 4 + 3, none⟩ = some (.slice A' ts[i].args.length c') := by
  obtain ⟨A0, c0, e, h⟩ := h
  injection e with e1 e2 e3
  subst e1 e2 e3
  exact h.arg (i := i) hi
theorem RowsT.form {S : Nat → Prop} {W : World} {v : Value} {ts : List Ty} (h : RowsT S W v ts) : ∃ A c, v = .slice A ts.length c ∧ ts.length ≤ c ∧ c ≤ maxLen := by
  obtain ⟨A, c, e, h⟩ := h
  obtain ⟨_, _, _, _, h1, h2⟩ := h.tail
  exact ⟨A, c, e, h1, h2⟩
end Go.Typ
namespace Go.Proofs.YtbhicpjhijondaaDoor
open Go.RowKit Go.Lib Go.Vfs Go.Par Go.Typ
set_option linter.unusedVariables false
set_option linter.unusedSimpArgs false

set_option maxRecDepth 20000 in
set_option maxHeartbeats 1000000 in
theorem filled_any (ws : List Ty) (hw : ∀ t ∈ ws, t.parts ≤ 1000) (hwl : ws.length ≤ 1000) (T : Ty) : ∀ (v u : Value) (w : World), TyAt (· < w.heap.size) w v T → RowsT (· < w.heap.size) w u ws → (∀ x ∈ T.list, fitsT x = true) → T.parts ≤ 1099511627776 →
    Calls Tryd.prog 26 #[v, u] w fun e w' => ∃ A c, e = .returned (tyV (fillT ws T).kind (fillT ws T).num (fillT ws T).name A (fillT ws T).args.length c) ∧
      TyC (fun g => w.heap.size ≤ g ∧ g < w'.heap.size) w' (tyV (fillT ws T).kind (fillT ws T).num (fillT ws T).name A (fillT ws T).args.length c) (fillT ws T) ∧ Below w.heap.size w w' := by
  induction T using Ty.ind with
  | h T ih =>
    intro v u w hT hU hF hp
    have IH := Lib.hid ih
    clear ih
    obtain ⟨A, c, rfl, hc, hm, hn⟩ := hT.form
    obtain ⟨Aw, cw, rfl, hcw, hmw⟩ := hU.form
    have hla : T.args.length ≤ 1099511627776 := by have := length_parts T.args; rw [T.parts_eq] at hp; omega
    obtain ⟨W1, hW1⟩ : ∃ W1, W1 = (w.alloc (.cells #[.int .i64 T.kind, .int .i64 T.num, .string T.name, .slice A T.args.length c] 24)).alloc (.cells #[.int .i64 0, .int .i64 0, .string ⟨#[]⟩, .slice none 0 0] 24) := ⟨_, rfl⟩
    have hL : Loop4 w W1 w.heap.size T A c := by
      refine ⟨?_, by rw [hW1]; simp; omega, Nat.le_refl _, by rw [hW1]; exact ((Below.refl _ _).alloc (Nat.le_refl _) _).alloc (by simp) _, hT⟩
      rw [hW1, Below.heap_alloc _ _ _ (by simp)]
      exact heap_alloc_new _ _
    have hres : W1.heap[w.heap.size + 1]? = some (.cells #[.int .i64 0, .int .i64 0, .string ⟨#[]⟩, .slice none 0 0] 24 (0, 0)) := by
      rw [hW1]
      have := heap_alloc_new (w.alloc (.cells #[.int .i64 T.kind, .int .i64 T.num, .string T.name, .slice A T.args.length c] 24)) (.cells #[.int .i64 0, .int .i64 0, .string ⟨#[]⟩, .slice none 0 0] 24)
      simpa using this
    have hz1 : W1.heap.size = w.heap.size + 2 := by rw [hW1]; simp
    have hfs := hF T (by rw [T.list_eq]; exact List.mem_cons_self)
    have hFa : ∀ i (h : i < T.args.length), ∀ x ∈ (T.args[i]).list, fitsT x = true := fun i h x hx => hF x (by
      rw [T.list_eq]
      exact List.mem_cons_of_mem _ (mem_listL (List.getElem_mem h) hx))
    have HL := Lib.hid hL; have HRS := Lib.hid hres; have HP := Lib.hid hp; have HZ1 := Lib.hid hz1; have HU := Lib.hid hU; have HFA := Lib.hid hFa
    obtain ⟨y0, y1, y2, y3⟩ := box4 hL.box
    obtain ⟨r0, r1, r2, r3⟩ := box4 hres
    obtain ⟨s0, s1, s2, s3⟩ := box4_frozen hres
    rw [hW1] at y0 y1 y2 y3 r0 r1 r2 r3 s0 s1 s2 s3
    clear hT hL hres hp hz1 hU hF hFa
    unfold tyV
    by_cases k1 : T.kind = 1
    · have hv : T.args = [] ∧ 0 ≤ T.num ∧ T.num < 1073741824 := by
        obtain ⟨k, n, nm, ts⟩ := T
        rcases fits_kinds hfs with ⟨_, h1, h2, _, h3⟩ | ⟨h, _⟩ | ⟨h, _⟩ | ⟨h, _⟩
        · exact ⟨List.eq_nil_of_length_eq_zero h3, h1, h2⟩
        all_goals (rw [k1] at h; cases h)
      have HB1 : Hid (Below w.heap.size w W1) := Lib.hid HL.out.below
      have h1 : (T.kind == 1) = true := by simp [k1]
      have K1 := Lib.hid k1
      rw [k1] at h1 y0 y1 y2 y3 r0 r1 r2 r3 s0 s1 s2 s3 hW1 ⊢
      clear k1
      by_cases hw0 : ws.length = 0
      · obtain rfl : ws = [] := List.eq_nil_of_length_eq_zero hw0
        rw [fillT_none K1.out, K1.out]
        have HC0 : Hid (∀ S W, TyC S W (tyV T.kind T.num T.name A T.args.length c) T) := Lib.hid fun S W => TyC.leaf HL.out.ty hv.1 S W
        have h2 : (((([] : List Ty).length : Nat) : Int) == 0) = true := by simp
        clear hw0 hv hfs
        go_enter Tryd.func26, Tryd.ntmps26
        go_wp2
        obtain ⟨Wf, hWf⟩ : ∃ Wf, Wf = (w.alloc (.cells #[.int .i64 1, .int .i64 T.num, .string T.name, .slice A T.args.length c] 24)).alloc (.cells #[.int .i64 1, .int .i64 T.num, .string T.name, .slice A T.args.length c] 24) := ⟨_, rfl⟩
        have hbf : Below w.heap.size w Wf := by rw [hWf]; exact ((Below.refl _ _).alloc (Nat.le_refl _) _).alloc (by simp) _
        have hbx : Wf.heap[w.heap.size + 1]? = some (.cells #[.int .i64 1, .int .i64 T.num, .string T.name, .slice A T.args.length c] 24 (0, 0)) := by
          rw [hWf]
          have := heap_alloc_new (w.alloc (.cells #[.int .i64 1, .int .i64 T.num, .string T.name, .slice A T.args.length c] 24)) (.cells #[.int .i64 1, .int .i64 T.num, .string T.name, .slice A T.args.length c] 24)
          simpa using this
        rw [← hWf]
        obtain ⟨f0, f1, f2, f3⟩ := box4 hbx
        refine bodyPost_ret (v := .agg #[.int .i64 1, .int .i64 T.num, .string T.name, .slice A T.args.length c]) (by simp [results, Tryd.results26, go_sem, f0, f1, f2, f3]) rfl ?_
        refine ⟨A, c, rfl, ?_, hbf⟩
        have h := HC0.out (fun g => w.heap.size ≤ g ∧ g < Wf.heap.size) Wf
        rw [K1.out] at h
        exact h
      · have hk : T.num.toNat % ws.length < ws.length := Nat.mod_lt _ (by omega)
        rw [fillT_some K1.out hk]
        have hrem : T.num.tmod (ws.length : Int) = ((T.num.toNat % ws.length : Nat) : Int) := by
          obtain ⟨m, hm⟩ : ∃ m : Nat, T.num = (m : Int) := ⟨T.num.toNat, by omega⟩
          rw [hm, Int.toNat_natCast]
          exact (Int.ofNat_tmod _ _).symm
        have h2 : ((ws.length : Int) == 0) = false := by simp; intro h; exact hw0 (by rw [h]; rfl)
        obtain ⟨b, off, A', c', rfl, hb, ht, x0, x1, x2, x3⟩ := (HU.out.blw HB1.out).arg hk
        obtain ⟨k, hkd⟩ : ∃ k, k = T.num.toNat % ws.length := ⟨_, rfl⟩
        have hpw := hw ws[T.num.toNat % ws.length] (List.getElem_mem hk)
        generalize ws[T.num.toNat % ws.length] = X at *
        have hca := copyTypeC_any X _ W1 ht (by omega)
        rw [← hkd] at hk hrem x0 x1 x2 x3
        rw [hW1] at x0 x1 x2 x3
        unfold tyV at hca
        have HCA := Lib.hid hca
        have HK1 := Lib.hid hkd
        obtain ⟨tl, htl⟩ : ∃ tl, tl = T.args.length := ⟨_, rfl⟩
        have hnm := T.name
        clear hkd hca ht hv hpw
        go_enter Tryd.func26, Tryd.ntmps26
        go_wp2_with fail
        rw [← hW1]
        refine HCA.out.mono ?_
        rintro e w2 ⟨A2, c2, rfl, hT2, hb2⟩
        have hbx2 := (hb2.block (w.heap.size + 1) (by have := HZ1.out; omega)).trans HRS.out
        have HT2 := Lib.hid hT2
        have HB2 := Lib.hid hb2
        obtain ⟨u0, u1, u2, u3⟩ := box4 hbx2
        obtain ⟨v0, v1, v2, v3⟩ := box4_frozen hbx2
        have HBX2 := Lib.hid hbx2
        clear hT2 hb2 hbx2 x0 x1 x2 x3 y0 y1 y2 y3 r0 r1 r2 r3 s0 s1 s2 s3
        go_wp2
        obtain ⟨Wf, hWf⟩ : ∃ Wf, Wf = ((((w2.setCell ⟨w.heap.size + 1, 0, none⟩ (.int .i64 X.kind)).setCell ⟨w.heap.size + 1, 1, none⟩ (.int .i64 X.num)).setCell ⟨w.heap.size + 1, 2, none⟩ (.string X.name)).setCell ⟨w.heap.size + 1, 3, none⟩ (.slice A2 X.args.length c2)) := ⟨_, rfl⟩
        have hkp : Kept (fun g => g = w.heap.size + 1) w2 Wf := by
          rw [hWf]
          exact kept4 (Kept.refl _ _) (.inl rfl)
        have hbx : Wf.heap[w.heap.size + 1]? = some (.cells #[.int .i64 X.kind, .int .i64 X.num, .string X.name, .slice A2 X.args.length c2] 24 (0, 0)) := by
          rw [hWf]
          exact put4 HBX2.out
        have hz1 := HZ1.out
        have hz2 := HB2.out.size
        have hzf := hkp.size
        rw [← hWf]
        obtain ⟨f0, f1, f2, f3⟩ := box4 hbx
        refine bodyPost_ret (v := .agg #[.int .i64 X.kind, .int .i64 X.num, .string X.name, .slice A2 X.args.length c2]) (by simp [results, Tryd.results26, go_sem, f0, f1, f2, f3]) rfl ?_
        exact ⟨A2, c2, rfl, HT2.out.keep fun g hg => ⟨by omega, hkp.block g hg.2 (by omega)⟩, (HB1.out.trans (HB2.out.mono (by omega))).trans (hkp.below (by omega) (fun g hg => by omega))⟩
    · rw [fillT_other ws k1]
      change Calls Tryd.prog 26 _ w fun e w' => ∃ A c, e = .returned (.agg #[.int .i64 T.kind, .int .i64 T.num, .string T.name, .slice A (T.args.map (fillT ws)).length c]) ∧
        TyC (fun g => w.heap.size ≤ g ∧ g < w'.heap.size) w' (.agg #[.int .i64 T.kind, .int .i64 T.num, .string T.name, .slice A (T.args.map (fillT ws)).length c]) (.mk T.kind T.num T.name (T.args.map (fillT ws))) ∧ Below w.heap.size w w'
      rw [List.length_map]
      have h1 : (T.kind == 1) = false := by simp [k1]
      have HNM : Hid (T.name.size ≤ 9223372036854775807) := Lib.hid hn
      clear hfs
      go_enter Tryd.func26, Tryd.ntmps26
      go_wp2
      rw [← hW1]
      clear y0 y1 y2 y3 r0 r1 r2 r3 s0 s1 s2 s3 h1
      go_loopw [5, 6] (fun sv iv W => ∃ (k : Nat) (us : List Value), k ≤ T.args.length ∧ iv = .int .i64 k ∧ Hid (RowK 24 4 TyC W1.heap.size W1.heap.size W ((T.args.map (fillT ws)).take k) sv us) ∧ Hid (Below W1.heap.size W1 W)) (fun _ iv _ => T.args.length - (RowKit.intOf iv).toNat)
      case atStart =>
        refine ⟨0, [], by omega, rfl, Lib.hid ?_, Lib.hid ((Below.refl _ _).alloc (Nat.le_refl _) _)⟩
        have h := RowK.made (e := 24) (k := 4) (R := TyC) (L := W1.heap.size) (B := W1.heap.size) W1 (Nat.le_refl _)
        rw [HZ1.out] at h ⊢
        exact h
      case round =>
        obtain ⟨k, us, hk, rfl, HR, HB⟩ := hrel
        obtain ⟨y0, y1, y2, y3⟩ := box4 (HL.out.in_ HB.out)
        obtain ⟨q0, q1, q2, q3⟩ := box4_frozen (HL.out.in_ HB.out)
        by_cases hlt : k < T.args.length
        · obtain ⟨b, off, A', c', rfl, hb, ht, x0, x1, x2, x3⟩ := (HL.out.ty' HB.out).arg hlt
          have hbw : Below w.heap.size w wr := HL.out.all HB.out
          have hca := IH.out k hlt _ _ wr ht (HU.out.blw hbw) (HFA.out k hlt) (by have := Ty.parts_arg hlt; have := HP.out; omega)
          have hmk : (T.args.map (fillT ws))[k]? = some (fillT ws T.args[k]) := by rw [List.getElem?_map, List.getElem?_eq_getElem hlt]; rfl
          have HTK : Hid ((T.args.map (fillT ws)).take (k + 1) = (T.args.map (fillT ws)).take k ++ [fillT ws T.args[k]]) := Lib.hid (by rw [List.take_add_one, hmk]; rfl)
          have hlk : ((T.args.map (fillT ws)).take k).length = k := by rw [List.length_take, List.length_map]; omega
          have HLK := Lib.hid hlk
          clear ht hlk hmk
          generalize fillT ws T.args[k] = U at *
          generalize T.args[k] = V at *
          unfold tyV at hca
          have HCA := Lib.hid hca
          have hzb := HB.out.size
          clear hca hbw
          go_wp2_with fail
          refine HCA.out.mono ?_
          rintro e w2 ⟨A2, c2, rfl, hu, HB2⟩
          have hr2 := RowK.below (R := TyC) TyC.keep HR.out HB2
          have HR2 := Lib.hid hr2; have HU2 := Lib.hid hu
          have hown := hr2.own
          rw [HLK.out] at hown
          obtain ⟨us', hus⟩ : ∃ us', us' = us.flatMap flatC := ⟨_, rfl⟩
          rw [← hus] at hown
          have hz2 := HB2.size
          clear hr2 hu
          go_wp2_with (at_builtin; refine wpList_appK _ rfl _ _ _ rfl W1.heap.size _ 4 tyE _ k us' rfl (World.ownsRow.alloc hown _) ⟨w2.heap.size, 0, none⟩ 1 1 [.int .i64 U.kind, .int .i64 U.num, .string U.name, .slice A2 U.args.length c2] rfl rfl (cells_new _ _ _) (one4 _ _ _ _ _ _) (by omega) (by simp; omega) ?_; intro v3 w3 hown3 hg3 hat3)
          go_roundw
          case rel =>
            refine ⟨k + 1, us ++ [.agg #[.int .i64 U.kind, .int .i64 U.num, .string U.name, .slice A2 U.args.length c2]], by omega, by go_num, Lib.hid ?_, Lib.hid ?_⟩
            · rw [HTK.out]
              refine RowK.next (R := TyC) TyC.keep HR2.out HU2.out (fun g hg => ⟨by omega, hg.2, fun e => ?_⟩) rfl _ ?_ hg3 hat3
              · have := HR.out.lt g e; omega
              · rw [HLK.out, ← hus]; exact hown3
            · exact below_grow (HB.out.trans (HB2.mono hzb)) (by omega) _ hg3 (fun g e => (hown.lt g e).1)
          case measure => simp [RowKit.intOf]; omega
        · have hkl : k = T.args.length := by omega
          subst hkl
          have hr := HR.out
          rw [show (T.args.map (fillT ws)).take T.args.length = T.args.map (fillT ws) from List.take_of_length_le (by simp)] at hr
          obtain ⟨A2, c2, rfl, hty⟩ := hr.tyC T.kind T.num T.name HNM.out
          have hlm : (T.args.map (fillT ws)).length = T.args.length := by simp
          have hres : wr.heap[w.heap.size + 1]? = some (.cells #[.int .i64 0, .int .i64 0, .string ⟨#[]⟩, .slice none 0 0] 24 (0, 0)) := by
            rw [HB.out.block _ (by have := HZ1.out; omega)]; exact HRS.out
          obtain ⟨r0, r1, r2, r3⟩ := box4 hres
          obtain ⟨s0, s1, s2, s3⟩ := box4_frozen hres
          rw [hlm] at hty
          have HTY := Lib.hid hty
          have HRB := Lib.hid hres
          clear hty hr hres hlm
          go_wp2
          obtain ⟨Wf, hWf⟩ : ∃ Wf, Wf = (((((wr.setCell ⟨w.heap.size, 3, none⟩ (.slice A2 T.args.length c2)).setCell ⟨w.heap.size + 1, 0, none⟩ (.int .i64 T.kind)).setCell ⟨w.heap.size + 1, 1, none⟩ (.int .i64 T.num)).setCell ⟨w.heap.size + 1, 2, none⟩ (.string T.name)).setCell ⟨w.heap.size + 1, 3, none⟩ (.slice A2 T.args.length c2)) := ⟨_, rfl⟩
          have hkp : Kept (fun g => g = w.heap.size ∨ g = w.heap.size + 1) wr Wf := by
            rw [hWf]
            exact kept4 ((Kept.refl _ _).setCell (p := ⟨w.heap.size, 3, none⟩) (.inl (.inl rfl)) _) (.inl (.inr rfl))
          have hbx : Wf.heap[w.heap.size + 1]? = some (.cells #[.int .i64 T.kind, .int .i64 T.num, .string T.name, .slice A2 T.args.length c2] 24 (0, 0)) := by
            rw [hWf]
            refine put4 (u0 := .int .i64 0) (u1 := .int .i64 0) (u2 := .string ⟨#[]⟩) (u3 := .slice none 0 0) ?_
            rw [Below.heap_setCell _ _ _ _ (by simp)]
            exact HRB.out
          have hz1 := HZ1.out
          have hzr := HB.out.size
          have hzf := hkp.size
          rw [← hWf]
          obtain ⟨f0, f1, f2, f3⟩ := box4 hbx
          refine bodyPost_ret (v := .agg #[.int .i64 T.kind, .int .i64 T.num, .string T.name, .slice A2 T.args.length c2]) (by simp [results, Tryd.results26, go_sem, f0, f1, f2, f3]) rfl ?_
          refine ⟨A2, c2, rfl, ?_, (HL.out.all HB.out).trans (hkp.below (by omega) (fun g hg => by omega))⟩
          exact TyC.keep HTY.out fun g hg => ⟨by omega, hkp.block g hg.2 (by omega)⟩
end Go.Proofs.YtbhicpjhijondaaDoor
