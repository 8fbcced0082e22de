/- Copies of types. -/
import Derived.Test.YtbhicpjhijondaaDoorT2
namespace Go.Proofs.YtbhicpjhijondaaDoor
open Go.RowKit Go.Lib Go.Vfs Go.Par Go.Typ
set_option linter.unusedVariables false
set_option linter.unusedSimpArgs false

theorem tyE : ElemK Tryd.prog 22 24 4 := elemK_of (b := 56) (z := .agg #[.int .i64 0, .int .i64 0, .string ⟨#[]⟩, .slice none 0 0]) Tryd.underlying22 (by kernel_rfl) (by decide) rfl (by decide)
theorem one4 (k num : Int) (s : ByteArray) (A : Option Addr) (n c : Nat) : ∀ u ∈ [Value.int .i64 k, .int .i64 num, .string s, .slice A n c], u.oneCell' = true := by
  intro u hu
  simp at hu
  rcases hu with rfl | rfl | rfl | rfl <;> rfl
theorem below_grow {B : Nat} {w0 w w' : World} {v : Value} (hb : Below B w0 w) (hB : B ≤ w.heap.size) (o : Obj) (hg : (w.alloc o).grownBy w' v.ownBlock) (hv : ∀ k, v.ownBlock = some k → B ≤ k) : Below B w0 w' :=
  (hb.alloc hB o).grown hg (by simp; omega) hv
/-- what stands around a loop over a boxed type's arguments. -/
structure Loop4 (w W1 : World) (b : Nat) (T : Ty) (A : Option Addr) (c : Nat) : Prop where
  box : W1.heap[b]? = some (.cells #[.int .i64 T.kind, .int .i64 T.num, .string T.name, .slice A T.args.length c] 24 (0, 0))
  lt : b < W1.heap.size
  le : w.heap.size ≤ b
  below : Below w.heap.size w W1
  ty : TyAt (· < w.heap.size) w (tyV T.kind T.num T.name A T.args.length c) T
section
variable {w W1 W W2 : World} {b c : Nat} {T : Ty} {A : Option Addr}
theorem Loop4.in_ (h : Loop4 w W1 b T A c) (hb : Below W1.heap.size W1 W) : W.heap[b]? = some (.cells #[.int .i64 T.kind, .int .i64 T.num, .string T.name, .slice A T.args.length c] 24 (0, 0)) :=
  (hb.block b h.lt).trans h.box
theorem Loop4.all (h : Loop4 w W1 b T A c) (hb : Below W1.heap.size W1 W) : Below w.heap.size w W := h.below.trans (hb.mono h.below.size)
theorem Loop4.ty' (h : Loop4 w W1 b T A c) (hb : Below W1.heap.size W1 W) : TyAt (· < W.heap.size) W (tyV T.kind T.num T.name A T.args.length c) T := h.ty.blw (h.all hb)
end

set_option maxRecDepth 20000 in
set_option maxHeartbeats 400000 in
theorem copyType_any (T : Ty) : ∀ (v : Value) (w : World), TyAt (· < w.heap.size) w v T → T.parts ≤ 1099511627776 →
    Calls Tryd.prog 17 #[v] w fun e w' => ∃ A c, e = .returned (tyV T.kind T.num T.name A T.args.length c) ∧ TyAt (fun g => w.heap.size ≤ g ∧ g < w'.heap.size) w' (tyV T.kind T.num T.name A T.args.length c) T ∧ Below w.heap.size w w' := by
  induction T using Ty.ind with
  | h T ih =>
    intro v w hT hp
    have IH := Lib.hid ih
    clear ih
    obtain ⟨A, c, rfl, hc, hm, hn⟩ := hT.form
    have hla : T.args.length ≤ 1099511627776 := by have := length_parts T.args; rw [T.parts_eq] at hp; omega
    obtain ⟨W1, hW1⟩ : ∃ W1, W1 = (w.alloc (.cells #[.int .i64 T.kind, .int .i64 T.num, .string T.name, .slice A T.args.length c] 24)).alloc (.cells #[.int .i64 0, .int .i64 0, .string ⟨#[]⟩, .slice none 0 0] 24) := ⟨_, rfl⟩
    have hL : Loop4 w W1 w.heap.size T A c := by
      refine ⟨?_, by rw [hW1]; simp; omega, Nat.le_refl _, by rw [hW1]; exact ((Below.refl _ _).alloc (Nat.le_refl _) _).alloc (by simp) _, hT⟩
      rw [hW1, Below.heap_alloc _ _ _ (by simp)]
      exact heap_alloc_new _ _
    have hres : W1.heap[w.heap.size + 1]? = some (.cells #[.int .i64 0, .int .i64 0, .string ⟨#[]⟩, .slice none 0 0] 24 (0, 0)) := by
      rw [hW1]
      have := heap_alloc_new (w.alloc (.cells #[.int .i64 T.kind, .int .i64 T.num, .string T.name, .slice A T.args.length c] 24)) (.cells #[.int .i64 0, .int .i64 0, .string ⟨#[]⟩, .slice none 0 0] 24)
      simpa using this
    have hz1 : W1.heap.size = w.heap.size + 2 := by rw [hW1]; simp
    have HL := Lib.hid hL; have HRS := Lib.hid hres; have HP := Lib.hid hp; have HZ1 := Lib.hid hz1
    clear hT hL hres hp hz1
    unfold tyV
    go_enter Tryd.func17, Tryd.ntmps17
    go_wp2
    rw [← hW1]
    go_loopw [3, 4] (fun sv iv W => ∃ (k : Nat) (us : List Value), k ≤ T.args.length ∧ iv = .int .i64 k ∧ Hid (RowK 24 4 TyAt W1.heap.size W1.heap.size W (T.args.take k) sv us) ∧ Hid (Below W1.heap.size W1 W)) (fun _ iv _ => T.args.length - (intOf iv).toNat)
    case atStart =>
      refine ⟨0, [], by omega, rfl, Lib.hid ?_, Lib.hid ((Below.refl _ _).alloc (Nat.le_refl _) _)⟩
      have h := RowK.made (e := 24) (k := 4) (R := TyAt) (L := W1.heap.size) (B := W1.heap.size) W1 (Nat.le_refl _)
      rw [HZ1.out] at h ⊢
      exact h
    case round =>
      obtain ⟨k, us, hk, rfl, HR, HB⟩ := hrel
      obtain ⟨y0, y1, y2, y3⟩ := box4 (HL.out.in_ HB.out)
      obtain ⟨q0, q1, q2, q3⟩ := box4_frozen (HL.out.in_ HB.out)
      by_cases hlt : k < T.args.length
      · obtain ⟨b, off, A', c', rfl, hb, ht, x0, x1, x2, x3⟩ := (HL.out.ty' HB.out).arg hlt
        have hca := IH.out k hlt _ wr ht (by have := Ty.parts_arg hlt; have := HP.out; omega)
        have HTK : Hid (T.args.take (k + 1) = T.args.take k ++ [T.args[k]]) := Lib.hid (by rw [List.take_succ_eq_append_getElem hlt])
        have hlk : (T.args.take k).length = k := by rw [List.length_take]; omega
        have HLK := Lib.hid hlk
        clear ht hlk
        generalize T.args[k] = U at *
        unfold tyV at hca
        have HCA := Lib.hid hca
        have hzb := HB.out.size
        clear hca
        go_wp2_with fail
        refine HCA.out.mono ?_
        rintro e w2 ⟨A2, c2, rfl, hu, HB2⟩
        have hr2 := RowK.below (R := TyAt) TyAt.keep HR.out HB2
        have HR2 := Lib.hid hr2; have HU := Lib.hid hu
        have hown := hr2.own
        rw [HLK.out] at hown
        obtain ⟨us', hus⟩ : ∃ us', us' = us.flatMap flatC := ⟨_, rfl⟩
        rw [← hus] at hown
        have hz2 := HB2.size
        clear hr2 hu
        go_wp2_with (at_builtin; refine wpList_appK _ rfl _ _ _ rfl W1.heap.size _ 4 tyE _ k us' rfl (World.ownsRow.alloc hown _) ⟨w2.heap.size, 0, none⟩ 1 1 [.int .i64 U.kind, .int .i64 U.num, .string U.name, .slice A2 U.args.length c2] rfl rfl (cells_new _ _ _) (one4 _ _ _ _ _ _) (by omega) (by simp; omega) ?_; intro v3 w3 hown3 hg3 hat3)
        go_roundw
        case rel =>
          refine ⟨k + 1, us ++ [.agg #[.int .i64 U.kind, .int .i64 U.num, .string U.name, .slice A2 U.args.length c2]], by omega, by go_num, Lib.hid ?_, Lib.hid ?_⟩
          · rw [HTK.out]
            refine RowK.next (R := TyAt) TyAt.keep HR2.out HU.out (fun g hg => ⟨by omega, hg.2, fun e => ?_⟩) rfl _ ?_ hg3 hat3
            · have := HR.out.lt g e; omega
            · rw [HLK.out, ← hus]; exact hown3
          · exact below_grow (HB.out.trans (HB2.mono hzb)) (by omega) _ hg3 (fun g e => (hown.lt g e).1)
        case measure => simp [intOf]; omega
      · have hkl : k = T.args.length := by omega
        subst hkl
        have hr := HR.out
        rw [List.take_length] at hr
        obtain ⟨A2, c2, rfl, hty⟩ := hr.ty T.kind T.num T.name hn
        have hres : wr.heap[w.heap.size + 1]? = some (.cells #[.int .i64 0, .int .i64 0, .string ⟨#[]⟩, .slice none 0 0] 24 (0, 0)) := by
          rw [HB.out.block _ (by have := HZ1.out; omega)]; exact HRS.out
        obtain ⟨r0, r1, r2, r3⟩ := box4 hres
        obtain ⟨s0, s1, s2, s3⟩ := box4_frozen hres
        have HTY := Lib.hid hty
        have HRB := Lib.hid hres
        clear hty hr hres
        go_wp2
        obtain ⟨Wf, hWf⟩ : ∃ Wf, Wf = (((((wr.setCell ⟨w.heap.size, 3, none⟩ (.slice A2 T.args.length c2)).setCell ⟨w.heap.size + 1, 0, none⟩ (.int .i64 T.kind)).setCell ⟨w.heap.size + 1, 1, none⟩ (.int .i64 T.num)).setCell ⟨w.heap.size + 1, 2, none⟩ (.string T.name)).setCell ⟨w.heap.size + 1, 3, none⟩ (.slice A2 T.args.length c2)) := ⟨_, rfl⟩
        have hkp : Kept (fun g => g = w.heap.size ∨ g = w.heap.size + 1) wr Wf := by
          rw [hWf]
          exact kept4 ((Kept.refl _ _).setCell (p := ⟨w.heap.size, 3, none⟩) (.inl (.inl rfl)) _) (.inl (.inr rfl))
        have hbx : Wf.heap[w.heap.size + 1]? = some (.cells #[.int .i64 T.kind, .int .i64 T.num, .string T.name, .slice A2 T.args.length c2] 24 (0, 0)) := by
          rw [hWf]
          refine put4 (u0 := .int .i64 0) (u1 := .int .i64 0) (u2 := .string ⟨#[]⟩) (u3 := .slice none 0 0) ?_
          rw [Below.heap_setCell _ _ _ _ (by simp)]
          exact HRB.out
        have hz1 := HZ1.out
        have hzr := HB.out.size
        have hzf := hkp.size
        rw [← hWf]
        obtain ⟨f0, f1, f2, f3⟩ := box4 hbx
        refine bodyPost_ret (v := .agg #[.int .i64 T.kind, .int .i64 T.num, .string T.name, .slice A2 T.args.length c2]) (by simp [results, Tryd.results17, go_sem, f0, f1, f2, f3]) rfl ?_
        refine ⟨A2, c2, rfl, ?_, (HL.out.all HB.out).trans (hkp.below (by omega) (fun g hg => by omega))⟩
        rw [← T.eta] at HTY
        exact HTY.out.keep fun g hg => ⟨by omega, hkp.block g hg.2 (by omega)⟩
end Go.Proofs.YtbhicpjhijondaaDoor
