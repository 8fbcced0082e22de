/- Copies of types lie in clean memory; types.Same and types.Instance there. -/
import Derived.Test.YtbhicpjhijondaaDoorT41
import Derived.Test.YtbhicpjhijondaaDoorT36
namespace Go.Typ
open Go.RowKit Go.Lib Go.Vfs Go.Par
/-- as TyAt; and no block of its rows bears a mark. -/
def TyC (S : Nat → Prop) (W : World) (v : Value) (T : Ty) : Prop := TyAt (fun g => S g ∧ CleanB W g) W v T
theorem TyC.keep {S S' : Nat → Prop} {w w' : World} {v : Value} {x : Ty} (h : TyC S w v x) (hk : ∀ b, S b → S' b ∧ w'.heap[b]? = w.heap[b]?) : TyC S' w' v x :=
  TyAt.keep h fun b hb => ⟨⟨(hk b hb.1).1, hb.2.keep (hk b hb.1).2⟩, (hk b hb.1).2⟩
theorem TyC.at_ {S : Nat → Prop} {w : World} {v : Value} {x : Ty} (h : TyC S w v x) : TyAt S w v x := TyAt.sub h fun _ hg => hg.1
theorem TyC.blw {w w' : World} {v : Value} {x : Ty} (h : TyC (· < w.heap.size) w v x) (hb : Below w.heap.size w w') : TyC (· < w'.heap.size) w' v x :=
  h.keep fun b hk => ⟨Nat.lt_of_lt_of_le hk hb.size, hb.block b hk⟩
theorem TyC.nil (S : Nat → Prop) (w : World) (k num : Int) (name : ByteArray) (A : Option Addr) (c : Nat) (hm : c ≤ maxLen) (hn : name.size ≤ 9223372036854775807) : TyC S w (tyV k num name A 0 c) (.mk k num name []) :=
  TyAt.mk k num name [] A c (fun _ => .bool false) (Nat.zero_le _) hm hn (fun h => by simp at h) (fun i h => by simp at h)
theorem TyC.leaf {S : Nat → Prop} {w : World} {v : Value} {x : Ty} (h : TyAt S w v x) (hl : x.args = []) (S' : Nat → Prop) (w' : World) : TyC S' w' v x := by
  obtain ⟨A, c, rfl, _, hm, hn⟩ := h.form
  obtain ⟨k, num, name, ts⟩ := x
  simp only [Ty.args] at hl
  subst hl
  exact TyC.nil S' w' k num name A c hm hn
theorem RowK.tyC {e L B : Nat} {w : World} {ts : List Ty} {v : Value} {us : List Value} (h : RowK e 4 TyC L B w ts v us) (k num : Int) (name : ByteArray) (hn : name.size ≤ 9223372036854775807) :
    ∃ A c, v = .slice A ts.length c ∧ TyC (fun g => (L ≤ g ∨ B ≤ g) ∧ g < w.heap.size) w (tyV k num name A ts.length c) (.mk k num name ts) := by
  obtain ⟨A, c, rfl, hc, hm⟩ := h.form
  refine ⟨A, c, rfl, .mk k num name ts A c (fun i => us.getD i (.bool false)) hc hm hn (fun h0 => ?_) (fun i hi => TyC.keep (h.each i hi) fun g hg => ⟨⟨.inl hg.1, hg.2.1⟩, rfl⟩)⟩
  obtain ⟨g, c', e, hb, hlt, hat⟩ := h.cells h0
  have hcl : CleanB w g := by
    rcases h.own.2 with ⟨e', h0'⟩ | ⟨g', cap, cur, e', _, hh, _⟩
    · omega
    · rw [e] at e'
      injection e' with e1 _ _
      injection e1 with e1
      injection e1 with e1 _
      subst e1
      exact ⟨cur, _, hh⟩
  injection e with e1 _ _
  refine ⟨g, 0, e1, ⟨⟨.inr hb, hlt⟩, hcl⟩, fun i hi j hj => ?_⟩
  rw [hat i hi j hj]
  obtain ⟨A', c', e, _⟩ := (TyC.at_ (h.each i hi)).form
  rw [e]
  have : j = 0 ∨ j = 1 ∨ j = 2 ∨ j = 3 := by omega
  rcases this with rfl | rfl | rfl | rfl <;> rfl
end Go.Typ
namespace Go.Proofs.YtbhicpjhijondaaDoor
open Go.RowKit Go.Lib Go.Vfs Go.Par Go.Typ
set_option linter.unusedVariables false
set_option linter.unusedSimpArgs false

set_option maxRecDepth 20000 in
set_option maxHeartbeats 400000 in
theorem copyTypeC_any (T : Ty) : ∀ (v : Value) (w : World), TyAt (· < w.heap.size) w v T → T.parts ≤ 1099511627776 →
    Calls Tryd.prog 17 #[v] w fun e w' => ∃ A c, e = .returned (tyV T.kind T.num T.name A T.args.length c) ∧ TyC (fun g => w.heap.size ≤ g ∧ g < w'.heap.size) w' (tyV T.kind T.num T.name A T.args.length c) T ∧ Below w.heap.size w w' := by
  induction T using Ty.ind with
  | h T ih =>
    intro v w hT hp
    have IH := Lib.hid ih
    clear ih
    obtain ⟨A, c, rfl, hc, hm, hn⟩ := hT.form
    have hla : T.args.length ≤ 1099511627776 := by have := length_parts T.args; rw [T.parts_eq] at hp; omega
    obtain ⟨W1, hW1⟩ : ∃ W1, W1 = (w.alloc (.cells #[.int .i64 T.kind, .int .i64 T.num, .string T.name, .slice A T.args.length c] 24)).alloc (.cells #[.int .i64 0, .int .i64 0, .string ⟨#[]⟩, .slice none 0 0] 24) := ⟨_, rfl⟩
    have hL : Loop4 w W1 w.heap.size T A c := by
      refine ⟨?_, by rw [hW1]; simp; omega, Nat.le_refl _, by rw [hW1]; exact ((Below.refl _ _).alloc (Nat.le_refl _) _).alloc (by simp) _, hT⟩
      rw [hW1, Below.heap_alloc _ _ _ (by simp)]
      exact heap_alloc_new _ _
    have hres : W1.heap[w.heap.size + 1]? = some (.cells #[.int .i64 0, .int .i64 0, .string ⟨#[]⟩, .slice none 0 0] 24 (0, 0)) := by
      rw [hW1]
      have := heap_alloc_new (w.alloc (.cells #[.int .i64 T.kind, .int .i64 T.num, .string T.name, .slice A T.args.length c] 24)) (.cells #[.int .i64 0, .int .i64 0, .string ⟨#[]⟩, .slice none 0 0] 24)
      simpa using this
    have hz1 : W1.heap.size = w.heap.size + 2 := by rw [hW1]; simp
    have HL := Lib.hid hL; have HRS := Lib.hid hres; have HP := Lib.hid hp; have HZ1 := Lib.hid hz1
    clear hT hL hres hp hz1
    unfold tyV
    go_enter Tryd.func17, Tryd.ntmps17
    go_wp2
    rw [← hW1]
    go_loopw [3, 4] (fun sv iv W => ∃ (k : Nat) (us : List Value), k ≤ T.args.length ∧ iv = .int .i64 k ∧ Hid (RowK 24 4 TyC W1.heap.size W1.heap.size W (T.args.take k) sv us) ∧ Hid (Below W1.heap.size W1 W)) (fun _ iv _ => T.args.length - (RowKit.intOf iv).toNat)
    case atStart =>
      refine ⟨0, [], by omega, rfl, Lib.hid ?_, Lib.hid ((Below.refl _ _).alloc (Nat.le_refl _) _)⟩
      have h := RowK.made (e := 24) (k := 4) (R := TyC) (L := W1.heap.size) (B := W1.heap.size) W1 (Nat.le_refl _)
      rw [HZ1.out] at h ⊢
      exact h
    case round =>
      obtain ⟨k, us, hk, rfl, HR, HB⟩ := hrel
      obtain ⟨y0, y1, y2, y3⟩ := box4 (HL.out.in_ HB.out)
      obtain ⟨q0, q1, q2, q3⟩ := box4_frozen (HL.out.in_ HB.out)
      by_cases hlt : k < T.args.length
      · obtain ⟨b, off, A', c', rfl, hb, ht, x0, x1, x2, x3⟩ := (HL.out.ty' HB.out).arg hlt
        have hca := IH.out k hlt _ wr ht (by have := Ty.parts_arg hlt; have := HP.out; omega)
        have HTK : Hid (T.args.take (k + 1) = T.args.take k ++ [T.args[k]]) := Lib.hid (by rw [List.take_succ_eq_append_getElem hlt])
        have hlk : (T.args.take k).length = k := by rw [List.length_take]; omega
        have HLK := Lib.hid hlk
        clear ht hlk
        generalize T.args[k] = U at *
        unfold tyV at hca
        have HCA := Lib.hid hca
        have hzb := HB.out.size
        clear hca
        go_wp2_with fail
        refine HCA.out.mono ?_
        rintro e w2 ⟨A2, c2, rfl, hu, HB2⟩
        have hr2 := RowK.below (R := TyC) TyC.keep HR.out HB2
        have HR2 := Lib.hid hr2; have HU := Lib.hid hu
        have hown := hr2.own
        rw [HLK.out] at hown
        obtain ⟨us', hus⟩ : ∃ us', us' = us.flatMap flatC := ⟨_, rfl⟩
        rw [← hus] at hown
        have hz2 := HB2.size
        clear hr2 hu
        go_wp2_with (at_builtin; refine wpList_appK _ rfl _ _ _ rfl W1.heap.size _ 4 tyE _ k us' rfl (World.ownsRow.alloc hown _) ⟨w2.heap.size, 0, none⟩ 1 1 [.int .i64 U.kind, .int .i64 U.num, .string U.name, .slice A2 U.args.length c2] rfl rfl (cells_new _ _ _) (one4 _ _ _ _ _ _) (by omega) (by simp; omega) ?_; intro v3 w3 hown3 hg3 hat3)
        go_roundw
        case rel =>
          refine ⟨k + 1, us ++ [.agg #[.int .i64 U.kind, .int .i64 U.num, .string U.name, .slice A2 U.args.length c2]], by omega, by go_num, Lib.hid ?_, Lib.hid ?_⟩
          · rw [HTK.out]
            refine RowK.next (R := TyC) TyC.keep HR2.out HU.out (fun g hg => ⟨by omega, hg.2, fun e => ?_⟩) rfl _ ?_ hg3 hat3
            · have := HR.out.lt g e; omega
            · rw [HLK.out, ← hus]; exact hown3
          · exact below_grow (HB.out.trans (HB2.mono hzb)) (by omega) _ hg3 (fun g e => (hown.lt g e).1)
        case measure => simp [RowKit.intOf]; omega
      · have hkl : k = T.args.length := by omega
        subst hkl
        have hr := HR.out
        rw [List.take_length] at hr
        obtain ⟨A2, c2, rfl, hty⟩ := hr.tyC T.kind T.num T.name hn
        have hres : wr.heap[w.heap.size + 1]? = some (.cells #[.int .i64 0, .int .i64 0, .string ⟨#[]⟩, .slice none 0 0] 24 (0, 0)) := by
          rw [HB.out.block _ (by have := HZ1.out; omega)]; exact HRS.out
        obtain ⟨r0, r1, r2, r3⟩ := box4 hres
        obtain ⟨s0, s1, s2, s3⟩ := box4_frozen hres
        have HTY := Lib.hid hty
        have HRB := Lib.hid hres
        clear hty hr hres
        go_wp2
        obtain ⟨Wf, hWf⟩ : ∃ Wf, Wf = (((((wr.setCell ⟨w.heap.size, 3, none⟩ (.slice A2 T.args.length c2)).setCell ⟨w.heap.size + 1, 0, none⟩ (.int .i64 T.kind)).setCell ⟨w.heap.size + 1, 1, none⟩ (.int .i64 T.num)).setCell ⟨w.heap.size + 1, 2, none⟩ (.string T.name)).setCell ⟨w.heap.size + 1, 3, none⟩ (.slice A2 T.args.length c2)) := ⟨_, rfl⟩
        have hkp : Kept (fun g => g = w.heap.size ∨ g = w.heap.size + 1) wr Wf := by
          rw [hWf]
          exact kept4 ((Kept.refl _ _).setCell (p := ⟨w.heap.size, 3, none⟩) (.inl (.inl rfl)) _) (.inl (.inr rfl))
        have hbx : Wf.heap[w.heap.size + 1]? = some (.cells #[.int .i64 T.kind, .int .i64 T.num, .string T.name, .slice A2 T.args.length c2] 24 (0, 0)) := by
          rw [hWf]
          refine put4 (u0 := .int .i64 0) (u1 := .int .i64 0) (u2 := .string ⟨#[]⟩) (u3 := .slice none 0 0) ?_
          rw [Below.heap_setCell _ _ _ _ (by simp)]
          exact HRB.out
        have hz1 := HZ1.out
        have hzr := HB.out.size
        have hzf := hkp.size
        rw [← hWf]
        obtain ⟨f0, f1, f2, f3⟩ := box4 hbx
        refine bodyPost_ret (v := .agg #[.int .i64 T.kind, .int .i64 T.num, .string T.name, .slice A2 T.args.length c2]) (by simp [results, Tryd.results17, go_sem, f0, f1, f2, f3]) rfl ?_
        refine ⟨A2, c2, rfl, ?_, (HL.out.all HB.out).trans (hkp.below (by omega) (fun g hg => by omega))⟩
        rw [← T.eta] at HTY
        exact TyC.keep HTY.out fun g hg => ⟨by omega, hkp.block g hg.2 (by omega)⟩

theorem meets_true (G T : Ty) : meetsT (fun _ _ => True) G T := by
  induction G using Ty.ind generalizing T with
  | h G ih =>
    rw [meetsT_eq]
    split
    · trivial
    · have key : ∀ (gs ts : List Ty), (∀ g ∈ gs, ∀ T, meetsT (fun _ _ => True) g T) → meetsL (fun _ _ => True) gs ts := by
        intro gs
        induction gs with
        | nil => intro ts _; rw [meetsL]; trivial
        | cons g gs ih2 =>
          intro ts h
          cases ts with
          | nil => rw [meetsL]; trivial
          | cons t ts => rw [meetsL]; exact ⟨h g (by simp) t, ih2 ts fun x hx => h x (by simp [hx])⟩
      exact key _ _ fun g hg T => by obtain ⟨i, hi, rfl⟩ := List.getElem_of_mem hg; exact ih i hi T

/-- what a copy is, for whoever reads on: it bears no mark. -/
theorem copy_c {T : Ty} {v : Value} {w : World} (hT : TyAt (· < w.heap.size) w v T) (hp : T.parts ≤ 1000) :
    Calls Tryd.prog 17 #[v] w fun e w' => ∃ A c, e = .returned (tyV T.kind T.num T.name A T.args.length c) ∧ TyC (· < w'.heap.size) w' (tyV T.kind T.num T.name A T.args.length c) T ∧ Below w.heap.size w w' :=
  (copyTypeC_any T v w hT (by omega)).mono fun e w' ⟨A, c, h1, h2, h3⟩ => ⟨A, c, h1, h2.keep fun g hg => ⟨hg.2, rfl⟩, h3⟩
/-- Same at clean memory. -/
theorem sameC_any (T U : Ty) (n₀ : Nat) (W0 : World) (S : Nat → Prop) (hS : ∀ g, S g → g < n₀ ∧ CleanB W0 g) (v u : Value) (w : World) (hb : Below n₀ W0 w) (hn : n₀ ≤ w.heap.size) (hT : TyAt S w v T) (hU : TyAt S w u U) :
    Calls Tryd.prog 20 #[v, u] w fun e w' => e = .returned (.bool (same T U)) ∧ Below w.heap.size w w' :=
  same_by T U S v u w _ hT hU fun W hbw hz hm =>
    (alike_any n₀ (w.heap.size + 2) W0 S hS (by omega) T U (fun _ _ => False) v u W (hb.trans (hbw.mono hn)) (hT.keep fun g hg => ⟨hg, hbw.block g (by have := (hS g hg).1; omega)⟩) (hU.keep fun g hg => ⟨hg, hbw.block g (by have := (hS g hg).1; omega)⟩)
      ⟨[], MapR.of_int hm, fun x hx => by simp at hx⟩ (fun _ _ h => h.elim)).mono fun e w' ⟨h1, h2, _⟩ => ⟨h1, below_of_kept h2 (by omega) hz⟩
/-- Same of two clean types. -/
theorem same_c {T U : Ty} {v u : Value} {w : World} (hT : TyC (· < w.heap.size) w v T) (hU : TyC (· < w.heap.size) w u U) :
    Calls Tryd.prog 20 #[v, u] w fun e w' => e = .returned (.bool (same T U)) ∧ Below w.heap.size w w' :=
  sameC_any T U w.heap.size w (fun g => g < w.heap.size ∧ CleanB w g) (fun g hg => hg) v u w (Below.refl _ _) (Nat.le_refl _) hT hU
/-- Instance, where the second type is clean. -/
theorem inst_c {G T : Ty} {v u : Value} {w : World} (hG : TyAt (· < w.heap.size) w v G) (hT : TyC (· < w.heap.size) w u T) :
    Calls Tryd.prog 18 #[v, u] w fun e w' => e = .returned (.bool (instT G T)) ∧ Below w.heap.size w w' :=
  instance_any (fun g => g < w.heap.size ∧ CleanB w g) (fun _ _ => True) G T v u w (fun g hg => hg.1)
    (fun n U U' v v' W hb hz _ _ hU hU' => sameC_any U U' w.heap.size w _ (fun g hg => hg) v v' W hb hz hU hU') hG hT fun _ _ => meets_true G T
end Go.Proofs.YtbhicpjhijondaaDoor
