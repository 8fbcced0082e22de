/- scheme.copied; CopyExports, SameExports; law14.great. -/
import Derived.Test.YtbhicpjhijondaaDoorX3
import Derived.StillTailTactics
namespace Go.Proofs.YtbhicpjhijondaaDoor
open Go.RowKit Go.Lib Go.Vfs Go.Par Go.Typ Go.Shelf
set_option linter.unusedVariables false
set_option linter.unusedSimpArgs false

theorem exE : ElemK Tryd.prog 42 46 5 := elemK_of (b := 72) (z := .agg #[.string ⟨#[]⟩, .int .i64 0, .int .i64 0, .string ⟨#[]⟩, .slice none 0 0]) Tryd.underlying42 (by kernel_rfl) (by decide) rfl (by decide)
section
variable {P : Program} (w : World)
theorem wp_appK {o : Oper} {a : Act} {K : Act → World → Prop} {Q : Exit → Act → World → Prop} (s x : Operand) (t : TypeId)
    (ho : o.op = .call { callee := .builtin .append, args := #[s, x], argTypes := #[t, t] })
    (base : Nat) (e : TypeId) (k : Nat) (E : ElemK P t e k) (v : Value) (n : Nat) (xs : List Value) (hs : a.eval s = v) (hown : w.ownsRow base e k v n xs)
    (ad : Addr) (m c : Nat) (news : List Value) (hx : a.eval x = .slice (some ad) m c) (hl : news.length = m * k) (hcells : ∀ j u, news[j]? = some u → w.cell? (ad.add j) = some u) (h1 : ∀ u ∈ news, u.oneCell' = true)
    (hbd : n + m ≤ 1099511627776) (hbase : base ≤ w.heap.size)
    (h : ∀ v' w', w'.ownsRow base e k v' (n + m) (xs ++ news) → w.grownBy w' v.ownBlock → (v'.ownBlock = v.ownBlock ∨ v'.ownBlock = some w.heap.size) → K (a.put o.dst v') w') : o.wp P a w K Q := by
  obtain ⟨v', w', hrun, h2, h3, h4⟩ := run_appK (P := P) w base t o.type e k E v n xs hown ad m c news hl hcells h1 hbd hbase
  unfold Oper.wp execOp
  simp only [ho, resolve, invoke, builtin, Sem.run_bind, Sem.run_pure, Result.andThen_ok, List.map_toArray, List.map_cons, List.map_nil, hs, hx, hrun]
  exact h v' w' h2 h3 h4
end
theorem one5 (s : ByteArray) (k num : Int) (nm : ByteArray) (A : Option Addr) (n c : Nat) : ∀ u ∈ [Value.string s, .int .i64 k, .int .i64 num, .string nm, .slice A n c], u.oneCell' = true := by
  intro u hu
  simp at hu
  rcases hu with rfl | rfl | rfl | rfl | rfl <;> rfl

/-- no row of parts is longer than a machine's. -/
def RowOk (T : Ty) : Prop := ∀ x ∈ T.list, x.args.length ≤ 2513169434843
theorem RowOk.self {T : Ty} (h : RowOk T) : T.args.length ≤ 2513169434843 := h T (by rw [T.list_eq]; exact List.mem_cons_self)
theorem RowOk.arg {T : Ty} (h : RowOk T) {i : Nat} (hi : i < T.args.length) : RowOk T.args[i] := fun x hx => h x (by
  rw [T.list_eq]
  exact List.mem_cons_of_mem _ (mem_listL (List.getElem_mem hi) hx))
theorem RowOk.of_parts {T : Ty} (h : T.parts ≤ 2513169434843) : RowOk T := by
  intro x hx
  have key : ∀ T : Ty, ∀ x ∈ T.list, x.parts ≤ T.parts := by
    intro T
    induction T using Ty.ind with
    | h T ih =>
      intro x hx
      rw [T.list_eq] at hx
      rcases List.mem_cons.1 hx with rfl | hx
      · exact Nat.le_refl _
      · have k2 : ∀ ts : List Ty, (∀ t ∈ ts, ∀ x ∈ t.list, x.parts ≤ t.parts) → ∀ x ∈ listL ts, x.parts ≤ partsL ts := by
          intro ts
          induction ts with
          | nil => intro _ x hx; simp [listL] at hx
          | cons t ts ih2 =>
            intro h x hx
            rw [listL] at hx
            rw [partsL]
            rcases List.mem_append.1 hx with hx | hx
            · have := h t (by simp) x hx; omega
            · have := ih2 (fun y hy => h y (by simp [hy])) x hx; omega
        have := k2 T.args (fun t ht => by obtain ⟨i, hi, rfl⟩ := List.getElem_of_mem ht; exact ih i hi) x hx
        rw [T.parts_eq]; omega
  have h1 := key T x hx
  have h2 := length_parts x.args
  rw [x.parts_eq] at h1
  omega
/-- the element type e has k cells and b bytes. -/
structure ElemKb (P : Program) (t e : TypeId) (k b : Nat) : Prop where
  und : P.underlying t = some (.slice e)
  info : ∃ i z, P.info? e = some i ∧ i.zero = some z ∧ i.size = k ∧ i.bytes = b ∧ z.cells.size = k
  pos : 0 < k
theorem tyEb : ElemKb Tryd.prog 22 24 4 56 := by
  refine ⟨Tryd.underlying22, ?_, by decide⟩
  have h : (Tryd.prog.info? 24).map (fun i => (i.zero, i.size, i.bytes)) = some (some (.agg #[.int .i64 0, .int .i64 0, .string ⟨#[]⟩, .slice none 0 0]), 4, 56) := by kernel_rfl
  obtain ⟨i, h1, h2, h3, h4⟩ := info_parts h
  exact ⟨i, _, h1, h2, h3, h4, rfl⟩
theorem wpList_appKb {P : Program} (w : World) {ops : Array Oper} {rest : List Oper} {o : Oper} {a : Act} {Q : Exit → Act → World → Prop} (hgd : o.guard = none) (s x : Operand) (t : TypeId)
    (ho : o.op = .call { callee := .builtin .append, args := #[s, x], argTypes := #[t, t] })
    (base : Nat) (e : TypeId) (k b : Nat) (E : ElemKb P t e k b) (v : Value) (n : Nat) (xs : List Value) (hs : a.eval s = v) (hown : w.ownsRow base e k v n xs)
    (ad : Addr) (m c : Nat) (news : List Value) (hx : a.eval x = .slice (some ad) m c) (hl : news.length = m * k) (hcells : ∀ j u, news[j]? = some u → w.cell? (ad.add j) = some u) (h1 : ∀ u ∈ news, u.oneCell' = true)
    (hm : n + m ≤ maxLen) (hbd : (n + m) * b ≤ 140737488355328) (hbase : base ≤ w.heap.size)
    (h : ∀ v' w', w'.ownsRow base e k v' (n + m) (xs ++ news) → w.grownBy w' v.ownBlock → (v'.ownBlock = v.ownBlock ∨ v'.ownBlock = some w.heap.size) → wpList P ops Q rest (a.put o.dst v') w') : wpList P ops Q (o :: rest) a w :=
  wpList_plain hgd fun _ hK => by
    obtain ⟨i, z, hi, hz, hsz, hby, hzs⟩ := E.info
    obtain ⟨v', w', hrun, h2, h3, _, h4⟩ := run_append_own_at (P := P) w base t o.type e i z k b E.und hi hz hsz hby hzs E.pos v n xs hown ad m c news hl hcells h1 hm hbd hbase
    unfold Oper.wp execOp
    simp only [ho, resolve, invoke, builtin, Sem.run_bind, Sem.run_pure, Result.andThen_ok, List.map_toArray, List.map_cons, List.map_nil, hs, hx, hrun]
    exact hK _ _ (h v' w' h2 h3 h4)

set_option maxRecDepth 20000 in
set_option maxHeartbeats 400000 in
theorem copyTypeR_any (T : Ty) : ∀ (v : Value) (w : World), TyAt (· < w.heap.size) w v T → RowOk T →
    Calls Tryd.prog 17 #[v] w fun e w' => ∃ A c, e = .returned (tyV T.kind T.num T.name A T.args.length c) ∧ TyAt (fun g => w.heap.size ≤ g ∧ g < w'.heap.size) w' (tyV T.kind T.num T.name A T.args.length c) T ∧ Below w.heap.size w w' := by
  induction T using Ty.ind with
  | h T ih =>
    intro v w hT hp
    have IH := Lib.hid ih
    clear ih
    obtain ⟨A, c, rfl, hc, hm, hn⟩ := hT.form
    have hla : T.args.length ≤ 2513169434843 := hp.self
    obtain ⟨W1, hW1⟩ : ∃ W1, W1 = (w.alloc (.cells #[.int .i64 T.kind, .int .i64 T.num, .string T.name, .slice A T.args.length c] 24)).alloc (.cells #[.int .i64 0, .int .i64 0, .string ⟨#[]⟩, .slice none 0 0] 24) := ⟨_, rfl⟩
    have hL : Loop4 w W1 w.heap.size T A c := by
      refine ⟨?_, by rw [hW1]; simp; omega, Nat.le_refl _, by rw [hW1]; exact ((Below.refl _ _).alloc (Nat.le_refl _) _).alloc (by simp) _, hT⟩
      rw [hW1, Below.heap_alloc _ _ _ (by simp)]
      exact heap_alloc_new _ _
    have hres : W1.heap[w.heap.size + 1]? = some (.cells #[.int .i64 0, .int .i64 0, .string ⟨#[]⟩, .slice none 0 0] 24 (0, 0)) := by
      rw [hW1]
      have := heap_alloc_new (w.alloc (.cells #[.int .i64 T.kind, .int .i64 T.num, .string T.name, .slice A T.args.length c] 24)) (.cells #[.int .i64 0, .int .i64 0, .string ⟨#[]⟩, .slice none 0 0] 24)
      simpa using this
    have hz1 : W1.heap.size = w.heap.size + 2 := by rw [hW1]; simp
    have HL := Lib.hid hL; have HRS := Lib.hid hres; have HP := Lib.hid hp; have HZ1 := Lib.hid hz1
    clear hT hL hres hp hz1
    unfold tyV
    go_enter Tryd.func17, Tryd.ntmps17
    go_wp2
    rw [← hW1]
    go_loopw [3, 4] (fun sv iv W => ∃ (k : Nat) (us : List Value), k ≤ T.args.length ∧ iv = .int .i64 k ∧ Hid (RowK 24 4 TyAt W1.heap.size W1.heap.size W (T.args.take k) sv us) ∧ Hid (Below W1.heap.size W1 W)) (fun _ iv _ => T.args.length - (RowKit.intOf iv).toNat)
    case atStart =>
      refine ⟨0, [], by omega, rfl, Lib.hid ?_, Lib.hid ((Below.refl _ _).alloc (Nat.le_refl _) _)⟩
      have h := RowK.made (e := 24) (k := 4) (R := TyAt) (L := W1.heap.size) (B := W1.heap.size) W1 (Nat.le_refl _)
      rw [HZ1.out] at h ⊢
      exact h
    case round =>
      obtain ⟨k, us, hk, rfl, HR, HB⟩ := hrel
      obtain ⟨y0, y1, y2, y3⟩ := box4 (HL.out.in_ HB.out)
      obtain ⟨q0, q1, q2, q3⟩ := box4_frozen (HL.out.in_ HB.out)
      by_cases hlt : k < T.args.length
      · obtain ⟨b, off, A', c', rfl, hb, ht, x0, x1, x2, x3⟩ := (HL.out.ty' HB.out).arg hlt
        have hca := IH.out k hlt _ wr ht (HP.out.arg hlt)
        have HTK : Hid (T.args.take (k + 1) = T.args.take k ++ [T.args[k]]) := Lib.hid (by rw [List.take_succ_eq_append_getElem hlt])
        have hlk : (T.args.take k).length = k := by rw [List.length_take]; omega
        have HLK := Lib.hid hlk
        clear ht hlk
        generalize T.args[k] = U at *
        unfold tyV at hca
        have HCA := Lib.hid hca
        have hzb := HB.out.size
        clear hca
        go_wp2_with fail
        refine HCA.out.mono ?_
        rintro e w2 ⟨A2, c2, rfl, hu, HB2⟩
        have hr2 := RowK.below (R := TyAt) TyAt.keep HR.out HB2
        have HR2 := Lib.hid hr2; have HU := Lib.hid hu
        have hown := hr2.own
        rw [HLK.out] at hown
        obtain ⟨us', hus⟩ : ∃ us', us' = us.flatMap flatC := ⟨_, rfl⟩
        rw [← hus] at hown
        have hz2 := HB2.size
        clear hr2 hu
        go_wp2_with (at_builtin; refine wpList_appKb _ rfl _ _ _ rfl W1.heap.size _ 4 56 tyEb _ k us' rfl (World.ownsRow.alloc hown _) ⟨w2.heap.size, 0, none⟩ 1 1 [.int .i64 U.kind, .int .i64 U.num, .string U.name, .slice A2 U.args.length c2] rfl rfl (cells_new _ _ _) (one4 _ _ _ _ _ _) (by simp only [maxLen]; omega) (by omega) (by simp; omega) ?_; intro v3 w3 hown3 hg3 hat3)
        go_roundw
        case rel =>
          refine ⟨k + 1, us ++ [.agg #[.int .i64 U.kind, .int .i64 U.num, .string U.name, .slice A2 U.args.length c2]], by omega, by go_num, Lib.hid ?_, Lib.hid ?_⟩
          · rw [HTK.out]
            refine RowK.next (R := TyAt) TyAt.keep HR2.out HU.out (fun g hg => ⟨by omega, hg.2, fun e => ?_⟩) rfl _ ?_ hg3 hat3
            · have := HR.out.lt g e; omega
            · rw [HLK.out, ← hus]; exact hown3
          · exact below_grow (HB.out.trans (HB2.mono hzb)) (by omega) _ hg3 (fun g e => (hown.lt g e).1)
        case measure => simp [RowKit.intOf]; omega
      · have hkl : k = T.args.length := by omega
        subst hkl
        have hr := HR.out
        rw [List.take_length] at hr
        obtain ⟨A2, c2, rfl, hty⟩ := hr.ty T.kind T.num T.name hn
        have hres : wr.heap[w.heap.size + 1]? = some (.cells #[.int .i64 0, .int .i64 0, .string ⟨#[]⟩, .slice none 0 0] 24 (0, 0)) := by
          rw [HB.out.block _ (by have := HZ1.out; omega)]; exact HRS.out
        obtain ⟨r0, r1, r2, r3⟩ := box4 hres
        obtain ⟨s0, s1, s2, s3⟩ := box4_frozen hres
        have HTY := Lib.hid hty
        have HRB := Lib.hid hres
        clear hty hr hres
        go_wp2
        obtain ⟨Wf, hWf⟩ : ∃ Wf, Wf = (((((wr.setCell ⟨w.heap.size, 3, none⟩ (.slice A2 T.args.length c2)).setCell ⟨w.heap.size + 1, 0, none⟩ (.int .i64 T.kind)).setCell ⟨w.heap.size + 1, 1, none⟩ (.int .i64 T.num)).setCell ⟨w.heap.size + 1, 2, none⟩ (.string T.name)).setCell ⟨w.heap.size + 1, 3, none⟩ (.slice A2 T.args.length c2)) := ⟨_, rfl⟩
        have hkp : Kept (fun g => g = w.heap.size ∨ g = w.heap.size + 1) wr Wf := by
          rw [hWf]
          exact kept4 ((Kept.refl _ _).setCell (p := ⟨w.heap.size, 3, none⟩) (.inl (.inl rfl)) _) (.inl (.inr rfl))
        have hbx : Wf.heap[w.heap.size + 1]? = some (.cells #[.int .i64 T.kind, .int .i64 T.num, .string T.name, .slice A2 T.args.length c2] 24 (0, 0)) := by
          rw [hWf]
          refine put4 (u0 := .int .i64 0) (u1 := .int .i64 0) (u2 := .string ⟨#[]⟩) (u3 := .slice none 0 0) ?_
          rw [Below.heap_setCell _ _ _ _ (by simp)]
          exact HRB.out
        have hz1 := HZ1.out
        have hzr := HB.out.size
        have hzf := hkp.size
        rw [← hWf]
        obtain ⟨f0, f1, f2, f3⟩ := box4 hbx
        refine bodyPost_ret (v := .agg #[.int .i64 T.kind, .int .i64 T.num, .string T.name, .slice A2 T.args.length c2]) (by simp [results, Tryd.results17, go_sem, f0, f1, f2, f3]) rfl ?_
        refine ⟨A2, c2, rfl, ?_, (HL.out.all HB.out).trans (hkp.below (by omega) (fun g hg => by omega))⟩
        rw [← T.eta] at HTY
        exact HTY.out.keep fun g hg => ⟨by omega, hkp.block g hg.2 (by omega)⟩
set_option maxRecDepth 20000 in
set_option maxHeartbeats 2000000 in
theorem copied_any (T : Ty) : ∀ (v : Value) (w : World), TyAt (· < w.heap.size) w v T → RowOk T →
    Calls Tryd.prog 75 #[v] w fun e w' => ∃ A c, e = .returned (tyV T.kind T.num T.name A T.args.length c) ∧ TyAt (fun g => w.heap.size ≤ g ∧ g < w'.heap.size) w' (tyV T.kind T.num T.name A T.args.length c) T ∧ Below w.heap.size w w' := by
  induction T using Ty.ind with
  | h T ih =>
    intro v w hT hp
    have IH := Lib.hid ih
    clear ih
    obtain ⟨A, c, rfl, hc, hm, hn⟩ := hT.form
    have hla : T.args.length ≤ 2513169434843 := hp.self
    obtain ⟨W1, hW1⟩ : ∃ W1, W1 = (w.alloc (.cells #[.int .i64 T.kind, .int .i64 T.num, .string T.name, .slice A T.args.length c] 24)).alloc (.cells #[.int .i64 0, .int .i64 0, .string ⟨#[]⟩, .slice none 0 0] 24) := ⟨_, rfl⟩
    have hL : Loop4 w W1 w.heap.size T A c := by
      refine ⟨?_, by rw [hW1]; simp; omega, Nat.le_refl _, by rw [hW1]; exact ((Below.refl _ _).alloc (Nat.le_refl _) _).alloc (by simp) _, hT⟩
      rw [hW1, Below.heap_alloc _ _ _ (by simp)]
      exact heap_alloc_new _ _
    have hres : W1.heap[w.heap.size + 1]? = some (.cells #[.int .i64 0, .int .i64 0, .string ⟨#[]⟩, .slice none 0 0] 24 (0, 0)) := by
      rw [hW1]
      have := heap_alloc_new (w.alloc (.cells #[.int .i64 T.kind, .int .i64 T.num, .string T.name, .slice A T.args.length c] 24)) (.cells #[.int .i64 0, .int .i64 0, .string ⟨#[]⟩, .slice none 0 0] 24)
      simpa using this
    have hz1 : W1.heap.size = w.heap.size + 2 := by rw [hW1]; simp
    have HL := Lib.hid hL; have HRS := Lib.hid hres; have HP := Lib.hid hp; have HZ1 := Lib.hid hz1
    obtain ⟨y0, y1, y2, y3⟩ := box4 hL.box
    rw [hW1] at y0 y1 y2 y3
    clear hT hL hres hp hz1
    unfold tyV
    go_enter Tryd.func75, Tryd.ntmps75
    go_wp2
    rw [← hW1]
    clear y0 y1 y2 y3 hW1
    go_loopw [3, 9] (fun sv iv W => ∃ (k : Nat) (us : List Value), k ≤ T.args.length ∧ iv = .int .i64 k ∧ Hid (RowK 24 4 TyAt W1.heap.size W1.heap.size W (T.args.take k) sv us) ∧ Hid (Below W1.heap.size W1 W)) (fun _ iv _ => T.args.length - (RowKit.intOf iv).toNat)
    case atStart => exact ⟨0, [], by omega, rfl, Lib.hid (RowK.nil W1), Lib.hid (Below.refl _ _)⟩
    case round =>
      obtain ⟨k, us, hk, rfl, HR, HB⟩ := hrel
      by_cases hlt : k < T.args.length
      · obtain ⟨b, off, A', c', rfl, hb, ht, x0, x1, x2, x3⟩ := (HL.out.ty' HB.out).arg hlt
        obtain ⟨W2, hW2⟩ : ∃ W2, W2 = wr.alloc (.cells #[.int .i64 T.args[k].kind, .int .i64 T.args[k].num, .string T.args[k].name, .slice A' T.args[k].args.length c'] 24) := ⟨_, rfl⟩
        have hb2 : Below wr.heap.size wr W2 := by rw [hW2]; exact (Below.refl _ _).alloc (Nat.le_refl _) _
        have hca := IH.out k hlt _ W2 (ht.blw hb2) (HP.out.arg hlt)
        obtain ⟨z0, z1, z2, z3⟩ := box4 (show W2.heap[wr.heap.size]? = some (.cells #[.int .i64 T.args[k].kind, .int .i64 T.args[k].num, .string T.args[k].name, .slice A' T.args[k].args.length c'] 24 (0, 0)) by rw [hW2]; exact heap_alloc_new _ _)
        have HTK : Hid (T.args.take (k + 1) = T.args.take k ++ [T.args[k]]) := Lib.hid (by rw [List.take_succ_eq_append_getElem hlt])
        have hlk : (T.args.take k).length = k := by rw [List.length_take]; omega
        have HLK := Lib.hid hlk
        have HR2' := Lib.hid (RowK.below (R := TyAt) TyAt.keep HR.out hb2)
        have HB2 : Hid (Below W1.heap.size W1 W2) := Lib.hid (HB.out.trans (hb2.mono HB.out.size))
        have hzb := HB2.out.size
        clear ht hlk hb2
        generalize T.args[k] = U at *
        unfold tyV at hca
        have HCA := Lib.hid hca
        rw [hW2] at z0 z1 z2 z3
        clear hca
        go_wp2_with fail
        rw [← hW2]
        clear hW2 z0 z1 z2 z3
        refine HCA.out.mono ?_
        rintro e w2 ⟨A2, c2, rfl, hu, HB3⟩
        have hr2 := RowK.below (R := TyAt) TyAt.keep HR2'.out HB3
        have HR2 := Lib.hid hr2; have HU := Lib.hid hu
        have hown := hr2.own
        rw [HLK.out] at hown
        obtain ⟨us', hus⟩ : ∃ us', us' = us.flatMap flatC := ⟨_, rfl⟩
        rw [← hus] at hown
        have hz2 := HB3.size
        clear hr2 hu
        go_wp2_with (at_builtin; refine wpList_appKb _ rfl _ _ _ rfl W1.heap.size _ 4 56 tyEb _ k us' rfl (World.ownsRow.alloc hown _) ⟨w2.heap.size, 0, none⟩ 1 1 [.int .i64 U.kind, .int .i64 U.num, .string U.name, .slice A2 U.args.length c2] rfl rfl (cells_new _ _ _) (one4 _ _ _ _ _ _) (by simp only [maxLen]; omega) (by omega) (by simp; omega) ?_; intro v3 w3 hown3 hg3 hat3)
        go_roundw
        case rel =>
          refine ⟨k + 1, us ++ [.agg #[.int .i64 U.kind, .int .i64 U.num, .string U.name, .slice A2 U.args.length c2]], by omega, by go_num, Lib.hid ?_, Lib.hid ?_⟩
          · rw [HTK.out]
            refine RowK.next (R := TyAt) TyAt.keep HR2.out HU.out (fun g hg => ⟨by omega, hg.2, fun e => ?_⟩) rfl _ ?_ hg3 hat3
            · have := HR2'.out.lt g e; omega
            · rw [HLK.out, ← hus]; exact hown3
          · exact below_grow (HB2.out.trans (HB3.mono hzb)) (by omega) _ hg3 (fun g e => (hown.lt g e).1)
        case measure => simp [RowKit.intOf]; omega
      · have hkl : k = T.args.length := by omega
        subst hkl
        have hr := HR.out
        rw [List.take_length] at hr
        obtain ⟨A2, c2, rfl, hty⟩ := hr.ty T.kind T.num T.name hn
        have hbox := HL.out.in_ HB.out
        have hres : wr.heap[w.heap.size + 1]? = some (.cells #[.int .i64 0, .int .i64 0, .string ⟨#[]⟩, .slice none 0 0] 24 (0, 0)) := by
          rw [HB.out.block _ (by have := HZ1.out; omega)]; exact HRS.out
        obtain ⟨y0, y1, y2, y3⟩ := box4 hbox
        obtain ⟨q0, q1, q2, q3⟩ := box4_frozen hbox
        obtain ⟨r0, r1, r2, r3⟩ := box4 hres
        obtain ⟨s0, s1, s2, s3⟩ := box4_frozen hres
        have HTY := Lib.hid hty
        have HRB := Lib.hid hres
        clear hty hr hres hbox
        go_wp2
        obtain ⟨Wf, hWf⟩ : ∃ Wf, Wf = (((((wr.setCell ⟨w.heap.size, 3, none⟩ (.slice A2 T.args.length c2)).setCell ⟨w.heap.size + 1, 0, none⟩ (.int .i64 T.kind)).setCell ⟨w.heap.size + 1, 1, none⟩ (.int .i64 T.num)).setCell ⟨w.heap.size + 1, 2, none⟩ (.string T.name)).setCell ⟨w.heap.size + 1, 3, none⟩ (.slice A2 T.args.length c2)) := ⟨_, rfl⟩
        have hkp : Kept (fun g => g = w.heap.size ∨ g = w.heap.size + 1) wr Wf := by
          rw [hWf]
          exact kept4 ((Kept.refl _ _).setCell (p := ⟨w.heap.size, 3, none⟩) (.inl (.inl rfl)) _) (.inl (.inr rfl))
        have hbx : Wf.heap[w.heap.size + 1]? = some (.cells #[.int .i64 T.kind, .int .i64 T.num, .string T.name, .slice A2 T.args.length c2] 24 (0, 0)) := by
          rw [hWf]
          refine put4 (u0 := .int .i64 0) (u1 := .int .i64 0) (u2 := .string ⟨#[]⟩) (u3 := .slice none 0 0) ?_
          rw [Below.heap_setCell _ _ _ _ (by simp)]
          exact HRB.out
        have hz1 := HZ1.out
        have hzr := HB.out.size
        have hzf := hkp.size
        rw [← hWf]
        obtain ⟨f0, f1, f2, f3⟩ := box4 hbx
        refine bodyPost_ret (v := .agg #[.int .i64 T.kind, .int .i64 T.num, .string T.name, .slice A2 T.args.length c2]) (by simp [results, Tryd.results75, go_sem, f0, f1, f2, f3]) rfl ?_
        refine ⟨A2, c2, rfl, ?_, (HL.out.all HB.out).trans (hkp.below (by omega) (fun g hg => by omega))⟩
        rw [← T.eta] at HTY
        exact HTY.out.keep fun g hg => ⟨by omega, hkp.block g hg.2 (by omega)⟩

set_option maxRecDepth 20000 in
set_option maxHeartbeats 2000000 in
theorem copyExports_any (xs : List Ex) (hp : ∀ x ∈ xs, RowOk x.ty) (v : Value) (w : World) (hX : ExsAt (· < w.heap.size) w v xs) (hl : xs.length ≤ 1000000) :
    Calls Tryd.prog 34 #[v] w fun e w' => ∃ v', e = .returned v' ∧ ExsAt (fun g => w.heap.size ≤ g ∧ g < w'.heap.size) w' v' xs ∧ Below w.heap.size w w' := by
  obtain ⟨A, c, rfl, hc, hm⟩ := hX.form
  have HX := Lib.hid hX; have HP := Lib.hid hp
  obtain ⟨W1, hW1⟩ : ∃ W1, W1 = w.alloc (.cells #[] 46) := ⟨_, rfl⟩
  have hb1 : Below w.heap.size w W1 := by rw [hW1]; exact (Below.refl _ _).alloc (Nat.le_refl _) _
  have HB1 := Lib.hid hb1
  have HMK : Hid (RowK 46 5 ExAt w.heap.size w.heap.size W1 [] (.slice (some ⟨w.heap.size, 0, none⟩) 0 0) []) := Lib.hid (by rw [hW1]; exact RowK.made w (Nat.le_refl _))
  clear hX hc hm hp hb1
  go_enter Tryd.func34, Tryd.ntmps34
  go_wp2
  rw [← hW1]
  clear hW1
  go_loopw [3, 4] (fun sv iv W => ∃ (k : Nat) (us : List Value), k ≤ xs.length ∧ iv = .int .i64 k ∧ Hid (RowK 46 5 ExAt w.heap.size w.heap.size W (xs.take k) sv us) ∧ Hid (Below w.heap.size w W)) (fun _ iv _ => xs.length - (RowKit.intOf iv).toNat)
  case atStart => exact ⟨0, [], by omega, rfl, HMK, HB1⟩
  case round =>
    obtain ⟨k, us, hk, rfl, HR, HB⟩ := hrel
    by_cases hlt : k < xs.length
    · obtain ⟨b, off, A', c', rfl, hb, hns, ht0, x0, x1, x2, x3, x4⟩ := (HX.out.keep (S' := (· < w.heap.size)) fun g hg => ⟨hg, HB.out.block g hg⟩).arg hlt
      have hzw := HB.out.size
      have ht := ht0.sub (S' := (· < wr.heap.size)) fun g (hg : g < w.heap.size) => by omega
      clear ht0
      have hd : Below wr.heap.size wr wr.drew := (Below.refl wr.heap.size _).drew
      have hca := copyTypeR_any xs[k].ty _ wr.drew (ht.blw hd) (HP.out xs[k] (List.getElem_mem hlt))
      have HTK : Hid (xs.take (k + 1) = xs.take k ++ [xs[k]]) := Lib.hid (by rw [List.take_succ_eq_append_getElem hlt])
      have hlk : (xs.take k).length = k := by rw [List.length_take]; omega
      have HLK := Lib.hid hlk
      have HNS := Lib.hid hns
      have HRD := Lib.hid (RowK.below (R := ExAt) ExAt.keep HR.out hd)
      have HBD : Hid (Below w.heap.size w wr.drew) := Lib.hid (HB.out.trans (hd.mono HB.out.size))
      have hzb := HBD.out.size
      have hbz : b < w.heap.size := hb
      have HSK : Hid (∀ W', Below w.heap.size wr W' → W'.cell? ⟨b, off + k * 5, none⟩ = some (.string xs[k].name) ∧ W'.cell? ⟨b, off + k * 5 + 1, none⟩ = some (.int .i64 xs[k].ty.kind) ∧ W'.cell? ⟨b, off + k * 5 + 2, none⟩ = some (.int .i64 xs[k].ty.num) ∧ W'.cell? ⟨b, off + k * 5 + 3, none⟩ = some (.string xs[k].ty.name) ∧ W'.cell? ⟨b, off + k * 5 + 4, none⟩ = some (.slice A' xs[k].ty.args.length c')) :=
        Lib.hid fun W' h => ⟨(h.cell (p := ⟨_, _, none⟩) hbz).trans x0, (h.cell (p := ⟨_, _, none⟩) hbz).trans x1, (h.cell (p := ⟨_, _, none⟩) hbz).trans x2, (h.cell (p := ⟨_, _, none⟩) hbz).trans x3, (h.cell (p := ⟨_, _, none⟩) hbz).trans x4⟩
      have HDW : Hid (Below w.heap.size wr wr.drew) := Lib.hid (Below.refl _ _).drew
      have HS0 := Lib.hid (HSK.out wr.drew HDW.out)
      clear ht hlk hd hns hbz
      generalize xs[k] = X at *
      unfold tyV at hca
      have HCA := Lib.hid hca
      clear hca
      go_wp2_with fail
      refine wp_region_held (S := (fun w2 : World => w2.cell? ⟨b, off + k * 5, none⟩ = some (.string X.name) ∧ w2.cell? ⟨b, off + k * 5 + 1, none⟩ = some (.int .i64 X.ty.kind) ∧ w2.cell? ⟨b, off + k * 5 + 2, none⟩ = some (.int .i64 X.ty.num) ∧ w2.cell? ⟨b, off + k * 5 + 3, none⟩ = some (.string X.ty.name) ∧ w2.cell? ⟨b, off + k * 5 + 4, none⟩ = some (.slice A' X.ty.args.length c'))) (by kernel_rfl) ?_
      refine takeD (i := 0) (s := 12) (v := u3) rfl rfl (by kernel_rfl) (by kernel_rfl) (by kernel_rfl) (fun _ _ _ h => h) (Or.inl ⟨by rfl, fun w' hS => by obtain ⟨s0, s1, s2, s3, s4⟩ := hS; go_simp⟩) HS0.out ?_
      try simp only [List.setIfInBounds_toArray, List.set_cons_zero, List.set_cons_succ]
      refine takeD (i := 1) (s := 13) (v := .slice (some ⟨b, off, none⟩) xs.length c) rfl rfl (by kernel_rfl) (by kernel_rfl) (by kernel_rfl) (fun _ _ _ h => h) (Or.inl ⟨by rfl, fun w' hS => by obtain ⟨s0, s1, s2, s3, s4⟩ := hS; go_simp⟩) HS0.out ?_
      try simp only [List.setIfInBounds_toArray, List.set_cons_zero, List.set_cons_succ]
      refine takeD (i := 2) (s := 14) (v := .int .i64 k) rfl rfl (by kernel_rfl) (by kernel_rfl) (by kernel_rfl) (fun _ _ _ h => h) (Or.inl ⟨by rfl, fun w' hS => by obtain ⟨s0, s1, s2, s3, s4⟩ := hS; go_simp⟩) HS0.out ?_
      try simp only [List.setIfInBounds_toArray, List.set_cons_zero, List.set_cons_succ]
      refine takeD (i := 3) (s := 15) (v := .pointer (some ⟨b, off + k * 5, none⟩)) rfl rfl (by kernel_rfl) (by kernel_rfl) (by kernel_rfl) (fun _ _ _ h => h) (Or.inl ⟨by rfl, fun w' hS => by obtain ⟨s0, s1, s2, s3, s4⟩ := hS; go_simp⟩) HS0.out ?_
      try simp only [List.setIfInBounds_toArray, List.set_cons_zero, List.set_cons_succ]
      refine takeD (i := 4) (s := 16) (v := .pointer (some ⟨b, off + k * 5, none⟩)) rfl rfl (by kernel_rfl) (by kernel_rfl) (by kernel_rfl) (fun _ _ _ h => h) (Or.inl ⟨by rfl, fun w' hS => by obtain ⟨s0, s1, s2, s3, s4⟩ := hS; go_simp⟩) HS0.out ?_
      try simp only [List.setIfInBounds_toArray, List.set_cons_zero, List.set_cons_succ]
      refine takeD (i := 5) (s := 17) (v := .string X.name) rfl rfl (by kernel_rfl) (by kernel_rfl) (by kernel_rfl) (fun _ _ _ h => h) (Or.inl ⟨by rfl, fun w' hS => by obtain ⟨s0, s1, s2, s3, s4⟩ := hS; go_simp⟩) HS0.out ?_
      try simp only [List.setIfInBounds_toArray, List.set_cons_zero, List.set_cons_succ]
      refine takeD (i := 6) (s := 18) (v := .slice (some ⟨b, off, none⟩) xs.length c) rfl rfl (by kernel_rfl) (by kernel_rfl) (by kernel_rfl) (fun _ _ _ h => h) (Or.inl ⟨by rfl, fun w' hS => by obtain ⟨s0, s1, s2, s3, s4⟩ := hS; go_simp⟩) HS0.out ?_
      try simp only [List.setIfInBounds_toArray, List.set_cons_zero, List.set_cons_succ]
      refine takeD (i := 7) (s := 19) (v := .int .i64 k) rfl rfl (by kernel_rfl) (by kernel_rfl) (by kernel_rfl) (fun _ _ _ h => h) (Or.inl ⟨by rfl, fun w' hS => by obtain ⟨s0, s1, s2, s3, s4⟩ := hS; go_simp⟩) HS0.out ?_
      try simp only [List.setIfInBounds_toArray, List.set_cons_zero, List.set_cons_succ]
      refine takeD (i := 8) (s := 20) (v := .pointer (some ⟨b, off + k * 5, none⟩)) rfl rfl (by kernel_rfl) (by kernel_rfl) (by kernel_rfl) (fun _ _ _ h => h) (Or.inl ⟨by rfl, fun w' hS => by obtain ⟨s0, s1, s2, s3, s4⟩ := hS; go_simp⟩) HS0.out ?_
      try simp only [List.setIfInBounds_toArray, List.set_cons_zero, List.set_cons_succ]
      refine takeD (i := 9) (s := 21) (v := .pointer (some ⟨b, off + k * 5 + 1, none⟩)) rfl rfl (by kernel_rfl) (by kernel_rfl) (by kernel_rfl) (fun _ _ _ h => h) (Or.inl ⟨by rfl, fun w' hS => by obtain ⟨s0, s1, s2, s3, s4⟩ := hS; go_simp⟩) HS0.out ?_
      try simp only [List.setIfInBounds_toArray, List.set_cons_zero, List.set_cons_succ]
      refine takeD (i := 10) (s := 22) (v := .agg #[.int .i64 X.ty.kind, .int .i64 X.ty.num, .string X.ty.name, .slice A' X.ty.args.length c']) rfl rfl (by kernel_rfl) (by kernel_rfl) (by kernel_rfl) (fun _ _ _ h => h) (Or.inl ⟨by rfl, fun w' hS => by obtain ⟨s0, s1, s2, s3, s4⟩ := hS; go_simp⟩) HS0.out ?_
      try simp only [List.setIfInBounds_toArray, List.set_cons_zero, List.set_cons_succ]
      refine wpAnyH_all (rs := [11]) (by kernel_rfl) (by simp) ?_
      intro i hi
      simp only [List.mem_cons, List.not_mem_nil, or_false] at hi
      subst hi
      refine wpOp_of rfl rfl (fun K hK => ?_)
      go_simp
      refine HCA.out.mono ?_
      rintro e w2 ⟨A2, c2, rfl, hu, HB3⟩
      have hr2 := RowK.below (R := ExAt) ExAt.keep HRD.out HB3
      have HR2 := Lib.hid hr2
      have HU : Hid (ExAt (fun g => wr.heap.size ≤ g ∧ g < w2.heap.size) w2 (exV X A2 c2) X) := Lib.hid ⟨A2, c2, rfl, HNS.out, hu⟩
      have hown := hr2.own
      rw [HLK.out] at hown
      obtain ⟨us', hus⟩ : ∃ us', us' = us.flatMap flatC := ⟨_, rfl⟩
      rw [← hus] at hown
      have hz2 : wr.heap.size ≤ w2.heap.size := HB3.size
      have HBW2 : Hid (Below w.heap.size w w2) := Lib.hid (HBD.out.trans (HB3.mono hzb))
      have HB3' : Below w.heap.size wr w2 := HDW.out.trans (HB3.mono hzb)
      have HS2 := Lib.hid (HSK.out w2 HB3')
      clear hr2 hu
      refine hK _ _ ⟨HS2.out, ?_⟩
      clear hK K
      try simp only [List.setIfInBounds_toArray, List.set_cons_zero, List.set_cons_succ]
      refine takeD (i := 12) (s := 24) (v := .agg #[.string X.name, .int .i64 X.ty.kind, .int .i64 X.ty.num, .string X.ty.name, .slice A2 X.ty.args.length c2]) rfl rfl (by kernel_rfl) (by kernel_rfl) (by kernel_rfl) (fun _ _ _ h => h) (Or.inl ⟨by rfl, fun w' hS => by obtain ⟨s0, s1, s2, s3, s4⟩ := hS; go_simp⟩) HS2.out ?_
      try simp only [List.setIfInBounds_toArray, List.set_cons_zero, List.set_cons_succ]
      refine wpAnyH_all (rs := [13]) (by kernel_rfl) (by simp) ?_
      intro i hi
      simp only [List.mem_cons, List.not_mem_nil, or_false] at hi
      subst hi
      refine wpOp_of rfl rfl (fun K hK => ?_)
      go_simp
      have HS3 := Lib.hid (HSK.out (w2.alloc (.cells #[.string X.name, .int .i64 X.ty.kind, .int .i64 X.ty.num, .string X.ty.name, .slice A2 X.ty.args.length c2] 46)) (HB3'.alloc (by omega) _))
      refine hK _ _ ⟨HS3.out, ?_⟩
      clear hK K
      try simp only [List.setIfInBounds_toArray, List.set_cons_zero, List.set_cons_succ]
      refine wpAnyH_all (rs := [14]) (by kernel_rfl) (by simp) ?_
      intro i hi
      simp only [List.mem_cons, List.not_mem_nil, or_false] at hi
      subst hi
      refine wpOp_of rfl rfl (fun K hK => ?_)
      refine wp_appK _ (.tmp 12) (.tmp 25) 42 rfl w.heap.size 46 5 exE _ k us' rfl (World.ownsRow.alloc hown _) ⟨w2.heap.size, 0, none⟩ 1 1 [.string X.name, .int .i64 X.ty.kind, .int .i64 X.ty.num, .string X.ty.name, .slice A2 X.ty.args.length c2] rfl rfl (cells_new _ _ _) (one5 _ _ _ _ _ _ _) (by omega) (by simp; omega) (fun v3 w3 hown3 hg3 hat3 => ?_)
      have HS4 := Lib.hid (HSK.out w3 (below_grow HB3' (by omega) _ hg3 (fun g e => (hown.lt g e).1)))
      refine hK _ _ ⟨HS4.out, ?_⟩
      clear hK K
      try simp only [List.setIfInBounds_toArray, List.set_cons_zero, List.set_cons_succ]
      refine takeD (i := 15) (s := 3) (v := v3) rfl rfl (by kernel_rfl) (by kernel_rfl) (by kernel_rfl) (fun _ _ _ h => h) (Or.inl ⟨by rfl, fun w' hS => by obtain ⟨s0, s1, s2, s3, s4⟩ := hS; go_simp⟩) HS4.out ?_
      try simp only [List.setIfInBounds_toArray, List.set_cons_zero, List.set_cons_succ]
      refine wpAnyH_done (by kernel_rfl) ?_ _
      go_wp2
      go_roundw
      case rel =>
        refine ⟨k + 1, us ++ [exV X A2 c2], by omega, by go_num, Lib.hid ?_, Lib.hid ?_⟩
        · rw [HTK.out]
          refine RowK.next (R := ExAt) ExAt.keep HR2.out HU.out (fun g hg => ⟨by omega, hg.2, fun e => ?_⟩) rfl _ ?_ hg3 hat3
          · have := HR.out.lt g e; omega
          · rw [HLK.out, ← hus]; exact hown3
        · exact below_grow HBW2.out (by omega) _ hg3 (fun g e => (hown.lt g e).1)
      case measure => simp [RowKit.intOf]; omega
    · have hkl : k = xs.length := by omega
      have hr := HR.out
      rw [hkl, List.take_length] at hr
      have HE := Lib.hid hr.exs
      clear hr
      go_wp2
      go_ret
      exact ⟨_, rfl, HE.out.sub fun g hg => ⟨by omega, hg.2⟩, HB.out⟩
end Go.Proofs.YtbhicpjhijondaaDoor
