/- Records, Append of a journal. -/
import Derived.Test.YtpdelgjfamelfaaGreatJ10
import Derived.Deep.DeepCutAuto
namespace Go.Proofs.YtpdelgjfamelfaaGreat
open Go.RowKit Go.Lib Go.Vfs Go.Par Go.Shelf
set_option linter.unusedVariables false
set_option linter.unusedSimpArgs false

theorem own_seg {w : World} {base : Nat} {e : TypeId} {v : Value} {xs : List Value} (h : Par.Own w base e v xs) : SegS (fun b => v.ownBlock = some b) w v xs := by
  have hl := h.lt
  rcases h.2 with ⟨rfl, h0⟩ | ⟨g, cap, cur, rfl, hg, hh, hnc, hcm, hsz, htake⟩
  · have : xs = [] := List.eq_nil_of_length_eq_zero h0
    rw [this]
    exact ⟨none, 0, rfl, by simp, by simp [maxLen], fun h => by simp at h⟩
  · refine ⟨_, cap, rfl, hnc, hcm, fun _ => ⟨g, 0, rfl, rfl, fun i hi => ?_⟩⟩
    have hc := World.ownsRow.cells (g := g) h rfl i (xs[i]'hi) (List.getElem?_eq_getElem hi)
    rw [← add_addr, hc, List.getElem?_eq_getElem hi]
section
variable {w : World} {pj p gen : Nat} {bv lv : Value} {bs us : List Value} {base log : List (List UInt8)} {G : Nat → Prop}
theorem JV.rowsB (h : JV w pj p gen bv lv bs us base log G) : RowsAt (fun k => G k ∧ k ≠ pj) w bv base := by
  have hl : bs.length = base.length := by have := h.bown.1; simpa using this
  have hown : Par.Own w 0 22 bv bs := by unfold Par.Own; rw [hl]; exact h.bown
  exact ⟨bs, hl, (own_seg hown).keep fun b hb => ⟨h.gb b hb, rfl⟩, fun i hi => (h.bdat i hi).keep fun b hb => ⟨⟨hb.1, hb.2.1⟩, rfl⟩⟩
theorem JV.rowsL (h : JV w pj p gen bv lv bs us base log G) : RowsAt (fun k => G k ∧ k ≠ pj) w lv log := by
  have hl : us.length = log.length := by have := h.lown.1; simpa using this
  have hown : Par.Own w 0 22 lv us := by unfold Par.Own; rw [hl]; exact h.lown
  exact ⟨us, hl, (own_seg hown).keep fun b hb => ⟨⟨(h.gl b hb).1, (h.gl b hb).2.1⟩, rfl⟩, fun i hi => (h.ldat i hi).keep fun b hb => ⟨⟨hb.1, hb.2.1⟩, rfl⟩⟩
end
/-- two lists of slices behind one another. -/
theorem Rowed.join {w w2 w3 : World} {u1 v : Value} {us1 us2 : List Value} {a b : List (List UInt8)} (hb : Below w.heap.size w w2) (h1l : us1.length = a.length) (h2l : us2.length = b.length) (ho : Par.Own w2 w.heap.size 22 u1 us1)
    (c1 : ∀ i, i < a.length → SegS (fun k => w.heap.size ≤ k ∧ k < w2.heap.size ∧ u1.ownBlock ≠ some k) w2 (us1.getD i (.bool false)) (byteCells (a.getD i [])))
    (c2 : ∀ i, i < b.length → SegS (fun k => w.heap.size ≤ k ∧ k < w2.heap.size ∧ u1.ownBlock ≠ some k) w2 (us2.getD i (.bool false)) (byteCells (b.getD i [])))
    (hown : Par.Own w3 w.heap.size 22 v (us1 ++ us2)) (hg : w2.grownBy w3 u1.ownBlock) (hat : v.ownBlock = u1.ownBlock ∨ v.ownBlock = some w2.heap.size) : Rowed w (a ++ b) (a ++ b).length v (us1 ++ us2) w3 := by
  have hz := hb.size
  have hzg := hg.size
  have keep : ∀ k, (w.heap.size ≤ k ∧ k < w2.heap.size ∧ u1.ownBlock ≠ some k) → (w.heap.size ≤ k ∧ k < w3.heap.size ∧ v.ownBlock ≠ some k) ∧ w3.heap[k]? = w2.heap[k]? := fun k ⟨k1, k2, k3⟩ => by
    refine ⟨⟨k1, by omega, fun e => ?_⟩, hg.block k k2 (fun e => k3 e.symm)⟩
    rcases hat with e1 | e1
    · exact k3 (e1.symm.trans e)
    · rw [e1] at e; cases e; omega
  refine ⟨hb.grown hg (by omega) (fun g e => (ho.lt g e).1), by simp [h1l, h2l], hown, fun i hi => ?_⟩
  by_cases hia : i < a.length
  · rw [show (us1 ++ us2).getD i (.bool false) = us1.getD i (.bool false) by simp [List.getD_eq_getElem?_getD, List.getElem?_append, h1l, hia], show (a ++ b).getD i [] = a.getD i [] by simp [List.getD_eq_getElem?_getD, List.getElem?_append, hia]]
    exact (c1 i hia).keep keep
  · rw [show (us1 ++ us2).getD i (.bool false) = us2.getD (i - a.length) (.bool false) by simp [List.getD_eq_getElem?_getD, List.getElem?_append, h1l, hia], show (a ++ b).getD i [] = b.getD (i - a.length) [] by simp [List.getD_eq_getElem?_getD, List.getElem?_append, hia]]
    exact (c2 _ (by simp at hi; omega)).keep keep
theorem SegS.one {S : Nat → Prop} {w : World} {v : Value} {l : List UInt8} (h : SegS S w v (byteCells l)) : v.oneCell' = true := one_slices h
theorem all_one {w : World} {S : Nat → Prop} {us : List Value} {ls : List (List UInt8)} (hl : us.length = ls.length) (h : ∀ i, i < ls.length → SegS S w (us.getD i (.bool false)) (byteCells (ls.getD i []))) : ∀ x ∈ us, x.oneCell' = true := by
  intro x hx
  obtain ⟨i, hi, rfl⟩ := List.getElem_of_mem hx
  have := h i (by omega)
  rw [show us.getD i (.bool false) = us[i] by simp [List.getD_eq_getElem?_getD, hi]] at this
  exact one_slices this

set_option maxRecDepth 20000 in
set_option maxHeartbeats 2000000 in
theorem jrecords_any {w : World} {pj p gen : Nat} {base log : List (List UInt8)} {G : Nat → Prop} (h : JS w pj p gen base log G) (hb : base.length ≤ 1000000) (hl : log.length ≤ 1000000) (hbl : ∀ l ∈ base, l.length ≤ 1000000) (hll : ∀ l ∈ log, l.length ≤ 1000000) :
    Calls Tryz.prog 18 #[.pointer (some ⟨pj, 0, none⟩)] w fun e w' => ∃ v us, e = .returned v ∧ Rowed w (base ++ log) (base ++ log).length v us w' := by
  obtain ⟨bv, lv, bs, us, hj⟩ := h
  obtain ⟨⟨c0, c1, c2, c3⟩, -⟩ := hj.cells
  have HB := Lib.hid (hj.rowsB.sub (S' := (· < w.heap.size)) fun k hk => hj.lt k hk.1)
  have HL := Lib.hid (hj.rowsL.sub (S' := (· < w.heap.size)) fun k hk => hj.lt k hk.1)
  obtain ⟨Ab, cb, hbf⟩ := Own.formR hj.bown
  obtain ⟨Al, cl, hlf⟩ := Own.formR hj.lown
  subst hbf hlf
  have hpj : pj < w.heap.size := hj.lt _ hj.gpj
  have HH := Lib.hid (And.intro hb (And.intro hl (And.intro hbl hll)))
  clear hj c0 c1 hb hl hbl hll
  have HC : Hid (∀ (v : Value) (ls : List (List UInt8)), RowsAt (· < w.heap.size) w v ls → ls.length ≤ 1000000 → (∀ l ∈ ls, l.length ≤ 1000000) → ∀ X, Below w.heap.size w X → Calls Tryz.prog 61 #[v] X fun e w' => ∃ (A : Option Addr) (c : Nat) (us : List Value), e = .returned (.slice A ls.length c) ∧ Hid (Rowed X ls ls.length (.slice A ls.length c) us w') ∧ (w'.cell? ⟨pj, 2, none⟩ = some (.slice Ab base.length cb) ∧ w'.cell? ⟨pj, 3, none⟩ = some (.slice Al log.length cl))) := Lib.hid fun v ls hv h1 h2 X hX => by
    refine (copies_any v ls X (hv.keep fun b hb => ⟨by have := hX.size; omega, hX.block b hb⟩) (by omega) h2).mono ?_
    rintro e w' ⟨u, us, rfl, hr⟩
    obtain ⟨A, c, hf⟩ := hr.own.form
    rw [hr.len] at hf
    subst hf
    have hb2 := hX.trans (hr.below.mono hX.size)
    exact ⟨A, c, us, rfl, Lib.hid hr, (hb2.cell (p := ⟨pj, 2, none⟩) hpj).trans c2, (hb2.cell (p := ⟨pj, 3, none⟩) hpj).trans c3⟩
  have HS0 : Hid (w.drew.cell? ⟨pj, 2, none⟩ = some (.slice Ab base.length cb) ∧ w.drew.cell? ⟨pj, 3, none⟩ = some (.slice Al log.length cl)) := Lib.hid ⟨c2, c3⟩
  have HZ : Hid (Below w.heap.size w w.drew) := Lib.hid (Below.refl _ w).drew
  clear c2 c3
  go_enter Tryz.func18, Tryz.ntmps18
  go_upto_region 1 with fail
  refine wp_region_held (S := fun w' => w'.cell? ⟨pj, 2, none⟩ = some (.slice Ab base.length cb) ∧ w'.cell? ⟨pj, 3, none⟩ = some (.slice Al log.length cl)) (by kernel_rfl) ?_
  refine wpAnyH_take (i := 0) (v := .pointer (some ⟨pj, 0, none⟩)) rfl (by kernel_rfl) (by kernel_rfl) (by kernel_rfl) (fun _ _ _ h => h) (Or.inl ⟨by rfl, fun w' hS => by obtain ⟨s0, s1⟩ := hS; go_simp⟩) HS0.out ?_
  refine wpAnyH_take (i := 1) (v := .pointer (some ⟨pj, 0, none⟩)) rfl (by kernel_rfl) (by kernel_rfl) (by kernel_rfl) (fun _ _ _ h => h) (Or.inl ⟨by rfl, fun w' hS => by obtain ⟨s0, s1⟩ := hS; go_simp⟩) HS0.out ?_
  refine wpAnyH_take (i := 2) (v := .pointer (some ⟨pj, 2, none⟩)) rfl (by kernel_rfl) (by kernel_rfl) (by kernel_rfl) (fun _ _ _ h => h) (Or.inl ⟨by rfl, fun w' hS => by obtain ⟨s0, s1⟩ := hS; go_simp⟩) HS0.out ?_
  refine wpAnyH_take (i := 3) (v := .slice Ab base.length cb) rfl (by kernel_rfl) (by kernel_rfl) (by kernel_rfl) (fun _ _ _ h => h) (Or.inl ⟨by rfl, fun w' hS => by obtain ⟨s0, s1⟩ := hS; go_simp⟩) HS0.out ?_
  refine wpAnyH_take (i := 5) (v := .pointer (some ⟨pj, 0, none⟩)) rfl (by kernel_rfl) (by kernel_rfl) (by kernel_rfl) (fun _ _ _ h => h) (Or.inl ⟨by rfl, fun w' hS => by obtain ⟨s0, s1⟩ := hS; go_simp⟩) HS0.out ?_
  refine wpAnyH_take (i := 6) (v := .pointer (some ⟨pj, 0, none⟩)) rfl (by kernel_rfl) (by kernel_rfl) (by kernel_rfl) (fun _ _ _ h => h) (Or.inl ⟨by rfl, fun w' hS => by obtain ⟨s0, s1⟩ := hS; go_simp⟩) HS0.out ?_
  refine wpAnyH_take (i := 7) (v := .pointer (some ⟨pj, 3, none⟩)) rfl (by kernel_rfl) (by kernel_rfl) (by kernel_rfl) (fun _ _ _ h => h) (Or.inl ⟨by rfl, fun w' hS => by obtain ⟨s0, s1⟩ := hS; go_simp⟩) HS0.out ?_
  refine wpAnyH_take (i := 8) (v := .slice Al log.length cl) rfl (by kernel_rfl) (by kernel_rfl) (by kernel_rfl) (fun _ _ _ h => h) (Or.inl ⟨by rfl, fun w' hS => by obtain ⟨s0, s1⟩ := hS; go_simp⟩) HS0.out ?_
  refine wpAnyH_all (rs := [4]) (by kernel_rfl) (by simp) ?_
  intro i hi
  simp only [List.mem_cons, List.not_mem_nil, or_false] at hi
  subst hi
  · refine wpOp_of rfl rfl (fun K hK => ?_)
    go_simp
    refine (HC.out _ _ HB.out HH.out.1 HH.out.2.2.1 w.drew HZ.out).mono ?_
    rintro e w2 ⟨A2, c2, us2, rfl, HR2, hs2⟩
    refine hK _ _ ⟨hs2, ?_⟩
    clear hK K
    have HZ2 : Hid (Below w.heap.size w w2) := Lib.hid (HZ.out.trans HR2.out.below)
    refine wpAnyH_all (rs := [9]) (by kernel_rfl) (by simp) ?_
    intro i hi
    simp only [List.mem_cons, List.not_mem_nil, or_false] at hi
    subst hi
    refine wpOp_of rfl rfl (fun K hK => ?_)
    go_simp
    refine (HC.out _ _ HL.out HH.out.2.1 HH.out.2.2.2 w2 HZ2.out).mono ?_
    rintro e w3 ⟨A3, c3, us3, rfl, HR3, hs3⟩
    refine hK _ _ ⟨hs3, ?_⟩
    clear hK K
    refine wpAnyH_all (rs := [10]) (by kernel_rfl) (by simp) ?_
    intro i hi
    simp only [List.mem_cons, List.not_mem_nil, or_false] at hi
    subst hi
    refine wpOp_of rfl rfl (fun K hK => ?_)
    have hz2 : w.heap.size ≤ w2.heap.size := HZ2.out.size
    have hz3 := HR3.out.below.size
    have hB3 : Below w.heap.size w w3 := HZ2.out.trans (HR3.out.below.mono hz2)
    have hl2 := HR2.out.len
    have hl3 := HR3.out.len
    have hown : Par.Own w3 w.heap.size 22 (.slice A2 base.length c2) us2 := HR2.out.own.below HR3.out.below
    have hlt : ∀ g, (Value.slice A2 base.length c2).ownBlock = some g → w.heap.size ≤ g ∧ g < w2.heap.size := fun g e => HR2.out.own.lt g e
    have C1 : ∀ i, i < base.length → SegS (fun k => w.heap.size ≤ k ∧ k < w3.heap.size ∧ (Value.slice A2 base.length c2).ownBlock ≠ some k) w3 (us2.getD i (.bool false)) (byteCells (base.getD i [])) := fun i hi => (HR2.out.cells i hi).keep fun k hk => ⟨⟨hk.1, by omega, hk.2.2⟩, HR3.out.below.block k hk.2.1⟩
    have C2 : ∀ i, i < log.length → SegS (fun k => w.heap.size ≤ k ∧ k < w3.heap.size ∧ (Value.slice A2 base.length c2).ownBlock ≠ some k) w3 (us3.getD i (.bool false)) (byteCells (log.getD i [])) := fun i hi => (HR3.out.cells i hi).keep fun k hk => ⟨⟨by omega, hk.2.1, fun e => by have := hlt k e; omega⟩, rfl⟩
    have hsg : Seg w3 w3.heap.size (.slice A3 log.length c3) us3 := HR3.out.own.seg
    refine wp_app _ (.tmp 7) (.tmp 12) 38 rfl w.heap.size 22 _ rowE (.slice A2 base.length c2) us2 rfl hown _ _ us3 rfl hsg (all_one hl3 C2) (by have := HH.out; omega) (by omega) (fun v4 w4 h2 h3 h4 => ?_)
    have HR4 := Lib.hid (Rowed.join hB3 hl2 hl3 hown C1 C2 h2 h3 h4)
    have g0 := grown_cell h3 hs3.1 (fun e => by have := hlt pj e; omega)
    have g1 := grown_cell h3 hs3.2 (fun e => by have := hlt pj e; omega)
    refine hK _ _ ⟨⟨g0, g1⟩, ?_⟩
    clear hK K
    refine wpAnyH_all (rs := [11]) (by kernel_rfl) (by simp) ?_
    intro i hi
    simp only [List.mem_cons, List.not_mem_nil, or_false] at hi
    subst hi
    refine wpOp_of rfl rfl (fun K hK => ?_)
    go_simp
    refine hK _ _ ⟨⟨g0, g1⟩, ?_⟩
    clear hK K
    refine wpAnyH_done (by kernel_rfl) ?_ _
    clear h2 h3 h4 hown C1 C2 hsg hB3 hlt g0 g1
    go_wp2
    go_ret
    exact ⟨_, _, rfl, HR4.out⟩
end Go.Proofs.YtpdelgjfamelfaaGreat
