/- Rows that were copied: each row owns its memory. -/
import Derived.Test.YtpdelgjfamelfaaGreatJ19
namespace Go.Proofs.YtpdelgjfamelfaaGreat
open Go.RowKit Go.Lib Go.Vfs Go.Par Go.Shelf
set_option linter.unusedVariables false
set_option linter.unusedSimpArgs false

structure RowedX (w : World) (ls : List (List UInt8)) (k : Nat) (v : Value) (us : List Value) (wr : World) : Prop extends Rowed w ls k v us wr where
  each : ∀ i, i < k → Par.Own wr w.heap.size 5 (us.getD i (.bool false)) (byteCells (ls.getD i []))
  sep : ∀ i j, i < j → j < k → ∀ g, (us.getD i (.bool false)).ownBlock = some g → (us.getD j (.bool false)).ownBlock ≠ some g
  vsep : ∀ i, i < k → ∀ g, (us.getD i (.bool false)).ownBlock = some g → v.ownBlock ≠ some g
theorem RowedX.zero {w wr : World} {ls : List (List UInt8)} {v : Value} (hb : Below w.heap.size w wr) (ho : Par.Own wr w.heap.size 22 v []) : RowedX w ls 0 v [] wr :=
  ⟨⟨hb, rfl, ho, fun i hi => by omega⟩, fun i hi => by omega, fun i j _ hj => by omega, fun i hi => by omega⟩
theorem own_turn {w w' : World} {B : Nat} {e : TypeId} {v : Value} {xs : List Value} (h : Par.Own w B e v xs) (hk : ∀ g, v.ownBlock = some g → w'.heap[g]? = w.heap[g]?) : Par.Own w' B e v xs := by
  unfold Par.Own at *
  exact ownsRow_block h hk
theorem RowedX.next {w : World} {ls : List (List UInt8)} {k : Nat} {v : Value} {us : List Value} {wr w2 w3 : World} (h : RowedX w ls k v us wr) {u : Value} (hb : Below wr.heap.size wr w2) (hu : Par.Own w2 wr.heap.size 5 u (byteCells (ls.getD k [])))
    {v' : Value} (o : Obj) (hown : Par.Own w3 w.heap.size 22 v' (us ++ [u])) (hg : (w2.alloc o).grownBy w3 v.ownBlock) (hat : v'.ownBlock = v.ownBlock ∨ v'.ownBlock = some (w2.heap.size + 1)) : RowedX w ls (k + 1) v' (us ++ [u]) w3 := by
  have hn := h.toRowed.next hb hu o hown hg hat
  have hz := h.below.size
  have hz2 := hb.size
  have hal : (w2.alloc o).heap.size = w2.heap.size + 1 := by simp
  have lo : ∀ i, i < k → (us ++ [u]).getD i (.bool false) = us.getD i (.bool false) := fun i hi => by simp [List.getD_eq_getElem?_getD, List.getElem?_append, h.len, hi]
  have hi' : (us ++ [u]).getD k (.bool false) = u := by simp [List.getD_eq_getElem?_getD, List.getElem?_append, h.len]
  have hlt : ∀ i, i < k → ∀ g, (us.getD i (.bool false)).ownBlock = some g → w.heap.size ≤ g ∧ g < wr.heap.size := fun i hi g e => (h.each i hi).lt g e
  have hul : ∀ g, u.ownBlock = some g → wr.heap.size ≤ g ∧ g < w2.heap.size := fun g e => hu.lt g e
  have hv : ∀ g, v.ownBlock = some g → g < wr.heap.size := fun g e => (h.own.lt g e).2
  refine ⟨hn, fun i hi => ?_, fun i j hij hj g e => ?_, fun i hi g e => ?_⟩
  · by_cases hik : i < k
    · rw [lo i hik]
      refine own_turn (h.each i hik) fun g e => ?_
      have := hlt i hik g e
      rw [hg.block g (by omega) (fun e2 => h.vsep i hik g e e2.symm), Below.heap_alloc _ _ _ (by omega), hb.block g this.2]
    · have : i = k := by omega
      subst this
      rw [hi']
      refine own_turn (hu.base hz) fun g e => ?_
      have := hul g e
      rw [hg.block g (by omega) (fun e2 => by have := hv g e2.symm; omega), Below.heap_alloc _ _ _ (by omega)]
  · by_cases hjk : j < k
    · rw [lo i (by omega)] at e
      rw [lo j hjk]
      exact h.sep i j hij hjk g e
    · have : j = k := by omega
      subst this
      rw [lo i hij] at e
      rw [hi']
      intro e2
      have := hlt i hij g e
      have := hul g e2
      omega
  · by_cases hik : i < k
    · rw [lo i hik] at e
      rcases hat with e1 | e1
      · rw [e1]; exact h.vsep i hik g e
      · rw [e1]; intro e2; injection e2 with e2; have := hlt i hik g e; omega
    · have : i = k := by omega
      subst this
      rw [hi'] at e
      have := hul g e
      rcases hat with e1 | e1
      · rw [e1]; intro e2; have := hv g e2; omega
      · rw [e1]; intro e2; injection e2 with e2; omega
theorem RowedX.undrew {w : World} {ls : List (List UInt8)} {k : Nat} {v : Value} {us : List Value} {wr : World} (h : RowedX w.drew ls k v us wr) : RowedX w ls k v us wr := ⟨⟨((Below.refl _ w).drew).trans h.below, h.len, h.own, h.cells⟩, h.each, h.sep, h.vsep⟩
/-- rows behind one another. -/
theorem RowedX.join {w wa w2 w3 : World} {u1 v2 v : Value} {us1 us2 : List Value} {a b : List (List UInt8)} (h1 : RowedX w a a.length u1 us1 wa) (h2 : RowedX wa b b.length v2 us2 w2)
    (hown : Par.Own w3 w.heap.size 22 v (us1 ++ us2)) (hg : w2.grownBy w3 u1.ownBlock) (hat : v.ownBlock = u1.ownBlock ∨ v.ownBlock = some w2.heap.size) : RowedX w (a ++ b) (a ++ b).length v (us1 ++ us2) w3 := by
  have hza := h1.below.size
  have hz2 := h2.below.size
  have hzg := hg.size
  have hlt1 : ∀ i, i < a.length → ∀ g, (us1.getD i (.bool false)).ownBlock = some g → w.heap.size ≤ g ∧ g < wa.heap.size := fun i hi g e => (h1.each i hi).lt g e
  have hlt2 : ∀ i, i < b.length → ∀ g, (us2.getD i (.bool false)).ownBlock = some g → wa.heap.size ≤ g ∧ g < w2.heap.size := fun i hi g e => (h2.each i hi).lt g e
  have hv1 : ∀ g, u1.ownBlock = some g → w.heap.size ≤ g ∧ g < wa.heap.size := fun g e => h1.own.lt g e
  have ho : Par.Own w2 w.heap.size 22 u1 us1 := h1.own.below h2.below
  have hj := Rowed.join (h1.below.trans (h2.below.mono hza)) h1.len h2.len ho
    (fun i hi => (h1.cells i hi).keep fun k hk => ⟨⟨hk.1, by omega, hk.2.2⟩, h2.below.block k hk.2.1⟩)
    (fun i hi => (h2.cells i hi).keep fun k hk => ⟨⟨by omega, hk.2.1, fun e => by have := hv1 k e; omega⟩, rfl⟩) hown hg hat
  have l1 : ∀ i, i < a.length → (us1 ++ us2).getD i (.bool false) = us1.getD i (.bool false) := fun i hi => by simp [List.getD_eq_getElem?_getD, List.getElem?_append, h1.len, hi]
  have l2 : ∀ i, ¬ i < a.length → (us1 ++ us2).getD i (.bool false) = us2.getD (i - a.length) (.bool false) := fun i hi => by simp [List.getD_eq_getElem?_getD, List.getElem?_append, h1.len, hi]
  refine ⟨hj, fun i hi => ?_, fun i j hij hjl g e => ?_, fun i hi g e => ?_⟩
  · by_cases hia : i < a.length
    · rw [l1 i hia, show (a ++ b).getD i [] = a.getD i [] by simp [List.getD_eq_getElem?_getD, List.getElem?_append, hia]]
      refine own_turn ((h1.each i hia).below h2.below) fun g e => hg.block g (by have := hlt1 i hia g e; omega) (fun e2 => h1.vsep i hia g e e2.symm)
    · have hib : i - a.length < b.length := by simp at hi; omega
      rw [l2 i hia, show (a ++ b).getD i [] = b.getD (i - a.length) [] by simp [List.getD_eq_getElem?_getD, List.getElem?_append, hia]]
      refine own_turn ((h2.each _ hib).base hza) fun g e => hg.block g (by have := hlt2 _ hib g e; omega) (fun e2 => by have := hlt2 _ hib g e; have := hv1 g e2.symm; omega)
  · simp only [List.length_append] at hjl
    by_cases hia : i < a.length
    · rw [l1 i hia] at e
      by_cases hja : j < a.length
      · rw [l1 j hja]; exact h1.sep i j hij hja g e
      · rw [l2 j hja]; intro e2; have := hlt1 i hia g e; have := hlt2 _ (by omega) g e2; omega
    · rw [l2 i hia] at e
      rw [l2 j (by omega)]
      exact h2.sep _ _ (by omega) (by omega) g e
  · simp only [List.length_append] at hi
    have hgl : g < w2.heap.size ∧ u1.ownBlock ≠ some g := by
      by_cases hia : i < a.length
      · rw [l1 i hia] at e; exact ⟨by have := hlt1 i hia g e; omega, h1.vsep i hia g e⟩
      · rw [l2 i hia] at e; exact ⟨(hlt2 _ (by omega) g e).2, fun e2 => by have := hlt2 _ (by omega) g e; have := hv1 g e2; omega⟩
    rcases hat with e1 | e1
    · rw [e1]; exact hgl.2
    · rw [e1]; intro e2; injection e2 with e2; omega

set_option maxRecDepth 20000 in
set_option maxHeartbeats 2000000 in
theorem copyRowsX_any (v : Value) (ls : List (List UInt8)) (B : Nat) (w : World) (hsg : RowsAt (· < B) w v ls) (hB : B ≤ w.heap.size) (hl : ls.length ≤ 1048576) (hll : ∀ l ∈ ls, l.length ≤ 1000000) :
    Calls Tryz.prog 23 #[v] w fun e w' => ∃ u us, e = .returned u ∧ RowedX w ls ls.length u us w' := by
  obtain ⟨vs, hvl, ⟨A, c, rfl, hc, hm, hat⟩, hrows⟩ := hsg
  have hm' : c ≤ 9223372036854775807 := by simpa [maxLen] using hm
  have HAT := Lib.hid hat; clear hat
  have HR := Lib.hid hrows; clear hrows
  have HVL := Lib.hid hvl; clear hvl
  have HLL := Lib.hid hll; clear hll
  have hown := Par.Own.new w w.heap.size 22 #[] [] rfl (Nat.le_refl _) (by simp)
  have hb0 : Below w.heap.size w (w.alloc (.cells #[] 22)) := (Below.refl _ w).alloc (Nat.le_refl _) _
  have H0 : Hid (RowedX w ls 0 _ [] _) := Lib.hid (RowedX.zero hb0 hown)
  clear hown hb0
  go_enter Tryz.func23, Tryz.ntmps23
  go_wp2
  go_loopw [3, 4] (fun s i wr => ∃ (k : Nat) (us : List Value), k ≤ vs.length ∧ i = .int .i64 k ∧ Hid (RowedX w ls k s us wr)) (fun _ i _ => vs.length - (intOf i).toNat)
  case atStart => exact ⟨0, [], by omega, rfl, H0⟩
  case round =>
    obtain ⟨k, us, hk, rfl, HRk⟩ := hrel
    obtain ⟨As, cs, hform⟩ := HRk.out.own.form
    rw [HRk.out.len] at hform
    subst hform
    by_cases hlt : k < vs.length
    · obtain ⟨b, off, rfl, hb, hcell⟩ := HAT.out (by omega)
      have hck : wr.cell? ⟨b, off + k, none⟩ = some (vs.getD k (.bool false)) := by
        rw [HRk.out.below.cell (p := ⟨b, off + k, none⟩) (by show b < _; omega), hcell k hlt, List.getD_eq_getElem?_getD, List.getElem?_eq_getElem hlt]
        rfl
      have hsk : Seg wr B (vs.getD k (.bool false)) (byteCells (ls.getD k [])) := Seg.below (B := B) (HR.out k (by rw [← HVL.out]; exact hlt)) (HRk.out.below.mono hB)
      have hkl : k < ls.length := by rw [← HVL.out]; exact hlt
      have hL : (ls.getD k []).length ≤ 1000000 := by
        rw [List.getD_eq_getElem?_getD, List.getElem?_eq_getElem hkl]
        exact HLL.out _ (List.getElem_mem hkl)
      generalize hLe : ls.getD k [] = L at *
      have HLe := Lib.hid hLe
      have HSK := Lib.hid hsk
      clear hsk hcell hLe
      obtain ⟨Au, cu, hcu, -⟩ := HSK.out
      have hz := HRk.out.below.size
      generalize vs.getD k (.bool false) = u at *
      subst hcu
      go_wp2_with fail
      refine (copyBytes_any _ L B wr HSK.out (by omega) hL).mono ?_
      rintro e w2 ⟨u2, rfl, hu2, hb2⟩
      have hown2 := (HRk.out.own.below hb2).alloc (.cells #[u2] 22)
      have hone := one_slices (Own.outS hu2 (F := fun _ => False) (fun _ h => h.elim))
      have hsg2 := Seg.new w2 22 #[u2] [u2] rfl (by simp [maxLen])
      obtain ⟨A2, c2, hform2⟩ := hu2.form
      have HU2 := Lib.hid hu2; have HB2 := Lib.hid hb2
      have hz2 := hb2.size
      have hlen := HRk.out.len
      have HLEN := Lib.hid hlen
      clear hu2 hb2 HSK
      subst hform2
      go_wp2_with (at_builtin; refine wpList_app _ rfl _ _ _ rfl w.heap.size 22 _ rowE _ _ rfl hown2 _ _ _ rfl hsg2 (fun x hx => by simp at hx; subst hx; exact hone) ?c1 ?c2 ?_)
      case c1 => simp; omega
      case c2 => simp; omega
      intro v3 w3 hown4 hg3 hat3
      have HN := Lib.hid (HRk.out.next HB2.out (by rw [HLe.out]; exact HU2.out) _ hown4 hg3 hat3)
      clear hown4 hg3 hat3
      obtain ⟨A3, c3, hform3⟩ := HN.out.own.form
      subst hform3
      clear HU2 HB2 hown2 hone hsg2
      go_wp2
      go_roundw
      case rel => exact ⟨k + 1, _, by omega, by go_num, HN⟩
      case measure => simp [intOf]; omega
    · have hkl : k = vs.length := by omega
      have HKL := Lib.hid hkl
      clear hkl
      go_wp2
      go_ret
      have hkl := HKL.out
      have hfin := HRk.out
      rw [hkl, HVL.out] at hfin
      exact ⟨_, us, by rw [hkl, HVL.out]; rfl, hfin⟩

set_option maxRecDepth 20000 in
set_option maxHeartbeats 2000000 in
theorem copiesX_any (v : Value) (ls : List (List UInt8)) (w : World) (hsg : RowsAt (· < w.heap.size) w v ls) (hl : ls.length ≤ 1048576) (hll : ∀ l ∈ ls, l.length ≤ 1000000) :
    Calls Tryz.prog 61 #[v] w fun e w' => ∃ u us, e = .returned u ∧ RowedX w ls ls.length u us w' := by
  obtain ⟨A, c, rfl, hc, hm, HR⟩ := hsg.open_
  have HLL := Lib.hid hll; clear hll hsg
  have H0 : Hid (RowedX w ls 0 (.slice none 0 0) [] w) := Lib.hid (RowedX.zero (Below.refl _ _) (Par.Own.nil _ _ _))
  go_enter Tryz.func61, Tryz.ntmps61
  go_wp2
  go_loopw [3, 8] (fun s i wr => ∃ (k : Nat) (us : List Value), k ≤ ls.length ∧ i = .int .i64 k ∧ Hid (RowedX w ls k s us wr)) (fun _ i _ => ls.length - (intOf i).toNat)
  case atStart => exact ⟨0, [], by omega, rfl, H0⟩
  case round =>
    obtain ⟨k, us, hk, rfl, HRk⟩ := hrel
    obtain ⟨As, cs, hform⟩ := HRk.out.own.form
    rw [HRk.out.len] at hform
    subst hform
    have hz := HRk.out.below.size
    by_cases hlt : k < ls.length
    · obtain ⟨b, off, Au, cu, rfl, hb, hck, hsk⟩ := HR.out wr HRk.out.below k hlt
      have hL : (ls.getD k []).length ≤ 1000000 := by
        rw [List.getD_eq_getElem?_getD, List.getElem?_eq_getElem hlt]
        exact HLL.out _ (List.getElem_mem hlt)
      generalize hLe : ls.getD k [] = L at *
      have HLe := Lib.hid hLe
      have HSK := Lib.hid (hsk.more hz)
      clear hsk hLe
      go_wp2_with fail
      refine (clone_seg _ L wr HSK.out (by omega)).mono ?_
      rintro e w2 ⟨u2, rfl, hu2, hb2⟩
      have hown2 := (HRk.out.own.below hb2).alloc (.cells #[u2] 22)
      have hone := one_slices (Own.outS hu2 (F := fun _ => False) (fun _ h => h.elim))
      have hsg2 := Seg.new w2 22 #[u2] [u2] rfl (by simp [maxLen])
      obtain ⟨A2, c2, hform2⟩ := hu2.form
      have HU2 := Lib.hid hu2; have HB2 := Lib.hid hb2
      have hz2 := hb2.size
      have hlen := HRk.out.len
      clear hu2 hb2 HSK
      subst hform2
      go_wp2_with (at_builtin; refine wpList_app _ rfl _ _ _ rfl w.heap.size 22 _ rowE _ _ rfl hown2 _ _ _ rfl hsg2 (fun x hx => by simp at hx; subst hx; exact hone) ?c1 ?c2 ?_)
      case c1 => simp; omega
      case c2 => simp; omega
      intro v3 w3 hown4 hg3 hat3
      have HN := Lib.hid (HRk.out.next HB2.out (by rw [HLe.out]; exact HU2.out) _ hown4 hg3 hat3)
      clear hown4 hg3 hat3 hlen
      obtain ⟨A3, c3, hform3⟩ := HN.out.own.form
      subst hform3
      clear HU2 HB2 hown2 hone hsg2 hck
      go_wp2
      go_roundw
      case rel => exact ⟨k + 1, _, by omega, by go_num, HN⟩
      case measure => simp [intOf]; omega
    · have hkl : k = ls.length := by omega
      have HKL := Lib.hid hkl; clear hkl
      go_wp2
      go_ret
      refine ⟨_, us, rfl, ?_⟩
      rw [← HKL.out]
      exact HKL.out ▸ HRk.out

set_option maxRecDepth 20000 in
set_option maxHeartbeats 2000000 in
theorem jrecordsX_any {w : World} {pj p gen : Nat} {base log : List (List UInt8)} {G : Nat → Prop} (h : JS w pj p gen base log G) (hb : base.length ≤ 1000000) (hl : log.length ≤ 1000000) (hbl : ∀ l ∈ base, l.length ≤ 1000000) (hll : ∀ l ∈ log, l.length ≤ 1000000) :
    Calls Tryz.prog 18 #[.pointer (some ⟨pj, 0, none⟩)] w fun e w' => ∃ v us, e = .returned v ∧ RowedX w (base ++ log) (base ++ log).length v us w' := by
  obtain ⟨bv, lv, bs, us, hj⟩ := h
  obtain ⟨⟨c0, c1, c2, c3⟩, -⟩ := hj.cells
  have HB := Lib.hid (hj.rowsB.sub (S' := (· < w.heap.size)) fun k hk => hj.lt k hk.1)
  have HL := Lib.hid (hj.rowsL.sub (S' := (· < w.heap.size)) fun k hk => hj.lt k hk.1)
  obtain ⟨Ab, cb, hbf⟩ := Own.formR hj.bown
  obtain ⟨Al, cl, hlf⟩ := Own.formR hj.lown
  subst hbf hlf
  have hpj : pj < w.heap.size := hj.lt _ hj.gpj
  have HH := Lib.hid (And.intro hb (And.intro hl (And.intro hbl hll)))
  clear hj c0 c1 hb hl hbl hll
  have HC : Hid (∀ (v : Value) (ls : List (List UInt8)), RowsAt (· < w.heap.size) w v ls → ls.length ≤ 1000000 → (∀ l ∈ ls, l.length ≤ 1000000) → ∀ X, Below w.heap.size w X → Calls Tryz.prog 61 #[v] X fun e w' => ∃ (A : Option Addr) (c : Nat) (us : List Value), e = .returned (.slice A ls.length c) ∧ Hid (RowedX X ls ls.length (.slice A ls.length c) us w') ∧ (w'.cell? ⟨pj, 2, none⟩ = some (.slice Ab base.length cb) ∧ w'.cell? ⟨pj, 3, none⟩ = some (.slice Al log.length cl))) := Lib.hid fun v ls hv h1 h2 X hX => by
    refine (copiesX_any v ls X (hv.keep fun b hb => ⟨by have := hX.size; omega, hX.block b hb⟩) (by omega) h2).mono ?_
    rintro e w' ⟨u, us, rfl, hr⟩
    obtain ⟨A, c, hf⟩ := hr.own.form
    rw [hr.len] at hf
    subst hf
    have hb2 := hX.trans (hr.below.mono hX.size)
    exact ⟨A, c, us, rfl, Lib.hid hr, (hb2.cell (p := ⟨pj, 2, none⟩) hpj).trans c2, (hb2.cell (p := ⟨pj, 3, none⟩) hpj).trans c3⟩
  have HS0 : Hid (w.drew.cell? ⟨pj, 2, none⟩ = some (.slice Ab base.length cb) ∧ w.drew.cell? ⟨pj, 3, none⟩ = some (.slice Al log.length cl)) := Lib.hid ⟨c2, c3⟩
  have HZ : Hid (Below w.heap.size w w.drew) := Lib.hid (Below.refl _ w).drew
  clear c2 c3
  go_enter Tryz.func18, Tryz.ntmps18
  go_upto_region 1 with fail
  refine wp_region_held (S := fun w' => w'.cell? ⟨pj, 2, none⟩ = some (.slice Ab base.length cb) ∧ w'.cell? ⟨pj, 3, none⟩ = some (.slice Al log.length cl)) (by kernel_rfl) ?_
  refine wpAnyH_take (i := 0) (v := .pointer (some ⟨pj, 0, none⟩)) rfl (by kernel_rfl) (by kernel_rfl) (by kernel_rfl) (fun _ _ _ h => h) (Or.inl ⟨by rfl, fun w' hS => by obtain ⟨s0, s1⟩ := hS; go_simp⟩) HS0.out ?_
  refine wpAnyH_take (i := 1) (v := .pointer (some ⟨pj, 0, none⟩)) rfl (by kernel_rfl) (by kernel_rfl) (by kernel_rfl) (fun _ _ _ h => h) (Or.inl ⟨by rfl, fun w' hS => by obtain ⟨s0, s1⟩ := hS; go_simp⟩) HS0.out ?_
  refine wpAnyH_take (i := 2) (v := .pointer (some ⟨pj, 2, none⟩)) rfl (by kernel_rfl) (by kernel_rfl) (by kernel_rfl) (fun _ _ _ h => h) (Or.inl ⟨by rfl, fun w' hS => by obtain ⟨s0, s1⟩ := hS; go_simp⟩) HS0.out ?_
  refine wpAnyH_take (i := 3) (v := .slice Ab base.length cb) rfl (by kernel_rfl) (by kernel_rfl) (by kernel_rfl) (fun _ _ _ h => h) (Or.inl ⟨by rfl, fun w' hS => by obtain ⟨s0, s1⟩ := hS; go_simp⟩) HS0.out ?_
  refine wpAnyH_take (i := 5) (v := .pointer (some ⟨pj, 0, none⟩)) rfl (by kernel_rfl) (by kernel_rfl) (by kernel_rfl) (fun _ _ _ h => h) (Or.inl ⟨by rfl, fun w' hS => by obtain ⟨s0, s1⟩ := hS; go_simp⟩) HS0.out ?_
  refine wpAnyH_take (i := 6) (v := .pointer (some ⟨pj, 0, none⟩)) rfl (by kernel_rfl) (by kernel_rfl) (by kernel_rfl) (fun _ _ _ h => h) (Or.inl ⟨by rfl, fun w' hS => by obtain ⟨s0, s1⟩ := hS; go_simp⟩) HS0.out ?_
  refine wpAnyH_take (i := 7) (v := .pointer (some ⟨pj, 3, none⟩)) rfl (by kernel_rfl) (by kernel_rfl) (by kernel_rfl) (fun _ _ _ h => h) (Or.inl ⟨by rfl, fun w' hS => by obtain ⟨s0, s1⟩ := hS; go_simp⟩) HS0.out ?_
  refine wpAnyH_take (i := 8) (v := .slice Al log.length cl) rfl (by kernel_rfl) (by kernel_rfl) (by kernel_rfl) (fun _ _ _ h => h) (Or.inl ⟨by rfl, fun w' hS => by obtain ⟨s0, s1⟩ := hS; go_simp⟩) HS0.out ?_
  refine wpAnyH_all (rs := [4]) (by kernel_rfl) (by simp) ?_
  intro i hi
  simp only [List.mem_cons, List.not_mem_nil, or_false] at hi
  subst hi
  · refine wpOp_of rfl rfl (fun K hK => ?_)
    go_simp
    refine (HC.out _ _ HB.out HH.out.1 HH.out.2.2.1 w.drew HZ.out).mono ?_
    rintro e w2 ⟨A2, c2, us2, rfl, HR2, hs2⟩
    refine hK _ _ ⟨hs2, ?_⟩
    clear hK K
    have HZ2 : Hid (Below w.heap.size w w2) := Lib.hid (HZ.out.trans HR2.out.below)
    refine wpAnyH_all (rs := [9]) (by kernel_rfl) (by simp) ?_
    intro i hi
    simp only [List.mem_cons, List.not_mem_nil, or_false] at hi
    subst hi
    refine wpOp_of rfl rfl (fun K hK => ?_)
    go_simp
    refine (HC.out _ _ HL.out HH.out.2.1 HH.out.2.2.2 w2 HZ2.out).mono ?_
    rintro e w3 ⟨A3, c3, us3, rfl, HR3, hs3⟩
    refine hK _ _ ⟨hs3, ?_⟩
    clear hK K
    refine wpAnyH_all (rs := [10]) (by kernel_rfl) (by simp) ?_
    intro i hi
    simp only [List.mem_cons, List.not_mem_nil, or_false] at hi
    subst hi
    refine wpOp_of rfl rfl (fun K hK => ?_)
    have hz2 : w.heap.size ≤ w2.heap.size := HZ2.out.size
    have hz3 := HR3.out.below.size
    have hB3 : Below w.heap.size w w3 := HZ2.out.trans (HR3.out.below.mono hz2)
    have hl2 := HR2.out.len
    have hl3 := HR3.out.len
    have hown : Par.Own w3 w.heap.size 22 (.slice A2 base.length c2) us2 := HR2.out.own.below HR3.out.below
    have hlt : ∀ g, (Value.slice A2 base.length c2).ownBlock = some g → w.heap.size ≤ g ∧ g < w2.heap.size := fun g e => HR2.out.own.lt g e
    have C1 : ∀ i, i < base.length → SegS (fun k => w.heap.size ≤ k ∧ k < w3.heap.size ∧ (Value.slice A2 base.length c2).ownBlock ≠ some k) w3 (us2.getD i (.bool false)) (byteCells (base.getD i [])) := fun i hi => (HR2.out.cells i hi).keep fun k hk => ⟨⟨hk.1, by omega, hk.2.2⟩, HR3.out.below.block k hk.2.1⟩
    have C2 : ∀ i, i < log.length → SegS (fun k => w.heap.size ≤ k ∧ k < w3.heap.size ∧ (Value.slice A2 base.length c2).ownBlock ≠ some k) w3 (us3.getD i (.bool false)) (byteCells (log.getD i [])) := fun i hi => (HR3.out.cells i hi).keep fun k hk => ⟨⟨by omega, hk.2.1, fun e => by have := hlt k e; omega⟩, rfl⟩
    have hsg : Seg w3 w3.heap.size (.slice A3 log.length c3) us3 := HR3.out.own.seg
    refine wp_app _ (.tmp 7) (.tmp 12) 38 rfl w.heap.size 22 _ rowE (.slice A2 base.length c2) us2 rfl hown _ _ us3 rfl hsg (all_one hl3 C2) (by have := HH.out; omega) (by omega) (fun v4 w4 h2 h3 h4 => ?_)
    have HR4 := Lib.hid (RowedX.join HR2.out.undrew HR3.out h2 h3 h4)
    have g0 := grown_cell h3 hs3.1 (fun e => by have := hlt pj e; omega)
    have g1 := grown_cell h3 hs3.2 (fun e => by have := hlt pj e; omega)
    refine hK _ _ ⟨⟨g0, g1⟩, ?_⟩
    clear hK K
    refine wpAnyH_all (rs := [11]) (by kernel_rfl) (by simp) ?_
    intro i hi
    simp only [List.mem_cons, List.not_mem_nil, or_false] at hi
    subst hi
    refine wpOp_of rfl rfl (fun K hK => ?_)
    go_simp
    refine hK _ _ ⟨⟨g0, g1⟩, ?_⟩
    clear hK K
    refine wpAnyH_done (by kernel_rfl) ?_ _
    clear h2 h3 h4 hown C1 C2 hsg hB3 hlt g0 g1
    go_wp2
    go_ret
    exact ⟨_, _, rfl, HR4.out⟩
end Go.Proofs.YtpdelgjfamelfaaGreat
