import Derived.Test.YtpdelgjfamelfaaV22
namespace Go.Proofs.Ytpdelgjfamelfaa
open Go.RowKit Go.Lib Go.Vfs Go.Par
set_option linter.unusedVariables false
set_option linter.unusedSimpArgs false

theorem rowE : Elem Try.prog 42 22 (.slice none 0 0) := elem_of (b := 24) Try.underlying42 (by kernel_rfl) (by decide) rfl

/-- what CopyRows has made when it has copied k rows. -/
structure Rowed (w : World) (ls : List (List UInt8)) (k : Nat) (v : Value) (us : List Value) (wr : World) : Prop where
  below : Below w.heap.size w wr
  len : us.length = k
  own : Par.Own wr w.heap.size 22 v us
  cells : ∀ i, i < k → SegS (fun b => w.heap.size ≤ b ∧ b < wr.heap.size ∧ v.ownBlock ≠ some b) wr (us.getD i (.bool false)) (byteCells (ls.getD i []))
theorem one_slices {S : Nat → Prop} {w : World} {l : List UInt8} {u : Value} (h : SegS S w u (byteCells l)) : u.oneCell' = true := by
  obtain ⟨A, c, rfl, -⟩ := h
  rfl

theorem Rowed.next {w : World} {ls : List (List UInt8)} {k : Nat} {v : Value} {us : List Value} {wr w2 w3 : World} (h : Rowed w ls k v us wr) {u : Value} (hb : Below wr.heap.size wr w2) (hu : Par.Own w2 wr.heap.size 5 u (byteCells (ls.getD k [])))
    {v' : Value} (o : Obj) (hown : Par.Own w3 w.heap.size 22 v' (us ++ [u])) (hg : (w2.alloc o).grownBy w3 v.ownBlock) (hat : v'.ownBlock = v.ownBlock ∨ v'.ownBlock = some (w2.heap.size + 1)) : Rowed w ls (k + 1) v' (us ++ [u]) w3 := by
  have hz := h.below.size
  have hz2 := hb.size
  have hv : ∀ g, v.ownBlock = some g → w.heap.size ≤ g ∧ g < wr.heap.size := fun g e => h.own.lt g e
  have hzg := hg.size
  have hal : (w2.alloc o).heap.size = w2.heap.size + 1 := by simp
  have hv' : ∀ b, b < wr.heap.size → v.ownBlock ≠ some b → v'.ownBlock ≠ some b := by
    intro b hlt hne e
    rcases hat with e1 | e1
    · exact hne (e1.symm.trans e)
    · rw [e1] at e; cases e; omega
  refine ⟨?_, by simp [h.len], hown, fun i hi => ?_⟩
  · exact ((h.below.trans (hb.mono hz)).alloc (by omega) o).grown hg (by omega) (fun g e => (hv g e).1)
  · by_cases hik : i < k
    · rw [show (us ++ [u]).getD i (.bool false) = us.getD i (.bool false) by simp [List.getD_eq_getElem?_getD, List.getElem?_append, h.len, hik]]
      refine (h.cells i hik).keep fun b ⟨b1, b2, b3⟩ => ⟨⟨b1, by omega, hv' b b2 b3⟩, ?_⟩
      rw [hg.block b (by omega) (fun e => b3 e.symm), Below.heap_alloc _ _ _ (by omega), hb.block b b2]
    · have : i = k := by omega
      subst this
      rw [show (us ++ [u]).getD i (.bool false) = u by simp [List.getD_eq_getElem?_getD, List.getElem?_append, h.len]]
      have hs := Own.outS hu (F := fun k => k < wr.heap.size) (fun k hk => hk)
      refine hs.keep fun b ⟨b1, b2⟩ => ⟨⟨by omega, by omega, fun e => ?_⟩, ?_⟩
      · rcases hat with e1 | e1
        · have := hv b (e1.symm.trans e); omega
        · rw [e1] at e; cases e; omega
      · rw [hg.block b (by omega) (fun e => by have := hv b e.symm; omega), Below.heap_alloc _ _ _ (by omega)]

set_option maxRecDepth 20000 in
set_option maxHeartbeats 1000000 in
theorem copyRows_any (v : Value) (ls : List (List UInt8)) (B : Nat) (w : World) (hsg : RowsAt (· < B) w v ls) (hB : B ≤ w.heap.size) (hl : ls.length ≤ 1048576) (hll : ∀ l ∈ ls, l.length ≤ 1000000) :
    Calls Try.prog 35 #[v] w fun e w' => ∃ u, e = .returned u ∧ RowsAt (fun b => w.heap.size ≤ b ∧ b < w'.heap.size) w' u ls ∧ Below w.heap.size w w' := by
  obtain ⟨vs, hvl, ⟨A, c, rfl, hc, hm, hat⟩, hrows⟩ := hsg
  have hm' : c ≤ 9223372036854775807 := by simpa [maxLen] using hm
  have HAT := Lib.hid hat; clear hat
  have HR := Lib.hid hrows; clear hrows
  have HVL := Lib.hid hvl; clear hvl
  have HLL := Lib.hid hll; clear hll
  have hown := Par.Own.new w w.heap.size 22 #[] [] rfl (Nat.le_refl _) (by simp)
  have hb0 : Below w.heap.size w (w.alloc (.cells #[] 22)) := (Below.refl _ w).alloc (Nat.le_refl _) _
  have H0 : Hid (Rowed w ls 0 _ [] _) := Lib.hid ⟨hb0, rfl, hown, fun i hi => by omega⟩
  clear hown hb0
  go_enter Try.func35, Try.ntmps35
  go_wp2
  go_loopw [3, 4] (fun s i wr => ∃ (k : Nat) (us : List Value), k ≤ vs.length ∧ i = .int .i64 k ∧ Hid (Rowed w ls k s us wr)) (fun _ i _ => vs.length - (intOf i).toNat)
  case atStart => exact ⟨0, [], by omega, rfl, H0⟩
  case round =>
    obtain ⟨k, us, hk, rfl, HRk⟩ := hrel
    obtain ⟨As, cs, hform⟩ := HRk.out.own.form
    rw [HRk.out.len] at hform
    subst hform
    by_cases hlt : k < vs.length
    · obtain ⟨b, off, rfl, hb, hcell⟩ := HAT.out (by omega)
      have hck : wr.cell? ⟨b, off + k, none⟩ = some (vs.getD k (.bool false)) := by
        rw [HRk.out.below.cell (p := ⟨b, off + k, none⟩) (by show b < _; omega), hcell k hlt, List.getD_eq_getElem?_getD, List.getElem?_eq_getElem hlt]
        rfl
      have hsk : Seg wr B (vs.getD k (.bool false)) (byteCells (ls.getD k [])) := Seg.below (B := B) (HR.out k (by rw [← HVL.out]; exact hlt)) (HRk.out.below.mono hB)
      have hkl : k < ls.length := by rw [← HVL.out]; exact hlt
      have hL : (ls.getD k []).length ≤ 1000000 := by
        rw [List.getD_eq_getElem?_getD, List.getElem?_eq_getElem hkl]
        exact HLL.out _ (List.getElem_mem hkl)
      generalize hLe : ls.getD k [] = L at *
      have HLe := Lib.hid hLe
      have HSK := Lib.hid hsk
      clear hsk hcell hLe
      obtain ⟨Au, cu, hcu, -⟩ := HSK.out
      have hz := HRk.out.below.size
      generalize vs.getD k (.bool false) = u at *
      subst hcu
      go_wp2_with fail
      refine (copyBytes_any _ L B wr HSK.out (by omega) hL).mono ?_
      rintro e w2 ⟨u2, rfl, hu2, hb2⟩
      have hown2 := (HRk.out.own.below hb2).alloc (.cells #[u2] 22)
      have hone := one_slices (Own.outS hu2 (F := fun _ => False) (fun _ h => h.elim))
      have hsg2 := Seg.new w2 22 #[u2] [u2] rfl (by simp [maxLen])
      obtain ⟨A2, c2, hform2⟩ := hu2.form
      have HU2 := Lib.hid hu2; have HB2 := Lib.hid hb2
      have hz2 := hb2.size
      have hlen := HRk.out.len
      have HLEN := Lib.hid hlen
      clear hu2 hb2 HSK
      subst hform2
      go_wp2_with (at_builtin; refine wpList_app _ rfl _ _ _ rfl w.heap.size 22 _ rowE _ _ rfl hown2 _ _ _ rfl hsg2 (fun x hx => by simp at hx; subst hx; exact hone) ?c1 ?c2 ?_)
      case c1 => simp; omega
      case c2 => simp; omega
      intro v3 w3 hown4 hg3 hat3
      have HN := Lib.hid (HRk.out.next HB2.out (by rw [HLe.out]; exact HU2.out) _ hown4 hg3 hat3)
      clear hown4 hg3 hat3
      obtain ⟨A3, c3, hform3⟩ := HN.out.own.form
      subst hform3
      clear HU2 HB2 hown2 hone hsg2
      go_wp2
      go_roundw
      case rel => exact ⟨k + 1, _, by omega, by go_num, HN⟩
      case measure => simp [intOf]; omega
    · have hkl : k = vs.length := by omega
      go_wp2
      go_ret
      refine ⟨_, rfl, ⟨us, by rw [HRk.out.len, hkl, HVL.out], ?_, fun i hi => ?_⟩, HRk.out.below⟩
      · have := Own.outS HRk.out.own (F := fun k => k < w.heap.size) (fun k hk => hk)
        exact this.keep fun b hb => ⟨⟨by have := hb.2; omega, hb.1⟩, rfl⟩
      · exact (HRk.out.cells i (by rw [hkl, HVL.out]; exact hi)).keep fun b hb => ⟨⟨hb.1, hb.2.1⟩, rfl⟩
end Go.Proofs.Ytpdelgjfamelfaa
