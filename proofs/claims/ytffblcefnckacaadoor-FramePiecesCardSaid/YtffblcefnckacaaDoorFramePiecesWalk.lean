/- The walk of FramePieces. -/
import Derived.Test.YtffblcefnckacaaDoorLawA
namespace Go.Proofs.YtffblcefnckacaaDoor
open Go.RowKit Go.Lib Go.Vfs Go.Par Go.Frm Go.Shelf
set_option linter.unusedVariables false
set_option linter.unusedSimpArgs false

/-- pieces and rest: j bytes are in the pieces. -/
structure PV (w : World) (S : Nat → Prop) (l : List UInt8) (pv : Value) (us : List Value) (ps : List (List UInt8)) (A : Option Addr) (j c : Nat) (wr : World) : Prop where
  own : Par.Own wr w.heap.size 22 pv us
  len : us.length = ps.length
  cells : ∀ i, i < ps.length → SegS S wr (us.getD i (.bool false)) (byteCells (ps.getD i []))
  flat : ps.flatten = l.take j
  jl : j ≤ l.length
  rest : SegS S wr (.slice A (l.drop j).length c) (byteCells (l.drop j))
  nil : A = none → c = 0
  out : ∀ g, pv.ownBlock = some g → ¬ S g
  lt : ∀ g, S g → g < wr.heap.size
  below : Below w.heap.size w wr
theorem PV.next {w : World} {S : Nat → Prop} {l : List UInt8} {pv : Value} {us : List Value} {ps : List (List UInt8)} {A A2 : Option Addr} {j c c2 n : Nat} {wr w3 : World} (h : PV w S l pv us ps A j c wr) (hn : n ≤ (l.drop j).length)
    (h2 : fromV A (l.drop j).length c n = .slice A2 (l.drop (j + n)).length c2) {pv' : Value} (o : Obj) (hown : Par.Own w3 w.heap.size 22 pv' (us ++ [.slice A n c])) (hg : (wr.alloc o).grownBy w3 pv.ownBlock) (hat : pv'.ownBlock = pv.ownBlock ∨ pv'.ownBlock = some (wr.heap.size + 1)) :
    PV w S l pv' (us ++ [.slice A n c]) (ps ++ [(l.drop j).take n]) A2 (j + n) c2 w3 := by
  have hk : ∀ g, S g → w3.heap[g]? = wr.heap[g]? := fun g hs => by
    have := h.lt g hs
    rw [hg.block g (by simp; omega) (fun e => h.out g e.symm hs), Below.heap_alloc _ _ _ this]
  obtain ⟨A3, e3, hs3, hnil3⟩ := seg_from h.rest rfl n hn h.nil
  rw [List.drop_drop] at e3 hs3
  rw [h2] at e3
  injection e3 with e3 e4 e5
  subst e3 e5
  have hf := (seg_front h.rest rfl n hn).2
  refine ⟨hown, by simp [h.len], fun i hi => ?_, ?_, by have := h.jl; rw [List.length_drop] at hn; omega, hs3.keep fun g hs => ⟨hs, hk g hs⟩, hnil3, fun g e hs => ?_, fun g hs => ?_, ?_⟩
  · rw [List.length_append, List.length_singleton] at hi
    by_cases hik : i < ps.length
    · rw [List.getD_eq_getElem?_getD, List.getElem?_append_left (by rw [h.len]; exact hik), ← List.getD_eq_getElem?_getD, List.getD_eq_getElem?_getD (l := ps ++ _), List.getElem?_append_left hik, ← List.getD_eq_getElem?_getD]
      exact (h.cells i hik).keep fun g hs => ⟨hs, hk g hs⟩
    · have : i = ps.length := by omega
      subst this
      have e1 : (us ++ [Value.slice A n c]).getD ps.length (.bool false) = .slice A n c := by rw [← h.len]; simp [List.getD_eq_getElem?_getD]
      have e2 : (ps ++ [(l.drop j).take n]).getD ps.length [] = (l.drop j).take n := by simp [List.getD_eq_getElem?_getD]
      rw [e1, e2]
      exact hf.keep fun g hs => ⟨hs, hk g hs⟩
  · rw [List.flatten_append, h.flat, List.take_add]; simp
  · rcases hat with e1 | e1
    · exact h.out g (e1 ▸ e) hs
    · rw [e1] at e; injection e with e; have := h.lt g hs; omega
  · have h1 := h.lt g hs; have h2 := hg.size; simp at h2; omega
  · exact below_app (h.below.alloc h.below.size o) (h.own.alloc o) hg (by have := h.below.size; simp; omega)
theorem PV.rows {w : World} {S : Nat → Prop} {l : List UInt8} {pv : Value} {us : List Value} {ps : List (List UInt8)} {A : Option Addr} {j c : Nat} {wr : World} (h : PV w S l pv us ps A j c wr) : RowsAt (· < wr.heap.size) wr pv ps :=
  ⟨us, h.len, h.own.seg.toS, fun i hi => (h.cells i hi).keep fun g hs => ⟨h.lt g hs, rfl⟩⟩

theorem and255 (x : Int) : ∃ n : Nat, n ≤ 255 ∧ bits .and .i64 x 255 = (n : Int) := by
  refine ⟨(BitVec.ofInt 64 x).toNat &&& 255, Nat.and_le_right, ?_⟩
  have h : (BitVec.ofInt 64 x).toNat &&& 255 ≤ 255 := Nat.and_le_right
  have e : (BitVec.ofInt 64 255).toNat = 255 := by decide
  have e2 : bits .and .i64 x 255 = IntKind.i64.wrap (((BitVec.ofInt 64 x).toNat &&& (BitVec.ofInt 64 255).toNat : Nat) : Int) := by
    simp only [bits, BitVec.toNat_and]
    rfl
  rw [e2, e, IntKind.wrap_i64]
  omega

set_option maxRecDepth 100000 in
set_option maxHeartbeats 1000000 in
theorem framePieces_walk (v0 : Value) (l0 : List UInt8) (b0 : l0.length ≤ 140737488351232) (v1 : Value) (z1 : List Int) (b1 : z1.length ≤ 17592186043904) (w : World) (m : Int) (g0 : Seg w w.heap.size v0 (byteCells l0)) (g1 : Seg w w.heap.size v1 (ints z1)) (hG : Gl w m) :
    Calls Tryd.prog 5 #[v0, v1] w fun e w' => e = .returned (.bool true) ∧ Below w.heap.size w w' := by
  obtain ⟨A0, c0, rfl, -, -, -⟩ := g0.open_bytes
  obtain ⟨A1, c1, rfl, hc1, hm1, ha1⟩ := g1.open_ints
  have HAL := Lib.hid (alive_s w m hG)
  have G0 := Lib.hid g0; have HG := Lib.hid hG; have HA1 := Lib.hid ha1
  clear g0 g1 hG ha1
  by_cases hbig : 100000 < l0.length
  · have g1 : (100000 : Int) < (l0.length : Int) := by omega
    go_enter Tryd.func5, Tryd.ntmps5
    go_wp2_with (go_at_call 10; refine HAL.out.mono ?_; rintro e wa ⟨rfl, HBA⟩)
    go_ret
    exact ⟨rfl, HBA.out⟩
  by_cases hbig2 : 100 < z1.length
  · have g1 : ¬ (100000 : Int) < (l0.length : Int) := by omega
    have g2 : (100 : Int) < (z1.length : Int) := by omega
    go_enter Tryd.func5, Tryd.ntmps5
    go_wp2_with (go_at_call 10; refine HAL.out.mono ?_; rintro e wa ⟨rfl, HBA⟩)
    go_ret
    exact ⟨rfl, HBA.out⟩
  have g1 : ¬ (100000 : Int) < (l0.length : Int) := by omega
  have g2 : ¬ (100 : Int) < (z1.length : Int) := by omega
  go_enter Tryd.func5, Tryd.ntmps5
  go_wp2_with (go_at_call 10; refine HAL.out.mono ?_; rintro e wa ⟨rfl, HBA⟩)
  have hba1 := HBA.out.alloc HBA.out.size (.cells #[] 22)
  refine (copy_s _ l0 (wa.alloc (.cells #[] 22)) ((G0.out.below hba1).more hba1.size) (by omega)).mono ?_
  rintro e wc ⟨A2, c2, rfl, HC⟩
  have hPV0 : PV w (fun g => wa.heap.size + 1 ≤ g ∧ g < wc.heap.size) l0 (.slice (some ⟨wa.heap.size, 0, none⟩) 0 0) [] [] A2 0 c2 wc := by
    have hz := HBA.out.size
    have hown0 := (Par.Own.new wa w.heap.size 22 #[] [] rfl hz (by simp)).below HC.out.2
    refine ⟨hown0, rfl, fun i hi => by simp at hi, rfl, by omega, ?_, fun hA => own_nil HC.out.1 rfl hA, fun g e hg => ?_, fun g hg => hg.2, hba1.trans (HC.out.2.mono hba1.size)⟩
    · rw [List.drop_zero]
      have := Par.Own.outS (F := fun k => k < wa.heap.size + 1) HC.out.1 (fun k hk => by simpa using hk)
      exact this.keep fun g hg => ⟨⟨by have := hg.2; omega, hg.1⟩, rfl⟩
    · injection e with e; dsimp only at e; omega
  have HPV0 := Lib.hid hPV0
  clear hPV0 hba1
  go_wp2
  go_loopw [5, 6, 7, 8] (fun pv rv iv _ wr => ∃ (k j : Nat) (us : List Value) (ps : List (List UInt8)) (A : Option Addr) (c N : Nat), k ≤ z1.length ∧ iv = .int .i64 k ∧ rv = .slice A N c ∧ us.length = k ∧ Hid (PV w (fun g => wa.heap.size + 1 ≤ g ∧ g < wc.heap.size) l0 pv us ps A j c wr ∧ N = (l0.drop j).length)) (fun _ _ iv _ _ => z1.length - (intOf iv).toNat)
  case atStart => exact ⟨0, 0, [], [], A2, c2, l0.length, by omega, rfl, rfl, rfl, Lib.hid ⟨HPV0.out, by simp⟩⟩
  case round =>
    obtain ⟨k, j, us, ps, A, c, N, hk, rfl, rfl, hul, HI⟩ := hrel
    by_cases hlt : k < z1.length
    · obtain ⟨b, off, x, rfl, hb, hcell, Hx⟩ := (HA1.out.below HI.out.1.below).int hlt
      obtain ⟨n0, hn0, hbits⟩ := and255 x
      have hNe := HI.out.2
      have hjl := HI.out.1.jl
      obtain ⟨n, hnN, hbr⟩ : ∃ n, n ≤ N ∧ ((N < n0 ∧ n = N) ∨ (¬ N < n0 ∧ n = n0)) := by
        by_cases h : N < n0
        · exact ⟨N, Nat.le_refl _, .inl ⟨h, rfl⟩⟩
        · exact ⟨n0, by omega, .inr ⟨h, rfl⟩⟩
      have hNc : N ≤ c := by
        obtain ⟨A', c', e', h'⟩ := HI.out.1.rest
        injection e' with _ _ e'
        rw [byteCells_length] at h'
        omega
      have hNl : N = l0.length - j := by rw [hNe, List.length_drop]
      obtain ⟨A3, e3, -, -⟩ := seg_from HI.out.1.rest rfl n (by omega) HI.out.1.nil
      rw [List.drop_drop, ← hNe] at e3
      obtain ⟨N2, hN2⟩ : ∃ N2, N2 = (l0.drop (j + n)).length := ⟨_, rfl⟩
      rw [← hN2] at e3
      have hsl : ∀ X, (Instr.slice 22 (.slice A N c) (some (.int .i64 (n : Int))) none none).run Tryd.prog X = .ok (.slice A3 N2 (c - n)) X := fun X => by rw [slice_from A N c n X hnN, e3]
      have HE3 := Lib.hid e3; have HN2 := Lib.hid hN2; have HNE := Lib.hid hNe
      have hnc : n ≤ c := by omega
      have HOV : Hid (∀ o, Par.Own (wr.alloc o) w.heap.size 22 u5 us) := Lib.hid fun o => HI.out.1.own.alloc o
      have hzr : w.heap.size ≤ wr.heap.size := HI.out.1.below.size
      clear e3 hN2 hNe hNl
      rcases hbr with ⟨h1, h2⟩ | ⟨h1, h2⟩
      · subst h2
        have g3 : (n : Int) < (n0 : Int) := by omega
        go_wp2_with (at_builtin; refine wpList_app _ rfl _ _ _ rfl w.heap.size 22 _ rowE _ us rfl (HOV.out _) (wr.heap.size + 1) _ [.slice A n c] rfl (Seg.new wr 22 _ _ rfl (by simp [maxLen])) ?c0 ?c1 ?c2 ?_)
        case c0 => first | rfl | (intro x hx; simp at hx; subst hx; rfl)
        case c1 => first | omega | (simp only [List.length_cons, List.length_nil]; omega)
        case c2 => first | omega | (simp; omega)
        intro v5 w5 hown5 hg5 hat5
        have HN5 := Lib.hid (HI.out.1.next (A2 := A3) (c2 := c - n) (n := n) (by rw [← HNE.out]; exact hnN) (by rw [← HNE.out, HE3.out, HN2.out]) _ hown5 hg5 (by simpa using hat5))
        clear hown5 hg5 hat5
        go_wp2
        go_roundw
        case rel => exact ⟨k + 1, j + n, _, _, A3, c - n, N2, by omega, by go_num, rfl, by simp [hul], Lib.hid ⟨HN5.out, HN2.out⟩⟩
        case measure => simp [intOf]; omega
      · subst h2
        have g3 : ¬ (N : Int) < (n : Int) := by omega
        go_wp2_with (at_builtin; refine wpList_app _ rfl _ _ _ rfl w.heap.size 22 _ rowE _ us rfl (HOV.out _) (wr.heap.size + 1) _ [.slice A n c] rfl (Seg.new wr 22 _ _ rfl (by simp [maxLen])) ?c0 ?c1 ?c2 ?_)
        case c0 => first | rfl | (intro x hx; simp at hx; subst hx; rfl)
        case c1 => first | omega | (simp only [List.length_cons, List.length_nil]; omega)
        case c2 => first | omega | (simp; omega)
        intro v5 w5 hown5 hg5 hat5
        have HN5 := Lib.hid (HI.out.1.next (A2 := A3) (c2 := c - n) (n := n) (by rw [← HNE.out]; exact hnN) (by rw [← HNE.out, HE3.out, HN2.out]) _ hown5 hg5 (by simpa using hat5))
        clear hown5 hg5 hat5
        go_wp2
        go_roundw
        case rel => exact ⟨k + 1, j + n, _, _, A3, c - n, N2, by omega, by go_num, rfl, by simp [hul], Lib.hid ⟨HN5.out, HN2.out⟩⟩
        case measure => simp [intOf]; omega
    · have hNe := HI.out.2
      have hjl := HI.out.1.jl
      obtain ⟨A3, e3, -, -⟩ := seg_from HI.out.1.rest rfl N (by omega) HI.out.1.nil
      rw [List.drop_drop] at e3
      have HE3 := Lib.hid e3; have HNE := Lib.hid hNe
      have hNl : N = l0.length - j := by rw [hNe, List.length_drop]
      have HNL := Lib.hid hNl
      have HOV : Hid (∀ o, Par.Own (wr.alloc o) w.heap.size 22 u5 us) := Lib.hid fun o => HI.out.1.own.alloc o
      have hzr : w.heap.size ≤ wr.heap.size := HI.out.1.below.size
      have hul2 : us.length ≤ 100 := by omega
      clear e3 hNe hNl
      go_wp2_with (at_builtin; refine wpList_app _ rfl _ _ _ rfl w.heap.size 22 _ rowE _ us rfl (HOV.out _) (wr.heap.size + 1) _ [.slice A N c] rfl (Seg.new wr 22 _ _ rfl (by simp [maxLen])) ?k0 ?k1 ?k2 ?_)
      case k0 => first | rfl | (intro x hx; simp at hx; subst hx; rfl)
      case k1 => first | omega | (simp only [List.length_cons, List.length_nil]; omega)
      case k2 => first | omega | (simp; omega)
      intro v5 w5 hown5 hg5 hat5
      have hN5 := HI.out.1.next (A2 := A3) (c2 := c - N) (n := N) (by rw [← HNE.out]; exact Nat.le_refl _) (by exact HE3.out) _ hown5 hg5 (by simpa using hat5)
      have hfl : (ps ++ [(l0.drop j).take N]).flatten = l0 := by
        rw [hN5.flat, List.take_of_length_le (by have := HNL.out; omega)]
      have HN5 := Lib.hid hN5
      have hall := all_any v5 _ w5 m hN5.rows (fun l hl => by
        have h1 : l.length ≤ (ps ++ [(l0.drop j).take N]).flatten.length := (List.sublist_flatten_of_mem hl).length_le
        rw [hfl] at h1; omega) (by rw [hfl]; omega) (HG.out.below hN5.below)
      rw [hfl] at hall
      have HALL := Lib.hid hall
      obtain ⟨R, hR⟩ : ∃ R, R = run l0 := ⟨_, rfl⟩
      rw [← hR] at HALL
      have HR := Lib.hid hR
      clear hown5 hg5 hat5 hN5 hfl hall hR
      go_wp2_with fail
      refine HALL.out.mono ?_
      rintro e w6 ⟨A6, c6, rfl, H6⟩
      have hb6 : Below w.heap.size w w6 := HN5.out.below.trans (H6.out.2.mono HN5.out.below.size)
      have hb7 := hb6.alloc hb6.size (.cells #[.slice A0 l0.length c0] 22)
      have hall2 := all_any _ [l0] (w6.alloc (.cells #[.slice A0 l0.length c0] 22)) m (rows_one w6 _ l0 ((G0.out.below hb6).more hb6.size)) (by simp; omega) (by simp; omega) (HG.out.below hb7)
      rw [show [l0].flatten = l0 by simp, ← HR.out] at hall2
      have HALL2 := Lib.hid hall2; have HB7 := Lib.hid hb7
      clear hb6 hb7 hall2
      go_wp2_with fail
      refine HALL2.out.mono ?_
      rintro e w8 ⟨A8, c8, rfl, H8⟩
      have hz7 : w6.heap.size ≤ (w6.alloc (.cells #[.slice A0 l0.length c0] 22)).heap.size := by simp
      have hb68 : Below w6.heap.size w6 w8 := ((Below.refl _ _).alloc (Nat.le_refl _) _).trans (H8.out.2.mono hz7)
      have hs1 : RowsAt (· < w8.heap.size) w8 (.slice A6 R.1.length c6) R.1 := H6.out.1.keep fun g hg => ⟨Nat.lt_of_lt_of_le hg.2 hb68.size, hb68.block g hg.2⟩
      have hs2 : RowsAt (· < w8.heap.size) w8 (.slice A8 R.1.length c8) R.1 := H8.out.1.sub fun g hg => hg.2
      have hsm := sameRows_any _ _ _ _ w8 hs1 hs2
      rw [decide_eq_true rfl] at hsm
      have HSM := Lib.hid hsm
      have HB8 : Hid (Below w.heap.size w w8) := Lib.hid (HB7.out.trans (H8.out.2.mono HB7.out.size))
      clear hz7 hb68 hs1 hs2 hsm
      go_wp2_with (go_at_call 18; refine HSM.out.mono ?_; rintro e w9 ⟨rfl, q, rfl⟩)
      go_ret
      refine ⟨ret_bool (by simp), below_drewN HB8.out q⟩
end Go.Proofs.YtffblcefnckacaaDoor
