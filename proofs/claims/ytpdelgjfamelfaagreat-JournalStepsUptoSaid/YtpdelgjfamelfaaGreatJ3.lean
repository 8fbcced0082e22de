/- Concat, framed, has, copies, SameRows. -/
import Derived.Test.YtpdelgjfamelfaaGreatJ2
namespace Go.Proofs.YtpdelgjfamelfaaGreat
open Go.RowKit Go.Lib Go.Vfs Go.Par
set_option linter.unusedVariables false
set_option linter.unusedSimpArgs false

theorem flat_take_le (ls : List (List UInt8)) (k : Nat) : ((ls.take k).flatten).length ≤ ls.flatten.length := by
  have := congrArg List.length (congrArg List.flatten (List.take_append_drop k ls))
  rw [List.flatten_append, List.length_append] at this
  omega
/-- a row in memory, opened. -/
theorem RowsAt.open_ {w : World} {v : Value} {ls : List (List UInt8)} (h : RowsAt (· < w.heap.size) w v ls) : ∃ A c, v = .slice A ls.length c ∧ ls.length ≤ c ∧ c ≤ 9223372036854775807 ∧
    Hid (∀ (W : World), Below w.heap.size w W → ∀ k, k < ls.length → ∃ b off Ak ck, A = some ⟨b, off, none⟩ ∧ b < w.heap.size ∧ W.cell? ⟨b, off + k, none⟩ = some (.slice Ak (ls.getD k []).length ck) ∧ Seg W w.heap.size (.slice Ak (ls.getD k []).length ck) (byteCells (ls.getD k []))) := by
  obtain ⟨vs, hvl, ⟨A, c, rfl, hvc, hvm, hva⟩, hve⟩ := h
  refine ⟨A, c, by rw [hvl], by omega, by simpa [maxLen] using hvm, Lib.hid fun W hb k hk => ?_⟩
  obtain ⟨b, off, rfl, hbb, hcell⟩ := hva (by omega)
  have hvk : Seg W w.heap.size (vs.getD k (.bool false)) (byteCells (ls.getD k [])) := Seg.below (B := w.heap.size) (hve k hk) hb
  obtain ⟨Ak, ck, hf, -⟩ := hvk.open_bytes
  refine ⟨b, off, Ak, ck, rfl, hbb, ?_, by rw [← hf]; exact hvk⟩
  rw [hb.cell (p := ⟨b, off + k, none⟩) hbb, hcell k (by omega), ← hf, List.getD_eq_getElem?_getD, List.getElem?_eq_getElem (by omega)]
  rfl

set_option maxRecDepth 20000 in
set_option maxHeartbeats 2000000 in
theorem concat_any (v : Value) (ls : List (List UInt8)) (w : World) (h : RowsAt (· < w.heap.size) w v ls) (hl : ls.flatten.length ≤ 1000000) :
    Calls Tryz.prog 79 #[v] w fun e w' => ∃ A c, e = .returned (.slice A ls.flatten.length c) ∧ Par.Own w' w.heap.size 5 (.slice A ls.flatten.length c) (byteCells ls.flatten) ∧ Below w.heap.size w w' := by
  obtain ⟨A, c, rfl, hc, hm, HR⟩ := h.open_
  clear h
  go_enter Tryz.func79, Tryz.ntmps79
  go_wp2
  go_loopw [3, 11] (fun s i wr => ∃ k : Nat, k ≤ ls.length ∧ i = .int .i64 k ∧ s = .int .i64 (((ls.take k).flatten).length : Nat) ∧ wr = w) (fun _ i _ => ls.length - (intOf i).toNat)
  case atStart => exact ⟨0, by omega, rfl, rfl, rfl⟩
  case round =>
    obtain ⟨k, hk, rfl, rfl, rfl⟩ := hrel
    by_cases hlt : k < ls.length
    · obtain ⟨b, off, Ak, ck, rfl, hb, hcell, -⟩ := HR.out wr (Below.refl _ _) k hlt
      have HF := Lib.hid (flat_succ ls k hlt)
      have hle := flat_le ls k hlt
      generalize (ls.take k).flatten = D at *
      generalize ls.getD k [] = L at *
      have hnn : ¬ (D.length : Int) + (L.length : Int) < 0 := by omega
      go_wp2
      go_roundw
      case rel => exact ⟨k + 1, by omega, by go_num, by rw [HF.out, List.length_append]; go_num, by first | rfl | trivial⟩
      case measure => simp [intOf]; omega
    · have hkl : k = ls.length := by omega
      have HN : Hid ((ls.take k).flatten.length = ls.flatten.length) := Lib.hid (by rw [hkl, List.take_length])
      rw [HN.out]
      clear hkl
      obtain ⟨wo, rfl⟩ : ∃ wo : World, wo = wr := ⟨_, rfl⟩
      generalize hNL : ls.flatten.length = N at *
      have HNL := Lib.hid hNL; clear hNL
      go_wp2_with fail
      refine (grow_any N (by omega) wo).mono ?_
      rintro e w1 ⟨A1, c1, rfl, hu1, hb1⟩
      have HU1 := Lib.hid hu1; have HB1 := Lib.hid hb1
      clear hu1 hb1 HN
      go_wp2
      go_loopw [6, 27] (fun s i wx => ∃ k : Nat, k ≤ ls.length ∧ i = .int .i64 k ∧ Hid (Par.Own wx wo.heap.size 5 s (byteCells (ls.take k).flatten)) ∧ Hid (Below wo.heap.size wo wx)) (fun _ i _ => ls.length - (intOf i).toNat)
      case atStart => exact ⟨0, by omega, rfl, HU1, HB1⟩
      case round =>
        obtain ⟨m, hmk, rfl, HU, HB⟩ := hrel
        by_cases hlm : m < ls.length
        · obtain ⟨b, off, Ak, ck, rfl, hb, hcell, hseg⟩ := HR.out _ HB.out m hlm
          have HF := Lib.hid (flat_succ ls m hlm)
          have hle := flat_le ls m hlm
          generalize (ls.take m).flatten = D at *
          generalize ls.getD m [] = L at *
          have hown := HU.out
          have hz := HB.out.size
          obtain ⟨As, cs, hf⟩ := hown.form
          rw [byteCells_length] at hf
          subst hf
          go_wp2_with (at_builtin; refine wpList_app _ rfl _ _ _ rfl wo.heap.size 5 _ byteE _ _ rfl hown _ _ _ rfl hseg (one_bytes _) ?c1 ?c2 ?_)
          case c1 => rw [byteCells_length, byteCells_length]; have := HNL.out; omega
          case c2 => exact hz
          intro v3 w3 hown4 hg3 hat3
          have HB3 := Lib.hid (below_app HB.out hown hg3 hz)
          rw [← byteCells_append, ← HF.out] at hown4
          have HU3 := Lib.hid hown4
          clear hown4 hg3 hat3 hown hseg hcell HU
          go_wp2
          go_roundw
          case rel => exact ⟨m + 1, by omega, by go_num, HU3, HB3⟩
          case measure => simp [intOf]; omega
        · have hml : m = ls.length := by omega
          have hU := HU.out
          rw [hml, List.take_length] at hU
          obtain ⟨As, cs, hf⟩ := hU.form
          rw [byteCells_length] at hf
          have HU2 := Lib.hid hU
          clear hU HU hml
          subst hf
          go_wp2
          go_ret
          exact ⟨_, _, rfl, HU2.out, HB.out⟩

/-- rows that were just laid in one block. -/
theorem RowsAt.fresh (w : World) (us : List Value) (cs : Array Value) (hcs : cs = us.toArray) (ls : List (List UInt8)) (hl : us.length = ls.length) (hs : ∀ i, i < ls.length → Seg w w.heap.size (us.getD i (.bool false)) (byteCells (ls.getD i []))) (hm : us.length ≤ 1000) :
    RowsAt (· < (w.alloc (.cells cs 22)).heap.size) (w.alloc (.cells cs 22)) (.slice (some ⟨w.heap.size, 0, none⟩) ls.length ls.length) ls := by
  have hb := box_below w (.cells cs 22)
  refine ⟨us, hl, ?_, fun i hi => ?_⟩
  · have := Seg.new w 22 cs us hcs (by unfold maxLen; omega)
    rw [hl] at this
    rw [World.size_alloc]
    exact this
  · have := ((hs i hi).below hb).more hb.size
    exact this

set_option maxRecDepth 20000 in
set_option maxHeartbeats 2000000 in
theorem framed_any (gen : Nat) (hg : gen < 4294967296) (v : Value) (p : List UInt8) (w : World) (h : Seg w w.heap.size v (byteCells p)) (hp : p.length ≤ 900000) :
    Calls Tryz.prog 62 #[.int .u32 (gen : Nat), v] w fun e w' => ∃ A c, e = .returned (.slice A (frameB gen p).length c) ∧ Par.Own w' w.heap.size 5 (.slice A (frameB gen p).length c) (byteCells (frameB gen p)) ∧ Below w.heap.size w w' := by
  obtain ⟨A, c, rfl, hc, hm, -⟩ := h.open_bytes
  have H := Lib.hid h; clear h
  go_enter Tryz.func62, Tryz.ntmps62
  go_wp2_with fail
  refine (number_any p.length (by omega) w).mono ?_
  rintro e w1 ⟨A1, c1, rfl, hu1, hb1⟩
  have S1 := Lib.hid (Own.seg hu1); have B1 := Lib.hid hb1
  clear hu1 hb1
  go_wp2_with fail
  refine (number_any gen hg w1).mono ?_
  rintro e w2 ⟨A2, c2, rfl, hu2, hb2⟩
  have S2 := Lib.hid (Own.seg hu2); have B2 := Lib.hid hb2
  have S12 := Lib.hid ((S1.out.below hb2).more hb2.size)
  have B02 := Lib.hid (B1.out.trans (hb2.mono B1.out.size))
  have P2 := Lib.hid ((H.out.below B02.out).more B02.out.size)
  clear hu2 hb2 S1 B1
  have R2 := Lib.hid (RowsAt.fresh w2 [.slice A2 4 c2, .slice A1 4 c1, .slice A p.length c] #[.slice A2 4 c2, .slice A1 4 c1, .slice A p.length c] rfl [be4 gen, be4 p.length, p] rfl (fun i hi => by
    simp at hi
    rcases (show i = 0 ∨ i = 1 ∨ i = 2 by omega) with rfl | rfl | rfl
    · exact S2.out
    · exact S12.out
    · exact P2.out) (by simp))
  go_wp2_with fail
  refine (sum_any _ _ _ R2.out).mono ?_
  rintro e w3 ⟨rfl, n3, rfl⟩
  have hfl : [be4 gen, be4 p.length, p].flatten = be4 gen ++ be4 p.length ++ p := by simp
  rw [hfl]
  clear hfl R2
  have hcl := crc_lt (be4 gen ++ be4 p.length ++ p)
  have HFB : Hid (frameB gen p = [be4 gen, be4 p.length, be4 (crc (be4 gen ++ be4 p.length ++ p)), p].flatten) := Lib.hid (by unfold frameB; simp)
  generalize crc (be4 gen ++ be4 p.length ++ p) = C at *
  obtain ⟨w3, hw3⟩ : ∃ w3, w3 = (w2.alloc (.cells #[.slice A2 4 c2, .slice A1 4 c1, .slice A p.length c] 22)).drewN n3 := ⟨_, rfl⟩
  have b23 : Below w2.heap.size w2 w3 := by rw [hw3]; exact below_drewN (box_below w2 _) n3
  rw [← hw3]
  clear hw3
  go_wp2_with fail
  refine (number_any C hcl w3).mono ?_
  rintro e w4 ⟨A4, c4, rfl, hu4, hb4⟩
  have S4 := Lib.hid (Own.seg hu4)
  have hb24 := b23.trans (hb4.mono b23.size)
  have B04 := Lib.hid (B02.out.trans (hb24.mono B02.out.size))
  have R4 := Lib.hid (RowsAt.fresh w4 [.slice A2 4 c2, .slice A1 4 c1, .slice A4 4 c4, .slice A p.length c] #[.slice A2 4 c2, .slice A1 4 c1, .slice A4 4 c4, .slice A p.length c] rfl [be4 gen, be4 p.length, be4 C, p] rfl (fun i hi => by
    simp at hi
    rcases (show i = 0 ∨ i = 1 ∨ i = 2 ∨ i = 3 by omega) with rfl | rfl | rfl | rfl
    · exact (S2.out.below hb24).more hb24.size
    · exact (S12.out.below hb24).more hb24.size
    · exact S4.out
    · exact (P2.out.below hb24).more hb24.size) (by simp))
  clear hu4 hb4 hb24 b23 S2 S12 P2 S4
  have HL : Hid ([be4 gen, be4 p.length, be4 C, p].flatten.length ≤ 1000000) := Lib.hid (by simp [be4_length]; omega)
  go_wp2_with fail
  refine (concat_any _ _ _ R4.out HL.out).mono ?_
  rintro e w5 ⟨A5, c5, rfl, hu5, hb5⟩
  rw [← HFB.out] at hu5 ⊢
  have HU5 := Lib.hid hu5
  have B05 := Lib.hid (B04.out.trans (((box_below w4 _).trans (hb5.mono (box_below w4 (.cells #[.slice A2 4 c2, .slice A1 4 c1, .slice A4 4 c4, .slice A p.length c] 22)).size)).mono B04.out.size))
  have hz5 := B04.out.size
  clear hu5 hb5 R4 HL
  go_wp2
  go_ret
  exact ⟨_, _, rfl, HU5.out.base (by simp; omega), B05.out⟩
end Go.Proofs.YtpdelgjfamelfaaGreat
