import Derived.Test.YtdldkidccjkhgaaDoorUtfPlacesWalk
namespace Go.Proofs.YtdldkidccjkhgaaDoor
open Go.RowKit Go.Par
set_option linter.unusedVariables false

theorem bad_take {rest : List UInt8} (hb : Bad rest) (k : Nat) (hk : 0 < k) : Lib.validD (rest.take k) = false := by
  cases hv : Lib.validD (rest.take k) with
  | false => rfl
  | true =>
    obtain ⟨rs, ha, he⟩ := (validD_iff _).1 hv
    exfalso
    have hp := List.length_pos_iff.2 hb.1
    cases rs with
    | nil =>
      have := congrArg List.length he
      simp [txt] at this
      rcases this with h | h
      · omega
      · exact hb.1 h
    | cons r rs =>
      rw [txt_cons] at he
      refine not_bad_enc r (txt rs ++ rest.drop k) ha.head ?_
      rw [← List.append_assoc, ← he, List.take_append_drop]
      exact hb

theorem seg_sub {w : World} {B b off c n : Nat} {l : List UInt8} (h : At w B (some ⟨b, off, none⟩) l.length (fun i => .int .u8 (l.getD i 0).toNat)) (hc : c ≤ 9223372036854775807) (lo m : Nat) (hm : lo + m ≤ l.length) (hmc : m ≤ n) :
    n ≤ 9223372036854775807 → Seg w B (.slice (some ⟨b, off + lo, none⟩) m n) (Lib.byteCells ((l.drop lo).take m)) := by
  intro hn
  have hlen : (Lib.byteCells ((l.drop lo).take m)).length = m := by rw [Lib.byteCells_length]; simp; omega
  refine ⟨_, n, by rw [hlen], by rw [hlen]; exact hmc, by simpa [maxLen] using hn, fun hp => ?_⟩
  rw [hlen] at hp ⊢
  obtain ⟨b', off', e, hb, _⟩ := h lo (by omega)
  cases e
  refine ⟨b, off + lo, rfl, hb, fun i hi => ?_⟩
  obtain ⟨_, _, e, _, hcell⟩ := h (lo + i) (by omega)
  cases e
  rw [Nat.add_assoc, hcell]
  have h1 : lo + i < l.length := by omega
  simp [Lib.byteCells, hi, List.getElem?_drop, h1]

theorem slice_front (A : Option Addr) (n c N : Nat) (w : World) (h : N ≤ c) : (Instr.slice 29 (.slice A n c) none (some (.int .i64 (N : Int))) none).run Tryd.prog w = .ok (.slice A N c) w := by
  have ht' : Tryd.prog.underlying 29 = some (.slice (Tryd.prog.elem 29)) := by simp [Program.elem, Tryd.underlying29]
  have he : Tryd.prog.elem 29 = 5 := by simp [Program.elem, Tryd.underlying29]
  rw [run_slice_h w 29 _ _ _ ht' .i64 _ (by omega) (by omega), he, Tryd.sizeOf5]
  simp only [Result.andThen, sliced]
  cases A <;> simp [Addr.add]

theorem slice_mid (w : World) (b o n c l h : Nat) (hlh : l < h) (hh : h ≤ c) :
    (Instr.slice 29 (.slice (some ⟨b, o, none⟩) n c) (some (.int .i64 (l : Int))) (some (.int .i64 (h : Int))) none).run Tryd.prog w = .ok (.slice (some ⟨b, o + l, none⟩) (h - l) (c - l)) w := by
  have ht' : Tryd.prog.underlying 29 = some (.slice (Tryd.prog.elem 29)) := by simp [Program.elem, Tryd.underlying29]
  have he : Tryd.prog.elem 29 = 5 := by simp [Program.elem, Tryd.underlying29]
  rw [run_slice_lh w 29 _ _ _ ht' .i64 .i64 _ _ (by omega) (by omega) (by omega), he, Tryd.sizeOf5]
  have hne : ¬ c = l := by omega
  by_cases h0 : l = 0
  · subst h0
    simp [Result.andThen, sliced, Addr.add, hne]
  · simp [Result.andThen, sliced, Addr.add, hne, h0]

set_option maxRecDepth 20000 in
set_option maxHeartbeats 2000000 in
theorem utfFront_walk (v : Value) (l : List UInt8) (hl : l.length ≤ 9223372036854775807) (w : World) (hsg : Seg w w.heap.size v (Lib.byteCells l)) (hT : Tabs w) :
    Calls Tryd.prog 5 #[v] w fun e w' => e = .returned (.bool true) ∧ Below w.heap.size w w' := by
  obtain ⟨A, c, rfl, hc, hcm, hat⟩ := hsg.open_bytes
  by_cases hg : 5000 < (l.length : Int)
  · have HSG := Lib.hid hsg; clear hsg hat
    go_enter Tryd.func5, Tryd.ntmps5
    go_wp2_with (go_at_call 19; refine (alive_any _ hT).mono ?_; rintro e w1 ⟨rfl, hb1⟩)
    go_ret
    exact ⟨rfl, hb1⟩
  · obtain ⟨rs, rest, har, hsplit, hrest⟩ := Par.split l
    obtain ⟨N, hN⟩ : ∃ N, N = (txt rs).length := ⟨_, rfl⟩
    have hNl : N ≤ l.length := by rw [hsplit, hN]; simp
    have htk : (l.drop 0).take N = txt rs := by rw [hsplit, hN]; simp
    have hdr : l.drop N = rest := by rw [hsplit, hN]; simp
    have HSP := Lib.hid hsplit; clear hsplit
    have HN := Lib.hid hN; clear hN
    have HTK := Lib.hid htk; clear htk
    have HDR := Lib.hid hdr; clear hdr
    have HRE := Lib.hid hrest; clear hrest
    have HAT := Lib.hid hat; clear hat
    go_enter Tryd.func5, Tryd.ntmps5
    go_wp2_with fail
    refine (alive_any _ hT).mono ?_
    rintro e w1 ⟨rfl, hb1⟩
    have hz1 := hb1.size
    have hT1 := hT.below hb1
    go_wp2_with fail
    refine (copyBytes_any _ l _ w1 (hsg.below hb1) hz1 (by omega)).mono ?_
    rintro e w2 ⟨u2, rfl, hown2, hb2⟩
    have hbw2 := hb1.trans (hb2.mono hz1)
    have hz2 := hbw2.size
    have hT2 := hT1.below hb2
    rw [HSP.out] at hown2
    go_wp2_with fail
    refine (uvalid_any _ rs rest har HRE.out _ w2 hown2.seg (Nat.le_refl _) hT2).mono ?_
    rintro e w3 ⟨rfl, hb3⟩
    rw [← HN.out]
    clear hown2
    have hbw3 := hbw2.trans (hb3.mono hz2)
    have hz3 := hbw3.size
    have hT3 := hT2.below hb3
    have hsg3 := hsg.below hbw3
    have hnn : ¬ (l.length : Int) < (N : Int) := by omega
    have hn0 : ¬ (N : Int) < 0 := by omega
    have hs1 := fun wx => slice_front A l.length c N wx (by omega)
    have hconv : (convert 29 9 (.slice A N c)).run Tryd.prog w3 = .ok (.string ⟨(txt rs).toArray⟩) w3 := by
      refine conv_seg (B := w.heap.size) ?_
      rw [← HTK.out]
      rcases Nat.eq_zero_or_pos N with h0 | h0
      · subst h0
        exact ⟨A, c, by simp [Lib.byteCells], by simp [Lib.byteCells], by simpa [maxLen] using hcm, fun h => by simp [Lib.byteCells] at h⟩
      · obtain ⟨b, off, e, _, _⟩ := HAT.out 0 (by omega)
        subst e
        exact seg_sub (HAT.out.below hbw3) hcm 0 N (by omega) (by omega) hcm
    have HSG3 := Lib.hid hsg3; clear hsg3 hsg
    obtain ⟨S, hS, hSl, hSz⟩ := str_of (txt rs)
    rw [← hS] at hconv
    have hSz' : S.size ≤ 100000 := by rw [hSz, ← HN.out]; omega
    have HS := Lib.hid hS; clear hS
    have HSL := Lib.hid hSl; clear hSl
    have HSZ := Lib.hid hSz; clear hSz
    go_wp2_with fail
    refine (runes_ok S rs HSL.out har w3 hT3 hSz').mono ?_
    rintro e w4 ⟨v4, rfl, hown4, hb4⟩
    have hbw4 := hbw3.trans (hb4.mono hz3)
    have hz4 := hbw4.size
    clear hown4 hconv hs1
    go_wp2
    go_loopw [6, 5] (fun k _ wr => ∃ j : Nat, 1 ≤ j ∧ j ≤ l.length + 1 ∧ k = .int .i64 ((N + j : Nat) : Int) ∧ Below w.heap.size w wr) (fun k _ _ => l.length + 2 - (intOf k).toNat)
    case atStart => exact ⟨1, by omega, by omega, by go_num, hbw4⟩
    case round =>
      obtain ⟨j, hj, hjl, rfl, hbw⟩ := hrel
      by_cases hlt : N + j ≤ l.length ∧ j ≤ 4
      · have hbad : Bad rest := by
          rcases HRE.out with h | h
          · have := HDR.out
            rw [h] at this
            have := congrArg List.length this
            simp at this
            omega
          · exact h
        have hv := bad_take hbad j (by omega)
        obtain ⟨b, off, e, _, _⟩ := HAT.out 0 (by omega)
        subst e
        have hs1 := slice_mid wr b off l.length c N (N + j) (by omega) (by omega)
        rw [Nat.add_sub_cancel_left] at hs1
        have hconv := conv_seg (seg_sub (n := c - N) (HAT.out.below hbw) hcm N j hlt.1 (by omega) (by omega))
        rw [HDR.out] at hconv
        obtain ⟨S2, hS2, hSl2, hSz2⟩ := str_of (rest.take j)
        rw [← hS2] at hconv
        have hSz3 : S2.size ≤ 100000 := by rw [hSz2]; simp; omega
        rw [← hSl2] at hv
        have HS2 := Lib.hid hS2; clear hS2
        have HSL2 := Lib.hid hSl2; clear hSl2
        have HSZ2 := Lib.hid hSz2; clear hSz2
        have hj4 := hlt.2
        have hjn := hlt.1
        go_wp2_with fail
        refine (runes_bad S2 hv wr (hT.below hbw) (by omega)).mono ?_
        rintro e w5 ⟨rfl, hb5⟩
        go_wp2
        go_roundw
        case rel => exact ⟨j + 1, by omega, by omega, by go_num, hbw.trans (hb5.mono hbw.size)⟩
        case measure => simp [intOf]; omega
      · by_cases hjn : N + j ≤ l.length
        · have hj4 : 4 < j := by omega
          clear hlt
          go_wp2
          go_ret
          exact ⟨rfl, hbw⟩
        · clear hlt
          go_wp2
          go_ret
          exact ⟨rfl, hbw⟩
end Go.Proofs.YtdldkidccjkhgaaDoor
