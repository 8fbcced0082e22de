/- The reference's journal: numbers and frames. -/
import Derived.Test.YtpdelgjfamelfaaGreatJ24
import Derived.Test.YtpdelgjfamelfaaGreatV39
import Derived.Laws.BitsLemmas
namespace Go.Proofs.YtpdelgjfamelfaaGreat
open Go.RowKit Go.Lib Go.Vfs Go.Par Go.Shelf
set_option linter.unusedVariables false
set_option linter.unusedSimpArgs false

set_option maxRecDepth 20000 in
set_option maxHeartbeats 1000000 in
theorem put_any (n : Nat) (hn : n < 4294967296) (w : World) :
    Calls Tryz.prog 66 #[.int .i64 (n : Nat)] w fun e w' => ∃ A c, e = .returned (.slice A 4 c) ∧ Par.Own w' w.heap.size 5 (.slice A 4 c) (byteCells (be4 n)) ∧ Below w.heap.size w w' := by
  go_enter Tryz.func66, Tryz.ntmps66
  go_wp2
  go_ret
  have hbc : byteCells (be4 n) = [.int .u8 ((n : Int) / 16777216), .int .u8 ((n : Int) / 65536 % 256), .int .u8 ((n : Int) / 256 % 256), .int .u8 ((n : Int) % 256)] := by
    unfold byteCells be4
    simp only [List.map_cons, List.map_nil, u8_mod]
    have h0 : (n : Int) / 16777216 % 256 = (n : Int) / 16777216 := by omega
    have h0' : ((n / 16777216 % 256 : Nat) : Int) = (n : Int) / 16777216 := by omega
    first
      | (rw [← h0]; rfl)
      | (rw [h0']; rfl)
      | (simp [h0]; done)
  refine ⟨some ⟨w.heap.size, 0, none⟩, 4, rfl, ?_, box_below w _⟩
  rw [hbc]
  exact Par.Own.new w w.heap.size 5 _ _ rfl (Nat.le_refl _) (by simp [maxLen])
theorem or_i64 (i x y : Nat) (hi : i < 32) (hx : x % 2 ^ i = 0) (hy : y < 2 ^ i) (hl : x < 4294967296) : bits .or .i64 (x : Int) (y : Int) = ((x + y : Nat) : Int) := by
  have h32 : (2 : Nat) ^ i ≤ 2 ^ 32 := Nat.pow_le_pow_right (by omega) (by omega)
  have hk : ∀ n : Int, 0 ≤ n → n < 2 ^ 32 → IntKind.i64.wrap n = n := fun n h0 h1 => by rw [IntKind.wrap_i64]; omega
  rw [(bits_nat .i64 32 (by decide) hk x y (by omega) (by omega)).2, nat_join i x y hx hy]
theorem or4i (x0 x1 x2 x3 : Nat) (h0 : x0 < 256) (h1 : x1 < 256) (h2 : x2 < 256) (h3 : x3 < 256) :
    bits .or .i64 (bits .or .i64 (bits .or .i64 ((x0 : Int) * 16777216) ((x1 : Int) * 65536)) ((x2 : Int) * 256)) (x3 : Int) = ((x0 * 16777216 + x1 * 65536 + x2 * 256 + x3 : Nat) : Int) := by
  rw [show (x0 : Int) * 16777216 = ((x0 * 16777216 : Nat) : Int) by omega, show (x1 : Int) * 65536 = ((x1 * 65536 : Nat) : Int) by omega, show (x2 : Int) * 256 = ((x2 * 256 : Nat) : Int) by omega]
  rw [or_i64 24 _ _ (by omega) (by omega) (by omega) (by omega), or_i64 16 _ _ (by omega) (by omega) (by omega) (by omega), or_i64 8 _ _ (by omega) (by omega) (by omega) (by omega)]
set_option maxRecDepth 20000 in
set_option maxHeartbeats 1000000 in
theorem num_any (v : Value) (l : List UInt8) (B : Nat) (w : World) (hsg : Seg w B v (byteCells l)) (hl : 4 ≤ l.length) :
    Calls Tryz.prog 78 #[v] w fun e w' => e = .returned (.int .i64 (num4 l : Nat)) ∧ ∃ n, w' = w.drewN n := by
  obtain ⟨A, c, rfl, hc, hm, hat⟩ := hsg.open_bytes
  obtain ⟨b, off, x0, rfl, hb, hc0, hx0, Hx0⟩ := hat.byte (show 0 < l.length by omega)
  obtain ⟨_, _, x1, h1, -, hc1, hx1, Hx1⟩ := hat.byte (show 1 < l.length by omega)
  cases h1
  obtain ⟨_, _, x2, h2, -, hc2, hx2, Hx2⟩ := hat.byte (show 2 < l.length by omega)
  cases h2
  obtain ⟨_, _, x3, h3, -, hc3, hx3, Hx3⟩ := hat.byte (show 3 < l.length by omega)
  cases h3
  clear hat hsg
  have g0 : 0 < l.length := by omega
  have g1 : 1 < l.length := by omega
  have g2 : 2 < l.length := by omega
  have g3 : 3 < l.length := by omega
  simp only [Nat.add_zero] at hc0
  go_enter Tryz.func78, Tryz.ntmps78
  go_wp2
  go_quiet (fail)
  go_wp2
  go_ret
  refine ⟨?_, nq, rfl⟩
  have e : num4 l = x0 * 16777216 + x1 * 65536 + x2 * 256 + x3 := by unfold num4; rw [Hx0.out, Hx1.out, Hx2.out, Hx3.out]
  rw [e, ← or4i x0 x1 x2 x3 hx0 hx1 hx2 hx3]
  rfl

set_option maxRecDepth 20000 in
set_option maxHeartbeats 2000000 in
theorem rframe_any (gen : Nat) (hg : gen < 4294967296) (v : Value) (p : List UInt8) (w : World) (h : Seg w w.heap.size v (byteCells p)) (hp : p.length ≤ 900000) :
    Calls Tryz.prog 63 #[.int .i64 (gen : Nat), v] w fun e w' => ∃ A c, e = .returned (.slice A (frameB gen p).length c) ∧ Par.Own w' w.heap.size 5 (.slice A (frameB gen p).length c) (byteCells (frameB gen p)) ∧ Below w.heap.size w w' := by
  obtain ⟨A, c, rfl, hc, hm, -⟩ := h.open_bytes
  have H := Lib.hid h; clear h
  obtain ⟨N, hN⟩ : ∃ N, N = p.length := ⟨_, rfl⟩
  rw [← hN] at hc hp H ⊢
  have HN := Lib.hid hN
  clear hN
  go_enter Tryz.func63, Tryz.ntmps63
  go_wp2_with fail
  refine (put_any gen hg w).mono ?_
  rintro e w1 ⟨A1, c1, rfl, hu1, hb1⟩
  have U1 := Lib.hid hu1; have B1 := Lib.hid hb1
  clear hu1 hb1
  go_wp2_with fail
  refine (put_any N (by omega) w1).mono ?_
  rintro e w2 ⟨A2, c2, rfl, hu2, hb2⟩
  have hown1 := U1.out.below hb2
  have hsg2 := Own.seg hu2
  have B2 := Lib.hid (B1.out.trans (hb2.mono B1.out.size))
  have hz2 := B2.out.size
  clear hu2 hb2
  go_wp2_with (at_builtin; refine wpList_app _ rfl _ _ _ rfl w.heap.size 5 _ byteE _ _ rfl hown1 _ _ _ rfl hsg2 (one_bytes _) ?c1 ?c2 ?_)
  case c1 => rw [byteCells_length, byteCells_length]; simp [be4_length]
  case c2 => exact hz2
  intro v3 w3 hown3 hg3 hat3
  have B3 := Lib.hid (below_app B2.out hown1 hg3 hz2)
  rw [← byteCells_append] at hown3
  obtain ⟨HD, hHD⟩ : ∃ HD, HD = be4 gen ++ be4 N := ⟨_, rfl⟩
  rw [← hHD] at hown3
  have HHD := Lib.hid hHD
  have HDL : Hid (HD.length = 8) := Lib.hid (by rw [hHD]; rfl)
  obtain ⟨A3, c3, hf3⟩ := hown3.form
  rw [byteCells_length, HDL.out] at hf3
  have U3 := Lib.hid hown3
  have S3 := Lib.hid (Own.seg hown3)
  clear hown3 hg3 hat3 hown1 hsg2 hHD hz2
  subst hf3
  go_wp2_with fail
  refine (copyBytes_any _ HD w3.heap.size w3 S3.out (Nat.le_refl _) (by rw [HDL.out]; omega)).mono ?_
  rintro e w4 ⟨u4, rfl, hu4, hb4⟩
  have B4 := Lib.hid (B3.out.trans (hb4.mono B3.out.size))
  have hsp := (H.out.below B4.out).more B4.out.size
  obtain ⟨A4, c4, hf4⟩ := hu4.form
  rw [byteCells_length, HDL.out] at hf4
  have hz34 := hb4.size
  have HB4 := Lib.hid hb4
  clear hb4
  subst hf4
  go_wp2_with (at_builtin; refine wpList_app _ rfl _ _ _ rfl w3.heap.size 5 _ byteE _ _ rfl hu4 _ _ _ rfl hsp (one_bytes _) ?c1 ?c2 ?_)
  case c1 => rw [byteCells_length, byteCells_length, HDL.out, ← HN.out]; omega
  case c2 => exact hz34
  intro v5 w5 hown5 hg5 hat5
  rw [← byteCells_append] at hown5
  obtain ⟨AL, hAL⟩ : ∃ AL, AL = HD ++ p := ⟨_, rfl⟩
  rw [← hAL] at hown5
  have HAL := Lib.hid hAL
  have B35 := Lib.hid (HB4.out.trans (own_grown hu4 hz34 hg5))
  have B5 := Lib.hid (B3.out.trans (B35.out.mono B3.out.size))
  have U5 := Lib.hid (U3.out.below B35.out)
  have ALl : Hid (AL.length = 8 + N) := Lib.hid (by rw [hAL, List.length_append, HDL.out, HN.out])
  obtain ⟨A5, c5, hf5⟩ := hown5.form
  rw [byteCells_length, ALl.out] at hf5
  have S5 := Lib.hid (Own.seg hown5)
  clear hown5 hg5 hat5 hu4 hsp hz34 hAL HB4 U3 S3
  subst hf5
  have hrs := rsum_any _ AL w5.heap.size w5 S5.out
  have hcl := crc_lt AL
  have HFB : Hid (frameB gen p = HD ++ be4 (crc AL) ++ p) := Lib.hid (by unfold frameB; rw [HAL.out, HHD.out, HN.out])
  generalize crc AL = C at *
  go_wp2_with fail
  refine hrs.mono ?_
  clear hrs
  rintro e w6 ⟨rfl, n6, hw6⟩
  have B56 : Hid (Below w5.heap.size w5 w6) := Lib.hid (by rw [hw6]; exact below_drewN (Below.refl _ _) n6)
  have B6 := Lib.hid (B5.out.trans (B56.out.mono B5.out.size))
  have U6 := Lib.hid (U5.out.below B56.out)
  clear hw6 S5
  go_wp2_with fail
  refine (put_any C hcl w6).mono ?_
  rintro e w7 ⟨A7, c7, rfl, hu7, hb7⟩
  have hown7 := U6.out.below hb7
  have hsg7 := Own.seg hu7
  have B7 := Lib.hid (B6.out.trans (hb7.mono B6.out.size))
  have hz7 := B7.out.size
  clear hu7 hb7 U5 U6
  go_wp2_with (at_builtin; refine wpList_app _ rfl _ _ _ rfl w.heap.size 5 _ byteE _ _ rfl hown7 _ _ _ rfl hsg7 (one_bytes _) ?c1 ?c2 ?_)
  case c1 => rw [byteCells_length, byteCells_length, HDL.out]; simp [be4_length]
  case c2 => exact hz7
  intro v8 w8 hown8 hg8 hat8
  have B8 := Lib.hid (below_app B7.out hown7 hg8 hz7)
  rw [← byteCells_append] at hown8
  obtain ⟨OU, hOU⟩ : ∃ OU, OU = HD ++ be4 C := ⟨_, rfl⟩
  rw [← hOU] at hown8
  have OUl : Hid (OU.length = 12) := Lib.hid (by rw [hOU, List.length_append, HDL.out]; rfl)
  have HOU := Lib.hid hOU
  have hz8 := B8.out.size
  have hsp8 := (H.out.below B8.out).more hz8
  obtain ⟨A8, c8, hf8⟩ := hown8.form
  rw [byteCells_length, OUl.out] at hf8
  clear hg8 hat8 hown7 hsg7 hz7 hOU
  subst hf8
  go_wp2_with (at_builtin; refine wpList_app _ rfl _ _ _ rfl w.heap.size 5 _ byteE _ _ rfl hown8 _ _ _ rfl hsp8 (one_bytes _) ?c1 ?c2 ?_)
  case c1 => rw [byteCells_length, byteCells_length, OUl.out, ← HN.out]; omega
  case c2 => exact hz8
  intro v9 w9 hown9 hg9 hat9
  have B9 := Lib.hid (below_app B8.out hown8 hg9 hz8)
  rw [← byteCells_append, HOU.out, ← HFB.out] at hown9
  obtain ⟨A9, c9, hf9⟩ := hown9.form
  rw [byteCells_length] at hf9
  have U9 := Lib.hid hown9
  clear hown9 hg9 hat9 hown8 hsp8 hz8
  subst hf9
  go_wp2
  go_ret
  exact ⟨_, _, rfl, U9.out, B9.out⟩
end Go.Proofs.YtpdelgjfamelfaaGreat
