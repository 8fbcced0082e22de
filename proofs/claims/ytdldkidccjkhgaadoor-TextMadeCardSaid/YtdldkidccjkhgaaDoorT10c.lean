import Derived.Test.YtdldkidccjkhgaaDoorT10b
namespace Go.Proofs.YtdldkidccjkhgaaDoor
open Go.RowKit Go.Par
set_option linter.unusedVariables false

theorem slice23_to (A : Option Addr) (n c N : Nat) (w : World) (h : N ≤ c) : (Instr.slice 23 (.slice A n c) none (some (.int .i64 (N : Int))) none).run Tryd.prog w = .ok (.slice A N c) w := by
  have ht' : Tryd.prog.underlying 23 = some (.slice (Tryd.prog.elem 23)) := by simp [Program.elem, Tryd.underlying23]
  have he : Tryd.prog.elem 23 = 3 := by simp [Program.elem, Tryd.underlying23]
  rw [run_slice_h w 23 _ _ _ ht' .i64 _ (by omega) (by omega), he, Tryd.sizeOf3]
  simp only [Result.andThen, sliced]
  cases A <;> simp [Addr.add]
theorem slice23_mid (A : Option Addr) (n c l h : Nat) (w : World) (hlh : l ≤ h) (hh : h ≤ c) :
    (Instr.slice 23 (.slice A n c) (some (.int .i64 (l : Int))) (some (.int .i64 (h : Int))) none).run Tryd.prog w = .ok (sliced A l h c 1) w := by
  have ht' : Tryd.prog.underlying 23 = some (.slice (Tryd.prog.elem 23)) := by simp [Program.elem, Tryd.underlying23]
  have he : Tryd.prog.elem 23 = 3 := by simp [Program.elem, Tryd.underlying23]
  rw [run_slice_lh w 23 _ _ _ ht' .i64 .i64 _ _ (by omega) (by omega) (by omega), he, Tryd.sizeOf3]
  simp [Result.andThen]
theorem seg_front {w : World} {B : Nat} {A : Option Addr} {c : Nat} {zs : List Int} (h : Seg w B (.slice A zs.length c) (ints zs)) (k : Nat) (hk : k ≤ zs.length) : Seg w B (.slice A k c) (ints (zs.take k)) := by
  obtain ⟨A', c', e, h2, h3, h4⟩ := h
  rw [ints_length] at e h2 h4
  cases e
  have hlen : (ints (zs.take k)).length = k := by rw [ints_length]; simp; omega
  refine ⟨A, c, by rw [hlen], by rw [hlen]; omega, h3, fun hp => ?_⟩
  rw [hlen] at hp ⊢
  obtain ⟨b, off, e, hb, hc⟩ := h4 (by omega)
  refine ⟨b, off, e, hb, fun i hi => (hc i (by omega)).trans ?_⟩
  simp [ints, List.getElem?_take_of_lt hi]
theorem seg_sliced {w : World} {B : Nat} {A : Option Addr} {c : Nat} {zs : List Int} (h : Seg w B (.slice A zs.length c) (ints zs)) (l k : Nat) (hl : l ≤ k) (hk : k ≤ zs.length) : Seg w B (sliced A l k c 1) (ints ((zs.drop l).take (k - l))) := by
  obtain ⟨A', c', e, h2, h3, h4⟩ := h
  rw [ints_length] at e h2 h4
  cases e
  have hlen : (ints ((zs.drop l).take (k - l))).length = k - l := by rw [ints_length]; simp; omega
  by_cases h0 : l = k
  · subst h0
    obtain ⟨A2, hs⟩ : ∃ A2, sliced A l l c 1 = .slice A2 0 (c - l) := by
      unfold sliced
      split <;> simp
    rw [hs]
    refine ⟨A2, c - l, by rw [hlen]; simp, by rw [hlen]; omega, by unfold maxLen at *; omega, fun hp => ?_⟩
    rw [hlen] at hp; omega
  · obtain ⟨b, off, e, hb, hc⟩ := h4 (by omega)
    subst e
    have hs : sliced (some ⟨b, off, none⟩) l k c 1 = .slice (some ⟨b, off + l, none⟩) (k - l) (c - l) := by
      have hne : ¬ c = l := by omega
      unfold sliced
      by_cases hz : l = 0
      · subst hz; simp [Addr.add, hne]
      · simp [Addr.add, hne, hz]
    rw [hs]
    refine ⟨_, c - l, by rw [hlen], by rw [hlen]; omega, by unfold maxLen at *; omega, fun hp => ?_⟩
    rw [hlen] at hp ⊢
    refine ⟨b, off + l, rfl, hb, fun i hi => ?_⟩
    have := hc (l + i) (by omega)
    rw [Nat.add_assoc, this]
    simp [ints, List.getElem?_take_of_lt hi, List.getElem?_drop]

set_option maxRecDepth 100000 in
set_option maxHeartbeats 2000000 in
theorem rbetween_ok (s t : ByteArray) (a b : List Int) (hs : s.data.toList = txt a) (ht : t.data.toList = txt b) (ha : AllR a) (hb : AllR b) (hl : s.size ≤ 100000) (hl2 : t.size ≤ 100000)
    (n m : Nat) (HN : Hid (IsN a b n)) (HM : Hid (IsM a b n m)) (w : World) : Calls Tryd.prog 51 #[.string s, .string t] w (BetwPost w a b n m) := by
  have hal : a.length ≤ 100000 := by have := txt_length_le a; rw [← txt_size s a hs] at this; omega
  have hbl : b.length ≤ 100000 := by have := txt_length_le b; rw [← txt_size t b ht] at this; omega
  have HSZ := Lib.hid (txt_size s a hs)
  have HTZ := Lib.hid (txt_size t b ht)
  have HS := Lib.hid hs; clear hs
  have HT := Lib.hid ht; clear ht
  go_enter Tryd.func51, Tryd.ntmps51
  go_wp2_with fail
  refine (refRunes_any s a [] (by rw [HS.out]; simp) ha (.inl rfl) _ (by omega) (some a) (Lib.hid ⟨fun _ => rfl, fun x => absurd rfl x⟩)).mono ?_
  rintro e w1 ⟨hb1, v1, rfl, hown1⟩
  have hbw1 : Below w.heap.size w w1 := ((Below.refl _ _).alloc (Nat.le_refl _) _).trans (hb1.mono (by simp))
  have hz1 : w.heap.size < w1.heap.size := by have := hb1.size; simp at this; omega
  have HX1 := Lib.hid ((Box5.new w (.int .i64 0) (.int .i64 0) (.int .i64 0) (.int .i64 0) (.string ⟨#[]⟩)).below (by simp) hb1)
  clear hb1
  go_wp2_with fail
  refine (refRunes_any t b [] (by rw [HT.out]; simp) hb (.inl rfl) _ (by omega) (some b) (Lib.hid ⟨fun _ => rfl, fun x => absurd rfl x⟩)).mono ?_
  rintro e w2 ⟨hb2, v2, rfl, hown2⟩
  have hbw2 := hbw1.trans (hb2.mono hbw1.size)
  have hz2 : w.heap.size < w2.heap.size := by have := hb2.size; omega
  have HX2 := Lib.hid (HX1.out.below hz1 hb2)
  have hsg1 : Seg w2 w2.heap.size v1 (ints a) := (hown1.seg.below hb2).more hb2.size
  have hsg2 : Seg w2 w2.heap.size v2 (ints b) := hown2.seg
  clear hb2 HX1 hown1 hown2 hz1 hbw1
  obtain ⟨A1, c1, rfl, hc1, hm1, hat1⟩ := hsg1.open_ints
  obtain ⟨A2, c2, rfl, hc2, hm2, hat2⟩ := hsg2.open_ints
  have HSG1 := Lib.hid hsg1; clear hsg1
  have HSG2 := Lib.hid hsg2; clear hsg2
  have HAT1 := Lib.hid hat1; clear hat1
  have HAT2 := Lib.hid hat2; clear hat2
  go_upto_block 0 with (fail)
  go_cut [10] (fun i wx => i = .int .i64 n ∧ ∃ nd, wx = w2.drewN nd)
  case first =>
    go_wp2_with fail
    go_loopw [10] (fun i wr => ∃ k : Nat, k ≤ a.length ∧ k ≤ b.length ∧ i = .int .i64 k ∧ Hid (a.take k = b.take k) ∧ ∃ n, wr = w2.drewN n) (fun i _ => a.length - (intOf i).toNat)
    case atStart => exact ⟨0, by omega, by omega, rfl, Lib.hid (by simp), 0, rfl⟩
    case round =>
      obtain ⟨k, hka, hkb, rfl, HA, nd, rfl⟩ := hrel
      by_cases hlt : k < a.length
      · by_cases hlt2 : k < b.length
        · obtain ⟨g1, o1, x1, rfl, _, cl1, Hx1⟩ := HAT1.out.int hlt
          obtain ⟨g2, o2, x2, rfl, _, cl2, Hx2⟩ := HAT2.out.int hlt2
          have hd : decide (k < a.length) = true := by simpa using hlt
          have hd2 : decide (k < b.length) = true := by simpa using hlt2
          by_cases he : x1 = x2
          · have HA2 : Hid (a.take (k + 1) = b.take (k + 1)) := Lib.hid (by rw [take_getD a k hlt, take_getD b k hlt2, HA.out, Hx1.out, Hx2.out, he])
            subst he
            have hq : (x1 == x1) = true := by simp
            clear HA
            go_wp2_with fail
            go_quiet (fail)
            go_wp2
            go_roundw
            case rel => exact ⟨k + 1, by omega, by omega, by go_num, HA2, _, rfl⟩
            case measure => simp [intOf]; omega
          · have hq : (x1 == x2) = false := by simpa using he
            have HE : Hid (k = n) := Lib.hid (IsN.uniq ⟨hka, hkb, HA.out, fun _ _ => by rw [Hx1.out, Hx2.out]; exact he⟩ HN.out)
            clear he
            go_wp2_with fail
            go_quiet (fail)
            go_wp2
            go_meet
            exact ⟨by rw [HE.out], _, drewN2 _ _ _⟩
        · have hd : decide (k < a.length) = true := by simpa using hlt
          have hd2 : decide (k < b.length) = false := by simpa using hlt2
          have HE : Hid (k = n) := Lib.hid (IsN.uniq ⟨hka, hkb, HA.out, fun _ h => absurd h hlt2⟩ HN.out)
          go_wp2_with fail
          go_quiet (fail)
          go_wp2
          go_meet
          exact ⟨by rw [HE.out], _, drewN2 _ _ _⟩
      · have hd : decide (k < a.length) = false := by simpa using hlt
        have HE : Hid (k = n) := Lib.hid (IsN.uniq ⟨hka, hkb, HA.out, fun h => absurd h hlt⟩ HN.out)
        go_wp2_with fail
        go_quiet (fail)
        go_wp2
        go_meet
        exact ⟨by rw [HE.out], _, drewN2 _ _ _⟩
  case rest =>
    obtain ⟨rfl, nd, rfl⟩ := hcut
    have hna := HN.out.la
    have hnb := HN.out.lb
    go_upto_block 2 with (fail)
    go_cut [11] (fun i wx => i = .int .i64 m ∧ ∃ nd, wx = w2.drewN nd)
    case first =>
      go_wp2_with fail
      go_loopw [11] (fun i wr => ∃ k : Nat, k ≤ a.length - n ∧ k ≤ b.length - n ∧ i = .int .i64 k ∧ Hid (a.drop (a.length - k) = b.drop (b.length - k)) ∧ ∃ n, wr = w2.drewN n) (fun i _ => a.length - (intOf i).toNat)
      case atStart => exact ⟨0, by omega, by omega, rfl, Lib.hid (by simp), _, rfl⟩
      case round =>
        obtain ⟨k, hka, hkb, rfl, HA, nd, rfl⟩ := hrel
        have q1 : IntKind.i64.wrap ((a.length : Int) - n) = ((a.length - n : Nat) : Int) := by rw [IntWalk.i64_in _ (by omega)]; omega
        have q6 : IntKind.i64.wrap ((b.length : Int) - n) = ((b.length - n : Nat) : Int) := by rw [IntWalk.i64_in _ (by omega)]; omega
        by_cases hlt : k < a.length - n
        · by_cases hlt2 : k < b.length - n
          · obtain ⟨i, hi⟩ : ∃ i, i = a.length - 1 - k := ⟨_, rfl⟩
            obtain ⟨j, hj⟩ : ∃ j, j = b.length - 1 - k := ⟨_, rfl⟩
            have his : i < a.length := by omega
            have hjt : j < b.length := by omega
            have q2 : IntKind.i64.wrap ((a.length : Int) - 1) = (a.length : Int) - 1 := by rw [IntWalk.i64_in _ (by omega)]
            have q3 : IntKind.i64.wrap ((a.length : Int) - 1 - k) = (i : Int) := by rw [IntWalk.i64_in _ (by omega)]; omega
            have q4 : IntKind.i64.wrap ((b.length : Int) - 1) = (b.length : Int) - 1 := by rw [IntWalk.i64_in _ (by omega)]
            have q5 : IntKind.i64.wrap ((b.length : Int) - 1 - k) = (j : Int) := by rw [IntWalk.i64_in _ (by omega)]; omega
            have HI := Lib.hid hi
            have HJ := Lib.hid hj
            obtain ⟨g1, o1, x1, rfl, _, cl1, Hx1⟩ := HAT1.out.int his
            obtain ⟨g2, o2, x2, rfl, _, cl2, Hx2⟩ := HAT2.out.int hjt
            have hd : decide (k < a.length - n) = true := by simpa using hlt
            have hd2 : decide (k < b.length - n) = true := by simpa using hlt2
            clear hi hj
            by_cases he : x1 = x2
            · have HA2 : Hid (a.drop (a.length - (k + 1)) = b.drop (b.length - (k + 1))) := Lib.hid (by rw [back_step a k (by omega), back_step b k (by omega), HA.out, ← HI.out, ← HJ.out, Hx1.out, Hx2.out, he])
              subst he
              have hq : (x1 == x1) = true := by simp
              clear HA
              go_wp2_with fail
              go_quiet (fail)
              clear q1 q2 q3 q4 q5 q6
              go_wp2
              go_roundw
              case rel => exact ⟨k + 1, by omega, by omega, by go_num, HA2, _, rfl⟩
              case measure => simp [intOf]; omega
            · have hq : (x1 == x2) = false := by simpa using he
              have HE : Hid (k = m) := Lib.hid (IsM.uniq ⟨hka, hkb, HA.out, fun _ _ => by rw [← HI.out, ← HJ.out, Hx1.out, Hx2.out]; exact he⟩ HM.out)
              clear he
              go_wp2_with fail
              go_quiet (fail)
              clear q1 q2 q3 q4 q5 q6
              go_wp2
              go_meet
              exact ⟨by rw [HE.out], _, drewN2 _ _ _⟩
          · have hd : decide (k < a.length - n) = true := by simpa using hlt
            have hd2 : decide (k < b.length - n) = false := by simpa using hlt2
            have HE : Hid (k = m) := Lib.hid (IsM.uniq ⟨hka, hkb, HA.out, fun _ h => absurd h hlt2⟩ HM.out)
            go_wp2_with fail
            go_quiet (fail)
            clear q1 q6
            go_wp2
            go_meet
            exact ⟨by rw [HE.out], _, drewN2 _ _ _⟩
        · have hd : decide (k < a.length - n) = false := by simpa using hlt
          have HE : Hid (k = m) := Lib.hid (IsM.uniq ⟨hka, hkb, HA.out, fun h => absurd h hlt⟩ HM.out)
          go_wp2_with fail
          go_quiet (fail)
          clear q1 q6
          go_wp2
          go_meet
          exact ⟨by rw [HE.out], _, drewN2 _ _ _⟩
    case rest =>
      obtain ⟨rfl, nd2, rfl⟩ := hcut
      have hma := HM.out.la
      have hmb := HM.out.lb
      have hbw3 : Below w.heap.size w (w2.drewN nd2) := below_drewN hbw2 nd2
      have HG1 := Lib.hid (show Seg (w2.drewN nd2) (w2.drewN nd2).heap.size (.slice A1 a.length c1) (ints a) from HSG1.out)
      have HG2 := Lib.hid (show Seg (w2.drewN nd2) (w2.drewN nd2).heap.size (.slice A2 b.length c2) (ints b) from HSG2.out)
      have HX3 := Lib.hid (show Box5 (w2.drewN nd2) w.heap.size (.int .i64 0) (.int .i64 0) (.int .i64 0) (.int .i64 0) (.string ⟨#[]⟩) from HX2.out)
      have hz3 : w.heap.size < (w2.drewN nd2).heap.size := hz2
      clear HX2 HSG1 HSG2 HAT1 HAT2 hbw2 hz2
      generalize w2.drewN nd2 = w3 at *
      have q1 : (a.length : Int) - (m : Int) = ((a.length - m : Nat) : Int) := by omega
      have q2 : (b.length : Int) - (m : Int) = ((b.length - m : Nat) : Int) := by omega
      have hsm := fun wx => slice23_mid A2 b.length c2 n (b.length - m) wx (by omega) (by omega)
      have hsd := seg_sliced HG2.out n (b.length - m) (by omega) (by omega)
      generalize sliced A2 n (b.length - m) c2 1 = D at *
      have HGD := Lib.hid (show Seg w3 w3.heap.size D (ints (midN b n m)) from hsd)
      clear hsd
      go_wp2_with fail
      refine (refText_ok _ (a.take n) (ha.take n) _ _ (seg_front HG1.out n hna) (Nat.le_refl _) (by simp; omega)).mono ?_
      rintro e w4 ⟨rfl, hb4⟩
      have hbw4 := hbw3.trans (hb4.mono hbw3.size)
      have HX4 := Lib.hid (HX3.out.below hz3 hb4)
      have HG14 := Lib.hid (HG1.out.below hb4)
      have HG24 := Lib.hid (HGD.out.below hb4)
      have hz4 := hb4.size
      clear hb4 HX3
      go_wp2_with fail
      refine (refText_ok _ (a.take (a.length - m)) (ha.take _) _ _ (seg_front HG14.out _ (by omega)) hz4 (by simp; omega)).mono ?_
      rintro e w5 ⟨rfl, hb5⟩
      have hbw5 := hbw4.trans (hb5.mono hbw4.size)
      have HX5 := Lib.hid (HX4.out.below (by omega) hb5)
      have HG25 := Lib.hid (HG24.out.below (hb5.mono hz4))
      have hz5 := hb5.size
      clear hb5 HX4
      go_wp2_with fail
      refine (refText_ok D (midN b n m) ((hb.drop n).take _) _ _ HG25.out (by omega) (by unfold midN; simp; omega)).mono ?_
      rintro e w6 ⟨rfl, hb6⟩
      have hbw6 := hbw5.trans (hb6.mono hbw5.size)
      have HX6 := Lib.hid (HX5.out.below (by omega) hb6)
      have hz6 := hb6.size
      clear hb6 HX5 HG24 HG25 HG14 HG1 HG2 HGD hsm
      obtain ⟨X, hX⟩ : ∃ X : ByteArray, X = ⟨(txt (midN b n m)).toArray⟩ := ⟨_, rfl⟩
      rw [← hX]
      have HX := Lib.hid (show X.data.toList = txt (midN b n m) by rw [hX])
      clear hX
      have hs1 : (⟨(txt (a.take n)).toArray⟩ : ByteArray).size = (plc a n).1 := by rw [Lib.size_eq]; rfl
      have hs2 : (⟨(txt (a.take (a.length - m))).toArray⟩ : ByteArray).size = (plc a (a.length - m)).1 := by rw [Lib.size_eq]; rfl
      generalize (⟨(txt (a.take n)).toArray⟩ : ByteArray) = S1 at *
      generalize (⟨(txt (a.take (a.length - m))).toArray⟩ : ByteArray) = S2 at *
      have HS1 := Lib.hid hs1; clear hs1
      have HS2 := Lib.hid hs2; clear hs2
      have hp1 : IsO a (S1.size : Int) (some n) := ⟨HN.out.la, by rw [HS1.out]⟩
      have hp2 : IsO a (S2.size : Int) (some (a.length - m)) := ⟨by omega, by rw [HS2.out]⟩
      have HP1 := Lib.hid hp1; clear hp1
      have HP2 := Lib.hid hp2; clear hp2
      go_wp2_with fail
      refine (rplace_ok s a HS.out ha (by omega) _ (some n) HP1 _).mono ?_
      rintro e w7 ⟨rfl, hb7⟩
      have hz7 : w6.heap.size + 1 ≤ w7.heap.size := by have := hb7.size; simpa using this
      have hbw7 : Below w.heap.size w w7 := (hbw6.alloc (by omega) _).trans (hb7.mono (by simp; omega))
      have HX7 := Lib.hid ((HX6.out.below (w' := w6.alloc (.cells #[.int .i64 0, .int .i64 0, .int .i64 0, .int .i64 0, .string X] 52)) (by omega) ((Below.refl _ _).alloc (Nat.le_refl _) _)).below (by simp; omega) hb7)
      have hx7 := (Box5.new w6 (.int .i64 0) (.int .i64 0) (.int .i64 0) (.int .i64 0) (.string X)).below (by simp) hb7
      obtain ⟨c0, c1, c2, c3, c4, f0, f1, f2, f3, f4⟩ := hx7
      go_wp2_with fail
      have hbw8 : Below w.heap.size w ((w7.setCell ⟨w6.heap.size, 0, none⟩ (.int .i64 (posT a n).1)).setCell ⟨w6.heap.size, 1, none⟩ (.int .i64 (posT a n).2)) := (hbw7.setCell (p := ⟨w6.heap.size, 0, none⟩) hbw6.size _).setCell (p := ⟨w6.heap.size, 1, none⟩) hbw6.size _
      have hx8 := (Box5.set01 ⟨c0, c1, c2, c3, c4, f0, f1, f2, f3, f4⟩ (.int .i64 (posT a n).1) (.int .i64 (posT a n).2))
      refine (rplace_ok s a HS.out ha (by omega) _ (some (a.length - m)) HP2 _).mono ?_
      rintro e w9 ⟨rfl, hb9⟩
      have hx9 := hx8.below (by simp; omega) hb9
      have hy9 : Box5 w9 w.heap.size (.int .i64 0) (.int .i64 0) (.int .i64 0) (.int .i64 0) (.string ⟨#[]⟩) := ((HX7.out.other (p := ⟨w6.heap.size, 0, none⟩) (by simp; omega) _).other (p := ⟨w6.heap.size, 1, none⟩) (by simp; omega) _).below (by simp; omega) hb9
      have hbw9 := hbw8.trans (hb9.mono hbw8.size)
      clear c0 c1 c2 c3 c4 f0 f1 f2 f3 f4 hx8
      obtain ⟨c0, c1, c2, c3, c4, f0, f1, f2, f3, f4⟩ := hx9
      obtain ⟨d0, d1, d2, d3, d4, g0, g1, g2, g3, g4⟩ := hy9
      have hne : w.heap.size ≠ w6.heap.size := by omega
      have hne' : w6.heap.size ≠ w.heap.size := by omega
      go_wp2_with fail
      refine bodyPost_ret (v := .tuple #[.agg #[.int .i64 (posT a n).1, .int .i64 (posT a n).2, .int .i64 (posT a (a.length - m)).1, .int .i64 (posT a (a.length - m)).2, .string X], .int .i64 0]) (by simp [results, Tryd.results51, go_sem, d0, d1, d2, d3, d4]) rfl ⟨X, HX.out, rfl, ?_⟩
      have e1 := hbw6.size
      exact ((((((hbw9.setCell (p := ⟨w6.heap.size, 2, none⟩) e1 _).setCell (p := ⟨w6.heap.size, 3, none⟩) e1 _).setCell (p := ⟨w.heap.size, 0, none⟩) (Nat.le_refl _) _).setCell (p := ⟨w.heap.size, 1, none⟩) (Nat.le_refl _) _).setCell (p := ⟨w.heap.size, 2, none⟩) (Nat.le_refl _) _).setCell (p := ⟨w.heap.size, 3, none⟩) (Nat.le_refl _) _).setCell (p := ⟨w.heap.size, 4, none⟩) (Nat.le_refl _) _
end Go.Proofs.YtdldkidccjkhgaaDoor
