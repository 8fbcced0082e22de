import Derived.Test.YtdldkidccjkhgaaDoorRefU
import Derived.Test.YtdldkidccjkhgaaDoorU8p
namespace Go.Proofs.YtdldkidccjkhgaaDoor
open Go.RowKit Go.Par
set_option linter.unusedVariables false

theorem findP_none_of {q : Nat × Nat → Bool} {rs : List Int} (h : ∀ j, j < rs.length + 1 → q (plc rs j) = false) : findP q rs = none := by
  unfold findP plcs
  rw [List.find?_eq_none]
  intro x hx
  simp only [List.mem_map, List.mem_range] at hx
  obtain ⟨j, hj, rfl⟩ := hx
  simp [h j hj]
theorem plc_step (rs : List Int) (k : Nat) (hk : k < rs.length) : plc rs (k + 1) = ((plc rs k).1 + (Lib.encodeRune (rs.getD k 0)).length, (plc rs k).2 + (unitsZ (rs.getD k 0)).length) := by
  unfold plc
  rw [take_getD rs k hk, txt_append, units_append]
  simp [txt, units]
theorem plc_end (rs : List Int) (k : Nat) (hk : rs.length ≤ k) : plc rs (k + 1) = plc rs k := by
  unfold plc
  rw [List.take_of_length_le hk, List.take_of_length_le (by omega)]
theorem plc_bd (rs : List Int) (k : Nat) : (plc rs k).1 ≤ 4 * rs.length ∧ (plc rs k).2 ≤ 2 * rs.length := by
  have h1 : ∀ l : List Int, (txt l).length ≤ 4 * l.length ∧ (units l).length ≤ 2 * l.length := fun l => by
    induction l with
    | nil => simp [txt, units]
    | cons r rs ih => have := enc_le r; have := unitsZ_len r; rw [txt_cons, units_cons]; simp; split at this <;> omega
  have := h1 (rs.take k)
  simp [plc] at this ⊢
  omega

theorem refUnit1_plain (r : Int) (h0 : 0 ≤ r) (hm : r ≤ 1114111) (w : World) :
    Calls Tryd.prog 56 #[.int .i64 r] w fun e w' => e = .returned (.slice (some ⟨w.heap.size, 0, none⟩) (unitsZ r).length (unitsZ r).length) ∧ unitsWorld w r = w' := refUnit1_any r h0 hm w
theorem refBytes_plain (r : Int) (hr : isR r = true) (w : World) :
    Calls Tryd.prog 58 #[.int .i64 r] w fun e w' => e = .returned (.slice (some ⟨w.heap.size, 0, none⟩) (Lib.encodeRune r).length (Lib.encodeRune r).length) ∧ bytesWorld w r = w' := refBytes_any r hr w

set_option maxRecDepth 20000 in
set_option maxHeartbeats 1000000 in
theorem refOffset_ok (s : ByteArray) (rs : List Int) (hl : s.data.toList = txt rs) (ha : AllR rs) (u : Int) (w : World) (hlen : s.size ≤ 100000) :
    Calls Tryd.prog 31 #[.string s, .int .i64 u] w (NumPost w ((findP (fun p => decide ((p.2 : Int) = u)) rs).map (·.1))) := by
  have hrl : rs.length ≤ 100000 := by have h1 := txt_length_le rs; have h2 := txt_size s rs hl; omega
  have hr := refRunes_any s rs [] (by rw [hl]; simp) ha (.inl rfl) w (by omega) (some rs) (Lib.hid ⟨fun _ => rfl, fun h => absurd rfl h⟩)
  have HR := Lib.hid hr; clear hr hl
  obtain ⟨o, ho⟩ : ∃ o, o = (findP (fun p => decide ((p.2 : Int) = u)) rs).map (·.1) := ⟨_, rfl⟩
  rw [← ho]
  have HO := Lib.hid ho; clear ho
  go_enter Tryd.func31, Tryd.ntmps31
  go_wp2_with fail
  refine HR.out.mono ?_
  rintro e w1 ⟨hb1, v1, rfl, hown1⟩
  obtain ⟨A, c, rfl, hc, hcm, hat⟩ := hown1.seg.open_ints
  have hz1 := hb1.size
  clear HR hown1
  go_wp2
  go_loopw [8, 9, 10] (fun n a i wr => ∃ k x y : Nat, k ≤ rs.length + 1 ∧ i = .int .i64 k ∧ n = .int .i64 y ∧ a = .int .i64 x ∧ Hid (plc rs k = (x, y)) ∧ Hid (∀ j, j < k → ¬ ((plc rs j).2 : Int) = u) ∧ Below w1.heap.size w1 wr) (fun _ _ i _ => rs.length + 1 - (intOf i).toNat)
  case atStart => exact ⟨0, 0, 0, by omega, rfl, rfl, rfl, Lib.hid rfl, Lib.hid (fun j hj => by omega), Below.refl _ _⟩
  case round =>
    obtain ⟨k, x, y, hk, rfl, rfl, rfl, HP, HJ, hbw⟩ := hrel
    have hsz := hbw.size
    have hpb := plc_bd rs k
    rw [HP.out] at hpb
    by_cases hle : k ≤ rs.length
    · by_cases hyu : (y : Int) = u
      · subst hyu
        go_wp2
        go_ret2
        refine NumPost.good ?_ (hb1.trans (hbw.mono hz1))
        rw [HO.out, findP_at k hle (by rw [HP.out]; simp) (fun j hj hq => ?_), HP.out]; rfl
        refine plc_inj2 rs ha hj hle ?_
        have := of_decide_eq_true hq
        rw [HP.out]; omega
      · have hnew : ∀ j, j < k + 1 → ¬ ((plc rs j).2 : Int) = u := fun j hj => by
          by_cases e : j = k
          · rw [e, HP.out]; exact hyu
          · exact HJ.out j (by omega)
        have HN := Lib.hid hnew; clear hnew
        by_cases hlt : k < rs.length
        · have hps := plc_step rs k hlt
          obtain ⟨b, off, z, rfl, hb, hcell, Hx⟩ := (hat.below hbw).int hlt
          have hR : isR z = true := by rw [← Hx.out]; exact isR_getD ha k hlt
          obtain ⟨hx0, hx1, _⟩ := isR_iff.1 hR
          have hbu : Below w1.heap.size w1 (unitsWorld wr z) := hbw.alloc hsz _
          have hbv : Below w1.heap.size w1 (bytesWorld (unitsWorld wr z) z) := hbu.alloc hbu.size _
          have hcell2 : (unitsWorld wr z).cell? ⟨b, off + k, none⟩ = some (.int .i64 z) := by
            rw [hbu.cell (p := ⟨b, off + k, none⟩) hb, ← hbw.cell (p := ⟨b, off + k, none⟩) hb]; exact hcell
          have hul : (unitsZ z).length ≤ 2 := by rw [unitsZ_len]; split <;> omega
          have hel := enc_le z
          rw [Hx.out, HP.out] at hps
          have HPS := Lib.hid hps; clear hps hat
          go_wp2_with (first | (go_at_call 56; refine (refUnit1_plain z hx0 hx1 _).mono ?_; rintro e w' ⟨rfl, rfl⟩) | (go_at_call 58; refine (refBytes_plain z hR _).mono ?_; rintro e w' ⟨rfl, rfl⟩))
          go_roundw
          case rel => exact ⟨k + 1, _, _, by omega, by go_num, by go_num, by go_num, Lib.hid HPS.out, HN, hbv⟩
          case measure => simp [intOf]; omega
        · have hps := plc_end rs k (by omega)
          rw [HP.out] at hps
          have HPS := Lib.hid hps; clear hps hat
          go_wp2
          go_roundw
          case rel => exact ⟨k + 1, _, _, by omega, by go_num, rfl, rfl, HPS, HN, hbw⟩
          case measure => simp [intOf]; omega
    · clear hat
      go_wp2
      go_ret2
      refine NumPost.bad ?_ (hb1.trans (hbw.mono hz1))
      rw [HO.out, findP_none_of (fun j hj => decide_eq_false (HJ.out j (by omega)))]; rfl
set_option maxRecDepth 20000 in
set_option maxHeartbeats 1000000 in
theorem refUnit_ok (s : ByteArray) (rs : List Int) (hl : s.data.toList = txt rs) (ha : AllR rs) (u : Int) (w : World) (hlen : s.size ≤ 100000) :
    Calls Tryd.prog 33 #[.string s, .int .i64 u] w (NumPost w ((findP (fun p => decide ((p.1 : Int) = u)) rs).map (·.2))) := by
  have hrl : rs.length ≤ 100000 := by have h1 := txt_length_le rs; have h2 := txt_size s rs hl; omega
  have hr := refRunes_any s rs [] (by rw [hl]; simp) ha (.inl rfl) w (by omega) (some rs) (Lib.hid ⟨fun _ => rfl, fun h => absurd rfl h⟩)
  have HR := Lib.hid hr; clear hr hl
  obtain ⟨o, ho⟩ : ∃ o, o = (findP (fun p => decide ((p.1 : Int) = u)) rs).map (·.2) := ⟨_, rfl⟩
  rw [← ho]
  have HO := Lib.hid ho; clear ho
  go_enter Tryd.func33, Tryd.ntmps33
  go_wp2_with fail
  refine HR.out.mono ?_
  rintro e w1 ⟨hb1, v1, rfl, hown1⟩
  obtain ⟨A, c, rfl, hc, hcm, hat⟩ := hown1.seg.open_ints
  have hz1 := hb1.size
  clear HR hown1
  go_wp2
  go_loopw [8, 9, 10] (fun n a i wr => ∃ k x y : Nat, k ≤ rs.length + 1 ∧ i = .int .i64 k ∧ n = .int .i64 y ∧ a = .int .i64 x ∧ Hid (plc rs k = (x, y)) ∧ Hid (∀ j, j < k → ¬ ((plc rs j).1 : Int) = u) ∧ Below w1.heap.size w1 wr) (fun _ _ i _ => rs.length + 1 - (intOf i).toNat)
  case atStart => exact ⟨0, 0, 0, by omega, rfl, rfl, rfl, Lib.hid rfl, Lib.hid (fun j hj => by omega), Below.refl _ _⟩
  case round =>
    obtain ⟨k, x, y, hk, rfl, rfl, rfl, HP, HJ, hbw⟩ := hrel
    have hsz := hbw.size
    have hpb := plc_bd rs k
    rw [HP.out] at hpb
    by_cases hle : k ≤ rs.length
    · by_cases hyu : (x : Int) = u
      · subst hyu
        go_wp2
        go_ret2
        refine NumPost.good ?_ (hb1.trans (hbw.mono hz1))
        rw [HO.out, findP_at k hle (by rw [HP.out]; simp) (fun j hj hq => ?_), HP.out]; rfl
        refine plc_inj1 rs ha hj hle ?_
        have := of_decide_eq_true hq
        rw [HP.out]; omega
      · have hnew : ∀ j, j < k + 1 → ¬ ((plc rs j).1 : Int) = u := fun j hj => by
          by_cases e : j = k
          · rw [e, HP.out]; exact hyu
          · exact HJ.out j (by omega)
        have HN := Lib.hid hnew; clear hnew
        by_cases hlt : k < rs.length
        · have hps := plc_step rs k hlt
          obtain ⟨b, off, z, rfl, hb, hcell, Hx⟩ := (hat.below hbw).int hlt
          have hR : isR z = true := by rw [← Hx.out]; exact isR_getD ha k hlt
          obtain ⟨hx0, hx1, _⟩ := isR_iff.1 hR
          have hbu : Below w1.heap.size w1 (unitsWorld wr z) := hbw.alloc hsz _
          have hbv : Below w1.heap.size w1 (bytesWorld (unitsWorld wr z) z) := hbu.alloc hbu.size _
          have hcell2 : (unitsWorld wr z).cell? ⟨b, off + k, none⟩ = some (.int .i64 z) := by
            rw [hbu.cell (p := ⟨b, off + k, none⟩) hb, ← hbw.cell (p := ⟨b, off + k, none⟩) hb]; exact hcell
          have hul : (unitsZ z).length ≤ 2 := by rw [unitsZ_len]; split <;> omega
          have hel := enc_le z
          rw [Hx.out, HP.out] at hps
          have HPS := Lib.hid hps; clear hps hat
          go_wp2_with (first | (go_at_call 56; refine (refUnit1_plain z hx0 hx1 _).mono ?_; rintro e w' ⟨rfl, rfl⟩) | (go_at_call 58; refine (refBytes_plain z hR _).mono ?_; rintro e w' ⟨rfl, rfl⟩))
          go_roundw
          case rel => exact ⟨k + 1, _, _, by omega, by go_num, by go_num, by go_num, Lib.hid HPS.out, HN, hbv⟩
          case measure => simp [intOf]; omega
        · have hps := plc_end rs k (by omega)
          rw [HP.out] at hps
          have HPS := Lib.hid hps; clear hps hat
          go_wp2
          go_roundw
          case rel => exact ⟨k + 1, _, _, by omega, by go_num, rfl, rfl, HPS, HN, hbw⟩
          case measure => simp [intOf]; omega
    · clear hat
      go_wp2
      go_ret2
      refine NumPost.bad ?_ (hb1.trans (hbw.mono hz1))
      rw [HO.out, findP_none_of (fun j hj => decide_eq_false (HJ.out j (by omega)))]; rfl

theorem refOffset_bad (s : ByteArray) (rs : List Int) (rest : List UInt8) (hl : s.data.toList = txt rs ++ rest) (ha : AllR rs) (hbad : Bad rest) (u : Int) (w : World) (hlen : s.size ≤ 100000) :
    Calls Tryd.prog 31 #[.string s, .int .i64 u] w fun e w' => e = .returned (.tuple #[.int .i64 0, .int .i64 40]) ∧ Below w.heap.size w w' := by
  have hr := refRunes_any s rs rest hl ha (.inr hbad) w (by omega) none (Lib.hid ⟨fun h => absurd h hbad.1, fun _ => rfl⟩)
  have HR := Lib.hid hr; clear hr hl
  go_enter Tryd.func31, Tryd.ntmps31
  go_wp2_with fail
  refine HR.out.mono ?_
  rintro e w1 ⟨hb1, rfl⟩
  go_wp2
  go_ret2
  exact ⟨rfl, hb1⟩

theorem refUnit_bad (s : ByteArray) (rs : List Int) (rest : List UInt8) (hl : s.data.toList = txt rs ++ rest) (ha : AllR rs) (hbad : Bad rest) (u : Int) (w : World) (hlen : s.size ≤ 100000) :
    Calls Tryd.prog 33 #[.string s, .int .i64 u] w fun e w' => e = .returned (.tuple #[.int .i64 0, .int .i64 40]) ∧ Below w.heap.size w w' := by
  have hr := refRunes_any s rs rest hl ha (.inr hbad) w (by omega) none (Lib.hid ⟨fun h => absurd h hbad.1, fun _ => rfl⟩)
  have HR := Lib.hid hr; clear hr hl
  go_enter Tryd.func33, Tryd.ntmps33
  go_wp2_with fail
  refine HR.out.mono ?_
  rintro e w1 ⟨hb1, rfl⟩
  go_wp2
  go_ret2
  exact ⟨rfl, hb1⟩
end Go.Proofs.YtdldkidccjkhgaaDoor
