/- The reference's show: constructors, pairs, arrows. (printed by mkl14.py) -/
import Derived.Test.YtbhicpjhijondaaDoorL13
namespace Go.Proofs.YtbhicpjhijondaaDoor
open Go.RowKit Go.Lib Go.Vfs Go.Par Go.Typ Go.Shelf
set_option linter.unusedVariables false
set_option linter.unusedSimpArgs false

theorem str_len (l : List UInt8) : (⟨l.toArray⟩ : ByteArray).size = l.length := by show l.toArray.size = _; simp
theorem str_cat {s t : ByteArray} {a b : List UInt8} (h : s = ⟨a.toArray⟩) (k : t = ⟨b.toArray⟩) : s ++ t = ⟨(a ++ b).toArray⟩ := by rw [h, k, str_app]
theorem size_cat (s t : ByteArray) : (s ++ t).size = s.size + t.size := ByteArray.size_append
set_option maxRecDepth 20000 in
set_option maxHeartbeats 4000000 in
theorem show_con0 (T : Ty) (h1 : T.kind = 2) (h0 : T.args.length = 0) : ShowC T := by
  intro hl v w hT
  obtain ⟨A, c, rfl, hc, hm, hn⟩ := hT.form
  have hla : T.args.length ≤ 9223372036854775807 := by simp only [maxLen] at hm; omega
  obtain ⟨W1, hW1⟩ : ∃ W1, W1 = w.alloc (.cells #[.int .i64 T.kind, .int .i64 T.num, .string T.name, .slice A T.args.length c] 24) := ⟨_, rfl⟩
  have hbx : W1.heap[w.heap.size]? = some (.cells #[.int .i64 T.kind, .int .i64 T.num, .string T.name, .slice A T.args.length c] 24 (0, 0)) := by rw [hW1]; exact heap_alloc_new _ _
  have hb1 : Below w.heap.size w W1 := by rw [hW1]; exact (Below.refl _ _).alloc (Nat.le_refl _) _
  have hz1 : W1.heap.size = w.heap.size + 1 := by rw [hW1]; simp
  have HB1 := Lib.hid hb1
  have HT1 := Lib.hid (hT.blw hb1)
  rw [h1] at hbx hW1
  have HBX := Lib.hid hbx
  have HZ1 := Lib.hid hz1
  obtain ⟨y0, y1, y2, y3⟩ := box4 hbx
  rw [hW1] at y0 y1 y2 y3
  have HV : Hid (sayT T = T.name.data.toList) := Lib.hid (by rw [sayT_con h1, if_neg (by omega), if_pos h0, if_pos h0]; rfl)
  have g0 : ((T.args.length : Int) == 0) = true := by rw [h0]; rfl
  clear hT hb1 hc hm hn hbx hz1 h0 hl
  unfold tyV
  rw [h1]
  clear h1
  go_enter Tryd.func66, Tryd.ntmps66
  go_wp2
  go_ret
  rw [← hW1]
  refine ⟨?_, HB1.out⟩
  rw [HV.out, ← str_data]
  rfl
set_option maxRecDepth 20000 in
set_option maxHeartbeats 4000000 in
theorem show_conN (T : Ty) (ih : ∀ i (hi : i < T.args.length), ShowC T.args[i]) (h1 : T.kind = 2) (h0 : 2 ≤ T.args.length) : ShowC T := by
  intro hl v w hT
  obtain ⟨A, c, rfl, hc, hm, hn⟩ := hT.form
  have hla : T.args.length ≤ 9223372036854775807 := by simp only [maxLen] at hm; omega
  obtain ⟨W1, hW1⟩ : ∃ W1, W1 = w.alloc (.cells #[.int .i64 T.kind, .int .i64 T.num, .string T.name, .slice A T.args.length c] 24) := ⟨_, rfl⟩
  have hbx : W1.heap[w.heap.size]? = some (.cells #[.int .i64 T.kind, .int .i64 T.num, .string T.name, .slice A T.args.length c] 24 (0, 0)) := by rw [hW1]; exact heap_alloc_new _ _
  have hb1 : Below w.heap.size w W1 := by rw [hW1]; exact (Below.refl _ _).alloc (Nat.le_refl _) _
  have hz1 : W1.heap.size = w.heap.size + 1 := by rw [hW1]; simp
  have HB1 := Lib.hid hb1
  have HT1 := Lib.hid (hT.blw hb1)
  rw [h1] at hbx hW1
  have HBX := Lib.hid hbx
  have HZ1 := Lib.hid hz1
  obtain ⟨y0, y1, y2, y3⟩ := box4 hbx
  rw [hW1] at y0 y1 y2 y3
  have hV : sayT T = [40] ++ joinW [44, 32] (T.args.map sayT) ++ [41, 32] ++ T.name.data.toList := by
    rw [sayT_con h1, if_neg (by omega), if_neg (by omega), if_neg (by omega)]; simp
  have hnl := name_len T.name
  have hlen : (joinW [44, 32] (T.args.map sayT)).length + T.name.size ≤ 999999997 := by
    rw [hV] at hl; simp only [List.length_append, List.length_cons, List.length_nil] at hl; omega
  have HLN := Lib.hid hlen
  have HV := Lib.hid hV
  have IH := Lib.hid ih
  have hns : T.name.size ≤ 1000000000 := by omega
  have g0 : ((T.args.length : Int) == 0) = false := by rw [beq_zero]; exact decide_eq_false (by omega)
  have g1 : ((T.args.length : Int) == 1) = false := by simp; omega
  clear hT hb1 hc hm hn hbx hz1 h0 hl hV hnl hlen ih
  unfold tyV
  rw [h1]
  clear h1
  go_enter Tryd.func66, Tryd.ntmps66
  go_wp2
  rw [← hW1]
  clear hW1 y0 y1 y2 y3 g0 g1
  go_loopw [4, 5] (fun sv iv W => ∃ (k : Nat) (s : ByteArray), k ≤ T.args.length ∧ sv = .string s ∧ iv = .int .i64 k ∧ Hid (s = ⟨([40] ++ joinW [44, 32] ((T.args.map sayT).take k)).toArray⟩) ∧ Hid (Below W1.heap.size W1 W)) (fun _ iv _ => T.args.length - (RowKit.intOf iv).toNat)
  case atStart => exact ⟨0, _, by omega, rfl, rfl, Lib.hid rfl, Lib.hid (Below.refl _ _)⟩
  case round =>
    obtain ⟨k, s, hk, rfl, rfl, HS, HB⟩ := hrel
    obtain ⟨y0, y1, y2, y3⟩ := box4 ((HB.out.block _ (by have := HZ1.out; omega)).trans HBX.out)
    by_cases hlt : k < T.args.length
    · have hlm : k < (T.args.map sayT).length := by rw [List.length_map]; exact hlt
      have htk := joinW_take [44, 32] (T.args.map sayT) hlm
      rw [List.getElem_map] at htk
      have hln := joinW_len_mem (sep := [44, 32]) hlm
      rw [List.getD_eq_getElem?_getD, List.getElem?_eq_getElem hlm, List.getElem_map, Option.getD_some] at hln
      have hsz : s.size = 1 + (joinW [44, 32] ((T.args.map sayT).take k)).length := by rw [HS.out, str_len, List.length_append]; rfl
      obtain ⟨b, off, A', c', rfl, hb, ht, x0, x1, x2, x3⟩ := (HT1.out.blw HB.out).arg hlt
      have hca := fun W hW => IH.out k hlt (by have := HLN.out; omega) _ W (ht.blw hW)
      have hul : (sayT T.args[k]).length ≤ 1000000000 := by have := HLN.out; omega
      have hs1 : s.size ≤ 1000000000 := by have := HLN.out; omega
      have hs2 : s.size + 2 ≤ 1000000002 := by omega
      generalize T.args[k] = U at *
      obtain ⟨u, hu⟩ : ∃ u : ByteArray, u = ⟨(sayT U).toArray⟩ := ⟨_, rfl⟩
      have husz : u.size ≤ 1000000000 := by rw [hu, str_len]; exact hul
      unfold tyV at hca
      rw [← hu] at hca
      have HCA := Lib.hid hca
      have HTK := Lib.hid htk; have HU := Lib.hid hu
      have HBR := Lib.hid HB.out.size
      clear hca htk hln hsz ht hu hul hlm
      by_cases hk0 : k = 0
      · have hkn : ¬ (0 : Int) < (k : Int) := by omega
        have HK0 := Lib.hid hk0
        clear hk0
        go_wp2_with fail
        refine (HCA.out _ (Below.refl _ _)).mono ?_
        rintro e w4 ⟨rfl, hb4⟩
        have HB4 := Lib.hid (HB.out.trans (hb4.mono HBR.out))
        clear hb4
        go_wp2
        go_roundw
        case rel => exact ⟨k + 1, _, by omega, rfl, by go_num, Lib.hid (by rw [str_cat HS.out HU.out, HTK.out, if_pos HK0.out]; simp), HB4⟩
        case measure => simp [RowKit.intOf]; omega
      · have hkp : (0 : Int) < (k : Int) := by omega
        go_upto_region 18 with fail
        generalize hs5 : s ++ (⟨#[44, 32]⟩ : ByteArray) = s5
        have hs6 : s5.size ≤ 1000000002 := by rw [← hs5, size_cat]; exact hs2
        have HS5 := Lib.hid hs5.symm
        clear hs5
        go_wp2_with fail
        refine (HCA.out _ (Below.refl _ _)).mono ?_
        rintro e w4 ⟨rfl, hb4⟩
        have HB4 := Lib.hid (HB.out.trans (hb4.mono HBR.out))
        clear hb4
        go_wp2
        go_roundw
        case rel =>
          refine ⟨k + 1, _, by omega, rfl, by go_num, Lib.hid ?_, HB4⟩
          rw [str_cat (HS5.out.trans (str_cat (b := [44, 32]) HS.out rfl)) HU.out, HTK.out, if_neg hk0]
          simp [List.append_assoc]
        case measure => simp [RowKit.intOf]; omega
    · have hkl : k = T.args.length := by omega
      have hss := HS.out
      rw [hkl, ← List.length_map (f := sayT), List.take_length] at hss
      have hs1 : s.size ≤ 1000000000 := by rw [hss, str_len]; have := HLN.out; simp only [List.length_append, List.length_cons, List.length_nil]; omega
      have hs2 : (s ++ (⟨#[41, 32]⟩ : ByteArray)).size ≤ 1000000002 := by rw [size_cat]; exact Nat.add_le_add_right hs1 2
      have HE : Hid (s ++ (⟨#[41, 32]⟩ : ByteArray) ++ T.name = ⟨(sayT T).toArray⟩) := Lib.hid (by
        rw [str_cat (str_cat (b := [41, 32]) hss rfl) (str_data T.name), HV.out])
      clear hss
      go_wp2
      go_ret
      exact ⟨by rw [← HE.out]; rfl, HB1.out.trans (HB.out.mono HB1.out.size)⟩
end Go.Proofs.YtbhicpjhijondaaDoor
