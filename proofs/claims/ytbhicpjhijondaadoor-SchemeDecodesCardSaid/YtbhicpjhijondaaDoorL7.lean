/- The reference's lexer: one token that is no word. -/
import Derived.Test.YtbhicpjhijondaaDoorL6
namespace Go.Proofs.YtbhicpjhijondaaDoor
open Go.RowKit Go.Lib Go.Vfs Go.Par Go.Typ
set_option linter.unusedVariables false
set_option linter.unusedSimpArgs false

theorem below_drewN' {B : Nat} {a b : World} (h : Below B a b) (n : Nat) : Below B a (b.drewN n) := ⟨h.os, h.tape, h.output, h.size, h.block⟩
set_option maxRecDepth 20000 in
set_option maxHeartbeats 4000000 in
theorem one_other (s : ByteArray) (i : Nat) (hs : s.size ≤ 9223372036854775000) (hi : i < s.size) (h1 : smallN (byteS s i) = false) (h2 : greatN (byteS s i) = false) (h3 : ¬ byteS s i = 95) (w : World) :
    Calls Tryd.prog 111 #[.string s, .int .i64 i] w (OnePost s i w) := by
  obtain ⟨P, hP⟩ : ∃ P, P = OnePost s i w := ⟨_, rfl⟩
  have HPO := Lib.hid hP
  rw [← hP]
  clear hP
  have hii : (i : Int) < (s.size : Int) := by omega
  have HX := Lib.hid (byteS_get s i hi)
  obtain ⟨x, hx⟩ : ∃ x, s[i].toNat = x := ⟨_, rfl⟩
  have HX2 : Hid (byteS s i = x) := Lib.hid (by rw [← hx, HX.out])
  clear HX
  have HNM : Hid (i = 0 → nameOk s.data.toList = false) := Lib.hid (ok_first hi h1 h3)
  have HS := fun W => Lib.hid (r8small_any x W)
  have HG := fun W => Lib.hid (r8great_any x W)
  have HD := fun W => Lib.hid (r8digit_any x W)
  rw [HX2.out] at h1 h2 h3
  rw [h1] at HS
  rw [h2] at HG
  have g95 : ((x : Int) == 95) = false := by simp; omega
  clear h1 h2 h3 HX2
  go_enter Tryd.func111, Tryd.ntmps111
  generalize digitN x = bd at *
  cases bd with
  | true =>
    go_wp2_with (first | (go_at_call 118; refine (HS _).out.mono ?_; rintro e w2 ⟨rfl, rfl⟩) | (go_at_call 119; refine (HG _).out.mono ?_; rintro e w2 ⟨rfl, rfl⟩) | (go_at_call 120; refine (HD _).out.mono ?_; rintro e w2 ⟨rfl, rfl⟩))
    go_loopw [7] (fun jv W => ∃ (k : Nat), i + 1 ≤ k ∧ k ≤ s.size ∧ jv = .int .i64 k ∧ W = w2) (fun jv _ => s.size - (RowKit.intOf jv).toNat)
    case atStart => exact ⟨i + 1, by omega, by omega, by go_num, rfl⟩
    case round =>
      obtain ⟨k, hk0, hk, rfl, rfl⟩ := hrel
      by_cases hlt : k < s.size
      · obtain ⟨y, hy⟩ : ∃ y, s[k].toNat = y := ⟨_, rfl⟩
        have HY := Lib.hid (r8digit_any y wr)
        obtain ⟨b5, hb5⟩ : ∃ b, b = digitN y := ⟨_, rfl⟩
        rw [← hb5] at HY
        clear hb5
        have HE : Hid (OneOk s i 3 k) := Lib.hid (ok_other (by decide) (by decide) (by omega) hk HNM.out)
        cases b5
        · go_wp2_with (first | (go_at_call 120; refine HY.out.mono ?_; rintro e w2 ⟨rfl, rfl⟩))
          rw [HPO.out]
          exact post_one HE.out (Below.refl _ _)
        · go_wp2_with (first | (go_at_call 120; refine HY.out.mono ?_; rintro e w2 ⟨rfl, rfl⟩))
          go_roundw
          case rel => exact ⟨k + 1, by omega, by omega, by go_num, by first | rfl | trivial⟩
          case measure => simp [RowKit.intOf]; omega
      · have hkl : ¬ (k : Int) < (s.size : Int) := by omega
        have HE : Hid (OneOk s i 3 k) := Lib.hid (ok_other (by decide) (by decide) (by omega) hk HNM.out)
        go_wp2
        rw [HPO.out]
        exact post_one HE.out (Below.refl _ _)
  | false =>
    go_upto_region 22 with (first | (go_at_call 118; refine (HS _).out.mono ?_; rintro e w2 ⟨rfl, rfl⟩) | (go_at_call 119; refine (HG _).out.mono ?_; rintro e w2 ⟨rfl, rfl⟩) | (go_at_call 120; refine (HD _).out.mono ?_; rintro e w2 ⟨rfl, rfl⟩))
    have g39 : ((x : Int) == 39) = decide (x = 39) := by
      by_cases h : x = 39
      · subst h; rfl
      · simp [h]; omega
    generalize decide (x = 39) = b39 at *
    go_cut [114] (fun v W => (∃ q : Bool, v = .bool q) ∧ W = w2)
    case first =>
      cases b39 with
      | false =>
        go_wp2_with fail
        go_meet
        exact ⟨⟨_, rfl⟩, rfl⟩
      | true =>
        by_cases hlt : i + 1 < s.size
        · have hli : (i : Int) + 1 < (s.size : Int) := by omega
          obtain ⟨y, hy⟩ : ∃ y, s[i + 1].toNat = y := ⟨_, rfl⟩
          have HY := Lib.hid (r8small_any y w2)
          go_wp2_with (go_at_call 118; refine HY.out.mono ?_; rintro e w2 ⟨rfl, rfl⟩)
          go_meet
          exact ⟨⟨_, rfl⟩, rfl⟩
        · have hli : ¬ (i : Int) + 1 < (s.size : Int) := by omega
          go_wp2_with fail
          go_meet
          exact ⟨⟨_, rfl⟩, rfl⟩
    case rest =>
      obtain ⟨⟨q, rfl⟩, rfl⟩ := hcut
      clear g39 HS HG HD g95
      cases q with
      | true =>
        go_wp2_with fail
        go_loopw [7] (fun jv W => ∃ (k : Nat), i + 1 ≤ k ∧ k ≤ s.size ∧ jv = .int .i64 k ∧ W = wc) (fun jv _ => s.size - (RowKit.intOf jv).toNat)
        case atStart => exact ⟨i + 1, by omega, by omega, by go_num, by first | rfl | trivial⟩
        case round =>
          obtain ⟨k, hk0, hk, rfl, rfl⟩ := hrel
          have HE : Hid (OneOk s i 4 k) := Lib.hid (ok_other (by decide) (by decide) (by omega) hk HNM.out)
          by_cases hlt : k < s.size
          · obtain ⟨y, hy⟩ : ∃ y, y = s[k].toNat := ⟨_, rfl⟩
            have HSk := Lib.hid (r8small_any y wr); have HGk := Lib.hid (r8great_any y wr); have HDk := Lib.hid (r8digit_any y wr)
            have g4 : ((y : Int) == 95) = decide (y = 95) := by
              by_cases h : y = 95
              · subst h; rfl
              · simp [h]; omega
            generalize smallN y = b1 at *
            generalize greatN y = b2 at *
            generalize digitN y = b3 at *
            generalize decide (y = 95) = b4 at *
            replace hy := hy.symm
            have hh : b1 = true ∨ (b1 = false ∧ b2 = true) ∨ (b1 = false ∧ b2 = false ∧ b3 = true) ∨ (b1 = false ∧ b2 = false ∧ b3 = false ∧ b4 = true) ∨ (b1 = false ∧ b2 = false ∧ b3 = false ∧ b4 = false) := by
              cases b1 <;> cases b2 <;> cases b3 <;> cases b4 <;> simp
            rcases hh with rfl | ⟨rfl, rfl⟩ | ⟨rfl, rfl, rfl⟩ | ⟨rfl, rfl, rfl, rfl⟩ | ⟨rfl, rfl, rfl, rfl⟩
            all_goals go_wp2_with (first | (go_at_call 118; refine HSk.out.mono ?_; rintro e w2 ⟨rfl, rfl⟩) | (go_at_call 119; refine HGk.out.mono ?_; rintro e w2 ⟨rfl, rfl⟩) | (go_at_call 120; refine HDk.out.mono ?_; rintro e w2 ⟨rfl, rfl⟩))
            all_goals first
              | (rw [HPO.out]
                 exact post_one HE.out (Below.refl _ _))
              | (go_roundw
                 case rel => exact ⟨k + 1, by omega, by omega, by go_num, by first | rfl | trivial⟩
                 case measure => simp [RowKit.intOf]; omega)
          · have hkl : ¬ (k : Int) < (s.size : Int) := by omega
            go_wp2
            rw [HPO.out]
            exact post_one HE.out (Below.refl _ _)
      | false =>
        go_wp2_with (go_at_call 122; refine (signs_any _).mono ?_; rintro e ws ⟨rfl, hb2⟩; have HB2 := Lib.hid hb2; clear hb2)
        generalize hW3 : World.alloc ws _ = W3
        have hb3 : Below ws.heap.size ws W3 := by rw [← hW3]; exact (Below.refl _ _).alloc (Nat.le_refl _) _
        have hbx : W3.heap[ws.heap.size]? = some (.cells (signsA.map Value.string).toArray 137 (0, 0)) := by rw [← hW3]; exact heap_alloc_new _ _
        have HB3 : Hid (Below wc.heap.size wc W3) := Lib.hid (HB2.out.trans (hb3.mono HB2.out.size))
        have HBX := Lib.hid hbx
        clear hW3 hb3 hbx HB2
        go_loopw [12] (fun mv W => ∃ (m : Nat), m ≤ 13 ∧ mv = .int .i64 m ∧ ∃ n, W = W3.drewN n) (fun mv _ => 13 - (RowKit.intOf mv).toNat)
        case atStart => exact ⟨0, by omega, rfl, 0, rfl⟩
        case round =>
          obtain ⟨m, hm, rfl, n0, rfl⟩ := hrel
          by_cases hlt : m < 13
          · have hmi : (m : Int) < 13 := by omega
            have c0 : W3.cell? ⟨ws.heap.size, m, none⟩ = some (.string (signsA.getD m ⟨#[]⟩)) := cells13 HBX.out (k := m) hlt
            obtain ⟨z1, z2⟩ := sign_size m hlt
            generalize signsA.getD m ⟨#[]⟩ = u at *
            have HA := Lib.hid (r8at_any s u i hs (by omega) (by omega) z1 (W3.drewN n0))
            have HL : Hid (atB s i u.data.toList = true → OneOk s i 6 (i + u.size)) := Lib.hid fun h => by
              have hl : u.data.toList.length = u.size := by rw [Array.length_toList]; rfl
              have := atB_len h (by omega)
              exact ok_other (by decide) (by decide) (by omega) (by omega) HNM.out
            have hu : i + u.size ≤ 9223372036854775007 := by omega
            generalize atB s i u.data.toList = q at *
            clear z1
            go_wp2_with fail
            refine HA.out.mono ?_
            rintro e w5 ⟨rfl, n1, rfl⟩
            cases q with
            | true =>
              have HE := Lib.hid (HL.out rfl)
              have c1 : W3.cell? ⟨ws.heap.size, m, none⟩ = some (.string u) := c0
              clear HL
              go_wp2_with fail
              go_quiet (fail)
              go_wp2
              rw [HPO.out]
              exact post_one HE.out (below_drewN' (below_drewN' HB3.out _) _)
            | false =>
              clear HL
              go_wp2
              go_roundw
              case rel => exact ⟨m + 1, by omega, by go_num, n0 + n1, rfl⟩
              case measure => simp [RowKit.intOf]; omega
          · have hmi : ¬ (m : Int) < 13 := by omega
            have HE : Hid (OneOk s i 0 0) := Lib.hid (ok_none HNM.out)
            go_wp2
            rw [HPO.out]
            exact post_one HE.out (below_drewN' HB3.out _)
theorem one_any (s : ByteArray) (i : Nat) (hs : s.size ≤ 9223372036854775000) (hi : i < s.size) (w : World) :
    Calls Tryd.prog 111 #[.string s, .int .i64 i] w (OnePost s i w) := by
  by_cases h : smallN (byteS s i) = true ∨ greatN (byteS s i) = true ∨ byteS s i = 95
  · exact one_word s i hs hi h w
  · simp only [not_or, Bool.not_eq_true] at h
    exact one_other s i hs hi h.1 h.2.1 h.2.2 w
end Go.Proofs.YtbhicpjhijondaaDoor
