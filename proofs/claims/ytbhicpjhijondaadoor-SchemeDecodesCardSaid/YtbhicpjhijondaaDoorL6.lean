/- The reference's lexer: one token: a name or a word. -/
import Derived.Test.YtbhicpjhijondaaDoorL5
import Derived.Deep.CutBlock
import Derived.Deep.DeepCutAuto
namespace Go.Proofs.YtbhicpjhijondaaDoor
open Go.RowKit Go.Lib Go.Vfs Go.Par Go.Typ
set_option linter.unusedVariables false
set_option linter.unusedSimpArgs false

def OnePost (s : ByteArray) (i : Nat) (w : World) (e : Ending) (w' : World) : Prop :=
  ∃ k j : Nat, e = .returned (.tuple #[.int .i64 k, .int .i64 j]) ∧ OneOk s i k j ∧ Below w.heap.size w w'
theorem post_one {s : ByteArray} {i k j : Nat} {w w' : World} (h : OneOk s i k j) (hb : Below w.heap.size w w') : OnePost s i w (.returned (.tuple #[.int .i64 k, .int .i64 j])) w' := ⟨k, j, rfl, h, hb⟩
theorem run_step {s : ByteArray} {i k : Nat} (h : ∀ m, i ≤ m → m < k → nmN true (byteS s m) = true) (hk : nmN true (byteS s k) = true) : ∀ m, i ≤ m → m < k + 1 → nmN true (byteS s m) = true := fun m h1 h2 => by
  by_cases hj : m < k
  · exact h m h1 hj
  · have : m = k := by omega
    rw [this]; exact hk
theorem run_first {s : ByteArray} {i : Nat} (hk : nmN true (byteS s i) = true) : ∀ m, i ≤ m → m < i + 1 → nmN true (byteS s m) = true := fun m h1 h2 => by
  have : m = i := by omega
  rw [this]; exact hk

set_option maxRecDepth 20000 in
set_option maxHeartbeats 4000000 in
theorem one_word (s : ByteArray) (i : Nat) (hs : s.size ≤ 9223372036854775000) (hi : i < s.size) (hg : smallN (byteS s i) = true ∨ greatN (byteS s i) = true ∨ byteS s i = 95) (w : World) :
    Calls Tryd.prog 111 #[.string s, .int .i64 i] w (OnePost s i w) := by
  obtain ⟨P, hP⟩ : ∃ P, P = OnePost s i w := ⟨_, rfl⟩
  have HPO := Lib.hid hP
  rw [← hP]
  clear hP
  have hii : (i : Int) < (s.size : Int) := by omega
  have HX := Lib.hid (byteS_get s i hi)
  obtain ⟨x, hx⟩ : ∃ x, s[i].toNat = x := ⟨_, rfl⟩
  have HX2 : Hid (byteS s i = x) := Lib.hid (by rw [← hx, HX.out])
  clear HX
  have HS := fun W => Lib.hid (r8small_any x W)
  have HG := fun W => Lib.hid (r8great_any x W)
  have HF : Hid (nmN true (byteS s i) = true) := Lib.hid (nmN_first hg)
  have hh : smallN x = true ∨ (smallN x = false ∧ greatN x = true) ∨ (smallN x = false ∧ greatN x = false ∧ ((x : Int) == 95) = true) := by
    cases h : smallN x with
    | true => exact .inl rfl
    | false =>
      right
      cases h2 : greatN x with
      | true => exact .inl ⟨rfl, rfl⟩
      | false =>
        rw [HX2.out, h, h2] at hg
        rcases hg with hg | hg | hg
        · cases hg
        · cases hg
        · exact .inr ⟨rfl, rfl, by rw [hg]; rfl⟩
  have HGR : Hid (greatN x = false → smallN (byteS s i) = true ∨ byteS s i = 95) := Lib.hid fun h => by
    rcases hg with hg | hg | hg
    · exact .inl hg
    · rw [HX2.out, h] at hg; cases hg
    · exact .inr hg
  have HGT : Hid (greatN x = true → greatN (byteS s i) = true) := Lib.hid fun h => by rw [HX2.out]; exact h
  clear hg
  generalize smallN x = bs at *
  generalize greatN x = bg at *
  go_enter Tryd.func111, Tryd.ntmps111
  go_upto_region 3 with fail
  go_cut [27] (fun v W => v = .bool true ∧ W = w)
  case first =>
    rcases hh with rfl | ⟨rfl, rfl⟩ | ⟨rfl, rfl, g4⟩
    all_goals go_wp2_with (first | (go_at_call 118; refine (HS _).out.mono ?_; rintro e w2 ⟨rfl, rfl⟩) | (go_at_call 119; refine (HG _).out.mono ?_; rintro e w2 ⟨rfl, rfl⟩))
    all_goals go_meet
    all_goals exact ⟨rfl, rfl⟩
  case rest =>
    obtain ⟨rfl, rfl⟩ := hcut
    clear hh
    go_upto_block 0 with fail
    go_cut [7] (fun jv W => ∃ k : Nat, jv = .int .i64 k ∧ Hid (Run s i k) ∧ W = wc)
    case first =>
      go_wp2_with fail
      go_loopw [7] (fun jv W => ∃ (k : Nat), i + 1 ≤ k ∧ k ≤ s.size ∧ jv = .int .i64 k ∧ Hid (∀ m, i ≤ m → m < k → nmN true (byteS s m) = true) ∧ W = wc) (fun jv _ => s.size - (RowKit.intOf jv).toNat)
      case atStart => exact ⟨i + 1, by omega, by omega, by go_num, Lib.hid (run_first HF.out), by first | rfl | trivial⟩
      case round =>
        obtain ⟨k, hk0, hk, rfl, HJ, rfl⟩ := hrel
        by_cases hlt : k < s.size
        · have HXk := Lib.hid (byteS_get s k hlt)
          obtain ⟨y, hy⟩ : ∃ y, y = s[k].toNat := ⟨_, rfl⟩
          have HY2 : Hid (byteS s k = y) := Lib.hid (by rw [hy, HXk.out])
          clear HXk
          have HY : Hid (nmN true y = true → ∀ m, i ≤ m → m < k + 1 → nmN true (byteS s m) = true) := Lib.hid fun h => run_step HJ.out (by rw [HY2.out]; exact h)
          have HSk := Lib.hid (r8small_any y wr); have HGk := Lib.hid (r8great_any y wr); have HDk := Lib.hid (r8digit_any y wr)
          have HN : Hid (nmN true y = (smallN y || greatN y || digitN y || decide (y = 95) || decide (y = 39))) := Lib.hid (by unfold nmN; rw [Bool.true_and])
          have g4 : ((y : Int) == 95) = decide (y = 95) := by
            by_cases h : y = 95
            · subst h; rfl
            · simp [h]; omega
          have g5 : ((y : Int) == 39) = decide (y = 39) := by
            by_cases h : y = 39
            · subst h; rfl
            · simp [h]; omega
          generalize smallN y = b1 at *
          generalize greatN y = b2 at *
          generalize digitN y = b3 at *
          generalize decide (y = 95) = b4 at *
          generalize decide (y = 39) = b5 at *
          have HQ0 : ∃ q, q = nmN true y := ⟨_, rfl⟩
          obtain ⟨q, hq⟩ := HQ0
          have LV : Hid (q = false → Run s i k) := Lib.hid fun h => ⟨by omega, hk, HJ.out, fun _ => by rw [HY2.out, ← hq]; exact h⟩
          rw [← hq] at HN HY
          clear hq
          replace hy := hy.symm
          have hh : b1 = true ∨ (b1 = false ∧ b2 = true) ∨ (b1 = false ∧ b2 = false ∧ b3 = true) ∨ (b1 = false ∧ b2 = false ∧ b3 = false ∧ b4 = true) ∨ (b1 = false ∧ b2 = false ∧ b3 = false ∧ b4 = false ∧ b5 = true) ∨ (b1 = false ∧ b2 = false ∧ b3 = false ∧ b4 = false ∧ b5 = false) := by
            cases b1 <;> cases b2 <;> cases b3 <;> cases b4 <;> cases b5 <;> simp
          rcases hh with rfl | ⟨rfl, rfl⟩ | ⟨rfl, rfl, rfl⟩ | ⟨rfl, rfl, rfl, rfl⟩ | ⟨rfl, rfl, rfl, rfl, rfl⟩ | ⟨rfl, rfl, rfl, rfl, rfl⟩
          all_goals go_wp2_with (first | (go_at_call 118; refine HSk.out.mono ?_; rintro e w2 ⟨rfl, rfl⟩) | (go_at_call 119; refine HGk.out.mono ?_; rintro e w2 ⟨rfl, rfl⟩) | (go_at_call 120; refine HDk.out.mono ?_; rintro e w2 ⟨rfl, rfl⟩))
          all_goals first
            | (go_meet
               exact ⟨k, by go_num, Lib.hid (LV.out (by rw [HN.out]; rfl)), by first | rfl | trivial⟩)
            | (go_roundw
               case rel => exact ⟨k + 1, by omega, by omega, by go_num, Lib.hid (HY.out (by rw [HN.out]; simp)), by first | rfl | trivial⟩
               case measure => simp [RowKit.intOf]; omega)
        · have hkl : ¬ (k : Int) < (s.size : Int) := by omega
          go_wp2_with fail
          go_meet
          exact ⟨k, by go_num, Lib.hid ⟨by omega, hk, HJ.out, fun h => absurd h hlt⟩, by first | rfl | trivial⟩
    case rest =>
      obtain ⟨k, rfl, HRN, rfl⟩ := hcut
      have hk1 : i ≤ k := by have := HRN.out.1; omega
      have hk2 : k ≤ s.size := HRN.out.2.1
      go_upto_region 7 with fail
      have LV : Hid ((s.extract i k).toList = [95] ∨ bg = true ∨ (bg = false ∧ ∃ m, m < 13 ∧ wordsA.getD m ⟨#[]⟩ = s.extract i k) ∨ (bg = false ∧ ¬ (s.extract i k).toList = [95] ∧ ∀ m, m < 13 → ¬ wordsA.getD m ⟨#[]⟩ = s.extract i k) → True) := Lib.hid fun _ => trivial
      have L1 : Hid ((s.extract i k).toList = [95] → OneOk s i 6 k) := Lib.hid fun e => ok_key (by decide) (by decide) HRN.out (by rw [data_toList, e]; decide)
      have L2 : Hid (bg = true → OneOk s i 2 k) := Lib.hid fun e => ok_great HRN.out (HGT.out e)
      have L3 : Hid (∀ m, m < 13 → wordsA.getD m ⟨#[]⟩ = s.extract i k → OneOk s i 5 k) := Lib.hid fun m hm e => ok_key (by decide) (by decide) HRN.out (by rw [← e]; exact word_mem hm)
      have L4 : Hid (bg = false → ¬ (s.extract i k).toList = [95] → (∀ m, m < 13 → ¬ wordsA.getD m ⟨#[]⟩ = s.extract i k) → OneOk s i 1 k) := Lib.hid fun e1 e2 e3 => ok_name HRN.out (HGR.out e1) (word_none (fun e => e2 (by rw [e, ← data_toList])) e3)
      clear LV HGR HGT HRN HF HS hk1 hk2
      generalize s.extract i k = wd at *
      by_cases hwd : wd.toList = [95]
      · have hb : (wd.toList == [95]) = true := by rw [hwd]; rfl
        have LE := Lib.hid (L1.out hwd)
        clear hwd
        go_wp2
        rw [HPO.out]
        exact post_one LE.out (Below.refl _ _)
      · have hb : (wd.toList == [95]) = false := by
          cases h : wd.toList == [95] with
          | false => rfl
          | true => exact absurd (by simpa using h) hwd
        have HWD := Lib.hid hwd
        clear hwd
        cases bg with
        | true =>
          have LE := Lib.hid (L2.out rfl)
          go_wp2_with (go_at_call 119; refine (HG _).out.mono ?_; rintro e w2 ⟨rfl, rfl⟩)
          rw [HPO.out]
          exact post_one LE.out (Below.refl _ _)
        | false =>
          go_wp2_with (first | (go_at_call 119; refine (HG _).out.mono ?_; rintro e wg ⟨rfl, rfl⟩) | (go_at_call 121; refine (words_any _).mono ?_; rintro e w2 ⟨rfl, hb2⟩; have HB2 := Lib.hid hb2; clear hb2))
          generalize hW3 : World.alloc w2 _ = W3
          have hb3 : Below w2.heap.size w2 W3 := by rw [← hW3]; exact (Below.refl _ _).alloc (Nat.le_refl _) _
          have hbx : W3.heap[w2.heap.size]? = some (.cells (wordsA.map Value.string).toArray 137 (0, 0)) := by rw [← hW3]; exact heap_alloc_new _ _
          have HB3 : Hid (Below wg.heap.size wg W3) := Lib.hid (HB2.out.trans (hb3.mono HB2.out.size))
          have HBX := Lib.hid hbx
          clear hW3 hb3 hbx HB2 HG
          go_loopw [10] (fun mv W => ∃ (m : Nat), m ≤ 13 ∧ mv = .int .i64 m ∧ Hid (∀ n, n < m → ¬ wordsA.getD n ⟨#[]⟩ = wd) ∧ W = W3) (fun mv _ => 13 - (RowKit.intOf mv).toNat)
          case atStart => exact ⟨0, by omega, rfl, Lib.hid (fun n h => by omega), rfl⟩
          case round =>
            obtain ⟨m, hm, rfl, HM, rfl⟩ := hrel
            by_cases hlt : m < 13
            · have hmi : (m : Int) < 13 := by omega
              have c0 := cells13 HBX.out (k := m) hlt
              have LW : Hid (wordsA.getD m ⟨#[]⟩ = wd → OneOk s i 5 k) := Lib.hid (L3.out m hlt)
              have LN : Hid (¬ wordsA.getD m ⟨#[]⟩ = wd → ∀ n, n < m + 1 → ¬ wordsA.getD n ⟨#[]⟩ = wd) := Lib.hid fun h n hn => by
                by_cases e : n < m
                · exact HM.out n e
                · have : n = m := by omega
                  rw [this]; exact h
              generalize wordsA.getD m ⟨#[]⟩ = u at *
              by_cases hq : u = wd
              · have hqb := (beqS u wd).2 hq
                have LE := Lib.hid (LW.out hq)
                clear hq LW LN
                go_wp2
                rw [HPO.out]
                exact post_one LE.out HB3.out
              · have hqb := beqS_ne hq
                have LE := Lib.hid (LN.out hq)
                clear hq LW LN
                go_wp2
                go_roundw
                case rel => exact ⟨m + 1, by omega, by go_num, LE, by first | rfl | trivial⟩
                case measure => simp [RowKit.intOf]; omega
            · have hmi : ¬ (m : Int) < 13 := by omega
              have LE := Lib.hid (L4.out (by first | rfl | trivial) HWD.out fun n hn => HM.out n (by omega))
              go_wp2
              rw [HPO.out]
              exact post_one LE.out HB3.out
end Go.Proofs.YtbhicpjhijondaaDoor
