/- Texts L6 L7 of the proof, joined. -/
import Derived.Deep.CutBlock
import Derived.Deep.DeepCutAuto
import Derived.Test.YtaalbcfpacpgfaaGreatZaL5
set_option linter.unusedVariables false
set_option linter.unusedSimpArgs false
namespace Go.Proofs.YtaalbcfpacpgfaaGreat
open Go.RowKit Go.Lib Go.Vfs Go.Par Go.Typ
def OnePost (s:ByteArray) (i:Nat) (w:World) (e:Ending) (w':World):Prop :=
 ∃ k j:Nat,e=.returned (.tuple #[.int .i64 k,.int .i64 j])∧OneOk s i k j∧Below w.heap.size w w'
theorem post_one {s:ByteArray} {i k j:Nat} {w w':World} (h:OneOk s i k j) (hb:Below w.heap.size w w'):OnePost s i w (.returned (.tuple #[.int .i64 k,.int .i64 j])) w':=⟨k,j,rfl,h,hb⟩
theorem run_step {s:ByteArray} {i k:Nat} (h:∀ m,i≤m→m < k→nmN true (byteS s m)=true) (hk:nmN true (byteS s k)=true):∀ m,i≤m→m < k+1→nmN true (byteS s m)=true:=fun m h1 h2=>by
 by_cases hj:m < k
 ·exact h m h1 hj
 ·have:m=k:=by omega
  rw [this];exact hk
theorem run_first {s:ByteArray} {i:Nat} (hk:nmN true (byteS s i)=true):∀ m,i≤m→m < i+1→nmN true (byteS s m)=true:=fun m h1 h2=>by
 have:m=i:=by omega
 rw [this];exact hk
set_option maxRecDepth 20000 in
set_option maxHeartbeats 4000000 in
theorem one_word (s : ByteArray) (i : Nat) (hs : s.size ≤ 9223372036854775000) (hi : i < s.size) (hg : smallN (byteS s i) = true ∨ greatN (byteS s i) = true ∨ byteS s i = 95) (w : World) :
    Calls Tryz.prog 183 #[.string s, .int .i64 i] w (OnePost s i w) := by
  obtain ⟨P, hP⟩ : ∃ P, P = OnePost s i w := ⟨_, rfl⟩
  have HPO := Lib.hid hP
  rw [← hP]
  clear hP
  have hii : (i : Int) < (s.size : Int) := by omega
  have HX := Lib.hid (byteS_get s i hi)
  obtain ⟨x, hx⟩ : ∃ x, s[i].toNat = x := ⟨_, rfl⟩
  have HX2 : Hid (byteS s i = x) := Lib.hid (by rw [← hx, HX.out])
  clear HX
  have HS := fun W => Lib.hid (r8small_any x W)
  have HG := fun W => Lib.hid (r8great_any x W)
  have HF : Hid (nmN true (byteS s i) = true) := Lib.hid (nmN_first hg)
  have hh : smallN x = true ∨ (smallN x = false ∧ greatN x = true) ∨ (smallN x = false ∧ greatN x = false ∧ ((x : Int) == 95) = true) := by
    cases h : smallN x with
    | true => exact .inl rfl
    | false =>
      right
      cases h2 : greatN x with
      | true => exact .inl ⟨rfl, rfl⟩
      | false =>
        rw [HX2.out, h, h2] at hg
        rcases hg with hg | hg | hg
        · cases hg
        · cases hg
        · exact .inr ⟨rfl, rfl, by rw [hg]; rfl⟩
  have HGR : Hid (greatN x = false → smallN (byteS s i) = true ∨ byteS s i = 95) := Lib.hid fun h => by
    rcases hg with hg | hg | hg
    · exact .inl hg
    · rw [HX2.out, h] at hg; cases hg
    · exact .inr hg
  have HGT : Hid (greatN x = true → greatN (byteS s i) = true) := Lib.hid fun h => by rw [HX2.out]; exact h
  clear hg
  generalize smallN x = bs at *
  generalize greatN x = bg at *
  go_enter Tryz.func183, Tryz.ntmps183
  go_upto_region 3 with fail
  go_cut [27] (fun v W => v = .bool true ∧ W = w)
  case first =>
    rcases hh with rfl | ⟨rfl, rfl⟩ | ⟨rfl, rfl, g4⟩
    all_goals go_wp2_with (first | (go_at_call 195; refine (HS _).out.mono ?_; rintro e w2 ⟨rfl, rfl⟩) | (go_at_call 196; refine (HG _).out.mono ?_; rintro e w2 ⟨rfl, rfl⟩))
    all_goals go_meet
    all_goals exact ⟨rfl, rfl⟩
  case rest =>
    obtain ⟨rfl, rfl⟩ := hcut
    clear hh
    go_upto_block 0 with fail
    go_cut [7] (fun jv W => ∃ k : Nat, jv = .int .i64 k ∧ Hid (Run s i k) ∧ W = wc)
    case first =>
      go_wp2_with fail
      go_loopw [7] (fun jv W => ∃ (k : Nat), i + 1 ≤ k ∧ k ≤ s.size ∧ jv = .int .i64 k ∧ Hid (∀ m, i ≤ m → m < k → nmN true (byteS s m) = true) ∧ W = wc) (fun jv _ => s.size - (RowKit.intOf jv).toNat)
      case atStart => exact ⟨i + 1, by omega, by omega, by go_num, Lib.hid (run_first HF.out), by first | rfl | trivial⟩
      case round =>
        obtain ⟨k, hk0, hk, rfl, HJ, rfl⟩ := hrel
        by_cases hlt : k < s.size
        · have HXk := Lib.hid (byteS_get s k hlt)
          obtain ⟨y, hy⟩ : ∃ y, y = s[k].toNat := ⟨_, rfl⟩
          have HY2 : Hid (byteS s k = y) := Lib.hid (by rw [hy, HXk.out])
          clear HXk
          have HY : Hid (nmN true y = true → ∀ m, i ≤ m → m < k + 1 → nmN true (byteS s m) = true) := Lib.hid fun h => run_step HJ.out (by rw [HY2.out]; exact h)
          have HSk := Lib.hid (r8small_any y wr); have HGk := Lib.hid (r8great_any y wr); have HDk := Lib.hid (r8digit_any y wr)
          have HN : Hid (nmN true y = (smallN y || greatN y || digitN y || decide (y = 95) || decide (y = 39))) := Lib.hid (by unfold nmN; rw [Bool.true_and])
          have g4 : ((y : Int) == 95) = decide (y = 95) := by
            by_cases h : y = 95
            · subst h; rfl
            · simp [h]; omega
          have g5 : ((y : Int) == 39) = decide (y = 39) := by
            by_cases h : y = 39
            · subst h; rfl
            · simp [h]; omega
          generalize smallN y = b1 at *
          generalize greatN y = b2 at *
          generalize digitN y = b3 at *
          generalize decide (y = 95) = b4 at *
          generalize decide (y = 39) = b5 at *
          have HQ0 : ∃ q, q = nmN true y := ⟨_, rfl⟩
          obtain ⟨q, hq⟩ := HQ0
          have LV : Hid (q = false → Run s i k) := Lib.hid fun h => ⟨by omega, hk, HJ.out, fun _ => by rw [HY2.out, ← hq]; exact h⟩
          rw [← hq] at HN HY
          clear hq
          replace hy := hy.symm
          have hh : b1 = true ∨ (b1 = false ∧ b2 = true) ∨ (b1 = false ∧ b2 = false ∧ b3 = true) ∨ (b1 = false ∧ b2 = false ∧ b3 = false ∧ b4 = true) ∨ (b1 = false ∧ b2 = false ∧ b3 = false ∧ b4 = false ∧ b5 = true) ∨ (b1 = false ∧ b2 = false ∧ b3 = false ∧ b4 = false ∧ b5 = false) := by
            cases b1 <;> cases b2 <;> cases b3 <;> cases b4 <;> cases b5 <;> simp
          rcases hh with rfl | ⟨rfl, rfl⟩ | ⟨rfl, rfl, rfl⟩ | ⟨rfl, rfl, rfl, rfl⟩ | ⟨rfl, rfl, rfl, rfl, rfl⟩ | ⟨rfl, rfl, rfl, rfl, rfl⟩
          all_goals go_wp2_with (first | (go_at_call 195; refine HSk.out.mono ?_; rintro e w2 ⟨rfl, rfl⟩) | (go_at_call 196; refine HGk.out.mono ?_; rintro e w2 ⟨rfl, rfl⟩) | (go_at_call 197; refine HDk.out.mono ?_; rintro e w2 ⟨rfl, rfl⟩))
          all_goals first
            | (go_meet
               exact ⟨k, by go_num, Lib.hid (LV.out (by rw [HN.out]; rfl)), by first | rfl | trivial⟩)
            | (go_roundw
               case rel => exact ⟨k + 1, by omega, by omega, by go_num, Lib.hid (HY.out (by rw [HN.out]; simp)), by first | rfl | trivial⟩
               case measure => simp [RowKit.intOf]; omega)
        · have hkl : ¬ (k : Int) < (s.size : Int) := by omega
          go_wp2_with fail
          go_meet
          exact ⟨k, by go_num, Lib.hid ⟨by omega, hk, HJ.out, fun h => absurd h hlt⟩, by first | rfl | trivial⟩
    case rest =>
      obtain ⟨k, rfl, HRN, rfl⟩ := hcut
      have hk1 : i ≤ k := by have := HRN.out.1; omega
      have hk2 : k ≤ s.size := HRN.out.2.1
      go_upto_region 7 with fail
      have LV : Hid ((s.extract i k).toList = [95] ∨ bg = true ∨ (bg = false ∧ ∃ m, m < 13 ∧ wordsA.getD m ⟨#[]⟩ = s.extract i k) ∨ (bg = false ∧ ¬ (s.extract i k).toList = [95] ∧ ∀ m, m < 13 → ¬ wordsA.getD m ⟨#[]⟩ = s.extract i k) → True) := Lib.hid fun _ => trivial
      have L1 : Hid ((s.extract i k).toList = [95] → OneOk s i 6 k) := Lib.hid fun e => ok_key (by decide) (by decide) HRN.out (by rw [data_toList, e]; decide)
      have L2 : Hid (bg = true → OneOk s i 2 k) := Lib.hid fun e => ok_great HRN.out (HGT.out e)
      have L3 : Hid (∀ m, m < 13 → wordsA.getD m ⟨#[]⟩ = s.extract i k → OneOk s i 5 k) := Lib.hid fun m hm e => ok_key (by decide) (by decide) HRN.out (by rw [← e]; exact word_mem hm)
      have L4 : Hid (bg = false → ¬ (s.extract i k).toList = [95] → (∀ m, m < 13 → ¬ wordsA.getD m ⟨#[]⟩ = s.extract i k) → OneOk s i 1 k) := Lib.hid fun e1 e2 e3 => ok_name HRN.out (HGR.out e1) (word_none (fun e => e2 (by rw [e, ← data_toList])) e3)
      clear LV HGR HGT HRN HF HS hk1 hk2
      generalize s.extract i k = wd at *
      by_cases hwd : wd.toList = [95]
      · have hb : (wd.toList == [95]) = true := by rw [hwd]; rfl
        have LE := Lib.hid (L1.out hwd)
        clear hwd
        go_wp2
        rw [HPO.out]
        exact post_one LE.out (Below.refl _ _)
      · have hb : (wd.toList == [95]) = false := by
          cases h : wd.toList == [95] with
          | false => rfl
          | true => exact absurd (by simpa using h) hwd
        have HWD := Lib.hid hwd
        clear hwd
        cases bg with
        | true =>
          have LE := Lib.hid (L2.out rfl)
          go_wp2_with (go_at_call 196; refine (HG _).out.mono ?_; rintro e w2 ⟨rfl, rfl⟩)
          rw [HPO.out]
          exact post_one LE.out (Below.refl _ _)
        | false =>
          go_wp2_with (first | (go_at_call 196; refine (HG _).out.mono ?_; rintro e wg ⟨rfl, rfl⟩) | (go_at_call 198; refine (words_any _).mono ?_; rintro e w2 ⟨rfl, hb2⟩; have HB2 := Lib.hid hb2; clear hb2))
          generalize hW3 : World.alloc w2 _ = W3
          have hb3 : Below w2.heap.size w2 W3 := by rw [← hW3]; exact (Below.refl _ _).alloc (Nat.le_refl _) _
          have hbx : W3.heap[w2.heap.size]? = some (.cells (wordsA.map Value.string).toArray 243 (0, 0)) := by rw [← hW3]; exact heap_alloc_new _ _
          have HB3 : Hid (Below wg.heap.size wg W3) := Lib.hid (HB2.out.trans (hb3.mono HB2.out.size))
          have HBX := Lib.hid hbx
          clear hW3 hb3 hbx HB2 HG
          go_loopw [10] (fun mv W => ∃ (m : Nat), m ≤ 13 ∧ mv = .int .i64 m ∧ Hid (∀ n, n < m → ¬ wordsA.getD n ⟨#[]⟩ = wd) ∧ W = W3) (fun mv _ => 13 - (RowKit.intOf mv).toNat)
          case atStart => exact ⟨0, by omega, rfl, Lib.hid (fun n h => by omega), rfl⟩
          case round =>
            obtain ⟨m, hm, rfl, HM, rfl⟩ := hrel
            by_cases hlt : m < 13
            · have hmi : (m : Int) < 13 := by omega
              have c0 := cells13 HBX.out (k := m) hlt
              have LW : Hid (wordsA.getD m ⟨#[]⟩ = wd → OneOk s i 5 k) := Lib.hid (L3.out m hlt)
              have LN : Hid (¬ wordsA.getD m ⟨#[]⟩ = wd → ∀ n, n < m + 1 → ¬ wordsA.getD n ⟨#[]⟩ = wd) := Lib.hid fun h n hn => by
                by_cases e : n < m
                · exact HM.out n e
                · have : n = m := by omega
                  rw [this]; exact h
              generalize wordsA.getD m ⟨#[]⟩ = u at *
              by_cases hq : u = wd
              · have hqb := (beqS u wd).2 hq
                have LE := Lib.hid (LW.out hq)
                clear hq LW LN
                go_wp2
                rw [HPO.out]
                exact post_one LE.out HB3.out
              · have hqb := beqS_ne hq
                have LE := Lib.hid (LN.out hq)
                clear hq LW LN
                go_wp2
                go_roundw
                case rel => exact ⟨m + 1, by omega, by go_num, LE, by first | rfl | trivial⟩
                case measure => simp [RowKit.intOf]; omega
            · have hmi : ¬ (m : Int) < 13 := by omega
              have LE := Lib.hid (L4.out (by first | rfl | trivial) HWD.out fun n hn => HM.out n (by omega))
              go_wp2
              rw [HPO.out]
              exact post_one LE.out HB3.out
theorem below_drewN' {B:Nat} {a b:World} (h:Below B a b) (n:Nat):Below B a (b.drewN n):=⟨h.os,h.tape,h.output,h.size,h.block⟩
set_option maxRecDepth 20000 in
set_option maxHeartbeats 4000000 in
theorem one_other (s : ByteArray) (i : Nat) (hs : s.size ≤ 9223372036854775000) (hi : i < s.size) (h1 : smallN (byteS s i) = false) (h2 : greatN (byteS s i) = false) (h3 : ¬ byteS s i = 95) (w : World) :
    Calls Tryz.prog 183 #[.string s, .int .i64 i] w (OnePost s i w) := by
  obtain ⟨P, hP⟩ : ∃ P, P = OnePost s i w := ⟨_, rfl⟩
  have HPO := Lib.hid hP
  rw [← hP]
  clear hP
  have hii : (i : Int) < (s.size : Int) := by omega
  have HX := Lib.hid (byteS_get s i hi)
  obtain ⟨x, hx⟩ : ∃ x, s[i].toNat = x := ⟨_, rfl⟩
  have HX2 : Hid (byteS s i = x) := Lib.hid (by rw [← hx, HX.out])
  clear HX
  have HNM : Hid (i = 0 → nameOk s.data.toList = false) := Lib.hid (ok_first hi h1 h3)
  have HS := fun W => Lib.hid (r8small_any x W)
  have HG := fun W => Lib.hid (r8great_any x W)
  have HD := fun W => Lib.hid (r8digit_any x W)
  rw [HX2.out] at h1 h2 h3
  rw [h1] at HS
  rw [h2] at HG
  have g95 : ((x : Int) == 95) = false := by simp; omega
  clear h1 h2 h3 HX2
  go_enter Tryz.func183, Tryz.ntmps183
  generalize digitN x = bd at *
  cases bd with
  | true =>
    go_wp2_with (first | (go_at_call 195; refine (HS _).out.mono ?_; rintro e w2 ⟨rfl, rfl⟩) | (go_at_call 196; refine (HG _).out.mono ?_; rintro e w2 ⟨rfl, rfl⟩) | (go_at_call 197; refine (HD _).out.mono ?_; rintro e w2 ⟨rfl, rfl⟩))
    go_loopw [7] (fun jv W => ∃ (k : Nat), i + 1 ≤ k ∧ k ≤ s.size ∧ jv = .int .i64 k ∧ W = w2) (fun jv _ => s.size - (RowKit.intOf jv).toNat)
    case atStart => exact ⟨i + 1, by omega, by omega, by go_num, rfl⟩
    case round =>
      obtain ⟨k, hk0, hk, rfl, rfl⟩ := hrel
      by_cases hlt : k < s.size
      · obtain ⟨y, hy⟩ : ∃ y, s[k].toNat = y := ⟨_, rfl⟩
        have HY := Lib.hid (r8digit_any y wr)
        obtain ⟨b5, hb5⟩ : ∃ b, b = digitN y := ⟨_, rfl⟩
        rw [← hb5] at HY
        clear hb5
        have HE : Hid (OneOk s i 3 k) := Lib.hid (ok_other (by decide) (by decide) (by omega) hk HNM.out)
        cases b5
        · go_wp2_with (first | (go_at_call 197; refine HY.out.mono ?_; rintro e w2 ⟨rfl, rfl⟩))
          rw [HPO.out]
          exact post_one HE.out (Below.refl _ _)
        · go_wp2_with (first | (go_at_call 197; refine HY.out.mono ?_; rintro e w2 ⟨rfl, rfl⟩))
          go_roundw
          case rel => exact ⟨k + 1, by omega, by omega, by go_num, by first | rfl | trivial⟩
          case measure => simp [RowKit.intOf]; omega
      · have hkl : ¬ (k : Int) < (s.size : Int) := by omega
        have HE : Hid (OneOk s i 3 k) := Lib.hid (ok_other (by decide) (by decide) (by omega) hk HNM.out)
        go_wp2
        rw [HPO.out]
        exact post_one HE.out (Below.refl _ _)
  | false =>
    go_upto_region 22 with (first | (go_at_call 195; refine (HS _).out.mono ?_; rintro e w2 ⟨rfl, rfl⟩) | (go_at_call 196; refine (HG _).out.mono ?_; rintro e w2 ⟨rfl, rfl⟩) | (go_at_call 197; refine (HD _).out.mono ?_; rintro e w2 ⟨rfl, rfl⟩))
    have g39 : ((x : Int) == 39) = decide (x = 39) := by
      by_cases h : x = 39
      · subst h; rfl
      · simp [h]; omega
    generalize decide (x = 39) = b39 at *
    go_cut [114] (fun v W => (∃ q : Bool, v = .bool q) ∧ W = w2)
    case first =>
      cases b39 with
      | false =>
        go_wp2_with fail
        go_meet
        exact ⟨⟨_, rfl⟩, rfl⟩
      | true =>
        by_cases hlt : i + 1 < s.size
        · have hli : (i : Int) + 1 < (s.size : Int) := by omega
          obtain ⟨y, hy⟩ : ∃ y, s[i + 1].toNat = y := ⟨_, rfl⟩
          have HY := Lib.hid (r8small_any y w2)
          go_wp2_with (go_at_call 195; refine HY.out.mono ?_; rintro e w2 ⟨rfl, rfl⟩)
          go_meet
          exact ⟨⟨_, rfl⟩, rfl⟩
        · have hli : ¬ (i : Int) + 1 < (s.size : Int) := by omega
          go_wp2_with fail
          go_meet
          exact ⟨⟨_, rfl⟩, rfl⟩
    case rest =>
      obtain ⟨⟨q, rfl⟩, rfl⟩ := hcut
      clear g39 HS HG HD g95
      cases q with
      | true =>
        go_wp2_with fail
        go_loopw [7] (fun jv W => ∃ (k : Nat), i + 1 ≤ k ∧ k ≤ s.size ∧ jv = .int .i64 k ∧ W = wc) (fun jv _ => s.size - (RowKit.intOf jv).toNat)
        case atStart => exact ⟨i + 1, by omega, by omega, by go_num, by first | rfl | trivial⟩
        case round =>
          obtain ⟨k, hk0, hk, rfl, rfl⟩ := hrel
          have HE : Hid (OneOk s i 4 k) := Lib.hid (ok_other (by decide) (by decide) (by omega) hk HNM.out)
          by_cases hlt : k < s.size
          · obtain ⟨y, hy⟩ : ∃ y, y = s[k].toNat := ⟨_, rfl⟩
            have HSk := Lib.hid (r8small_any y wr); have HGk := Lib.hid (r8great_any y wr); have HDk := Lib.hid (r8digit_any y wr)
            have g4 : ((y : Int) == 95) = decide (y = 95) := by
              by_cases h : y = 95
              · subst h; rfl
              · simp [h]; omega
            generalize smallN y = b1 at *
            generalize greatN y = b2 at *
            generalize digitN y = b3 at *
            generalize decide (y = 95) = b4 at *
            replace hy := hy.symm
            have hh : b1 = true ∨ (b1 = false ∧ b2 = true) ∨ (b1 = false ∧ b2 = false ∧ b3 = true) ∨ (b1 = false ∧ b2 = false ∧ b3 = false ∧ b4 = true) ∨ (b1 = false ∧ b2 = false ∧ b3 = false ∧ b4 = false) := by
              cases b1 <;> cases b2 <;> cases b3 <;> cases b4 <;> simp
            rcases hh with rfl | ⟨rfl, rfl⟩ | ⟨rfl, rfl, rfl⟩ | ⟨rfl, rfl, rfl, rfl⟩ | ⟨rfl, rfl, rfl, rfl⟩
            all_goals go_wp2_with (first | (go_at_call 195; refine HSk.out.mono ?_; rintro e w2 ⟨rfl, rfl⟩) | (go_at_call 196; refine HGk.out.mono ?_; rintro e w2 ⟨rfl, rfl⟩) | (go_at_call 197; refine HDk.out.mono ?_; rintro e w2 ⟨rfl, rfl⟩))
            all_goals first
              | (rw [HPO.out]
                 exact post_one HE.out (Below.refl _ _))
              | (go_roundw
                 case rel => exact ⟨k + 1, by omega, by omega, by go_num, by first | rfl | trivial⟩
                 case measure => simp [RowKit.intOf]; omega)
          · have hkl : ¬ (k : Int) < (s.size : Int) := by omega
            go_wp2
            rw [HPO.out]
            exact post_one HE.out (Below.refl _ _)
      | false =>
        go_wp2_with (go_at_call 199; refine (signs_any _).mono ?_; rintro e ws ⟨rfl, hb2⟩; have HB2 := Lib.hid hb2; clear hb2)
        generalize hW3 : World.alloc ws _ = W3
        have hb3 : Below ws.heap.size ws W3 := by rw [← hW3]; exact (Below.refl _ _).alloc (Nat.le_refl _) _
        have hbx : W3.heap[ws.heap.size]? = some (.cells (signsA.map Value.string).toArray 243 (0, 0)) := by rw [← hW3]; exact heap_alloc_new _ _
        have HB3 : Hid (Below wc.heap.size wc W3) := Lib.hid (HB2.out.trans (hb3.mono HB2.out.size))
        have HBX := Lib.hid hbx
        clear hW3 hb3 hbx HB2
        go_loopw [12] (fun mv W => ∃ (m : Nat), m ≤ 13 ∧ mv = .int .i64 m ∧ ∃ n, W = W3.drewN n) (fun mv _ => 13 - (RowKit.intOf mv).toNat)
        case atStart => exact ⟨0, by omega, rfl, 0, rfl⟩
        case round =>
          obtain ⟨m, hm, rfl, n0, rfl⟩ := hrel
          by_cases hlt : m < 13
          · have hmi : (m : Int) < 13 := by omega
            have c0 : W3.cell? ⟨ws.heap.size, m, none⟩ = some (.string (signsA.getD m ⟨#[]⟩)) := cells13 HBX.out (k := m) hlt
            obtain ⟨z1, z2⟩ := sign_size m hlt
            generalize signsA.getD m ⟨#[]⟩ = u at *
            have HA := Lib.hid (r8at_any s u i hs (by omega) (by omega) z1 (W3.drewN n0))
            have HL : Hid (atB s i u.data.toList = true → OneOk s i 6 (i + u.size)) := Lib.hid fun h => by
              have hl : u.data.toList.length = u.size := by rw [Array.length_toList]; rfl
              have := atB_len h (by omega)
              exact ok_other (by decide) (by decide) (by omega) (by omega) HNM.out
            have hu : i + u.size ≤ 9223372036854775007 := by omega
            generalize atB s i u.data.toList = q at *
            clear z1
            go_wp2_with fail
            refine HA.out.mono ?_
            rintro e w5 ⟨rfl, n1, rfl⟩
            cases q with
            | true =>
              have HE := Lib.hid (HL.out rfl)
              have c1 : W3.cell? ⟨ws.heap.size, m, none⟩ = some (.string u) := c0
              clear HL
              go_wp2_with fail
              go_quiet (fail)
              go_wp2
              rw [HPO.out]
              exact post_one HE.out (below_drewN' (below_drewN' HB3.out _) _)
            | false =>
              clear HL
              go_wp2
              go_roundw
              case rel => exact ⟨m + 1, by omega, by go_num, n0 + n1, rfl⟩
              case measure => simp [RowKit.intOf]; omega
          · have hmi : ¬ (m : Int) < 13 := by omega
            have HE : Hid (OneOk s i 0 0) := Lib.hid (ok_none HNM.out)
            go_wp2
            rw [HPO.out]
            exact post_one HE.out (below_drewN' HB3.out _)
theorem one_any (s:ByteArray) (i:Nat) (hs:s.size≤9223372036854775000) (hi:i < s.size) (w:World) :
  Calls Tryz.prog 183 #[.string s,.int .i64 i] w (OnePost s i w):=by
 by_cases h:smallN (byteS s i)=true∨greatN (byteS s i)=true∨byteS s i=95
 ·exact one_word s i hs hi h w
 ·simp only [not_or,Bool.not_eq_true] at h
  exact one_other s i hs hi h.1 h.2.1 h.2.2 w
end Go.Proofs.YtaalbcfpacpgfaaGreat
