import Derived.Test.YtpdelgjfamelfaaV1
import Derived.Test.YtpdelgjfamelfaaMemS
import Derived.WalkLawsBesides
import Derived.WalkSpells
import Derived.Outline
import Derived.BigQuiet
import Derived.IntWalk
import Derived.Lib.Strings
import Derived.Deep.QuietTactic
import Derived.Deep.DeepCutAuto
namespace Go.Proofs.Ytpdelgjfamelfaa
open Go.RowKit Go.Lib Go.Vfs Go.Par
set_option linter.unusedVariables false

def okB (c : UInt8) : Bool := decide ((97 ≤ c.toNat ∧ c.toNat ≤ 122) ∨ (48 ≤ c.toNat ∧ c.toNat ≤ 57) ∨ c.toNat = 46 ∨ c.toNat = 45)
/-- can a file have this name? -/
def nameB (l : List UInt8) : Bool := decide (1 ≤ l.length ∧ l.length ≤ 32) && l.all okB

theorem ret_bool {a b : Bool} (h : a = b) : Ending.returned (.bool a) = .returned (.bool b) := by rw [h]
theorem str_get (s : ByteArray) (l : List UInt8) (h : s.data.toList = l) (k : Nat) (hlt : k < s.size) : s[k] = l.getD k 0 := by
  have hk' : k < s.data.size := hlt
  rw [← h]
  simp only [List.getD_eq_getElem?_getD, Array.getElem?_toList, Array.getElem?_eq_getElem hk']
  rfl
theorem all_snoc (s : ByteArray) (k : Nat) (hlt : k < s.size) : (s.data.toList.take (k + 1)).all okB = ((s.data.toList.take k).all okB && okB s[k]) := by
  have hk' : k < s.data.toList.length := by simpa using hlt
  rw [List.take_succ_eq_append_getElem hk', List.all_append]
  simp
  rfl

set_option maxRecDepth 20000 in
set_option maxHeartbeats 1000000 in
theorem isName_any (s : ByteArray) (w : World) (hs : s.size ≤ 9223372036854775807) :
    Calls Try.prog 47 #[.string s] w fun e w' => e = .returned (.bool (nameB s.data.toList)) ∧ w' = w := by
  have hlen : s.data.toList.length = s.size := (Lib.size_eq s).symm
  by_cases h0 : s.size = 0
  · have hse : s = ⟨#[]⟩ := by
      have : s.data = #[] := Array.toList_inj.1 (by apply List.eq_nil_of_length_eq_zero; rw [hlen, h0])
      cases s; cases this; rfl
    subst hse
    clear hlen h0 hs
    go_enter Try.func47, Try.ntmps47
    go_wp2
    go_ret
    exact ⟨rfl, rfl⟩
  · have hne : ¬ s.toList = [] := fun e => by
      rw [ByteArray.toList_eq] at e
      rw [e] at hlen
      simp at hlen
      omega
    have hne2 : s.toList.isEmpty = false := by simpa using hne
    by_cases hbig : 32 < (s.size : Int)
    · have hr : nameB s.data.toList = false := by
        unfold nameB
        rw [hlen]
        simp
        intro _ h
        omega
      rw [hr]
      clear hr hlen
      go_enter Try.func47, Try.ntmps47
      go_wp2
      go_ret
      exact ⟨rfl, rfl⟩
    · have HR : Hid (nameB s.data.toList = s.data.toList.all okB) := Lib.hid (by
        unfold nameB
        rw [hlen]
        have : decide (1 ≤ s.size ∧ s.size ≤ 32) = true := by simp; omega
        rw [this]; rfl)
      have HL := Lib.hid hlen; clear hlen
      obtain ⟨r, hr⟩ : ∃ r, r = nameB s.data.toList := ⟨_, rfl⟩
      rw [← hr]
      have HRR := Lib.hid hr; clear hr
      go_enter Try.func47, Try.ntmps47
      go_wp2
      go_loop [16] (fun i => ∃ k : Nat, k ≤ s.size ∧ i = .int .i64 k ∧ Hid ((s.data.toList.take k).all okB = true)) (fun i => s.size - (intOf i).toNat)
      case atStart => exact ⟨0, by omega, rfl, Lib.hid (by simp)⟩
      case round =>
        obtain ⟨k, hk, rfl, HA⟩ := hrel
        by_cases hlt : k < s.size
        · have hsn := all_snoc s k hlt
          rw [HA.out, Bool.true_and] at hsn
          have hbd := s[k].toNat_lt
          cases hok : okB s[k] with
          | true =>
            rw [hok] at hsn
            have HA2 := Lib.hid hsn
            clear hsn HA
            have hor := of_decide_eq_true hok
            clear hok
            rcases hor with ⟨h1, h2⟩ | ⟨h1, h2⟩ | h1 | h1
            · have g1 : (97 : Int) ≤ (s[k].toNat : Int) := by omega
              have g2 : (s[k].toNat : Int) ≤ 122 := by omega
              have g3 : (48 : Int) ≤ (s[k].toNat : Int) := by omega
              have g4 : ¬ (s[k].toNat : Int) ≤ 57 := by omega
              go_wp2
              go_round
              case rel => exact ⟨k + 1, by omega, by go_num, HA2⟩
              case measure => simp [intOf]; omega
            · have g1 : ¬ (97 : Int) ≤ (s[k].toNat : Int) := by omega
              have g3 : (48 : Int) ≤ (s[k].toNat : Int) := by omega
              have g4 : (s[k].toNat : Int) ≤ 57 := by omega
              go_wp2
              go_round
              case rel => exact ⟨k + 1, by omega, by go_num, HA2⟩
              case measure => simp [intOf]; omega
            · have g1 : ¬ (97 : Int) ≤ (s[k].toNat : Int) := by omega
              have g3 : ¬ (48 : Int) ≤ (s[k].toNat : Int) := by omega
              have g5 : ((s[k].toNat : Int) != 46) = false := by simp; omega
              clear h1
              go_wp2
              go_round
              case rel => exact ⟨k + 1, by omega, by go_num, HA2⟩
              case measure => simp [intOf]; omega
            · have g1 : ¬ (97 : Int) ≤ (s[k].toNat : Int) := by omega
              have g3 : ¬ (48 : Int) ≤ (s[k].toNat : Int) := by omega
              have g5 : ((s[k].toNat : Int) != 46) = true := by simp; omega
              have g6 : ((s[k].toNat : Int) != 45) = false := by simp; omega
              clear h1
              go_wp2
              go_round
              case rel => exact ⟨k + 1, by omega, by go_num, HA2⟩
              case measure => simp [intOf]; omega
          | false =>
            have HF : Hid (r = false) := Lib.hid (by
              rw [HRR.out, HR.out, List.all_eq_false]
              refine ⟨s[k], ?_, by rw [hok]; simp⟩
              rw [str_get s _ rfl k hlt, List.getD_eq_getElem?_getD, List.getElem?_eq_getElem (by rw [HL.out]; exact hlt)]
              exact List.getElem_mem _)
            have hor := of_decide_eq_false hok
            clear hok hsn
            have g5 : ((s[k].toNat : Int) != 46) = true := by simp; omega
            have g6 : ((s[k].toNat : Int) != 45) = true := by simp; omega
            rcases (show s[k].toNat < 48 ∨ (58 ≤ s[k].toNat ∧ s[k].toNat < 97) ∨ 122 < s[k].toNat by omega) with h | ⟨h, h2⟩ | h
            · have g1 : ¬ (97 : Int) ≤ (s[k].toNat : Int) := by omega
              have g3 : ¬ (48 : Int) ≤ (s[k].toNat : Int) := by omega
              clear hor
              go_wp2
              go_ret
              exact ⟨by first | (rw [HF.out]; rfl) | rw [HF.out], rfl⟩
            · have g1 : ¬ (97 : Int) ≤ (s[k].toNat : Int) := by omega
              have g3 : (48 : Int) ≤ (s[k].toNat : Int) := by omega
              have g4 : ¬ (s[k].toNat : Int) ≤ 57 := by omega
              clear hor
              go_wp2
              go_ret
              exact ⟨by first | (rw [HF.out]; rfl) | rw [HF.out], rfl⟩
            · have g1 : (97 : Int) ≤ (s[k].toNat : Int) := by omega
              have g2 : ¬ (s[k].toNat : Int) ≤ 122 := by omega
              have g3 : (48 : Int) ≤ (s[k].toNat : Int) := by omega
              have g4 : ¬ (s[k].toNat : Int) ≤ 57 := by omega
              clear hor
              go_wp2
              go_ret
              exact ⟨by first | (rw [HF.out]; rfl) | rw [HF.out], rfl⟩
        · have HF : Hid (r = true) := Lib.hid (by
            rw [HRR.out, HR.out]
            have := HA.out
            rw [List.take_of_length_le (by rw [HL.out]; omega)] at this
            exact this)
          go_wp2
          go_ret
          exact ⟨by first | (rw [HF.out]; rfl) | rw [HF.out], rfl⟩

theorem new_any (power : Int) (w : World) : Calls Try.prog 15 #[.int .i64 power] w fun e w' =>
    e = .returned (.pointer (some ⟨w.heap.size + 1, 0, none⟩)) ∧ w' = (w.alloc (.map #[] 0)).alloc (.cells #[.map (some w.heap.size), .int .i64 power] 84) := by
  have hmm := @run_makeMap Try.prog
  go_enter Try.func15, Try.ntmps15
  go_wp2
  go_ret
  exact ⟨rfl, rfl⟩
theorem new_fs (power : Int) (w : World) : Calls Try.prog 15 #[.int .i64 power] w fun e w' =>
    ∃ p F, e = .returned (.pointer (some ⟨p, 0, none⟩)) ∧ Fsy w' p ⟨power, []⟩ F ∧ (∀ k, F k → w.heap.size ≤ k ∧ k < w'.heap.size) ∧ Below w.heap.size w w' := by
  refine (new_any power w).mono ?_
  rintro e w' ⟨rfl, rfl⟩
  refine ⟨_, OwnF (w.heap.size + 1) w.heap.size [], rfl, ⟨[], w.heap.size, rfl, ⟨?_, ?_, by simp, List.Pairwise.nil, by simp, by simp, by simp⟩, rfl⟩, fun k hk => ?_, ((Below.refl _ w).alloc (Nat.le_refl _) _).alloc (by simp) _⟩
  · have := heap_alloc_new (w.alloc (.map #[] 0)) (.cells #[.map (some w.heap.size), .int .i64 power] 84)
    rwa [World.size_alloc] at this
  · exact (World.ownsMap_made w Try.prog 9 ptrElem).alloc _
  · unfold OwnF at hk; simp at hk ⊢; omega
end Go.Proofs.Ytpdelgjfamelfaa
