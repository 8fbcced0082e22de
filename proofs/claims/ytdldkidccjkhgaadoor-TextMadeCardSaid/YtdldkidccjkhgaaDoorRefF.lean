import Derived.Test.YtdldkidccjkhgaaDoorRefB
import Derived.Deep.RegionHeld3
import Derived.Deep.DeepCutAuto
import Derived.Deep.RegionWith
import Derived.Deep.LoopGhost
import Derived.BigRegion
namespace Go.Proofs.YtdldkidccjkhgaaDoor
open Go.RowKit Go.Par
set_option linter.unusedVariables false

/-- the number that n bytes would be. -/
def cand (n : Nat) (l : List UInt8) : Int :=
  let b (i : Nat) : Int := ((l.getD i 0).toNat : Int)
  if n = 1 then b 0
  else if n = 2 then (b 0 - 192) * 64 + b 1 - 128
  else if n = 3 then (b 0 - 224) * 4096 + (b 1 - 128) * 64 + b 2 - 128
  else (b 0 - 240) * 262144 + (b 1 - 128) * 4096 + (b 2 - 128) * 64 + b 3 - 128

/-- does a rune of n bytes stand in front? -/
def fits (n : Nat) (l : List UInt8) : Bool := isR (cand n l) && (Lib.encodeRune (cand n l) == l.take n)

theorem getD_of (l : List UInt8) (j : Nat) (h : j < l.length) : l.getD j 0 = l[j] := by simp [List.getD_eq_getElem?_getD, h]

/-- 'string(b[:k])' -/
theorem conv_at (w : World) (b off cap B : Nat) (l : List UInt8) (hat : At w B (some ⟨b, off, none⟩) l.length (fun i => .int .u8 (l.getD i 0).toNat)) (k : Nat) (hk : k ≤ l.length) :
    (convert 29 9 (.slice (some ⟨b, off, none⟩) k cap)).run Tryd.prog w = .ok (.string ⟨(l.take k).toArray⟩) w := by
  have := run_convert_bytes_back (P := Tryd.prog) w 29 9 5 ⟨b, off, none⟩ cap (l.take k) Tryd.underlying29 Tryd.underlying5 Tryd.underlying9 (fun j hj => by
    have hj' : j < k ∧ j < l.length := by simp at hj; omega
    obtain ⟨b', off', e, _, hc⟩ := hat j hj'.2
    cases e
    rw [add_addr, hc]
    dsimp only
    rw [getD_of l j hj'.2]
    simp)
  rwa [show (l.take k).length = k from by simp; omega] at this
/-- 'string(bytes(r))' -/
theorem conv_new (w : World) (r : Int) : (convert 29 9 (bytesVal w r)).run Tryd.prog (bytesWorld w r) = .ok (.string ⟨(Lib.encodeRune r).toArray⟩) (bytesWorld w r) := by
  unfold bytesVal bytesWorld
  refine run_convert_bytes_back (P := Tryd.prog) _ 29 9 5 ⟨w.heap.size, 0, none⟩ _ (Lib.encodeRune r) Tryd.underlying29 Tryd.underlying5 Tryd.underlying9 (fun j hj => ?_)
  rw [add_addr, Nat.zero_add, World.cell?_alloc_new]
  simp [Lib.byteCells, hj]

def NoFit (m : Nat) (l : List UInt8) : Prop := ∀ j, 1 ≤ j → j < m → j ≤ 4 → j ≤ l.length → fits j l = false
def FirstPost (w : World) (l : List UInt8) (e : Ending) (w' : World) : Prop :=
  Below w.heap.size w w' ∧ ((∃ n, 1 ≤ n ∧ n ≤ 4 ∧ n ≤ l.length ∧ fits n l = true ∧ NoFit n l ∧ e = .returned (.tuple #[.int .i64 (cand n l), .int .i64 n])) ∨
    (NoFit 5 l ∧ e = .returned (.tuple #[.int .i64 0, .int .i64 0])))

set_option maxRecDepth 100000 in
set_option maxHeartbeats 1000000 in
theorem first_any (b off cap : Nat) (l : List UInt8) (w : World) (B : Nat) (hat : At w B (some ⟨b, off, none⟩) l.length (fun i => .int .u8 (l.getD i 0).toNat)) (hB : B ≤ w.heap.size) (hl : l.length ≤ 1000000) (hcap : l.length ≤ cap) (hcm : cap ≤ 9223372036854775807) (h1 : 1 ≤ l.length) :
    Calls Tryd.prog 55 #[.slice (some ⟨b, off, none⟩) l.length cap] w (FirstPost w l) := by
  go_enter Tryd.func55, Tryd.ntmps55
  go_wp2
  go_loopg [4, 5] 4 (fun g n _ wr => ∃ k : Nat, 1 ≤ k ∧ k ≤ 5 ∧ g = 5 - k ∧ n = .int .i64 k ∧ NoFit k l ∧ Below w.heap.size w wr)
  case atStart => exact ⟨1, by omega, by omega, rfl, rfl, fun j h1 h2 => by omega, Below.refl _ _⟩
  case round =>
    obtain ⟨k, hk1, hk5, hgk, rfl, hnf, hbw⟩ := hrel
    have HG := Lib.hid hgk; clear hgk
    by_cases hk : k ≤ 4 ∧ k ≤ l.length
    · obtain ⟨hk4, hkl⟩ := hk
      have hk4i : (k : Int) ≤ 4 := by omega
      have hkli : (k : Int) ≤ l.length := by omega
      go_upto_block 2 with fail
      go_cut [5] (fun v wx => v = .int .i64 (cand k l) ∧ Below w.heap.size w wx)
      case first =>
        obtain rfl | rfl | rfl | rfl : k = 1 ∨ k = 2 ∨ k = 3 ∨ k = 4 := by omega
        · -- 1
          obtain ⟨_, _, x0, e0, _, c0, X0b, X0⟩ := (hat.below (hbw.mono hB)).byte (k := 0) (by omega)
          cases e0
          have hl0 : (0 : Int) < l.length := by omega
          rw [Nat.add_zero] at c0
          clear hat
          go_wp2
          go_meet
          exact ⟨by simp only [cand, X0.out]; rfl, hbw⟩
        · -- 2
          obtain ⟨_, _, x0, e0, _, c0, X0b, X0⟩ := (hat.below (hbw.mono hB)).byte (k := 0) (by omega)
          cases e0
          have hl0 : (0 : Int) < l.length := by omega
          obtain ⟨_, _, x1, e1, _, c1, X1b, X1⟩ := (hat.below (hbw.mono hB)).byte (k := 1) (by omega)
          cases e1
          have hl1 : (1 : Int) < l.length := by omega
          rw [Nat.add_zero] at c0
          clear hat
          go_wp2
          go_quiet (fail)
          go_wp2
          go_meet
          exact ⟨by simp only [cand, X0.out, X1.out]; rfl, below_drewN hbw _⟩
        · -- 3
          obtain ⟨_, _, x0, e0, _, c0, X0b, X0⟩ := (hat.below (hbw.mono hB)).byte (k := 0) (by omega)
          cases e0
          have hl0 : (0 : Int) < l.length := by omega
          obtain ⟨_, _, x1, e1, _, c1, X1b, X1⟩ := (hat.below (hbw.mono hB)).byte (k := 1) (by omega)
          cases e1
          have hl1 : (1 : Int) < l.length := by omega
          obtain ⟨_, _, x2, e2, _, c2, X2b, X2⟩ := (hat.below (hbw.mono hB)).byte (k := 2) (by omega)
          cases e2
          have hl2 : (2 : Int) < l.length := by omega
          rw [Nat.add_zero] at c0
          clear hat
          go_wp2
          go_quiet (fail)
          go_wp2
          go_meet
          exact ⟨by simp only [cand, X0.out, X1.out, X2.out]; rfl, below_drewN hbw _⟩
        · -- 4
          obtain ⟨_, _, x0, e0, _, c0, X0b, X0⟩ := (hat.below (hbw.mono hB)).byte (k := 0) (by omega)
          cases e0
          have hl0 : (0 : Int) < l.length := by omega
          obtain ⟨_, _, x1, e1, _, c1, X1b, X1⟩ := (hat.below (hbw.mono hB)).byte (k := 1) (by omega)
          cases e1
          have hl1 : (1 : Int) < l.length := by omega
          obtain ⟨_, _, x2, e2, _, c2, X2b, X2⟩ := (hat.below (hbw.mono hB)).byte (k := 2) (by omega)
          cases e2
          have hl2 : (2 : Int) < l.length := by omega
          obtain ⟨_, _, x3, e3, _, c3, X3b, X3⟩ := (hat.below (hbw.mono hB)).byte (k := 3) (by omega)
          cases e3
          have hl3 : (3 : Int) < l.length := by omega
          rw [Nat.add_zero] at c0
          clear hat
          go_wp2
          go_quiet (fail)
          go_wp2
          go_meet
          exact ⟨by simp only [cand, X0.out, X1.out, X2.out, X3.out]; rfl, below_drewN hbw _⟩
      case rest =>
        obtain ⟨rfl, hbc⟩ := hcut
        go_upto_region 14 with fail
        go_cut [97] (fun v wx => v = .bool (fits k l) ∧ Below w.heap.size w wx)
        case first =>
          by_cases hR : isR (cand k l) = true
          · have a1 := conv_at wc.drew b off cap B l (hat.below (hbc.drew.mono hB)) k hkl
            have hbx : Below w.heap.size w (bytesWorld wc.drew (cand k l)) := hbc.drew.alloc (by have := hbc.size; simp; omega) _
            have a2 := conv_at (bytesWorld wc.drew (cand k l)) b off cap B l (hat.below (hbx.mono hB)) k hkl
            have a3 := conv_new wc.drew (cand k l)
            have HR := Lib.hid hR
            clear hR hat
            go_region_with (first | (go_at_call 62; refine (refIsRune_any (cand k l) _).mono ?_; rintro e w' ⟨rfl, rfl⟩; rw [HR.out]) | (go_at_call 58; refine (refBytes_any (cand k l) HR.out _).mono ?_; rintro e w' ⟨rfl, rfl⟩))
            all_goals (go_wp2_with fail; go_meet; exact ⟨by simp [fits, HR.out], hbx⟩)
          · have hR' : isR (cand k l) = false := by simpa using hR
            have HR := Lib.hid hR'
            clear hR hR' hat
            have hq : ∀ W : World, Calls Tryd.prog 62 #[.int .i64 (cand k l)] W fun e w' => e = .returned (.bool false) ∧ w' = W := fun W => (refIsRune_any (cand k l) W).mono fun e w' ⟨he, hw⟩ => ⟨by rw [he, HR.out], hw.symm⟩
            have HQ := Lib.hid hq; clear hq
            go_quiet ((go_at_call 62; exact Calls.quiet_of_same (HQ.out _)))
            go_wp2_with fail
            go_meet
            exact ⟨by simp [fits, HR.out], below_drewN hbc _⟩
        case rest =>
          obtain ⟨rfl, hbd⟩ := hcut
          clear hat
          by_cases hft : fits k l = true
          · have HF := Lib.hid hft
            rw [hft]
            clear hft
            go_wp2
            go_ret2
            exact ⟨hbd, .inl ⟨k, hk1, hk4, hkl, HF.out, hnf, rfl⟩⟩
          · have hff : fits k l = false := by simpa using hft
            have HF := Lib.hid hff
            rw [hff]
            clear hft hff
            go_wp2
            go_roundg (4 - k)
            case measure => have := HG.out; omega
            case rel => exact ⟨k + 1, by omega, by omega, by omega, by go_num, fun j a b c d => by
              by_cases hjk : j = k
              · rw [hjk]; exact HF.out
              · exact hnf j a (by omega) c d, hbd⟩
    · have hfin : NoFit 5 l := fun j a b c d => hnf j a (by omega) c d
      have HFIN := Lib.hid hfin
      clear hat
      by_cases hk4 : k ≤ 4
      · have hk4i : (k : Int) ≤ 4 := by omega
        have hkl : ¬ (k ≤ l.length) := by omega
        have hkd : decide (k ≤ l.length) = false := by simpa using hkl
        clear hk
        go_wp2
        go_ret2
        exact ⟨hbw, .inr ⟨HFIN.out, rfl⟩⟩
      · have hk4i : ¬ (k : Int) ≤ 4 := by omega
        clear hk
        go_wp2
        go_ret2
        exact ⟨hbw, .inr ⟨HFIN.out, rfl⟩⟩
end Go.Proofs.YtdldkidccjkhgaaDoor
