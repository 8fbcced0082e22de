/- The sums of package journal and of its reference. -/
import Derived.Test.YtpdelgjfamelfaaGreatM3
import Derived.Laws.BitsAllLaws
namespace Go.Par
set_option linter.unusedVariables false
/-- one bit of a CRC-32, a byte, a list of bytes. -/
def bitC (v : Nat) : Nat := if v % 2 = 1 then (v / 2) ^^^ 3988292384 else v / 2
def bitsC : Nat → Nat → Nat
  | 0, v => v
  | j + 1, v => bitC (bitsC j v)
def byteC (v : Nat) (b : UInt8) : Nat := bitsC 8 (v ^^^ b.toNat)
def runC (v : Nat) (l : List UInt8) : Nat := l.foldl byteC v
def crc (l : List UInt8) : Nat := 4294967295 - runC 4294967295 l
theorem xor_lt32 {a b : Nat} (ha : a < 4294967296) (hb : b < 4294967296) : a ^^^ b < 4294967296 := Nat.xor_lt_two_pow (n := 32) ha hb
theorem bitC_lt {v : Nat} (h : v < 4294967296) : bitC v < 4294967296 := by
  unfold bitC
  split
  · exact xor_lt32 (by omega) (by omega)
  · omega
theorem bitsC_lt {v : Nat} (h : v < 4294967296) : ∀ j, bitsC j v < 4294967296
  | 0 => h
  | j + 1 => bitC_lt (bitsC_lt h j)
theorem byteC_lt {v : Nat} (h : v < 4294967296) (b : UInt8) : byteC v b < 4294967296 := bitsC_lt (xor_lt32 h (by have := b.toNat_lt; omega)) 8
theorem runC_lt {v : Nat} (h : v < 4294967296) (l : List UInt8) : runC v l < 4294967296 := by
  induction l generalizing v with
  | nil => exact h
  | cons b l ih => exact ih (byteC_lt h b)
theorem runC_append (v : Nat) (a b : List UInt8) : runC v (a ++ b) = runC (runC v a) b := by simp [runC]
theorem runC_snoc (v : Nat) (l : List UInt8) (b : UInt8) : runC v (l ++ [b]) = byteC (runC v l) b := by simp [runC]
theorem crc_lt (l : List UInt8) : crc l < 4294967296 := by unfold crc; omega
end Go.Par

namespace Go.Proofs.YtpdelgjfamelfaaGreat
open Go.RowKit Go.Lib Go.Vfs Go.Par
set_option linter.unusedVariables false
set_option linter.unusedSimpArgs false

theorem bitsC_odd {V j : Nat} (h : bitsC j V % 2 = 1) : bitsC (j + 1) V = (bitsC j V / 2) ^^^ 3988292384 := by show bitC _ = _; unfold bitC; rw [if_pos h]
theorem bitsC_even {V j : Nat} (h : ¬ bitsC j V % 2 = 1) : bitsC (j + 1) V = bitsC j V / 2 := by show bitC _ = _; unfold bitC; rw [if_neg h]
theorem nat_flip (V : Nat) (h : V < 4294967296) : 4294967295 ^^^ V = 4294967295 - V := by
  have h1 := BitVec.toNat_not (x := BitVec.ofNat 32 V)
  rw [← BitVec.allOnes_xor, BitVec.toNat_xor] at h1
  have h2 : (BitVec.ofNat 32 V).toNat = V := by rw [BitVec.toNat_ofNat]; exact Nat.mod_eq_of_lt h
  have h3 : (BitVec.allOnes 32).toNat = 4294967295 := by decide
  rw [h2, h3] at h1
  simpa using h1
theorem u32_flip (V : Nat) (h : V < 4294967296) : bits .xor .u32 IntKind.u32.max (V : Int) = 4294967295 - (V : Int) := by
  rw [show IntKind.u32.max = ((4294967295 : Nat) : Int) by decide, u32_xor_nat _ _ (by omega) h, nat_flip V h]
  omega
theorem u32_eq {a b : Nat} (h : a = b) : Value.int .u32 (a : Int) = Value.int .u32 (b : Int) := by rw [h]
theorem take_byte (l : List UInt8) (k x : Nat) (hlt : k < l.length) (hx : (l.getD k 0).toNat = x) (v : Nat) : runC v (l.take (k + 1)) = bitsC 8 (runC v (l.take k) ^^^ x) := by
  rw [List.take_succ_eq_append_getElem hlt, runC_snoc]
  unfold byteC
  rw [show l[k].toNat = x by rw [← hx, List.getD_eq_getElem?_getD, List.getElem?_eq_getElem hlt]; rfl]

set_option maxRecDepth 20000 in
set_option maxHeartbeats 4000000 in
theorem rsum_any (v : Value) (l : List UInt8) (B : Nat) (w : World) (hsg : Seg w B v (byteCells l)) :
    Calls Tryz.prog 80 #[v] w fun e w' => e = .returned (.int .u32 (crc l : Nat)) ∧ ∃ n, w' = w.drewN n := by
  obtain ⟨A, c, rfl, hc, hm, hat⟩ := hsg.open_bytes
  have HAT := Lib.hid hat; clear hat hsg
  go_enter Tryz.func80, Tryz.ntmps80
  go_wp2
  go_loopw [3, 4] (fun s i wr => ∃ k n : Nat, k ≤ l.length ∧ i = .int .i64 k ∧ s = .int .u32 (runC 4294967295 (l.take k) : Nat) ∧ wr = w.drewN n) (fun _ i _ => l.length - (intOf i).toNat)
  case atStart => exact ⟨0, 0, by omega, rfl, rfl, rfl⟩
  case round =>
    obtain ⟨k, n, hk, rfl, rfl, rfl⟩ := hrel
    have hlv := runC_lt (v := 4294967295) (by omega) (l.take k)
    obtain ⟨V, hV⟩ : ∃ V, V = runC 4294967295 (l.take k) := ⟨_, rfl⟩
    rw [← hV] at hlv
    rw [← hV]
    by_cases hlt : k < l.length
    · obtain ⟨b, off, x, rfl, hb, hcell, hx, Hx⟩ := HAT.out.byte hlt
      have hx1 : bits .xor .u32 (V : Int) (x : Int) = ((V ^^^ x : Nat) : Int) := u32_xor_nat V x hlv (by omega)
      have hlX : V ^^^ x < 4294967296 := xor_lt32 hlv (by omega)
      have HN : Hid (runC 4294967295 (l.take (k + 1)) = bitsC 8 (V ^^^ x)) := Lib.hid (by rw [hV]; exact take_byte l k x hlt Hx.out _)
      clear hV
      go_wp2
      clear hx1 hcell
      generalize V ^^^ x = X at *
      obtain ⟨wo, hwo⟩ : ∃ wo : World, wo = w.drewN n := ⟨_, rfl⟩
      rw [← hwo]
      have HWO := Lib.hid hwo; clear hwo
      go_loopw [3, 5] (fun s i wr => ∃ j : Nat, j ≤ 8 ∧ i = .int .i64 j ∧ s = .int .u32 (bitsC j X : Nat) ∧ wr = wo) (fun _ i _ => 8 - (intOf i).toNat)
      case atStart => exact ⟨0, by omega, rfl, rfl, rfl⟩
      case round =>
        obtain ⟨j, hj, rfl, rfl, rfl⟩ := hrel
        have hlY := bitsC_lt hlX j
        by_cases hj8 : j < 8
        · have HO := Lib.hid (@bitsC_odd X j); have HE := Lib.hid (@bitsC_even X j)
          generalize bitsC j X = Y at *
          have hlY2 : Y / 2 < 4294967296 := by omega
          have hx2 : bits .xor .u32 ((Y : Int) / 2) 3988292384 = (((Y / 2) ^^^ 3988292384 : Nat) : Int) := by rw [show (Y : Int) / 2 = ((Y / 2 : Nat) : Int) by omega]; exact u32_xor_nat (Y / 2) 3988292384 hlY2 (by omega)
          by_cases hod : Y % 2 = 1
          · go_wp2
            go_roundw
            case rel =>
              refine ⟨j + 1, by omega, by go_num, ?_, by first | rfl | trivial⟩
              rw [HO.out hod]
              try rfl
            case measure => simp [intOf]; omega
          · go_wp2
            go_roundw
            case rel =>
              refine ⟨j + 1, by omega, by go_num, ?_, by first | rfl | trivial⟩
              rw [HE.out hod]
              try rfl
            case measure => simp [intOf]; omega
        · have hj8' : j = 8 := by omega
          subst hj8'
          go_wp2
          go_roundw
          case rel => exact ⟨k + 1, n, by omega, by go_num, by rw [HN.out], HWO.out⟩
          case measure => simp [intOf]; omega
    · have hkl : k = l.length := by omega
      have HC : Hid (crc l = 4294967295 - V) := Lib.hid (by rw [hV, hkl, List.take_length]; rfl)
      clear hV hkl
      go_wp2
      go_ret
      refine ⟨?_, n, rfl⟩
      rw [HC.out, show ((4294967295 - V : Nat) : Int) = 4294967295 - (V : Int) by omega]
      rfl

theorem runC_flat (v : Nat) (ls : List (List UInt8)) (k : Nat) (hk : k < ls.length) : runC v (ls.take (k + 1)).flatten = runC (runC v (ls.take k).flatten) (ls.getD k []) := by
  rw [flat_succ ls k hk, runC_append]
set_option maxRecDepth 20000 in
set_option maxHeartbeats 4000000 in
theorem sum_any (v : Value) (ls : List (List UInt8)) (w : World) (h : RowsAt (· < w.heap.size) w v ls) :
    Calls Tryz.prog 32 #[v] w fun e w' => e = .returned (.int .u32 (crc ls.flatten : Nat)) ∧ ∃ n, w' = w.drewN n := by
  obtain ⟨vs, hvl, ⟨A, c, rfl, hvc, hvm, hva⟩, hve⟩ := h
  have hvm' : c ≤ 9223372036854775807 := by simpa [maxLen] using hvm
  have HVA := Lib.hid hva; have HVE := Lib.hid hve; have HVL := Lib.hid hvl
  clear hva hve hvl hvm
  go_enter Tryz.func32, Tryz.ntmps32
  go_wp2
  go_loopw [3, 10] (fun s i wr => ∃ k n : Nat, k ≤ vs.length ∧ i = .int .i64 k ∧ s = .int .u32 (runC 4294967295 (ls.take k).flatten : Nat) ∧ wr = w.drewN n) (fun _ i _ => vs.length - (intOf i).toNat)
  case atStart => exact ⟨0, 0, by omega, rfl, rfl, rfl⟩
  case round =>
    obtain ⟨k, n, hk, rfl, rfl, rfl⟩ := hrel
    have hlU := runC_lt (v := 4294967295) (by omega) (ls.take k).flatten
    by_cases hlt : k < vs.length
    · obtain ⟨b, off, rfl, hb, hcell⟩ := HVA.out (by omega)
      replace hcell := hcell k hlt
      have hvk := HVE.out k (by rw [← HVL.out]; exact hlt)
      have HRF := Lib.hid (runC_flat 4294967295 ls k (by rw [← HVL.out]; exact hlt))
      rw [List.getElem?_eq_getElem hlt] at hcell
      rw [show vs.getD k (.bool false) = vs[k] by simp [List.getD_eq_getElem?_getD, hlt]] at hvk
      generalize vs[k] = u at *
      generalize ls.getD k [] = l at *
      generalize runC 4294967295 (ls.take k).flatten = U at *
      have hvk' : Seg w w.heap.size u (byteCells l) := hvk
      obtain ⟨A2, c2, rfl, hc2, hm2, hat⟩ := hvk'.open_bytes
      have HAT := Lib.hid hat; clear hat hvk hvk'
      go_wp2
      clear hcell
      go_loopw [3, 16] (fun s i wr => ∃ m p : Nat, m ≤ l.length ∧ i = .int .i64 m ∧ s = .int .u32 (runC U (l.take m) : Nat) ∧ wr = w.drewN p) (fun _ i _ => l.length - (intOf i).toNat)
      case atStart => exact ⟨0, n, by omega, rfl, rfl, rfl⟩
      case round =>
        obtain ⟨m, q, hmk, rfl, rfl, rfl⟩ := hrel
        have hlv := runC_lt hlU (l.take m)
        obtain ⟨V, hV⟩ : ∃ V, V = runC U (l.take m) := ⟨_, rfl⟩
        rw [← hV] at hlv
        rw [← hV]
        by_cases hml : m < l.length
        · obtain ⟨b2, off2, x, rfl, hb2, hcell, hx, Hx⟩ := HAT.out.byte hml
          have hx1 : bits .xor .u32 (V : Int) (x : Int) = ((V ^^^ x : Nat) : Int) := u32_xor_nat V x hlv (by omega)
          have hlX : V ^^^ x < 4294967296 := xor_lt32 hlv (by omega)
          have HN : Hid (runC U (l.take (m + 1)) = bitsC 8 (V ^^^ x)) := Lib.hid (by rw [hV]; exact take_byte l m x hml Hx.out _)
          clear hV
          go_wp2
          clear hx1 hcell
          generalize V ^^^ x = X at *
          obtain ⟨wo, hwo⟩ : ∃ wo : World, wo = w.drewN q := ⟨_, rfl⟩
          rw [← hwo]
          have HWO := Lib.hid hwo; clear hwo
          go_loopw [3, 24] (fun s i wr => ∃ j : Nat, j ≤ 8 ∧ i = .int .i64 j ∧ s = .int .u32 (bitsC j X : Nat) ∧ wr = wo) (fun _ i _ => 8 - (intOf i).toNat)
          case atStart => exact ⟨0, by omega, rfl, rfl, rfl⟩
          case round =>
            obtain ⟨j, hj, rfl, rfl, rfl⟩ := hrel
            have hlY := bitsC_lt hlX j
            by_cases hj8 : j < 8
            · have HO := Lib.hid (@bitsC_odd X j); have HE := Lib.hid (@bitsC_even X j)
              generalize bitsC j X = Y at *
              have hlY2 : Y / 2 < 4294967296 := by omega
              have hx2 : bits .xor .u32 ((Y : Int) / 2) 3988292384 = (((Y / 2) ^^^ 3988292384 : Nat) : Int) := by rw [show (Y : Int) / 2 = ((Y / 2 : Nat) : Int) by omega]; exact u32_xor_nat (Y / 2) 3988292384 hlY2 (by omega)
              have hx3 : bits .and .u32 (Y : Int) 1 = ((Y % 2 : Nat) : Int) := by rw [← nat_mask1]; exact u32_and_nat Y 1 hlY (by omega)
              by_cases hod : Y % 2 = 1
              · go_wp2
                go_roundw
                case rel =>
                  refine ⟨j + 1, by omega, by go_num, ?_, by first | rfl | trivial⟩
                  rw [HO.out hod]
                  try rfl
                case measure => simp [intOf]; omega
              · go_wp2
                go_roundw
                case rel =>
                  refine ⟨j + 1, by omega, by go_num, ?_, by first | rfl | trivial⟩
                  rw [HE.out hod]
                  try rfl
                case measure => simp [intOf]; omega
            · have hj8' : j = 8 := by omega
              subst hj8'
              go_wp2
              go_roundw
              case rel => exact ⟨m + 1, q, by omega, by go_num, by rw [HN.out], HWO.out⟩
              case measure => simp [intOf]; omega
        · have hml' : m = l.length := by omega
          have HV2 : Hid (runC U l = V) := Lib.hid (by rw [hV, hml', List.take_length])
          clear hV
          go_wp2
          go_roundw
          case rel => exact ⟨k + 1, q, by omega, by go_num, by rw [HRF.out, HV2.out], rfl⟩
          case measure => simp [intOf]; omega
    · have hkl : k = vs.length := by omega
      obtain ⟨V, hV⟩ : ∃ V, V = runC 4294967295 (ls.take k).flatten := ⟨_, rfl⟩
      rw [← hV] at hlU
      rw [← hV]
      have HC : Hid (crc ls.flatten = 4294967295 - V) := Lib.hid (by rw [hV, hkl, HVL.out, List.take_length]; rfl)
      clear hV hkl
      have hx4 := u32_flip V hlU
      go_wp2
      go_ret
      refine ⟨?_, n, rfl⟩
      rw [HC.out, show ((4294967295 - V : Nat) : Int) = 4294967295 - (V : Int) by omega]
      try rfl
end Go.Proofs.YtpdelgjfamelfaaGreat
