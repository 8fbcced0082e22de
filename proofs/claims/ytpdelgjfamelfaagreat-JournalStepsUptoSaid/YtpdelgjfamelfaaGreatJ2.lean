/- Numbers in four bytes; frames of a payload. -/
import Derived.Test.YtpdelgjfamelfaaGreatJ1
import Derived.Deep.QuietTactic
import Derived.BigQuiet
import Derived.Lib.AppendZeros
namespace Go.Par
set_option linter.unusedVariables false
/-- a number's four bytes. -/
def be4 (n : Nat) : List UInt8 := [(n / 16777216 % 256).toUInt8, (n / 65536 % 256).toUInt8, (n / 256 % 256).toUInt8, (n % 256).toUInt8]
theorem be4_length (n : Nat) : (be4 n).length = 4 := rfl
/-- the number of the first four bytes. -/
def num4 (l : List UInt8) : Nat := (l.getD 0 0).toNat * 16777216 + (l.getD 1 0).toNat * 65536 + (l.getD 2 0).toNat * 256 + (l.getD 3 0).toNat
theorem num4_lt (l : List UInt8) : num4 l < 4294967296 := by
  unfold num4
  have h0 := (l.getD 0 0).toNat_lt; have h1 := (l.getD 1 0).toNat_lt; have h2 := (l.getD 2 0).toNat_lt; have h3 := (l.getD 3 0).toNat_lt
  omega
theorem u8_mod (n : Nat) : ((n % 256).toUInt8).toNat = n % 256 := by simp [Nat.toUInt8, UInt8.toNat_ofNat']
theorem num4_be4 (n : Nat) (h : n < 4294967296) (r : List UInt8) : num4 (be4 n ++ r) = n := by
  unfold num4 be4
  simp
  omega
end Go.Par

namespace Go.Proofs.YtpdelgjfamelfaaGreat
open Go.RowKit Go.Lib Go.Vfs Go.Par
set_option linter.unusedVariables false
set_option linter.unusedSimpArgs false

set_option maxRecDepth 20000 in
set_option maxHeartbeats 1000000 in
theorem number_any (n : Nat) (hn : n < 4294967296) (w : World) :
    Calls Tryz.prog 64 #[.int .u32 (n : Nat)] w fun e w' => ∃ A c, e = .returned (.slice A 4 c) ∧ Par.Own w' w.heap.size 5 (.slice A 4 c) (byteCells (be4 n)) ∧ Below w.heap.size w w' := by
  go_enter Tryz.func64, Tryz.ntmps64
  go_wp2
  go_ret
  have hbc : byteCells (be4 n) = [.int .u8 ((n : Int) / 16777216), .int .u8 ((n : Int) / 65536 % 256), .int .u8 ((n : Int) / 256 % 256), .int .u8 ((n : Int) % 256)] := by
    unfold byteCells be4
    simp only [List.map_cons, List.map_nil, u8_mod]
    rw [show n / 16777216 % 256 = n / 16777216 by omega]
    rfl
  refine ⟨some ⟨w.heap.size, 0, none⟩, 4, rfl, ?_, box_below w _⟩
  rw [hbc]
  exact Par.Own.new w w.heap.size 5 _ _ rfl (Nat.le_refl _) (by simp [maxLen])

theorem or_nat32 (i x y : Nat) (hi : i < 32) (hx : x % 2 ^ i = 0) (hy : y < 2 ^ i) (hl : x < 4294967296) : bits .or .u32 (x : Int) (y : Int) = ((x + y : Nat) : Int) := by
  have h32 : (2 : Nat) ^ i ≤ 2 ^ 32 := Nat.pow_le_pow_right (by omega) (by omega)
  rw [u32_or_nat x y hl (by omega), nat_join i x y hx hy]
theorem or4 (x0 x1 x2 x3 : Nat) (h0 : x0 < 256) (h1 : x1 < 256) (h2 : x2 < 256) (h3 : x3 < 256) :
    bits .or .u32 (bits .or .u32 (bits .or .u32 ((x0 : Int) * 16777216) ((x1 : Int) * 65536)) ((x2 : Int) * 256)) (x3 : Int) = ((x0 * 16777216 + x1 * 65536 + x2 * 256 + x3 : Nat) : Int) := by
  rw [show (x0 : Int) * 16777216 = ((x0 * 16777216 : Nat) : Int) by omega, show (x1 : Int) * 65536 = ((x1 * 65536 : Nat) : Int) by omega, show (x2 : Int) * 256 = ((x2 * 256 : Nat) : Int) by omega]
  rw [or_nat32 24 _ _ (by omega) (by omega) (by omega) (by omega), or_nat32 16 _ _ (by omega) (by omega) (by omega) (by omega), or_nat32 8 _ _ (by omega) (by omega) (by omega) (by omega)]
set_option maxRecDepth 20000 in
set_option maxHeartbeats 1000000 in
theorem value_any (v : Value) (l : List UInt8) (B : Nat) (w : World) (hsg : Seg w B v (byteCells l)) (hl : 4 ≤ l.length) :
    Calls Tryz.prog 76 #[v] w fun e w' => e = .returned (.int .u32 (num4 l : Nat)) ∧ ∃ n, w' = w.drewN n := by
  obtain ⟨A, c, rfl, hc, hm, hat⟩ := hsg.open_bytes
  obtain ⟨b, off, x0, rfl, hb, hc0, hx0, Hx0⟩ := hat.byte (show 0 < l.length by omega)
  obtain ⟨_, _, x1, h1, -, hc1, hx1, Hx1⟩ := hat.byte (show 1 < l.length by omega)
  cases h1
  obtain ⟨_, _, x2, h2, -, hc2, hx2, Hx2⟩ := hat.byte (show 2 < l.length by omega)
  cases h2
  obtain ⟨_, _, x3, h3, -, hc3, hx3, Hx3⟩ := hat.byte (show 3 < l.length by omega)
  cases h3
  clear hat hsg
  have g0 : 0 < l.length := by omega
  have g1 : 1 < l.length := by omega
  have g2 : 2 < l.length := by omega
  have g3 : 3 < l.length := by omega
  simp only [Nat.add_zero] at hc0
  go_enter Tryz.func76, Tryz.ntmps76
  go_wp2
  go_quiet (fail)
  go_wp2
  go_ret
  refine ⟨?_, nq, rfl⟩
  have e : num4 l = x0 * 16777216 + x1 * 65536 + x2 * 256 + x3 := by unfold num4; rw [Hx0.out, Hx1.out, Hx2.out, Hx3.out]
  rw [e, ← or4 x0 x1 x2 x3 hx0 hx1 hx2 hx3]
  rfl

/- frames. -/
def frameB (gen : Nat) (p : List UInt8) : List UInt8 := be4 gen ++ be4 p.length ++ be4 (crc (be4 gen ++ be4 p.length ++ p)) ++ p
theorem frameB_length (gen : Nat) (p : List UInt8) : (frameB gen p).length = 12 + p.length := by unfold frameB; simp [be4_length]; omega
theorem slice_nil0 (c : Nat) (w : World) : (Instr.slice 22 (.slice none 0 0) none (some (.int .i64 0)) none).run Tryz.prog w = .ok (.slice none 0 0) w := slice_front none 0 0 0 w (Nat.le_refl _)

set_option maxRecDepth 20000 in
set_option maxHeartbeats 1000000 in
theorem grow_any (n : Nat) (hn : n ≤ 2147483648) (w : World) :
    Calls Tryz.prog 92 #[.slice none 0 0, .int .i64 (n : Nat)] w fun e w' => ∃ A c, e = .returned (.slice A 0 c) ∧ Par.Own w' w.heap.size 5 (.slice A 0 c) [] ∧ Below w.heap.size w w' := by
  by_cases h0 : n = 0
  · subst h0
    go_enter Tryz.func92, Tryz.ntmps92
    go_wp2
    go_ret
    exact ⟨none, 0, rfl, Par.Own.nil _ _ _, Below.refl _ _⟩
  · obtain ⟨i, bytes, hi, hz, hsz, hby, hbb⟩ := byteE.info
    have hr := Lib.run_append_nil_zeros (P := Tryz.prog) w 22 3 22 5 i (.int .u8 0) .i64 .i64 Tryz.underlying22 Tryz.underlying3 hi hz n (by omega) (by omega) (by omega) (Nat.le_trans (Nat.mul_le_mul hn (by omega : i.bytes ≤ 64)) (by decide))
    have hge := grownCap_ge w n 0 5
    have hle := grownCap_le_maxLen w n 0 5 (by unfold maxLen; omega)
    have hp : (0 : Int) < (n : Int) := by omega
    have hsl0 := fun w' => slice_front none 0 0 0 w' (Nat.le_refl _)
    have hzl : (Builtin.zeroCells (Value.int IntKind.u8 0).cells n ++ Builtin.zeroCells (Value.int IntKind.u8 0).cells (grownCap w n 0 5 - n)).size = grownCap w n 0 5 := by
      have hz1 : (Value.int IntKind.u8 0).cells.size = 1 := rfl
      simp only [Array.size_append, size_zeroCells, hz1]
      omega
    have HO : Hid (∀ A c, A = some ⟨w.heap.size, 0, none⟩ → c = grownCap w n 0 5 → Par.Own (w.drew.alloc (.cells (Builtin.zeroCells (Value.int IntKind.u8 0).cells n ++ Builtin.zeroCells (Value.int IntKind.u8 0).cells (grownCap w n 0 5 - n)) 5)) w.heap.size 5 (.slice A 0 c) []) := Lib.hid (by
      rintro A c rfl rfl
      exact ⟨rfl, .inr ⟨w.heap.size, _, _, rfl, Nat.le_refl _, heap_alloc_new w.drew _, Nat.zero_le _, hle, by rw [hzl]; omega, by simp⟩⟩)
    generalize hX : Builtin.zeroCells (Value.int IntKind.u8 0).cells n ++ Builtin.zeroCells (Value.int IntKind.u8 0).cells (grownCap w n 0 5 - n) = X at *
    generalize hG : grownCap w n 0 5 = G at *
    have hsl1 := fun w' => slice_front (some ⟨w.heap.size, 0, none⟩) n G 0 w' (Nat.zero_le _)
    simp only [Int.natCast_zero] at hsl0 hsl1
    clear hX hG hzl hge hle h0 hi hz hsz hby
    go_enter Tryz.func92, Tryz.ntmps92
    go_wp2_with (at_builtin; refine Lib.wpList_append_run _ rfl _ _ _ _ rfl _ _ rfl rfl _ _ hr ?_)
    clear hr
    go_wp2
    go_ret
    exact ⟨_, _, rfl, HO.out _ _ rfl rfl, ((Below.refl _ w).drew).alloc (Nat.le_refl _) _⟩
end Go.Proofs.YtpdelgjfamelfaaGreat
