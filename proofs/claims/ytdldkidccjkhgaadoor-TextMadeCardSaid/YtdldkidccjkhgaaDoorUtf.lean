import Derived.Test.YtdldkidccjkhgaaDoorApp
import Derived.Test.YtdldkidccjkhgaaDoorU8b
import Derived.Test.YtdldkidccjkhgaaDoorShelf
import Derived.WalkLawsBesides
import Derived.WalkSpells
import Derived.Outline
import Derived.BigQuiet
import Derived.BigCall
import Derived.Deep.QuietTactic
import Derived.Lib.OthersKept
namespace Go.Proofs.YtdldkidccjkhgaaDoor
open Go.RowKit Go.Par

theorem intE : Elem Tryd.prog 23 3 (.int .i64 0) := elem_of (b := 8) Tryd.underlying23 (by kernel_rfl) (by decide) rfl
theorem byteE : Elem Tryd.prog 29 5 (.int .u8 0) := elem_of (b := 1) Tryd.underlying29 (by kernel_rfl) (by decide) rfl

/-- the two tables of unicode/utf8 lie as the library lays them. -/
def Tabs (w : World) : Prop := Lib.Utf8Tabs 0 1 w
theorem Tabs.size {w : World} (h : Tabs w) : 2 ≤ w.heap.size := by
  have := World.block_lt_of_cell? _ _ (h.2 0 (by omega)).1
  exact this
theorem Tabs.keep {w w' : World} {B : Nat} (h : Tabs w) (hb : Below B w w') (hB : 2 ≤ B) : Tabs w' :=
  ⟨fun c hc => (hb.cell (p := ⟨0, c, none⟩) (by show 0 < B; omega)).trans (h.1 c hc),
   fun i hi => ⟨(hb.cell (p := ⟨1, 2 * i, none⟩) (by show 1 < B; omega)).trans (h.2 i hi).1, (hb.cell (p := ⟨1, 2 * i + 1, none⟩) (by show 1 < B; omega)).trans (h.2 i hi).2⟩⟩
theorem Tabs.below {w w' : World} (h : Tabs w) (hb : Below w.heap.size w w') : Tabs w' := h.keep hb h.size

/-- utf8.ValidString -/
theorem valid_any (s : ByteArray) (w : World) (hs : s.size ≤ 9223372036854775807) (hT : Tabs w) :
    Calls Tryd.prog 52 #[.string s] w fun e w' => e = .returned (.bool (Lib.validD s.data.toList)) ∧ Below w.heap.size w w' :=
  Any.utf8_ValidString Tryd.lays196 s w hs hT

set_option maxHeartbeats 400000 in
theorem add_small (v : Value) (us : List Int) (m : Nat) (base : Nat) (w : World) (hown : Own w base 3 v (ints us)) (hm : m < 65536) (hl : us.length ≤ 1000000) (hB : base ≤ w.heap.size) :
    Calls Tryd.prog 53 #[v, .int .i64 m] w fun e w' => ∃ v', e = .returned v' ∧ Own w' base 3 v' (ints (us ++ unitsZ m)) ∧ Below base w w' := by
  have hmi : (m : Int) < 65536 := by omega
  have hu : unitsZ m = [(m : Int)] := by unfold unitsZ; rw [if_pos hmi]
  have hown' := hown.alloc (.cells #[.int .i64 m] 3)
  have hsg := Seg.new w 3 #[.int .i64 m] (ints [(m : Int)]) rfl (by simp [ints, maxLen])
  have HU := Lib.hid hu; clear hu
  go_enter Tryd.func53, Tryd.ntmps53
  go_wp2_with (at_builtin; refine wpList_app _ rfl _ _ _ rfl base 3 _ intE v (ints us) rfl hown' _ _ (ints [(m : Int)]) rfl hsg (one_ints _) ?c1 ?c2 ?_)
  case c1 => rw [ints_length, ints_length]; simp; omega
  case c2 => first | omega | (simp; omega)
  intro v1 w1 hown1 hg1 hat1
  go_wp2
  go_ret
  refine ⟨v1, rfl, ?_, below_app ((Below.refl base w).alloc hB _) hown' hg1 (by simp; omega)⟩
  rw [HU.out, ints_append]
  exact hown1

theorem and1023 (a : Nat) (h : a < 9223372036854775808) : bits .and .i64 (a : Int) 1023 = ((a % 1024 : Nat) : Int) := by
  have e : (BitVec.ofInt 64 (a : Int)).toNat = a := by rw [BitVec.ofInt_natCast, BitVec.toNat_ofNat]; exact Nat.mod_eq_of_lt (by omega)
  show IntKind.i64.wrap ((BitVec.ofInt 64 (a : Int) &&& BitVec.ofInt 64 1023).toNat : Int) = _
  rw [BitVec.toNat_and, e, show (BitVec.ofInt 64 1023).toNat = 2 ^ 10 - 1 from by decide, Nat.and_two_pow_sub_one_eq_mod, IntKind.wrap_i64]
  omega

set_option maxHeartbeats 400000 in
theorem add_wide (v : Value) (us : List Int) (m : Nat) (base : Nat) (w : World) (hown : Own w base 3 v (ints us)) (hm : 65536 ≤ m) (hm2 : m ≤ 1114111) (hl : us.length ≤ 1000000) (hB : base ≤ w.heap.size) :
    Calls Tryd.prog 53 #[v, .int .i64 m] w fun e w' => ∃ v', e = .returned v' ∧ Own w' base 3 v' (ints (us ++ unitsZ m)) ∧ Below base w w' := by
  have hmi : ¬ (m : Int) < 65536 := by omega
  have hand : bits .and .i64 ((m : Int) - 65536) 1023 = ((m : Int) - 65536) % 1024 := by
    have := and1023 (m - 65536) (by omega)
    rw [show ((m : Int) - 65536) = ((m - 65536 : Nat) : Int) by omega, this]; omega
  have hu : unitsZ m = [55296 + ((m : Int) - 65536) / 1024, 56320 + ((m : Int) - 65536) % 1024] := by unfold unitsZ; rw [if_neg hmi]
  have hown' := hown.alloc (.cells #[.int .i64 (55296 + ((m : Int) - 65536) / 1024), .int .i64 (56320 + ((m : Int) - 65536) % 1024)] 3)
  have hsg := Seg.new w 3 #[.int .i64 (55296 + ((m : Int) - 65536) / 1024), .int .i64 (56320 + ((m : Int) - 65536) % 1024)] (ints [55296 + ((m : Int) - 65536) / 1024, 56320 + ((m : Int) - 65536) % 1024]) rfl (by simp [ints, maxLen])
  have HU := Lib.hid hu; clear hu
  go_enter Tryd.func53, Tryd.ntmps53
  go_wp2_with (at_builtin; refine wpList_app _ rfl _ _ _ rfl base 3 _ intE v (ints us) rfl hown' _ _ (ints [55296 + ((m : Int) - 65536) / 1024, 56320 + ((m : Int) - 65536) % 1024]) rfl hsg (one_ints _) ?c1 ?c2 ?_)
  case c1 => rw [ints_length, ints_length]; simp; omega
  case c2 => first | omega | (simp; omega)
  intro v1 w1 hown1 hg1 hat1
  go_wp2
  go_ret
  refine ⟨v1, rfl, ?_, below_app ((Below.refl base w).alloc hB _) hown' hg1 (by simp; omega)⟩
  rw [HU.out, ints_append]
  exact hown1

theorem add_any (v : Value) (us : List Int) (m : Nat) (base : Nat) (w : World) (hown : Own w base 3 v (ints us)) (hm2 : m ≤ 1114111) (hl : us.length ≤ 1000000) (hB : base ≤ w.heap.size) :
    Calls Tryd.prog 53 #[v, .int .i64 m] w fun e w' => ∃ v', e = .returned v' ∧ Own w' base 3 v' (ints (us ++ unitsZ m)) ∧ Below base w w' := by
  by_cases hm : m < 65536
  · exact add_small v us m base w hown hm hl hB
  · exact add_wide v us m base w hown (by omega) hm2 hl hB

/-- an own row stands while a string's iterator moves on. -/
theorem own_iterAt {w : World} {base : Nat} {e : TypeId} {v : Value} {xs : List Value} (h : Own w base e v xs) {k : Nat} {s : ByteArray} {pos : Nat} (hk : w.heap[k]? = some (.stringIter s pos)) (pos' : Nat) :
    Own (w.iterAt k s pos') base e v xs := by
  refine ⟨h.1, ?_⟩
  rcases h.2 with h0 | ⟨g, cap, cur, hv, hg, hh, r⟩
  · exact .inl h0
  · refine .inr ⟨g, cap, cur, hv, hg, ?_, r⟩
    rw [Lib.iterAt_other _ _ _ _ _ (fun e => by subst e; rw [hk] at hh; cases hh)]
    exact hh

set_option maxHeartbeats 400000 in
theorem units_ok (s : ByteArray) (rs : List Int) (hs : s.data.toList = txt rs) (ha : AllR rs) (w : World) (hT : Tabs w) (hl : s.size ≤ 100000) :
    Calls Tryd.prog 20 #[.string s] w fun e w' => ∃ v, e = .returned (.tuple #[v, .int .i64 0]) ∧ Own w' w.heap.size 3 v (ints (units rs)) ∧ Below w.heap.size w w' := by
  have hv : Lib.validD s.data.toList = true := by rw [hs]; exact validD_of ha
  have HS := Lib.hid hs; clear hs
  have HV := Lib.hid hv; clear hv
  go_enter Tryd.func20, Tryd.ntmps20
  go_wp2_with fail
  refine (valid_any s w (by omega) hT).mono ?_
  rintro e w1 ⟨rfl, hb1⟩
  rw [HV.out]
  go_wp2
  go_loopw [4] (fun v wr => ∃ k, k ≤ rs.length ∧ Own wr (w1.heap.size + 1) 3 v (ints (units (rs.take k))) ∧ wr.heap[w1.heap.size]? = some (.stringIter s (txt (rs.take k)).length) ∧ Below w1.heap.size w1 wr) (fun _ wr => s.size - wr.iterPos w1.heap.size)
  case atStart => exact ⟨0, by omega, Own.nil _ _ _, World.iter_heap w1 s 0, (Below.refl _ _).alloc (Nat.le_refl _) _⟩
  case round =>
    obtain ⟨k, hk, hown, hit, hbw⟩ := hrel
    have hsz : w1.heap.size < wr.heap.size := (Array.getElem?_eq_some_iff.1 hit).1
    by_cases hlt : k < rs.length
    · obtain ⟨m, hrk, hm, hR, hp, hd, hnext⟩ := rune_at s rs HS.out ha k hlt
      have hnx : ∀ ty, (Instr.next (.pointer (some ⟨w1.heap.size, 0, none⟩)) true ty).run Tryd.prog wr = _ := fun ty => Lib.run_next_any_at wr (w1.heap.size) s _ ty hit hp
      rw [hd] at hnx
      dsimp only at hnx
      rw [hnext] at hnx
      have hit2 := Lib.iterAt_heap wr (w1.heap.size) s _ (txt (rs.take (k + 1))).length hit
      have hb2 := Lib.below_iterAt hbw (k := w1.heap.size) (by omega) s (txt (rs.take (k + 1))).length
      have hown2 := own_iterAt hown hit (txt (rs.take (k + 1))).length
      have hul := (units_le (rs.take k) (ha.take k)).2.1
      have hz2 : w1.heap.size + 1 ≤ (wr.iterAt w1.heap.size s (txt (rs.take (k + 1))).length).heap.size := by rw [Lib.iterAt_size]; omega
      have HIT := Lib.hid hit; clear hit
      have HD := Lib.hid hd; clear hd
      have HN := Lib.hid hnext; clear hnext
      have HK := Lib.hid hrk; clear hrk
      have HI2 := Lib.hid hit2; clear hit2
      go_wp2_with (go_at_call 53; refine (add_any _ _ m (w1.heap.size + 1) _ hown2 hm (by omega) hz2).mono ?_; rintro e w2 ⟨v2, rfl, hown3, hb3⟩)
      go_wp2
      have hit3 : w2.heap[w1.heap.size]? = some (.stringIter s (txt (rs.take (k + 1))).length) := (hb3.block _ (by omega)).trans HI2.out
      go_roundw
      case rel => exact ⟨k + 1, by omega, by rw [take_snoc rs k m HK.out, units_append]; simpa [units] using hown3, hit3, hb2.trans (hb3.mono (by omega))⟩
      case measure =>
        have h1 := HN.out
        have h2 := enc_pos m
        simp only [World.iterPos, hit3, HIT.out]
        omega
    · have hkl : k = rs.length := by omega
      have hend : ¬ (txt (rs.take k)).length < s.size := by rw [hkl, take_all, txt_size s rs HS.out]; omega
      have hnx : ∀ ty, (Instr.next (.pointer (some ⟨w1.heap.size, 0, none⟩)) true ty).run Tryd.prog wr = _ := fun ty => Lib.run_next_end_at wr (w1.heap.size) s _ ty hit hend
      have HKL := Lib.hid hkl; clear hkl
      have HIT := Lib.hid hit; clear hit
      go_wp2
      go_ret2
      refine ⟨_, rfl, ?_, hb1.trans (hbw.mono hb1.size)⟩
      rw [HKL.out, take_all] at hown
      exact hown.base (by have := hb1.size; omega)
end Go.Proofs.YtdldkidccjkhgaaDoor
