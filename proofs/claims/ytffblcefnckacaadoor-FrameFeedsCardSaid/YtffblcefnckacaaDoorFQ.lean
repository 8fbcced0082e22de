/- bytes.ContainsAny, at the set "\r\n". -/
import Derived.Test.YtffblcefnckacaaDoorFM
import Derived.Test.YtffblcefnckacaaDoorFP
import Derived.Test.YtffblcefnckacaaDoorShelfB
import Derived.Lib.IndexAny
import Derived.Lib.IndexBytes
import Derived.Laws.RangeString
import Derived.Laws.Strings3
import Derived.Deep.LoopGhost
import Derived.Shelf.Bytes.SlTrimWalks
namespace Go.Proofs.YtffblcefnckacaaDoor
open Go.RowKit Go.Lib Go.Vfs Go.Par Go.Frm Go.Shelf
set_option linter.unusedVariables false
set_option linter.unusedSimpArgs false

def Tabs (w : World) : Prop := Lib.Utf8Tabs 5 6 w
theorem Tabs.size {w : World} (h : Tabs w) : 7 ≤ w.heap.size := by
  have := World.block_lt_of_cell? _ _ (h.2 0 (by omega)).1
  exact this
theorem Tabs.keep {w w' : World} {B : Nat} (h : Tabs w) (hb : Below B w w') (hB : 7 ≤ B) : Tabs w' :=
  ⟨fun c hc => (hb.cell (p := ⟨5, c, none⟩) (by show 5 < B; omega)).trans (h.1 c hc),
   fun i hi => ⟨(hb.cell (p := ⟨6, 2 * i, none⟩) (by show 6 < B; omega)).trans (h.2 i hi).1, (hb.cell (p := ⟨6, 2 * i + 1, none⟩) (by show 6 < B; omega)).trans (h.2 i hi).2⟩⟩
theorem Tabs.below {w w' : World} (h : Tabs w) (hb : Below w.heap.size w w') : Tabs w' := h.keep hb h.size

theorem get!_toList (l : List UInt8) (j : Nat) (h : j < l.length) : ((⟨l.toArray⟩ : ByteArray).get! j) = l.getD j 0 := by
  simp [ByteArray.get!, h, List.getD_eq_getElem?_getD]
/-- utf8.DecodeRune at a slice that isn't empty, from the k-th of its bytes on. -/
theorem decode_at_any (b off cap k : Nat) (l : List UInt8) (w : World) (B : Nat) (h : At w B (some ⟨b, off, none⟩) l.length (fun i => .int .u8 (l.getD i 0).toNat)) (hk : k < l.length) (hT : Tabs w) :
    Calls Tryd.prog 81 #[.slice (some ⟨b, off + k, none⟩) (l.length - k) cap] w fun e w' => e = .returned (.tuple #[.int .i32 (Lib.decodeL (l.drop k)).1, .int .i64 (Lib.decodeL (l.drop k)).2]) ∧ Below w.heap.size w w' := by
  have hsz : (⟨(l.drop k).toArray⟩ : ByteArray).size = l.length - k := by simp [ByteArray.size]
  have := Any7.utf8_DecodeRune Tryd.lays7_32 ⟨(l.drop k).toArray⟩ b (off + k) cap w hT (fun j hj => by
    rw [hsz] at hj
    obtain ⟨b', off', e, _, hc⟩ := h (k + j) (by omega)
    injection e with e
    injection e with e1 e2
    subst e1 e2
    rw [get!_toList _ _ (by simp; omega), Nat.add_assoc, hc]
    simp [List.getD_eq_getElem?_getD, List.getElem?_drop])
  rw [hsz] at this
  have hd : Lib.decodeGo (⟨(l.drop k).toArray⟩ : ByteArray) = Lib.decodeL (l.drop k) := by
    unfold Lib.decodeGo
    rw [if_neg (by rw [hsz]; omega)]
    rfl
  rw [hd] at this
  exact this

def AnyPost (w : World) (l : List UInt8) (e : Ending) (w' : World) : Prop := ∃ i : Int, e = .returned (.int .i64 i) ∧ decide (0 ≤ i) = l.any crlf ∧ Below w.heap.size w w'

/-- bytealg.IndexByteString at the set. -/
theorem indexByte_set (x : Nat) (hx : x < 256) : ∃ i : Int, (∀ W, (callFunc 77 #[.string ⟨#[13, 10]⟩, .int .u8 (x : Int)]).run Tryd.prog W = .ok (.value (.int .i64 i)) W) ∧ decide (0 ≤ i) = decide (x = 13 ∨ x = 10) := by
  refine ⟨Lib.indexByte [13, 10] x.toUInt8, fun W => ?_, ?_⟩
  · rw [run_callFunc_extern Tryd.func77 (by kernel_rfl) (by kernel_rfl) (by kernel_rfl) (e := Extern.BytealgIndexByte.indexByte) (by kernel_rfl), Lib.run_indexByteString]
    simp only [Result.andThen, Int.toNat_natCast]
  · rw [← Lib.contains_iff_indexByte]
    have h256 : ∀ n : Fin 256, ([13, 10] : List UInt8).contains n.val.toUInt8 = decide (n.val = 13 ∨ n.val = 10) := by decide +kernel
    exact h256 ⟨x, hx⟩

set_option maxRecDepth 20000 in
set_option maxHeartbeats 2000000 in
theorem indexAny_one (b off c : Nat) (x : Nat) (l : List UInt8) (w : World) (hl : l.length = 1) (hc : 1 ≤ c) (hx : x < 256) (hc1 : w.cell? ⟨b, off, none⟩ = some (.int .u8 (x : Nat))) (hxl : (l.getD 0 0).toNat = x) :
    Calls Tryd.prog 56 #[.slice (some ⟨b, off, none⟩) 1 c, .string ⟨#[13, 10]⟩] w (AnyPost w l) := by
  have hany : l.any crlf = decide (x = 13 ∨ x = 10) := by
    obtain ⟨y, rfl⟩ := List.length_eq_one_iff.1 hl
    have := crlf_nat y
    rw [show y.toNat = x from hxl] at this
    simp [this]
  have HANY := Lib.hid hany
  clear hany hxl hl
  obtain ⟨ib, hib, hdec⟩ := indexByte_set x hx
  by_cases h128 : 128 ≤ x
  · have hn0 := fun ty => run_next_ascii (P := Tryd.prog) w ⟨#[13, 10]⟩ 0 ty (by decide) (by decide)
    have hn1 := fun ty => run_next_ascii (P := Tryd.prog) w ⟨#[13, 10]⟩ 1 ty (by decide) (by decide)
    have hn2 := fun ty => run_next_end (P := Tryd.prog) w ⟨#[13, 10]⟩ 2 ty (by decide)
    have g1 : (128 : Int) ≤ (x : Int) := by omega
    have HR : Hid (decide ((0 : Int) ≤ -1) = l.any crlf) := Lib.hid (by rw [HANY.out, decide_eq_false (by omega)]; exact (decide_eq_false (by omega)).symm)
    clear hib hdec
    go_enter Tryd.func56, Tryd.ntmps56
    go_wp2
    go_loopg [5] 2 (fun g r wx => ∃ i : Nat, i + g = 2 ∧ wx = w.iter ⟨#[13, 10]⟩ i ∧ ∃ z : Int, r = .int .i32 z)
    case atStart => exact ⟨0, by omega, rfl, _, rfl⟩
    case round =>
      obtain ⟨i, hig, rfl, z, rfl⟩ := hrel
      cases gk with
      | zero =>
        obtain rfl : i = 2 := by omega
        go_wp2
        go_ret
        exact ⟨_, rfl, HR.out, (Below.refl _ _).alloc (Nat.le_refl _) _⟩
      | succ g =>
        rcases (show i = 0 ∨ i = 1 by omega) with rfl | rfl
        · go_wp2
          go_roundg g
          case measure => omega
          case rel => exact ⟨1, by omega, rfl, _, rfl⟩
        · go_wp2
          go_roundg g
          case measure => omega
          case rel => exact ⟨2, by omega, rfl, _, rfl⟩
  · have g1 : ¬ (128 : Int) ≤ (x : Int) := by omega
    by_cases hi : (0 : Int) ≤ ib
    · have HR : Hid (decide ((0 : Int) ≤ 0) = l.any crlf) := Lib.hid (by rw [HANY.out, ← hdec, decide_eq_true hi]; decide)
      clear hdec
      go_enter Tryd.func56, Tryd.ntmps56
      go_wp2
      go_ret
      exact ⟨_, rfl, HR.out, Below.refl _ _⟩
    · have HR : Hid (decide ((0 : Int) ≤ -1) = l.any crlf) := Lib.hid (by rw [HANY.out, ← hdec, decide_eq_false hi]; decide)
      clear hdec
      go_enter Tryd.func56, Tryd.ntmps56
      go_wp2
      go_ret
      exact ⟨_, rfl, HR.out, Below.refl _ _⟩

set_option maxRecDepth 20000 in
theorem should_any (n : Int) (w : World) : Calls Tryd.prog 79 #[.int .i64 n] w fun e w' => e = .returned (.bool (decide (8 < n))) ∧ w' = w := by
  go_enter Tryd.func79, Tryd.ntmps79
  go_wp2
  go_ret
  exact ⟨rfl, rfl⟩
set_option maxRecDepth 20000 in
set_option maxHeartbeats 400000 in
theorem containsSet_any (b x : Nat) (v : Bool) (w : World) (hx : x < 256) (hc : w.cell? ⟨b, x, none⟩ = some (.bool v)) :
    Calls Tryd.prog 80 #[.pointer (some ⟨b, 0, none⟩), .int .u8 (x : Int)] w fun e w' => e = .returned (.bool v) ∧ w' = w := by
  have := Any.bytes_asciiSet_contains { Tryd.laysSlV6 with } b x.toUInt8 v w (by
    have : x.toUInt8.toNat = x := by simp; omega
    rw [this]; exact hc)
  have e : (x.toUInt8.toNat : Int) = x := by simp; omega
  rw [e] at this
  exact this

set_option maxRecDepth 1000000 in
set_option maxHeartbeats 8000000 in
theorem indexAny_long (A : Option Addr) (c : Nat) (l : List UInt8) (B : Nat) (w : World) (hc : l.length ≤ c) (hm : c ≤ 9223372036854775807) (ha : At w B A l.length (fun i => .int .u8 (l.getD i 0).toNat)) (hB : B ≤ w.heap.size) (h8 : 8 < l.length) :
    Calls Tryd.prog 56 #[.slice A l.length c, .string ⟨#[13, 10]⟩] w (AnyPost w l) := by
  have h93 : (Tryd.prog.info? 93).map (fun i => (i.zero, i.size)) = some (some (.agg (Array.replicate 256 (.bool false))), 256) := by kernel_rfl
  have hM : Calls Tryd.prog 65 #[.string ⟨#[13, 10]⟩] w fun e w' => e = .returned (.tuple #[.agg (Lib.setCells [13, 10]), .bool true]) ∧ w' = w.alloc (.cells (Lib.setCells [13, 10]) 93) := Any.bytes_makeASCIISet { Tryd.laysSlV6 with } (zero_of_info h93).1 (zero_of_info h93).2 ⟨#[13, 10]⟩ w (by decide) (by
    intro j b h
    match j with
    | 0 => cases h; decide
    | 1 => cases h; decide
    | k + 2 => cases h)
  have hsc : (storeCells ⟨w.heap.size + 1, 0, none⟩ (Lib.setCells [13, 10]).toList 0).run Tryd.prog ((w.alloc (.cells (Lib.setCells [13, 10]) 93)).alloc (.cells (Array.replicate 256 (.bool false)) 93)) = .ok () ((w.alloc (.cells (Lib.setCells [13, 10]) 93)).alloc (.cells (Lib.setCells [13, 10]) 93)) := by
    have := run_storeCells_new (P := Tryd.prog) (w.alloc (.cells (Lib.setCells [13, 10]) 93)) 93 (Array.replicate 256 (.bool false)) (Lib.setCells [13, 10]) (by rw [Lib.setCells_size]; exact (zero_of_info h93).2) (by rw [Lib.setCells_size, Array.size_replicate]) (Lib.setCells_one _)
    simpa using this
  have hsz := Lib.setCells_size [13, 10]
  have hcellAt : ∀ x : UInt8, ((w.alloc (.cells (Lib.setCells [13, 10]) 93)).alloc (.cells (Lib.setCells [13, 10]) 93)).cell? ⟨w.heap.size + 1, x.toNat, none⟩ = some (.bool (([13, 10] : List UInt8).contains x)) := fun x => by
    rw [World.cell?_alloc_at _ _ _ _ (by simp), Lib.setCells_at]
  have HC := Lib.hid hcellAt
  have hb2 : Below w.heap.size w ((w.alloc (.cells (Lib.setCells [13, 10]) 93)).alloc (.cells (Lib.setCells [13, 10]) 93)) := ((Below.refl _ _).alloc (Nat.le_refl _) _).alloc (by simp) _
  have ha2 := ha.below (hb2.mono hB)
  have h8z : (8 : Int) < (l.length : Int) := by omega
  have hn1 : ((l.length : Int) == 1) = false := beq_eq_false_iff_ne.2 (by omega)
  have hs1 : (([13, 10] : List UInt8).length : Int) = 2 := rfl
  have HB2 := Lib.hid hb2
  clear hcellAt ha hb2
  go_enter Tryd.func56, Tryd.ntmps56
  go_wp2_with (first
    | (go_at_call 79; refine (should_any _ _).mono ?_; rintro e w1 ⟨rfl, hw⟩; rw [hw])
    | (go_at_call 65; refine hM.mono ?_; rintro e w1 ⟨rfl, hw⟩; rw [hw]))
  have hzc : Tryd.zeroCells93 = Array.replicate 256 (.bool false) := by kernel_rfl
  rw [hzc, hsc]
  simp only [Result.andThen]
  rw [Oper.upon_skip]
  go_wp2
  obtain ⟨W, hW⟩ : ∃ W, W = ((w.alloc (.cells (Lib.setCells [13, 10]) 93)).alloc (.cells (Lib.setCells [13, 10]) 93)) := ⟨_, rfl⟩
  rw [← hW] at HC HB2 ha2 ⊢
  clear hM hsc hW
  go_loopw [62] (fun i wr => ∃ k : Nat, k ≤ l.length ∧ i = .int .i64 k ∧ Hid ((l.take k).any crlf = false) ∧ wr = W) (fun i _ => l.length - (intOf i).toNat)
  case atStart => exact ⟨0, by omega, rfl, Lib.hid (by simp), rfl⟩
  case round =>
    obtain ⟨k, hk, rfl, HN, rfl⟩ := hrel
    by_cases hlt : k < l.length
    · obtain ⟨b, off, x, rfl, hb, hc1, hx, Hx⟩ := ha2.byte hlt
      have HA := Lib.hid ha2; clear ha2
      have hcx := HC.out (l.getD k 0)
      rw [Hx.out] at hcx
      have hcr := crlf_nat (l.getD k 0)
      rw [Hx.out] at hcr
      have h256 : ∀ n : UInt8, ([13, 10] : List UInt8).contains n = crlf n := fun n => by unfold crlf; simp only [List.contains_cons, List.contains_nil, Bool.or_false]
      rw [h256, hcr] at hcx
      clear h256 hcr
      by_cases hq : x = 13 ∨ x = 10
      · rw [decide_eq_true hq] at hcx
        have HR : Hid (decide ((0 : Int) ≤ k) = l.any crlf) := Lib.hid (by
          rw [any_hit hlt (by rw [crlf_nat, Hx.out]; exact decide_eq_true hq)]; exact decide_eq_true (by omega))
        clear hq
        go_wp2_with (go_at_call 80; refine (containsSet_any _ x _ _ hx hcx).mono ?_; rintro e w' ⟨rfl, rfl⟩)
        go_ret
        exact ⟨_, rfl, HR.out, HB2.out⟩
      · rw [decide_eq_false hq] at hcx
        have HT : Hid ((l.take (k + 1)).any crlf = false) := Lib.hid (any_one hlt HN.out (by rw [crlf_nat, Hx.out]; exact decide_eq_false hq))
        clear hq
        go_wp2_with (go_at_call 80; refine (containsSet_any _ x _ _ hx hcx).mono ?_; rintro e w' ⟨rfl, rfl⟩)
        go_roundw
        case rel => exact ⟨k + 1, by omega, by go_num, HT, trivial⟩
        case measure => simp [intOf]; omega
    · have hkl : k = l.length := by omega
      have HR : Hid (decide ((0 : Int) ≤ -1) = l.any crlf) := Lib.hid (by
        have h := HN.out
        rw [hkl, List.take_of_length_le (Nat.le_refl _)] at h
        rw [h]; decide)
      clear hkl
      go_wp2
      go_ret
      exact ⟨_, rfl, HR.out, HB2.out⟩

end Go.Proofs.YtffblcefnckacaaDoor
