import Derived.Test.YtdldkidccjkhgaaDoorRefS
import Derived.Test.YtdldkidccjkhgaaDoorUtfX
import Derived.Test.YtdldkidccjkhgaaDoorU8j
namespace Go.Proofs.YtdldkidccjkhgaaDoor
open Go.RowKit Go.Par
set_option linter.unusedVariables false

/-- what the reference's 'units' leaves: one new row. -/
def unitsWorld (w : World) (r : Int) : World := w.alloc (.cells (ints (unitsZ r)).toArray 3)
def unitsVal (w : World) (r : Int) : Value := .slice (some ⟨w.heap.size, 0, none⟩) (unitsZ r).length (unitsZ r).length

set_option maxHeartbeats 400000 in
theorem refUnit1_any (r : Int) (h0 : 0 ≤ r) (hm : r ≤ 1114111) (w : World) :
    Calls Tryd.prog 56 #[.int .i64 r] w fun e w' => e = .returned (unitsVal w r) ∧ unitsWorld w r = w' := by
  unfold unitsWorld unitsVal unitsZ
  by_cases h1 : r < 65536
  · rw [if_pos h1]
    go_enter Tryd.func56, Tryd.ntmps56
    go_wp2
    go_ret
    exact ⟨rfl, rfl⟩
  · rw [if_neg h1]
    go_enter Tryd.func56, Tryd.ntmps56
    go_wp2
    go_ret
    exact ⟨rfl, rfl⟩

theorem seg_units (w : World) (r : Int) : Seg (unitsWorld w r) (w.heap.size + 1) (unitsVal w r) (ints (unitsZ r)) := by
  have := Seg.new w 3 (ints (unitsZ r)).toArray (ints (unitsZ r)) rfl (by rw [ints_length, unitsZ_len]; split <;> simp [maxLen])
  rwa [ints_length] at this
theorem seg_bytes (w : World) (r : Int) : Seg (bytesWorld w r) (w.heap.size + 1) (bytesVal w r) (Lib.byteCells (Lib.encodeRune r)) := by
  have := Seg.new w 5 (Lib.byteCells (Lib.encodeRune r)).toArray (Lib.byteCells (Lib.encodeRune r)) rfl (by rw [Lib.byteCells_length]; have := enc_le r; simp [maxLen]; omega)
  rwa [Lib.byteCells_length] at this

set_option maxRecDepth 20000 in
set_option maxHeartbeats 1000000 in
theorem refUnits_ok (s : ByteArray) (rs : List Int) (hl : s.data.toList = txt rs) (ha : AllR rs) (w : World) (hlen : s.size ≤ 100000) :
    Calls Tryd.prog 28 #[.string s] w (ListPost0 w (some (units rs))) := by
  have hrl : rs.length ≤ 100000 := by have h1 := txt_length_le rs; have h2 := txt_size s rs hl; omega
  have hr := refRunes_any s rs [] (by rw [hl]; simp) ha (.inl rfl) w (by omega) (some rs) (Lib.hid ⟨fun _ => rfl, fun h => absurd rfl h⟩)
  have HR := Lib.hid hr; clear hr hl
  go_enter Tryd.func28, Tryd.ntmps28
  go_wp2_with fail
  refine HR.out.mono ?_
  rintro e w1 ⟨hb1, v1, rfl, hown1⟩
  obtain ⟨A, c, rfl, hc, hcm, hat⟩ := hown1.seg.open_ints
  have hz1 := hb1.size
  clear HR hown1
  go_wp2
  go_loopw [6, 7] (fun u i wr => ∃ k : Nat, k ≤ rs.length ∧ i = .int .i64 k ∧ Par.Own wr w1.heap.size 3 u (ints (units (rs.take k))) ∧ Below w1.heap.size w1 wr) (fun _ i _ => rs.length - (intOf i).toNat)
  case atStart => exact ⟨0, by omega, rfl, Par.Own.new w1 w1.heap.size 3 #[] [] rfl (Nat.le_refl _) (by simp), (Below.refl _ _).alloc (Nat.le_refl _) _⟩
  case round =>
    obtain ⟨k, hk, rfl, hown, hbw⟩ := hrel
    have hsz := hbw.size
    by_cases hlt : k < rs.length
    · obtain ⟨b, off, x, rfl, hb, hcell, Hx⟩ := (hat.below hbw).int hlt
      have hR : isR x = true := by rw [← Hx.out]; exact isR_getD ha k hlt
      obtain ⟨hx0, hx1, _⟩ := isR_iff.1 hR
      have hown2 : Par.Own (unitsWorld wr x) w1.heap.size 3 _ _ := hown.alloc _
      have hsg := seg_units wr x
      have hul : (units (rs.take k)).length ≤ 2 * rs.length := by
        have h1 : ∀ l : List Int, (units l).length ≤ 2 * l.length := fun l => by
          induction l with
          | nil => simp [units]
          | cons r rs ih => have := unitsZ_len r; rw [units_cons]; simp; split at this <;> omega
        have := h1 (rs.take k); simp at this; omega
      have huz := unitsZ_len x
      have HUZ := Lib.hid huz
      have huz2 : (unitsZ x).length ≤ 2 := by rw [huz]; split <;> omega
      have hbu : Below w1.heap.size w1 (unitsWorld wr x) := hbw.alloc hsz _
      have hzu : w1.heap.size ≤ (unitsWorld wr x).heap.size := hbu.size
      clear hat huz
      go_wp2_with (first | (go_at_call 56; refine (refUnit1_any x hx0 hx1 _).mono ?_; rintro e w' ⟨rfl, rfl⟩) | (at_builtin; refine wpList_app _ rfl _ _ _ rfl w1.heap.size 3 _ intE _ _ rfl hown2 _ _ _ rfl hsg (one_ints _) ?c1 ?c2 ?_))
      case c1 => rw [ints_length, ints_length]; omega
      case c2 => exact hzu
      intro v3 w3 hown4 hg3 hat3
      have hb3 : Below w1.heap.size w1 w3 := below_app hbu hown2 hg3 hzu
      go_wp2
      go_roundw
      case rel => exact ⟨k + 1, by omega, by go_num, by rw [take_getD rs k hlt, Hx.out, units_append, ints_append]; simpa [units] using hown4, hb3⟩
      case measure => simp [intOf]; omega
    · have hkl : k = rs.length := by omega
      have HKL := Lib.hid hkl; clear hkl hat
      go_wp2
      go_ret2
      rw [HKL.out, take_all] at hown
      exact ⟨hb1.trans (hbw.mono hz1), _, rfl, hown.base hz1⟩

set_option maxHeartbeats 400000 in
theorem refUnits_bad (s : ByteArray) (rs : List Int) (rest : List UInt8) (hl : s.data.toList = txt rs ++ rest) (ha : AllR rs) (hbad : Bad rest) (w : World) (hlen : s.size ≤ 100000) :
    Calls Tryd.prog 28 #[.string s] w (ListPost0 w none) := by
  have hr := refRunes_any s rs rest hl ha (.inr hbad) w (by omega) none (Lib.hid ⟨fun h => absurd h hbad.1, fun _ => rfl⟩)
  have HR := Lib.hid hr; clear hr hl
  go_enter Tryd.func28, Tryd.ntmps28
  go_wp2_with fail
  refine HR.out.mono ?_
  rintro e w1 ⟨hb1, rfl⟩
  go_wp2
  go_ret2
  exact ⟨hb1, rfl⟩
end Go.Proofs.YtdldkidccjkhgaaDoor
