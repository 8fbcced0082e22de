import Derived.Test.YtdldkidccjkhgaaDoorUtfTextsWalk
import Derived.Test.YtdldkidccjkhgaaDoorUtfJ
namespace Go.Proofs.YtdldkidccjkhgaaDoor
open Go.RowKit Go.Par
set_option linter.unusedVariables false

theorem txt_le4 (l : List Int) : (txt l).length ≤ 4 * l.length := by
  induction l with
  | nil => simp [txt]
  | cons r rs ih => have := enc_le r; rw [txt_cons]; simp; omega

set_option maxHeartbeats 400000 in
theorem refText_ok (v : Value) (zs : List Int) (ha : AllR zs) (B : Nat) (w : World) (hsg : Seg w B v (ints zs)) (hB : B ≤ w.heap.size) (hl : zs.length ≤ 100000) :
    Calls Tryd.prog 36 #[v] w fun e w' => e = .returned (.tuple #[.string ⟨(txt zs).toArray⟩, .int .i64 0]) ∧ Below w.heap.size w w' := by
  obtain ⟨A, c, rfl, hc, hm, hat⟩ := hsg.open_ints
  clear hsg
  go_enter Tryd.func36, Tryd.ntmps36
  go_wp2
  go_loopw [4, 5] (fun u i wr => ∃ k : Nat, k ≤ zs.length ∧ i = .int .i64 k ∧ Par.Own wr w.heap.size 5 u (Lib.byteCells (txt (zs.take k))) ∧ Below w.heap.size w wr) (fun _ i _ => zs.length - (intOf i).toNat)
  case atStart => exact ⟨0, by omega, rfl, Par.Own.new w w.heap.size 5 #[] [] rfl (Nat.le_refl _) (by simp), (Below.refl _ _).alloc (Nat.le_refl _) _⟩
  case round =>
    obtain ⟨k, hk, rfl, hown, hbw⟩ := hrel
    have hsz := hbw.size
    by_cases hlt : k < zs.length
    · obtain ⟨b, off, x, rfl, hb, hcell, Hx⟩ := (hat.below (hbw.mono hB)).int hlt
      have hR : isR x = true := by rw [← Hx.out]; exact isR_getD ha k hlt
      have hown2 : Par.Own (bytesWorld wr x) w.heap.size 5 _ _ := hown.alloc _
      have hsg := seg_bytes wr x
      have hul := txt_le4 (zs.take k)
      have he4 := enc_le x
      have hbu : Below w.heap.size w (bytesWorld wr x) := hbw.alloc hsz _
      have hzu : w.heap.size ≤ (bytesWorld wr x).heap.size := hbu.size
      have HR := Lib.hid hR
      clear hat hR
      go_wp2_with (first | (go_at_call 62; refine (refIsRune_any x _).mono ?_; rintro e w' ⟨rfl, rfl⟩; rw [HR.out]) | (go_at_call 58; refine (refBytes_any x HR.out _).mono ?_; rintro e w' ⟨rfl, rfl⟩) | (at_builtin; refine wpList_app _ rfl _ _ _ rfl w.heap.size 5 _ byteE _ _ rfl hown2 _ _ _ rfl hsg (one_bytes _) ?c1 ?c2 ?_))
      case c1 => rw [Lib.byteCells_length, Lib.byteCells_length]; simp at hul; omega
      case c2 => exact hzu
      intro v3 w3 hown4 hg3 hat3
      have hb3 : Below w.heap.size w w3 := below_app hbu hown2 hg3 hzu
      go_wp2
      go_roundw
      case rel => exact ⟨k + 1, by omega, by go_num, by rw [take_getD zs k hlt, Hx.out, txt_append, Lib.byteCells_append]; simpa [txt] using hown4, hb3⟩
      case measure => simp [intOf]; omega
    · have hkl : k = zs.length := by omega
      rw [hkl, take_all] at hown
      have hconv := conv_seg hown.seg
      clear hat hkl
      go_wp2
      go_ret2
      exact ⟨rfl, hbw⟩

set_option maxHeartbeats 400000 in
theorem refText_bad (v : Value) (zs : List Int) (hn : ¬ AllR zs) (B : Nat) (w : World) (hsg : Seg w B v (ints zs)) (hB : B ≤ w.heap.size) (hl : zs.length ≤ 100000) :
    Calls Tryd.prog 36 #[v] w fun e w' => e = .returned (.tuple #[.string ⟨#[]⟩, .int .i64 40]) ∧ Below w.heap.size w w' := by
  obtain ⟨A, c, rfl, hc, hm, hat⟩ := hsg.open_ints
  clear hsg
  obtain ⟨pre, z, post, hz, ha, hzb⟩ := not_all hn
  have hpl : pre.length < zs.length := by rw [hz]; simp
  have hzk : zs.getD pre.length 0 = z := by rw [hz]; simp [List.getD_eq_getElem?_getD]
  have hgd : ∀ k, k < pre.length → zs.getD k 0 = pre.getD k 0 := fun k hk => by rw [hz]; simp [List.getD_eq_getElem?_getD, List.getElem?_append_left hk]
  have HZ := Lib.hid hz; clear hz
  have HZK := Lib.hid hzk; clear hzk
  have HGD := Lib.hid hgd; clear hgd
  have HZB := Lib.hid hzb; clear hzb
  clear hn
  go_enter Tryd.func36, Tryd.ntmps36
  go_wp2
  go_loopw [4, 5] (fun u i wr => ∃ k : Nat, k ≤ pre.length ∧ i = .int .i64 k ∧ Par.Own wr w.heap.size 5 u (Lib.byteCells (txt (pre.take k))) ∧ Below w.heap.size w wr) (fun _ i _ => zs.length - (intOf i).toNat)
  case atStart => exact ⟨0, by omega, rfl, Par.Own.new w w.heap.size 5 #[] [] rfl (Nat.le_refl _) (by simp), (Below.refl _ _).alloc (Nat.le_refl _) _⟩
  case round =>
    obtain ⟨k, hk, rfl, hown, hbw⟩ := hrel
    have hsz := hbw.size
    have hkz : k < zs.length := by omega
    obtain ⟨b, off, x, rfl, hb, hcell, Hx⟩ := (hat.below (hbw.mono hB)).int hkz
    clear hat
    by_cases hlt : k < pre.length
    · have hR : isR x = true := by rw [← Hx.out, HGD.out k hlt]; exact isR_getD ha k hlt
      have hown2 : Par.Own (bytesWorld wr x) w.heap.size 5 _ _ := hown.alloc _
      have hsg := seg_bytes wr x
      have hul := txt_le4 (pre.take k)
      have he4 := enc_le x
      have hbu : Below w.heap.size w (bytesWorld wr x) := hbw.alloc hsz _
      have hzu : w.heap.size ≤ (bytesWorld wr x).heap.size := hbu.size
      have HR := Lib.hid hR
      clear hR
      go_wp2_with (first | (go_at_call 62; refine (refIsRune_any x _).mono ?_; rintro e w' ⟨rfl, rfl⟩; rw [HR.out]) | (go_at_call 58; refine (refBytes_any x HR.out _).mono ?_; rintro e w' ⟨rfl, rfl⟩) | (at_builtin; refine wpList_app _ rfl _ _ _ rfl w.heap.size 5 _ byteE _ _ rfl hown2 _ _ _ rfl hsg (one_bytes _) ?c1 ?c2 ?_))
      case c1 => rw [Lib.byteCells_length, Lib.byteCells_length]; simp at hul; omega
      case c2 => exact hzu
      intro v3 w3 hown4 hg3 hat3
      have hb3 : Below w.heap.size w w3 := below_app hbu hown2 hg3 hzu
      go_wp2
      go_roundw
      case rel => exact ⟨k + 1, by omega, by go_num, by rw [take_getD pre k hlt, ← HGD.out k hlt, Hx.out, txt_append, Lib.byteCells_append]; simpa [txt] using hown4, hb3⟩
      case measure => simp [intOf]; omega
    · have hR : isR x = false := by
        have : k = pre.length := by omega
        rw [← Hx.out, this, HZK.out]; exact HZB.out
      have HR := Lib.hid hR; clear hR
      go_wp2_with (go_at_call 62; refine (refIsRune_any x _).mono ?_; rintro e w' ⟨rfl, rfl⟩; rw [HR.out])
      go_wp2
      go_ret2
      exact ⟨rfl, hbw⟩
end Go.Proofs.YtdldkidccjkhgaaDoor
