import Derived.Test.YtdldkidccjkhgaaDoorRefR
namespace Go.Proofs.YtdldkidccjkhgaaDoor
open Go.RowKit Go.Par
set_option linter.unusedVariables false

/-- what is left of a row of bytes behind pos of them. -/
def Left (g : Nat) (l : List UInt8) (pos : Nat) (v : Value) : Prop :=
  ∃ o c, v = .slice (some ⟨g, o, none⟩) (l.length - pos) c ∧ l.length - pos ≤ c ∧ c ≤ 9223372036854775807 ∧ (pos < l.length → o = pos)

def ListPost0 (w : World) (o : Option (List Int)) (e : Ending) (w' : World) : Prop :=
  Below w.heap.size w w' ∧ match o with
    | some rs => ∃ v, e = .returned (.tuple #[v, .int .i64 0]) ∧ Par.Own w' w.heap.size 3 v (ints rs)
    | none => e = .returned (.tuple #[.slice none 0 0, .int .i64 40])

set_option maxRecDepth 20000 in
set_option maxHeartbeats 1000000 in
theorem refRunes_any (s : ByteArray) (rs : List Int) (rest : List UInt8) (hl : s.data.toList = txt rs ++ rest) (ha : AllR rs) (hr : rest = [] ∨ Bad rest) (w : World) (hlen : s.size ≤ 1000000) (o : Option (List Int)) (HO : Hid ((rest = [] → o = some rs) ∧ (rest ≠ [] → o = none))) :
    Calls Tryd.prog 27 #[.string s] w (ListPost0 w o) := by
  obtain ⟨cap, w1, hconv, hc1, hc2, hb1, hz1, hat1⟩ := bytes_of s w (by omega)
  obtain ⟨l, hle⟩ : ∃ l, l = s.data.toList := ⟨_, rfl⟩
  rw [← hle] at hat1 hl
  have hsz : s.size = l.length := by rw [hle]; exact Lib.size_eq s
  rw [hsz] at hconv hc1 hlen
  have HL := Lib.hid hl; clear hl
  have HR := Lib.hid hr; clear hr
  have HZ := Lib.hid hz1; clear hz1
  have HSZ := Lib.hid hsz; clear hsz hle
  go_enter Tryd.func27, Tryd.ntmps27
  go_wp2
  go_loopw [4, 5, 6, 7] (fun v u _ _ wr => ∃ k, k ≤ rs.length ∧ Left w.heap.size l (txt (rs.take k)).length v ∧ Par.Own wr w1.heap.size 3 u (ints (rs.take k)) ∧ Below w1.heap.size w1 wr) (fun v _ _ _ _ => match v with | .slice _ n _ => n | _ => 0)
  case atStart => exact ⟨0, by omega, ⟨0, cap, rfl, by simp; omega, hc2, fun _ => rfl⟩, Par.Own.new w1 w1.heap.size 3 #[] [] rfl (Nat.le_refl _) (by simp), (Below.refl _ _).alloc (Nat.le_refl _) _⟩
  case round =>
    obtain ⟨k, hk, ⟨oo, c, rfl, hlc, hcm, ho⟩, hown, hbw⟩ := hrel
    have hsz1 := hbw.size
    by_cases hlt : k < rs.length
    · obtain ⟨m, hrk, hm1, hR, hnext⟩ := rune_nat rs ha k hlt
      have hdr : l.drop (txt (rs.take k)).length = Lib.encodeRune m ++ (txt (rs.drop (k + 1)) ++ rest) := by rw [HL.out]; exact drop_at rs rest k m hrk
      have hel := enc_pos m
      have hfit : (txt (rs.take k)).length + (Lib.encodeRune m).length ≤ l.length := by
        have h1 := txt_take_le rs (k + 1)
        rw [HL.out, List.length_append]; omega
      obtain rfl := ho (by omega)
      have hf := first_at (cap := c) (hat1.below (hbw.mono (by rw [HZ.out]; exact Nat.le_refl _))) (by rw [← HZ.out]; exact hsz1) hlen (txt (rs.take k)).length (by omega) hlc hcm
      rw [hdr, Nat.zero_add] at hf
      have HF := Lib.hid hf; clear hf
      have HDR := Lib.hid hdr; clear hdr
      have HN := Lib.hid hnext; clear hnext
      have HK := Lib.hid hrk; clear hrk
      have HA := Lib.hid hat1; clear hat1 ho
      have hnz : (((Lib.encodeRune m).length : Int) == 0) = false := beq_eq_false_iff_ne.2 (by omega)
      have hpos : (0 : Int) < ((l.length - (txt (rs.take k)).length : Nat) : Int) := by omega
      go_wp2_with fail
      refine HF.out.mono ?_
      intro e w2 hpost
      obtain ⟨rfl, hb2⟩ := first_ok hR hpost
      clear hpost
      have hbw2 : Below w1.heap.size w1 w2 := hbw.trans (hb2.mono hsz1)
      have hown2 := hown.below hb2
      have hsz2 := hbw2.size
      have hul := txt_length_le (rs.take k)
      have hown3 := hown2.alloc (.cells #[.int .i64 m] 3)
      have hsg := Seg.new w2 3 #[.int .i64 m] (ints [(m : Int)]) rfl (by simp [ints, maxLen])
      by_cases hcn : c = (Lib.encodeRune m).length
      · subst hcn
        go_wp2_with (at_builtin; refine wpList_app _ rfl _ _ _ rfl w1.heap.size 3 _ intE _ _ rfl hown3 _ _ (ints [(m : Int)]) rfl hsg (one_ints _) ?d1 ?d2 ?_)
        case d1 => rw [ints_length, ints_length]; simp at hul ⊢; omega
        case d2 => first | omega | (simp; omega)
        intro v3 w3 hown4 hg3 hat3
        have hb3 : Below w1.heap.size w1 w3 := below_app (hbw2.alloc hsz2 _) hown3 hg3 (by simp; omega)
        go_wp2
        go_roundw
        case rel =>
          refine ⟨k + 1, by omega, ?_, by rw [take_snoc rs k m HK.out, ints_append]; exact hown4, hb3⟩
          refine ⟨_, _, congrArg (fun n => Value.slice _ n _) (by rw [← HN.out]; omega), by rw [← HN.out]; omega, by omega, fun h => by rw [← HN.out] at h ⊢; omega⟩
        case measure => dsimp only; omega
      · go_wp2_with (at_builtin; refine wpList_app _ rfl _ _ _ rfl w1.heap.size 3 _ intE _ _ rfl hown3 _ _ (ints [(m : Int)]) rfl hsg (one_ints _) ?c1 ?c2 ?_)
        case c1 => rw [ints_length, ints_length]; simp at hul ⊢; omega
        case c2 => first | omega | (simp; omega)
        intro v3 w3 hown4 hg3 hat3
        have hb3 : Below w1.heap.size w1 w3 := below_app (hbw2.alloc hsz2 _) hown3 hg3 (by simp; omega)
        go_wp2
        go_roundw
        case rel =>
          refine ⟨k + 1, by omega, ?_, by rw [take_snoc rs k m HK.out, ints_append]; exact hown4, hb3⟩
          refine ⟨_, _, congrArg (fun n => Value.slice _ n _) (by rw [← HN.out]; omega), by rw [← HN.out]; omega, by omega, fun h => by rw [← HN.out]⟩
        case measure => dsimp only; omega
    · have hkl : k = rs.length := by omega
      subst hkl
      rw [take_all] at hown hlc ho ⊢
      rcases HR.out with h0 | hbad
      · have hle : l.length = (txt rs).length := by rw [HL.out, h0]; simp
        have hz : l.length - (txt rs).length = 0 := by omega
        have HLE := Lib.hid hle; clear hle hat1
        rw [hz]
        clear hz
        go_wp2
        go_ret2
        refine ⟨hb1.trans (hbw.mono hb1.size), ?_⟩
        rw [HO.out.1 h0]
        exact ⟨_, rfl, hown.base hb1.size⟩
      · have hp := List.length_pos_iff.2 hbad.1
        have hle : (txt rs).length < l.length := by rw [HL.out]; simp; omega
        have hdr : l.drop (txt rs).length = rest := by rw [HL.out]; simp
        obtain rfl := ho hle
        have hf := first_at (cap := c) (hat1.below (hbw.mono (by rw [HZ.out]; exact Nat.le_refl _))) (by rw [← HZ.out]; exact hsz1) hlen (txt rs).length hle hlc hcm
        rw [hdr, Nat.zero_add] at hf
        have HF := Lib.hid hf; clear hf
        have HDR := Lib.hid hdr; clear hdr hat1 ho
        have hpos : (0 : Int) < ((l.length - (txt rs).length : Nat) : Int) := by omega
        go_wp2_with fail
        refine HF.out.mono ?_
        intro e w2 hpost
        obtain ⟨rfl, hb2⟩ := first_bad hbad hpost
        go_wp2
        go_ret2
        refine ⟨hb1.trans ((hbw.trans (hb2.mono hsz1)).mono hb1.size), ?_⟩
        rw [HO.out.2 hbad.1]
        rfl
end Go.Proofs.YtdldkidccjkhgaaDoor
