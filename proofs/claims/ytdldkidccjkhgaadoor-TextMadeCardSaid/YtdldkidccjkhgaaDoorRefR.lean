import Derived.Test.YtdldkidccjkhgaaDoorRefP
namespace Go.Proofs.YtdldkidccjkhgaaDoor
open Go.RowKit Go.Par
set_option linter.unusedVariables false

/-- the bytes of l, from an address on. -/
abbrev AtB (w : World) (B b off : Nat) (l : List UInt8) : Prop := At w B (some ⟨b, off, none⟩) l.length (fun i => .int .u8 (l.getD i 0).toNat)

theorem AtB.drop {w : World} {B b off : Nat} {l : List UInt8} (h : AtB w B b off l) (k : Nat) : AtB w B b (off + k) (l.drop k) := by
  intro i hi
  simp at hi
  obtain ⟨b', off', e, hb, hc⟩ := h (k + i) (by omega)
  cases e
  refine ⟨b, off + k, rfl, hb, ?_⟩
  rw [Nat.add_assoc, hc]
  simp [List.getD_eq_getElem?_getD, List.getElem?_drop]

/-- '[]byte(s)' -/
theorem bytes_of (s : ByteArray) (w : World) (hs : s.size ≤ 9223372036854775807) : ∃ cap w1, (convert 9 29 (.string s)).run Tryd.prog w = .ok (.slice (some ⟨w.heap.size, 0, none⟩) s.size cap) w1 ∧ s.size ≤ cap ∧ cap ≤ 9223372036854775807 ∧
    Below w.heap.size w w1 ∧ w1.heap.size = w.heap.size + 1 ∧ AtB w1 (w.heap.size + 1) w.heap.size 0 s.data.toList := by
  refine ⟨_, _, run_bytes_of_string (P := Tryd.prog) w 9 29 5 s Tryd.underlying9 Tryd.underlying29 Tryd.underlying5, grownCap_ge w s.size 0 5, ?_, ?_, ?_, ?_⟩
  · have := grownCap_le_maxLen w s.size 0 5 (by simpa [maxLen] using hs)
    simpa [maxLen] using this
  · exact (Below.refl _ w).drew.alloc (by simp) _
  · simp
  · intro i hi
    refine ⟨w.heap.size, 0, rfl, by omega, ?_⟩
    have := World.cell?_alloc_mark w.drew (bytesRow s (grownCap w s.size 0 5)) 5 ((bytesRow s (grownCap w s.size 0 5)).size, (bytesRow s (grownCap w s.size 0 5)).size + 1) i
    rw [Nat.zero_add]
    refine this.trans ?_
    have hi' : i < s.data.size := by simpa using hi
    simp only [bytesRow, Array.getElem?_append, Array.size_map, Array.getElem?_map, List.getD_eq_getElem?_getD, Array.getElem?_toList]
    rw [if_pos hi', Array.getElem?_eq_getElem hi']
    rfl

theorem first_at {w : World} {B b off cap : Nat} {l : List UInt8} (h : AtB w B b off l) (hB : B ≤ w.heap.size) (hl : l.length ≤ 1000000) (k : Nat) (hk : k < l.length) (hcap : l.length - k ≤ cap) (hcm : cap ≤ 9223372036854775807) :
    Calls Tryd.prog 55 #[.slice (some ⟨b, off + k, none⟩) (l.length - k) cap] w (FirstPost w (l.drop k)) := by
  have := first_any b (off + k) cap (l.drop k) w B (h.drop k) hB (by simp; omega) (by simp; omega) hcm (by simp; omega)
  rwa [show (l.drop k).length = l.length - k from by simp] at this

theorem drop_at (rs : List Int) (rest : List UInt8) (k m : Nat) (h : rs[k]? = some (m : Int)) : (txt rs ++ rest).drop (txt (rs.take k)).length = Lib.encodeRune m ++ (txt (rs.drop (k + 1)) ++ rest) := by
  obtain ⟨hk, e⟩ := List.getElem?_eq_some_iff.1 h
  have hsplit : rs = rs.take k ++ ((m : Int) :: rs.drop (k + 1)) := by
    rw [← e, ← List.drop_eq_getElem_cons hk, List.take_append_drop]
  conv => lhs; arg 2; rw [hsplit]
  rw [txt_append, txt_cons, List.append_assoc, List.drop_left, List.append_assoc]

theorem rune_nat (rs : List Int) (ha : AllR rs) (k : Nat) (hk : k < rs.length) : ∃ m : Nat, rs[k]? = some (m : Int) ∧ m ≤ 1114111 ∧ isR m = true ∧ (txt (rs.take k)).length + (Lib.encodeRune m).length = (txt (rs.take (k + 1))).length := by
  obtain ⟨m, h1, h2, h3, _, _, h6⟩ := rune_at ⟨(txt rs).toArray⟩ rs rfl ha k hk
  exact ⟨m, h1, h2, h3, h6⟩
theorem txt_take_le (rs : List Int) (k : Nat) : (txt (rs.take k)).length ≤ (txt rs).length := by
  conv => rhs; rw [← List.take_append_drop k rs, txt_append]
  simp

set_option maxHeartbeats 400000 in
theorem refValid_any (b off c : Nat) (l : List UInt8) (rs : List Int) (rest : List UInt8) (hl : l = txt rs ++ rest) (ha : AllR rs) (hr : rest = [] ∨ Bad rest) (B : Nat) (w : World) (hat : AtB w B b off l) (hB : B ≤ w.heap.size) (hlen : l.length ≤ 1000000) (hc : l.length ≤ c) (hm : c ≤ 9223372036854775807) :
    Calls Tryd.prog 24 #[.slice (some ⟨b, off, none⟩) l.length c] w fun e w' => e = .returned (.int .i64 (txt rs).length) ∧ Below w.heap.size w w' := by
  have HL := Lib.hid hl; clear hl
  have HR := Lib.hid hr; clear hr
  go_enter Tryd.func24, Tryd.ntmps24
  go_wp2
  go_loopw [3, 4, 5] (fun n _ _ wr => ∃ k, k ≤ rs.length ∧ n = .int .i64 (txt (rs.take k)).length ∧ Below w.heap.size w wr) (fun n _ _ _ => l.length - (intOf n).toNat)
  case atStart => exact ⟨0, by omega, rfl, Below.refl _ _⟩
  case round =>
    obtain ⟨k, hk, rfl, hbw⟩ := hrel
    by_cases hlt : k < rs.length
    · obtain ⟨m, hrk, hm1, hR, hnext⟩ := rune_nat rs ha k hlt
      have hdr : l.drop (txt (rs.take k)).length = Lib.encodeRune m ++ (txt (rs.drop (k + 1)) ++ rest) := by rw [HL.out]; exact drop_at rs rest k m hrk
      have hel := enc_pos m
      have hfit : (txt (rs.take k)).length + (Lib.encodeRune m).length ≤ l.length := by
        have h1 := txt_take_le rs (k + 1)
        rw [HL.out, List.length_append]; omega
      have hcp : ¬ c = (txt (rs.take k)).length := by omega
      have hf := first_at (cap := c - (txt (rs.take k)).length) (hat.below (hbw.mono hB)) (Nat.le_trans hB hbw.size) hlen (txt (rs.take k)).length (by omega) (by omega) (by omega)
      rw [hdr] at hf
      have HF := Lib.hid hf; clear hf
      have HDR := Lib.hid hdr; clear hdr
      have HN := Lib.hid hnext; clear hnext
      have HK := Lib.hid hrk; clear hrk
      clear hat
      have hnz : (((Lib.encodeRune m).length : Int) == 0) = false := beq_eq_false_iff_ne.2 (by omega)
      go_wp2_with fail
      refine HF.out.mono ?_
      intro e w2 hpost
      obtain ⟨rfl, hb2⟩ := first_ok hR hpost
      go_wp2
      go_roundw
      case rel => exact ⟨k + 1, by omega, by rw [← HN.out]; go_num, hbw.trans (hb2.mono hbw.size)⟩
      case measure => simp [intOf]; omega
    · have hkl : k = rs.length := by omega
      subst hkl
      rw [take_all]
      rcases HR.out with h0 | hbad
      · have hle : l.length = (txt rs).length := by rw [HL.out, h0]; simp
        have hnl : ¬ ((txt rs).length : Int) < (l.length : Int) := by omega
        have HLE := Lib.hid hle; clear hle hat
        go_wp2
        go_ret
        exact ⟨rfl, hbw⟩
      · have hp := List.length_pos_iff.2 hbad.1
        have hle : (txt rs).length < l.length := by rw [HL.out]; simp; omega
        have hdr : l.drop (txt rs).length = rest := by rw [HL.out]; simp
        have hcp : ¬ c = (txt rs).length := by omega
        have hf := first_at (cap := c - (txt rs).length) (hat.below (hbw.mono hB)) (Nat.le_trans hB hbw.size) hlen (txt rs).length (by omega) (by omega) (by omega)
        rw [hdr] at hf
        have HF := Lib.hid hf; clear hf
        have HDR := Lib.hid hdr; clear hdr hat
        go_wp2_with fail
        refine HF.out.mono ?_
        intro e w2 hpost
        obtain ⟨rfl, hb2⟩ := first_bad hbad hpost
        go_wp2
        go_ret
        exact ⟨rfl, hbw.trans (hb2.mono hbw.size)⟩
end Go.Proofs.YtdldkidccjkhgaaDoor
