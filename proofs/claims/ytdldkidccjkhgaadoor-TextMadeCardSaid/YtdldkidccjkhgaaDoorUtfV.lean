import Derived.Test.YtdldkidccjkhgaaDoorUtf
namespace Go.Proofs.YtdldkidccjkhgaaDoor
open Go.RowKit Go.Par

theorem get!_toList (l : List UInt8) (j : Nat) (h : j < l.length) : ((⟨l.toArray⟩ : ByteArray).get! j) = l.getD j 0 := by
  simp [ByteArray.get!, h, List.getD_eq_getElem?_getD]

/-- utf8.DecodeRune at a slice that isn't empty, from the k-th of its bytes on. -/
theorem decode_at_any (b off cap k : Nat) (l : List UInt8) (w : World) (B : Nat) (h : At w B (some ⟨b, off, none⟩) l.length (fun i => .int .u8 (l.getD i 0).toNat)) (hk : k < l.length) (hT : Tabs w) :
    Calls Tryd.prog 54 #[.slice (some ⟨b, off + k, none⟩) (l.length - k) cap] w fun e w' => e = .returned (.tuple #[.int .i32 (Lib.decodeL (l.drop k)).1, .int .i64 (Lib.decodeL (l.drop k)).2]) ∧ Below w.heap.size w w' := by
  have hsz : (⟨(l.drop k).toArray⟩ : ByteArray).size = l.length - k := by simp [ByteArray.size]
  have := Any7.utf8_DecodeRune Tryd.lays7_32 ⟨(l.drop k).toArray⟩ b (off + k) cap w hT (fun j hj => by
    rw [hsz] at hj
    obtain ⟨b', off', e, _, hc⟩ := h (k + j) (by omega)
    injection e with e
    injection e with e1 e2
    subst e1 e2
    rw [get!_toList _ _ (by simp; omega), Nat.add_assoc, hc]
    simp [List.getD_eq_getElem?_getD, List.getElem?_drop])
  rw [hsz] at this
  have hd : Lib.decodeGo (⟨(l.drop k).toArray⟩ : ByteArray) = Lib.decodeL (l.drop k) := by
    unfold Lib.decodeGo
    rw [if_neg (by rw [hsz]; omega)]
    rfl
  rw [hd] at this
  exact this

theorem txt_at (rs : List Int) (k m : Nat) (h : rs[k]? = some (m : Int)) : (txt rs).drop (txt (rs.take k)).length = Lib.encodeRune m ++ txt (rs.drop (k + 1)) := by
  obtain ⟨hk, e⟩ := List.getElem?_eq_some_iff.1 h
  have hsplit : rs = rs.take k ++ ((m : Int) :: rs.drop (k + 1)) := by
    rw [← e, ← List.drop_eq_getElem_cons hk, List.take_append_drop]
  conv => lhs; arg 2; rw [hsplit]
  rw [txt_append, List.drop_left, txt_cons]

set_option maxHeartbeats 400000 in
theorem uvalid_any (v : Value) (rs : List Int) (rest : List UInt8) (ha : AllR rs) (hr : rest = [] ∨ Bad rest) (B : Nat) (w : World) (hsg : Seg w B v (Lib.byteCells (txt rs ++ rest))) (hB : B ≤ w.heap.size) (hT : Tabs w) :
    Calls Tryd.prog 23 #[v] w fun e w' => e = .returned (.int .i64 (txt rs).length) ∧ Below w.heap.size w w' := by
  obtain ⟨A, c, rfl, hc, hm, hat⟩ := hsg.open_bytes
  clear hsg
  obtain ⟨l, hl⟩ : ∃ l, l = txt rs ++ rest := ⟨_, rfl⟩
  rw [← hl] at hat hc ⊢
  have HL := Lib.hid hl; clear hl
  have HR := Lib.hid hr; clear hr
  go_enter Tryd.func23, Tryd.ntmps23
  go_wp2
  go_loopw [3, 4, 5] (fun n _ _ wr => ∃ k, k ≤ rs.length ∧ n = .int .i64 (txt (rs.take k)).length ∧ Below w.heap.size w wr) (fun n _ _ _ => l.length - (intOf n).toNat)
  case atStart => exact ⟨0, by omega, rfl, Below.refl _ _⟩
  case round =>
    obtain ⟨k, hk, rfl, hbw⟩ := hrel
    have hTr := hT.below hbw
    by_cases hlt : k < rs.length
    · obtain ⟨m, hrk, hm1, hR, hp, hdd, hnext⟩ := rune_at ⟨(txt rs).toArray⟩ rs rfl ha k hlt
      rw [← Lib.decodeL_drop] at hdd
      have hp' : (txt (rs.take k)).length < (txt rs).length := by simpa [ByteArray.size] using hp
      have hle : (txt (rs.take k)).length < l.length := by rw [HL.out]; simp; omega
      have hnl : ((txt (rs.take k)).length : Int) < (l.length : Int) := by omega
      have hdr : Lib.decodeL (l.drop (txt (rs.take k)).length) = (m, (Lib.encodeRune m).length) := by
        rw [HL.out, List.drop_append_of_le_length (by omega), txt_at rs k m hrk, List.append_assoc, decode_enc _ _ hR]; simp
      obtain ⟨b, off, rfl, hbB, _⟩ := hat 0 (by omega)
      have hcp : ¬ c = (txt (rs.take k)).length := by omega
      have hdec := decode_at_any b off (c - (txt (rs.take k)).length) _ l wr B (hat.below (hbw.mono hB)) hle hTr
      rw [hdr] at hdec
      dsimp only at hdec
      have hel := enc_pos m
      have hel4 := enc_le m
      have hfit : (txt (rs.take k)).length + (Lib.encodeRune m).length ≤ l.length := by
        have h1 : (txt (rs.take (k + 1))).length ≤ (txt rs).length := by
          conv => rhs; rw [← List.take_append_drop (k + 1) rs, txt_append]
          simp
        rw [HL.out, List.length_append]; omega
      have HDR := Lib.hid hdr; clear hdr
      have HDD := Lib.hid hdd; clear hdd
      have HDEC := Lib.hid hdec; clear hdec
      have HN := Lib.hid hnext; clear hnext
      have HK := Lib.hid hrk; clear hrk
      by_cases h6 : m = 65533
      · subst h6
        have h3 : (Lib.encodeRune (65533 : Nat)).length = 3 := by decide
        rw [h3] at HDEC hfit
        go_wp2_with fail
        refine HDEC.out.mono ?_
        rintro e w2 ⟨rfl, hb2⟩
        go_wp2
        go_roundw
        case rel => exact ⟨k + 1, by omega, by rw [← HN.out, h3]; go_num, hbw.trans (hb2.mono hbw.size)⟩
        case measure => simp [intOf]; omega
      · have h6b : ((m : Int) == 65533) = false := by simp; omega
        go_wp2_with fail
        refine HDEC.out.mono ?_
        rintro e w2 ⟨rfl, hb2⟩
        go_wp2
        go_roundw
        case rel => exact ⟨k + 1, by omega, by rw [← HN.out]; go_num, hbw.trans (hb2.mono hbw.size)⟩
        case measure => simp [intOf]; omega
    · have hkl : k = rs.length := by omega
      subst hkl
      rw [take_all]
      rcases HR.out with h0 | hbad
      · have hle : l.length = (txt rs).length := by rw [HL.out, h0]; simp
        have hnl : ¬ ((txt rs).length : Int) < (l.length : Int) := by omega
        have HLE := Lib.hid hle; clear hle
        go_wp2
        go_ret
        exact ⟨rfl, hbw⟩
      · have hp := List.length_pos_iff.2 hbad.1
        have hle : (txt rs).length < l.length := by rw [HL.out]; simp; omega
        have hdr : l.drop (txt rs).length = rest := by rw [HL.out]; simp
        obtain ⟨b, off, rfl, hbB, _⟩ := hat 0 (by omega)
        have hcp : ¬ c = (txt rs).length := by omega
        have hdec := decode_at_any b off (c - (txt rs).length) _ l wr B (hat.below (hbw.mono hB)) hle hTr
        rw [hdr, hbad.2] at hdec
        have HDR := Lib.hid hdr; clear hdr
        have HDEC := Lib.hid hdec; clear hdec
        go_wp2_with fail
        refine HDEC.out.mono ?_
        rintro e w2 ⟨rfl, hb2⟩
        go_wp2
        go_ret
        exact ⟨rfl, hbw.trans (hb2.mono hbw.size)⟩
end Go.Proofs.YtdldkidccjkhgaaDoor
