import Derived.Test.YtdldkidccjkhgaaDoorUtfT
namespace Go.Proofs.YtdldkidccjkhgaaDoor
open Go.RowKit Go.Par

theorem not_all {zs : List Int} (h : ¬ AllR zs) : ∃ pre z post, zs = pre ++ z :: post ∧ AllR pre ∧ isR z = false := by
  induction zs with
  | nil => exact absurd AllR.nil h
  | cons r rs ih =>
    by_cases hr : isR r = true
    · obtain ⟨pre, z, post, e, ha, hz⟩ := ih (fun hh => h (hh.cons hr))
      exact ⟨r :: pre, z, post, by rw [e]; rfl, ha.cons hr, hz⟩
    · exact ⟨[], r, rs, rfl, AllR.nil, by simpa using hr⟩

theorem isR_getD {zs : List Int} (ha : AllR zs) (k : Nat) (hk : k < zs.length) : isR (zs.getD k 0) = true := by
  simp [List.getD_eq_getElem?_getD, hk]
  exact ha _ (List.getElem_mem hk)
theorem take_getD (zs : List Int) (k : Nat) (hk : k < zs.length) : zs.take (k + 1) = zs.take k ++ [zs.getD k 0] :=
  take_snoc zs k _ (by simp [List.getD_eq_getElem?_getD, hk])

set_option maxHeartbeats 400000 in
theorem text_ok (v : Value) (zs : List Int) (ha : AllR zs) (B : Nat) (w : World) (hsg : Seg w B v (ints zs)) (hB : B ≤ w.heap.size) (hl : zs.length ≤ 1000000) :
    Calls Tryd.prog 35 #[v] w fun e w' => e = .returned (.tuple #[.string ⟨(txt zs).toArray⟩, .int .i64 0]) ∧ Below w.heap.size w w' := by
  obtain ⟨A, c, rfl, hc, hm, hat⟩ := hsg.open_ints
  clear hsg
  go_enter Tryd.func35, Tryd.ntmps35
  go_wp2
  go_loopw [9, 6] (fun i _ wr => ∃ k, k ≤ zs.length ∧ i = .int .i64 (k : Nat) ∧ Lib.IsBuilderF 78 5 w.heap.size w.heap.size (Lib.byteCells (txt (zs.take k))) wr ∧ Below w.heap.size w wr) (fun i _ _ => zs.length - (intOf i).toNat)
  case atStart => exact ⟨0, by omega, rfl, Lib.IsBuilderF.of (Lib.fresh_isBuilder 78 5 w), (Below.refl _ w).alloc (Nat.le_refl _) _⟩
  case round =>
    obtain ⟨k, hk, rfl, hI, hbw⟩ := hrel
    have hsz := hbw.size
    by_cases hlt : k < zs.length
    · obtain ⟨b, off, x, rfl, hb, hcell, Hx⟩ := (hat.below (hbw.mono hB)).int hlt
      have HA := Lib.hid hat; clear hat
      have hR : isR x = true := by rw [← Hx.out]; exact isR_getD ha k hlt
      have hbd := isR_iff.1 hR
      obtain ⟨hx0, hx1, _⟩ := hbd
      have hlen : (txt (zs.take k)).length ≤ 4 * zs.length := by
        have h1 : ∀ l : List Int, (txt l).length ≤ 4 * l.length := fun l => by
          induction l with
          | nil => simp [txt]
          | cons r rs ih => have := enc_le r; rw [txt_cons]; simp; omega
        have := h1 (zs.take k); simp at this; omega
      have HR := Lib.hid hR; clear hR
      go_wp2_with (first | (go_at_call 59; refine (isRune_any x _).mono ?_; rintro e w' ⟨rfl, rfl⟩; rw [HR.out]) | (go_at_call 60; refine (writeRune_any w.heap.size w.heap.size _ x (by omega) (by omega) _ hI (by rw [Lib.byteCells_length]; omega) hsz).mono ?_; rintro e w2 ⟨rfl, h2, hb2, hk2⟩))
      go_wp2
      go_roundw
      case rel => exact ⟨k + 1, by omega, by go_num, by rw [take_getD zs k hlt, Hx.out, txt_append, Lib.byteCells_append]; simp only [txt, List.flatMap_cons, List.flatMap_nil, List.append_nil]; rw [Lib.byteCells_encodeRune]; exact Or.inr h2, hbw.trans hb2⟩
      case measure => simp [intOf]; omega
    · have hkl : k = zs.length := by omega
      have HKL := Lib.hid hkl; clear hkl
      go_wp2_with (go_at_call 61; refine (Tryd.Builder_String_any_k w.heap.size w.heap.size _ _ hI hsz).mono ?_; rintro e w2 ⟨rfl, _, hb2, _⟩)
      go_wp2
      go_ret2
      refine ⟨?_, hbw.trans hb2⟩
      rw [HKL.out, take_all]
      rfl

set_option maxHeartbeats 400000 in
theorem text_bad (v : Value) (zs : List Int) (hn : ¬ AllR zs) (B : Nat) (w : World) (hsg : Seg w B v (ints zs)) (hB : B ≤ w.heap.size) (hl : zs.length ≤ 1000000) :
    Calls Tryd.prog 35 #[v] w fun e w' => e = .returned (.tuple #[.string ⟨#[]⟩, .int .i64 40]) ∧ Below w.heap.size w w' := by
  obtain ⟨A, c, rfl, hc, hm, hat⟩ := hsg.open_ints
  clear hsg
  obtain ⟨pre, z, post, hz, ha, hzb⟩ := not_all hn
  have hpl : pre.length < zs.length := by rw [hz]; simp
  have hzk : zs.getD pre.length 0 = z := by rw [hz]; simp [List.getD_eq_getElem?_getD]
  have htk : ∀ k, k ≤ pre.length → zs.take k = pre.take k := fun k hk => by rw [hz, List.take_append_of_le_length hk]
  have hgd : ∀ k, k < pre.length → zs.getD k 0 = pre.getD k 0 := fun k hk => by rw [hz]; simp [List.getD_eq_getElem?_getD, List.getElem?_append_left hk]
  have HZ := Lib.hid hz; clear hz
  have HZK := Lib.hid hzk; clear hzk
  have HTK := Lib.hid htk; clear htk
  have HGD := Lib.hid hgd; clear hgd
  have HZB := Lib.hid hzb; clear hzb
  clear hn
  go_enter Tryd.func35, Tryd.ntmps35
  go_wp2
  go_loopw [9, 6] (fun i _ wr => ∃ k, k ≤ pre.length ∧ i = .int .i64 (k : Nat) ∧ Lib.IsBuilderF 78 5 w.heap.size w.heap.size (Lib.byteCells (txt (pre.take k))) wr ∧ Below w.heap.size w wr) (fun i _ _ => zs.length - (intOf i).toNat)
  case atStart => exact ⟨0, by omega, rfl, Lib.IsBuilderF.of (Lib.fresh_isBuilder 78 5 w), (Below.refl _ w).alloc (Nat.le_refl _) _⟩
  case round =>
    obtain ⟨k, hk, rfl, hI, hbw⟩ := hrel
    have hsz := hbw.size
    have hkz : k < zs.length := by omega
    obtain ⟨b, off, x, rfl, hb, hcell, Hx⟩ := (hat.below (hbw.mono hB)).int hkz
    have HA := Lib.hid hat; clear hat
    by_cases hlt : k < pre.length
    · have hR : isR x = true := by rw [← Hx.out, HGD.out k hlt]; exact isR_getD ha k hlt
      have hbd := isR_iff.1 hR
      obtain ⟨hx0, hx1, _⟩ := hbd
      have hlen : (txt (pre.take k)).length ≤ 4 * zs.length := by
        have h1 : ∀ l : List Int, (txt l).length ≤ 4 * l.length := fun l => by
          induction l with
          | nil => simp [txt]
          | cons r rs ih => have := enc_le r; rw [txt_cons]; simp; omega
        have := h1 (pre.take k); simp at this; omega
      have HR := Lib.hid hR; clear hR
      go_wp2_with (first | (go_at_call 59; refine (isRune_any x _).mono ?_; rintro e w' ⟨rfl, rfl⟩; rw [HR.out]) | (go_at_call 60; refine (writeRune_any w.heap.size w.heap.size _ x (by omega) (by omega) _ hI (by rw [Lib.byteCells_length]; omega) hsz).mono ?_; rintro e w2 ⟨rfl, h2, hb2, hk2⟩))
      go_wp2
      go_roundw
      case rel => exact ⟨k + 1, by omega, by go_num, by rw [take_getD pre k hlt, ← HGD.out k hlt, Hx.out, txt_append, Lib.byteCells_append]; simp only [txt, List.flatMap_cons, List.flatMap_nil, List.append_nil]; rw [Lib.byteCells_encodeRune]; exact Or.inr h2, hbw.trans hb2⟩
      case measure => simp [intOf]; omega
    · have hR : isR x = false := by
        have : k = pre.length := by omega
        rw [← Hx.out, this, HZK.out]; exact HZB.out
      have HR := Lib.hid hR; clear hR
      go_wp2_with (go_at_call 59; refine (isRune_any x _).mono ?_; rintro e w' ⟨rfl, rfl⟩; rw [HR.out])
      go_wp2
      go_ret2
      exact ⟨rfl, hbw⟩
end Go.Proofs.YtdldkidccjkhgaaDoor
