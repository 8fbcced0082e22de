/- The reference: length. -/
import Derived.Test.YtffblcefnckacaaDoorLawT
namespace Go.Frm
open Go.Lib
set_option linter.unusedVariables false
set_option linter.unusedSimpArgs false
theorem eol_at {b : List UInt8} (h : eol b + 2 ≤ b.length) : [13, 10].isPrefixOf (b.drop (eol b)) = true := by
  cases hp : [13, 10].isPrefixOf (b.drop (eol b)) with
  | true => rfl
  | false => have := eol_none hp; omega
theorem eol_before : ∀ {b : List UInt8} {k : Nat}, k < eol b → [13, 10].isPrefixOf (b.drop k) = false
  | [], k, h => by simp [eol] at h
  | c :: l, k, h => by
    unfold eol at h
    by_cases hp : [13, 10].isPrefixOf (c :: l) = true
    · rw [if_pos hp] at h; omega
    · rw [if_neg hp] at h
      cases k with
      | zero => exact Bool.eq_false_iff.2 hp
      | succ k => exact eol_before (b := l) (by omega)
def optI : Option Nat → Int
  | none => -1
  | some n => n
end Go.Frm
namespace Go.Proofs.YtffblcefnckacaaDoor
open Go.RowKit Go.Lib Go.Vfs Go.Par Go.Frm Go.Shelf
set_option linter.unusedVariables false
set_option linter.unusedSimpArgs false

set_option maxRecDepth 100000 in
set_option maxHeartbeats 4000000 in
theorem length_any (A : Option Addr) (c : Nat) (h : List UInt8) (w : World) (hs : Seg w w.heap.size (.slice A h.length c) (byteCells h)) (hnil : A = none → c = 0) (hl : h.length ≤ 100000) (h2 : 2 ≤ h.length) (he : h.take (h.length - 2) = [] ∨ EndsLn (h.take (h.length - 2))) :
    Calls Tryd.prog 29 #[.slice A h.length c] w fun e w' => e = .returned (.int .i64 (optI (lengthV h))) ∧ Hid (Below w.heap.size w w') := by
  obtain ⟨R, hR⟩ : ∃ R, R = optI (lengthV h) := ⟨_, rfl⟩
  rw [← hR]
  obtain ⟨N, hN⟩ : ∃ N, N = h.length := ⟨_, rfl⟩
  rw [← hN] at hs hl h2 he ⊢
  obtain ⟨hn2c, hsf⟩ := seg_front hs.toS hN (N - 2) (by omega)
  have hslf := fun X => slice_to A N c (N - 2) X hn2c
  have e2 : ((N - 2 : Nat) : Int) = (N : Int) - 2 := by omega
  rw [e2] at hslf
  have HS0 : Hid (∃ F : Option Nat, (-1 : Int) = optI F ∧ R = optI (rscan (lines (h.take (N - 2))) F)) := Lib.hid ⟨none, rfl, by rw [hR, rscan_len, ← hN]⟩
  have HSF := Lib.hid hsf; have HEN := Lib.hid he
  have hlf : N - 2 = (h.take (N - 2)).length := by rw [List.length_take]; omega
  obtain ⟨h0, hh0⟩ : ∃ h0, h0 = h.take (N - 2) := ⟨_, rfl⟩
  rw [← hh0] at HS0 HSF HEN hlf
  have HLF := Lib.hid hlf
  clear hs hR hN hsf e2 he hlf hh0
  have hf33 : Fence.wide.fn 33 := trivial
  have hf34 : Fence.wide.fn 34 := trivial
  go_enter Tryd.func29, Tryd.ntmps29
  go_wp2
  go_loopw [0, 3] (fun sv fv W => ∃ (cur : List UInt8) (F : Option Nat) (A3 : Option Addr) (n3 c3 : Nat) (fi : Int), sv = .slice A3 n3 c3 ∧ fv = .int .i64 fi ∧ n3 ≤ 100000 ∧ n3 ≤ c3 ∧ Hid (SegS (· < w.heap.size) w (.slice A3 n3 c3) (byteCells cur) ∧ n3 = cur.length ∧ (A3 = none → c3 = 0) ∧ (cur = [] ∨ EndsLn cur) ∧ fi = optI F ∧ R = optI (rscan (lines cur) F)) ∧ Hid (Below w.heap.size w W)) (fun sv _ _ => lenV sv)
  case atStart =>
    obtain ⟨F, hF1, hF2⟩ := HS0.out
    exact ⟨h0, F, A, N - 2, c, -1, rfl, rfl, by omega, hn2c, Lib.hid ⟨HSF.out, HLF.out, hnil, HEN.out, hF1, hF2⟩, Lib.hid (Below.refl _ _)⟩
  case round =>
    obtain ⟨cur, F, A3, n3, c3, fi, rfl, rfl, hn3, hnc3, HB, HBW⟩ := hrel
    by_cases h03 : 0 < n3
    · have hne : cur ≠ [] := fun h => by have := HB.out.2.1; rw [h, List.length_nil] at this; omega
      have hend : EndsLn cur := by rcases HB.out.2.2.2.1 with h | h; exact absurd h hne; exact h
      obtain ⟨E, hE⟩ : ∃ E, E = eol cur := ⟨_, rfl⟩
      have hee : eol cur + 2 ≤ cur.length ∧ (cur.drop (eol cur + 2) = [] ∨ EndsLn (cur.drop (eol cur + 2))) := by
        obtain ⟨t, ht⟩ := hend
        rw [ht]; exact eol_ends t
      rw [← hE] at hee
      have hE2 : E + 2 ≤ n3 := by have := HB.out.2.1; omega
      have HL : Hid (lines cur = cur.take E :: lines (cur.drop (E + 2))) := Lib.hid (by rw [hE]; exact lines_cons hne)
      have HAT : Hid (∀ (X : World) (k : Nat), Below w.heap.size w X → k ≤ E → Calls Tryd.prog 33 #[.slice A3 n3 c3, .int .i64 (k : Int), .string ⟨#[13, 10]⟩] X fun e w' => e = .returned (.bool (decide (k = E))) ∧ w' = X) := Lib.hid fun X k hX hk => by
        have hsx : Seg X X.heap.size (.slice A3 n3 c3) (byteCells cur) := ((HB.out.1.seg fun _ h => h).below hX).more hX.size
        have hnn := HB.out.2.1
        have h1 := at_any A3 c3 cur [13, 10] k X (by rw [← hnn]; exact hsx) HB.out.2.2.1 (by omega) (by omega) (by simp) (by simp)
        rw [← hnn] at h1
        have h3 : [13, 10].isPrefixOf (cur.drop k) = decide (k = E) := by
          by_cases hk2 : k = E
          · rw [decide_eq_true hk2, hk2, hE]; exact eol_at (by rw [← hE]; exact hee.1)
          · rw [decide_eq_false hk2]; exact eol_before (by omega)
        rw [h3] at h1
        exact h1
      have HEE := Lib.hid hee.2
      obtain ⟨hec, hsE⟩ := seg_front HB.out.1 HB.out.2.1 E (by omega)
      have hslE := fun X => slice_to A3 n3 c3 E X hec
      obtain ⟨A4, e4, hs4, hn4⟩ := seg_from HB.out.1 HB.out.2.1 (E + 2) hE2 HB.out.2.2.1
      have hl4 : (cur.drop (E + 2)).length = n3 - (E + 2) := by rw [List.length_drop, ← HB.out.2.1]
      rw [hl4] at e4 hs4
      obtain ⟨n4, hn4'⟩ : ∃ n4, n4 = n3 - (E + 2) := ⟨_, rfl⟩
      obtain ⟨c4, hc4'⟩ : ∃ c4, c4 = c3 - (E + 2) := ⟨_, rfl⟩
      rw [← hn4', ← hc4'] at e4 hs4
      rw [← hn4'] at hl4
      rw [← hc4'] at hn4
      have hsl4 := fun X => slice_from A3 n3 c3 (E + 2) X hE2
      simp only [e4] at hsl4
      have ek : ((E + 2 : Nat) : Int) = (E : Int) + 2 := by omega
      rw [ek] at hsl4
      have hlE : (cur.take E).length = E := by rw [List.length_take]; have := HB.out.2.1; omega
      have hn43 : n4 < n3 := by omega
      have hn4c : n4 ≤ c4 := by omega
      have HFD : Hid (∀ X, Below w.heap.size w X → Calls Tryd.prog 34 #[.slice A3 E c3] X fun e w' => e = .returned (.int .i64 (fieldI (cur.take E))) ∧ Hid (Below w.heap.size w w')) := Lib.hid fun X hX => by
        have hsx : Seg X X.heap.size (.slice A3 E c3) (byteCells (cur.take E)) := ((hsE.seg fun _ h => h).below hX).more hX.size
        have h1 := field_any A3 c3 (cur.take E) X (by rw [hlE]; exact hsx) HB.out.2.2.1 (by omega)
        rw [hlE] at h1
        refine h1.mono ?_
        rintro e w' ⟨rfl, hb⟩
        exact ⟨rfl, Lib.hid (hX.trans (hb.out.mono hX.size))⟩
      have HNX : Hid (SegS (· < w.heap.size) w (.slice A4 n4 c4) (byteCells (cur.drop (E + 2))) ∧ n4 = (cur.drop (E + 2)).length ∧ (A4 = none → c4 = 0) ∧ (cur.drop (E + 2) = [] ∨ EndsLn (cur.drop (E + 2)))) := Lib.hid ⟨hs4, hl4.symm, hn4, HEE.out⟩
      have HFI : Hid (fi = optI F ∧ R = optI (match fieldV (cur.take E) with | none => none | some none => rscan (lines (cur.drop (E + 2))) F | some (some n) => if F.isSome then none else rscan (lines (cur.drop (E + 2))) (some n))) := Lib.hid ⟨HB.out.2.2.2.2.1, by have h1 := HB.out.2.2.2.2.2; rw [HL.out] at h1; exact h1⟩
      clear hne hend hE hee hsE e4 hs4 hn4 hl4 hn4' hc4' ek hlE HB HL HEE
      obtain ⟨L, hL⟩ : ∃ L, L = cur.take E := ⟨_, rfl⟩
      rw [← hL] at HFD HFI
      obtain ⟨rest, hrest⟩ : ∃ rest, rest = cur.drop (E + 2) := ⟨_, rfl⟩
      rw [← hrest] at HNX HFI
      clear hL hrest
      go_wp2
      go_loopw [4] (fun kv X => ∃ k : Nat, k ≤ E ∧ kv = .int .i64 k ∧ X = wr) (fun kv _ => E - (intOf kv).toNat)
      case atStart => exact ⟨0, by omega, rfl, rfl⟩
      case round =>
        obtain ⟨k, hk, rfl, rfl⟩ := hrel
        have hat := HAT.out _ k HBW.out hk
        by_cases hkE : k = E
        · rw [decide_eq_true hkE] at hat
          have HAK := Lib.hid hat
          subst hkE
          clear hat
          unfold fieldI at HFD
          cases hfv : fieldV L with
          | none =>
            rw [hfv] at HFD HFI
            have HF : Hid (R = -1) := Lib.hid HFI.out.2
            clear hfv
            go_wp2_with (first
              | (go_at_call 33; refine HAK.out.mono ?_; rintro e w2 ⟨rfl, rfl⟩)
              | (go_at_call 34; refine (HFD.out _ HBW.out).mono ?_; rintro e w3 ⟨rfl, HB3⟩))
            go_ret
            exact ⟨by rw [HF.out]; rfl, HB3⟩
          | some o =>
            cases o with
            | none =>
              rw [hfv] at HFD HFI
              clear hfv
              go_wp2_with (first
                | (go_at_call 33; refine HAK.out.mono ?_; rintro e w2 ⟨rfl, rfl⟩)
                | (go_at_call 34; refine (HFD.out _ HBW.out).mono ?_; rintro e w3 ⟨rfl, HB3⟩))
              go_roundw
              case rel => exact ⟨rest, F, A4, n4, c4, fi, rfl, rfl, by omega, hn4c, Lib.hid ⟨HNX.out.1, HNX.out.2.1, HNX.out.2.2.1, HNX.out.2.2.2, HFI.out.1, HFI.out.2⟩, HB3⟩
              case measure => simp [lenV]; omega
            | some n =>
              rw [hfv] at HFD HFI
              clear hfv
              cases F with
              | none =>
                have hfi : fi = -1 := HFI.out.1
                subst hfi
                go_wp2_with (first
                  | (go_at_call 33; refine HAK.out.mono ?_; rintro e w2 ⟨rfl, rfl⟩)
                  | (go_at_call 34; refine (HFD.out _ HBW.out).mono ?_; rintro e w3 ⟨rfl, HB3⟩))
                go_roundw
                case rel => exact ⟨rest, some n, A4, n4, c4, n, rfl, rfl, by omega, hn4c, Lib.hid ⟨HNX.out.1, HNX.out.2.1, HNX.out.2.2.1, HNX.out.2.2.2, rfl, HFI.out.2⟩, HB3⟩
                case measure => simp [lenV]; omega
              | some x =>
                have hfi : fi = (x : Int) := HFI.out.1
                subst hfi
                have HF : Hid (R = -1) := Lib.hid HFI.out.2
                go_wp2_with (first
                  | (go_at_call 33; refine HAK.out.mono ?_; rintro e w2 ⟨rfl, rfl⟩)
                  | (go_at_call 34; refine (HFD.out _ HBW.out).mono ?_; rintro e w3 ⟨rfl, HB3⟩))
                go_ret
                exact ⟨by rw [HF.out]; rfl, HB3⟩
        · rw [decide_eq_false hkE] at hat
          have HAK := Lib.hid hat
          clear hat
          go_wp2_with (go_at_call 33; refine HAK.out.mono ?_; rintro e w2 ⟨rfl, rfl⟩)
          go_roundw
          case rel => exact ⟨k + 1, by omega, by go_num, trivial⟩
          case measure => simp [intOf]; omega
    · have HF : Hid (R = fi) := Lib.hid (by
        have h1 := HB.out.2.2.2.2.2
        have h2 : cur = [] := List.length_eq_zero_iff.1 (by rw [← HB.out.2.1]; omega)
        rw [h2] at h1
        rw [h1, HB.out.2.2.2.2.1]; rfl)
      go_wp2
      go_ret
      exact ⟨by rw [HF.out]; rfl, HBW⟩
end Go.Proofs.YtffblcefnckacaaDoor
