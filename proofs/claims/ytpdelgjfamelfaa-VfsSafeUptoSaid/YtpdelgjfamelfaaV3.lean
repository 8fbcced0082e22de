import Derived.Test.YtpdelgjfamelfaaV2
import Derived.RegionTactic
import Derived.StillTailTactics
namespace Go.Proofs.Ytpdelgjfamelfaa
open Go.RowKit Go.Lib Go.Vfs Go.Par
set_option linter.unusedVariables false

theorem zeroPtr (w : World) : (zeroValue 87).run Try.prog w = .ok (.pointer none) w := by kernel_rfl
theorem strK : Maps.Keyed Try.prog 9 := Maps.string_keyed Try.underlying9
theorem keyStr (s : ByteArray) (hs : s.size ≤ 9223372036854775807) : keyOf Try.prog 9 (.string s) = some (.string s.data.toList) := WideMaps.keyOf_string_mk Try.underlying9 (by simpa [maxLen] using hs)

/-- the pointer that the map holds at a name. -/
def ptrOf (xs : List FileR) (s : List UInt8) : Value := match findL keyR s xs with | some x => .pointer (some ⟨x.q, 0, none⟩) | none => .pointer none
theorem FSAt.look {w : World} {p : Nat} {pow : Int} {xs : List FileR} {mb : Nat} (h : FSAt w p pow xs mb) (s : ByteArray) (hs : s.size ≤ 9223372036854775807) (n : Nat) :
    (Instr.lookup 82 (.map (some mb)) (.string s) false).run Try.prog (w.drewN n) = .ok (ptrOf xs s.data.toList) (w.drewN n) := by
  have hm : (w.drewN n).ownsMap Try.prog 9 ptrElem mb xs.length (dat xs) := h.map
  obtain ⟨v, ps, hrun, hv⟩ := hm.lookup strK Try.underlying82 (zeroPtr _) (zd := .nil) (zp := []) rfl (keyStr s hs)
  rw [hrun]
  rw [dat_at] at hv
  unfold ptrOf
  cases hf : findL keyR s.data.toList xs with
  | none => rw [hf] at hv; rw [ptrElem_nil hv]
  | some x => rw [hf] at hv; rw [ptrElem_at hv]

def FindPost (w : World) (xs : List FileR) (s : List UInt8) (e : Ending) (w' : World) : Prop :=
  w = w' ∧ (match nameB s, findL keyR s xs with
    | false, _ => e = .returned (.tuple #[.pointer none, .int .i64 10])
    | true, none => e = .returned (.tuple #[.pointer none, .int .i64 11])
    | true, some x => e = .returned (.tuple #[.pointer (some ⟨x.q, 0, none⟩), .int .i64 0]))

set_option maxHeartbeats 400000 in
theorem find_any (s : ByteArray) (hs : s.size ≤ 9223372036854775807) (w : World) (p : Nat) (pow : Int) (xs : List FileR) (mb : Nat) (h : FSAt w p pow xs mb) :
    Calls Try.prog 53 #[.pointer (some ⟨p, 0, none⟩), .string s] w (FindPost w xs s.data.toList) := by
  have hc0 : w.cell? ⟨p, 0, none⟩ = some (.map (some mb)) := by simp [World.cell?, h.head]
  have hlook := h.look s hs 0
  have hw0 : w.drewN 0 = w := rfl
  rw [hw0] at hlook
  clear hw0
  have hn := isName_any s w hs
  unfold FindPost
  cases hnm : nameB s.data.toList with
  | false =>
    rw [hnm] at hn
    clear hlook
    go_enter Try.func53, Try.ntmps53
    go_wp2_with (go_at_call 47; refine hn.mono ?_; rintro e w1 ⟨rfl, rfl⟩)
    go_ret2
    exact ⟨rfl, rfl⟩
  | true =>
    rw [hnm] at hn
    unfold ptrOf at hlook
    cases hf : findL keyR s.data.toList xs with
    | none =>
      rw [hf] at hlook
      go_enter Try.func53, Try.ntmps53
      go_wp2_with (go_at_call 47; refine hn.mono ?_; rintro e w1 ⟨rfl, rfl⟩)
      go_ret2
      exact ⟨rfl, rfl⟩
    | some x =>
      rw [hf] at hlook
      go_enter Try.func53, Try.ntmps53
      go_wp2_with (go_at_call 47; refine hn.mono ?_; rintro e w1 ⟨rfl, rfl⟩)
      go_ret2
      exact ⟨rfl, rfl⟩

/- change: the power, and then what is to be done. -/
set_option maxHeartbeats 400000 in
def dec (pow : Int) : Int := if 0 < pow then pow - 1 else pow
/-- a cell of a block of two is written. -/
theorem two_setCell {w : World} {b : Nat} {u v x : Value} {t : TypeId} (h : w.heap[b]? = some (.cells #[u, v] t (0, 0))) : (w.setCell ⟨b, 1, none⟩ x).heap[b]? = some (.cells #[u, x] t (0, 0)) := by
  have hlt := lt_of_block h
  have h' : w.heap[b] = .cells #[u, v] t (0, 0) := by simpa [Array.getElem?_eq_getElem hlt] using h
  show (w.heap.modify b _)[b]? = _
  rw [Array.getElem?_eq_getElem (by simpa using hlt), Array.getElem_modify_self, h']
  rfl
theorem two_setCell0 {w : World} {b : Nat} {u v x : Value} {t : TypeId} (h : w.heap[b]? = some (.cells #[u, v] t (0, 0))) : (w.setCell ⟨b, 0, none⟩ x).heap[b]? = some (.cells #[x, v] t (0, 0)) := by
  have hlt := lt_of_block h
  have h' : w.heap[b] = .cells #[u, v] t (0, 0) := by simpa [Array.getElem?_eq_getElem hlt] using h
  show (w.heap.modify b _)[b]? = _
  rw [Array.getElem?_eq_getElem (by simpa using hlt), Array.getElem_modify_self, h']
  rfl
theorem FSAt.power {w : World} {p : Nat} {pow : Int} {xs : List FileR} {mb : Nat} (h : FSAt w p pow xs mb) (pow' : Int) : FSAt (w.setCell ⟨p, 1, none⟩ (.int .i64 pow')) p pow' xs mb := by
  have hb : ∀ k, k ≠ p → (w.setCell ⟨p, 1, none⟩ (.int .i64 pow')).heap[k]? = w.heap[k]? := fun k hk => Below.heap_setCell _ _ _ _ hk
  exact ⟨two_setCell h.head, ownsMap_block h.map (hb _ (Ne.symm h.pm)), fun x hx => (h.files x hx).block (fun k hk' => hb k (fun e => (h.pf x hx).1 (e ▸ hk'))), h.rising, h.pm, h.pf, h.apart⟩

set_option maxHeartbeats 400000 in
theorem change_down (w : World) (p : Nat) (xs : List FileR) (mb : Nat) (h : FSAt w p 0 xs mb) (fv : Value) :
    Calls Try.prog 48 #[.pointer (some ⟨p, 0, none⟩), fv] w fun e w' => e = .returned (.int .i64 13) ∧ w = w' := by
  have hc1 : w.cell? ⟨p, 1, none⟩ = some (.int .i64 0) := by simp [World.cell?, h.head]
  clear h
  go_enter Try.func48, Try.ntmps48
  go_wp2
  go_ret
  exact ⟨rfl, rfl⟩
set_option maxHeartbeats 400000 in
theorem changeAppend1 (w : World) (p : Nat) (pow : Int) (xs : List FileR) (mb : Nat) (h : FSAt w p pow xs mb) (hne : pow ≠ 0) (hpm : pow ≤ 9223372036854775807) (lb : Array Value) (Q : World → Prop)
    (hdo : ∀ w1, FSAt w1 p (dec pow) xs mb → Kept (· = p) w w1 → w1.heap.size = w.heap.size → Calls Try.prog 49 lb w1 fun e w' => e = .returned (.tuple #[]) ∧ Q w') :
    Calls Try.prog 48 #[.pointer (some ⟨p, 0, none⟩), .func (.func 49) #[] lb] w fun e w' => e = .returned (.int .i64 0) ∧ Q w' := by
  have hc1 : w.cell? ⟨p, 1, none⟩ = some (.int .i64 pow) := by simp [World.cell?, h.head]
  have hf1 : w.frozen? ⟨p, 1, none⟩ = false := by simp [World.frozen?, h.head]
  have h0 : (pow == 0) = false := by simpa using hne
  by_cases hpos : 0 < pow
  · have HDO := Lib.hid (hdo (w.setCell ⟨p, 1, none⟩ (.int .i64 (pow - 1))) (by have := h.power (pow - 1); unfold dec; rw [if_pos hpos]; exact this) ((Kept.refl (· = p) w).setCell (p := ⟨p, 1, none⟩) (.inl rfl) _) (by simp [World.setCell]))
    clear hdo h hne
    go_enter Try.func48, Try.ntmps48
    go_wp2_with fail
    refine HDO.out.mono ?_
    rintro e w2 ⟨rfl, hQ⟩
    go_wp2
    go_ret
    exact ⟨rfl, hQ⟩
  · have HDO := Lib.hid (hdo w (by unfold dec; rw [if_neg hpos]; exact h) (Kept.refl _ _) rfl)
    clear hdo h hne
    go_enter Try.func48, Try.ntmps48
    go_wp2_with fail
    refine HDO.out.mono ?_
    rintro e w2 ⟨rfl, hQ⟩
    go_wp2
    go_ret
    exact ⟨rfl, hQ⟩
set_option maxHeartbeats 400000 in
theorem changeRename1 (w : World) (p : Nat) (pow : Int) (xs : List FileR) (mb : Nat) (h : FSAt w p pow xs mb) (hne : pow ≠ 0) (hpm : pow ≤ 9223372036854775807) (lb : Array Value) (Q : World → Prop)
    (hdo : ∀ w1, FSAt w1 p (dec pow) xs mb → Kept (· = p) w w1 → w1.heap.size = w.heap.size → Calls Try.prog 54 lb w1 fun e w' => e = .returned (.tuple #[]) ∧ Q w') :
    Calls Try.prog 48 #[.pointer (some ⟨p, 0, none⟩), .func (.func 54) #[] lb] w fun e w' => e = .returned (.int .i64 0) ∧ Q w' := by
  have hc1 : w.cell? ⟨p, 1, none⟩ = some (.int .i64 pow) := by simp [World.cell?, h.head]
  have hf1 : w.frozen? ⟨p, 1, none⟩ = false := by simp [World.frozen?, h.head]
  have h0 : (pow == 0) = false := by simpa using hne
  by_cases hpos : 0 < pow
  · have HDO := Lib.hid (hdo (w.setCell ⟨p, 1, none⟩ (.int .i64 (pow - 1))) (by have := h.power (pow - 1); unfold dec; rw [if_pos hpos]; exact this) ((Kept.refl (· = p) w).setCell (p := ⟨p, 1, none⟩) (.inl rfl) _) (by simp [World.setCell]))
    clear hdo h hne
    go_enter Try.func48, Try.ntmps48
    go_wp2_with fail
    refine HDO.out.mono ?_
    rintro e w2 ⟨rfl, hQ⟩
    go_wp2
    go_ret
    exact ⟨rfl, hQ⟩
  · have HDO := Lib.hid (hdo w (by unfold dec; rw [if_neg hpos]; exact h) (Kept.refl _ _) rfl)
    clear hdo h hne
    go_enter Try.func48, Try.ntmps48
    go_wp2_with fail
    refine HDO.out.mono ?_
    rintro e w2 ⟨rfl, hQ⟩
    go_wp2
    go_ret
    exact ⟨rfl, hQ⟩
set_option maxHeartbeats 400000 in
theorem changeTruncate1 (w : World) (p : Nat) (pow : Int) (xs : List FileR) (mb : Nat) (h : FSAt w p pow xs mb) (hne : pow ≠ 0) (hpm : pow ≤ 9223372036854775807) (lb : Array Value) (Q : World → Prop)
    (hdo : ∀ w1, FSAt w1 p (dec pow) xs mb → Kept (· = p) w w1 → w1.heap.size = w.heap.size → Calls Try.prog 69 lb w1 fun e w' => e = .returned (.tuple #[]) ∧ Q w') :
    Calls Try.prog 48 #[.pointer (some ⟨p, 0, none⟩), .func (.func 69) #[] lb] w fun e w' => e = .returned (.int .i64 0) ∧ Q w' := by
  have hc1 : w.cell? ⟨p, 1, none⟩ = some (.int .i64 pow) := by simp [World.cell?, h.head]
  have hf1 : w.frozen? ⟨p, 1, none⟩ = false := by simp [World.frozen?, h.head]
  have h0 : (pow == 0) = false := by simpa using hne
  by_cases hpos : 0 < pow
  · have HDO := Lib.hid (hdo (w.setCell ⟨p, 1, none⟩ (.int .i64 (pow - 1))) (by have := h.power (pow - 1); unfold dec; rw [if_pos hpos]; exact this) ((Kept.refl (· = p) w).setCell (p := ⟨p, 1, none⟩) (.inl rfl) _) (by simp [World.setCell]))
    clear hdo h hne
    go_enter Try.func48, Try.ntmps48
    go_wp2_with fail
    refine HDO.out.mono ?_
    rintro e w2 ⟨rfl, hQ⟩
    go_wp2
    go_ret
    exact ⟨rfl, hQ⟩
  · have HDO := Lib.hid (hdo w (by unfold dec; rw [if_neg hpos]; exact h) (Kept.refl _ _) rfl)
    clear hdo h hne
    go_enter Try.func48, Try.ntmps48
    go_wp2_with fail
    refine HDO.out.mono ?_
    rintro e w2 ⟨rfl, hQ⟩
    go_wp2
    go_ret
    exact ⟨rfl, hQ⟩
set_option maxHeartbeats 400000 in
theorem changeRemove1 (w : World) (p : Nat) (pow : Int) (xs : List FileR) (mb : Nat) (h : FSAt w p pow xs mb) (hne : pow ≠ 0) (hpm : pow ≤ 9223372036854775807) (lb : Array Value) (Q : World → Prop)
    (hdo : ∀ w1, FSAt w1 p (dec pow) xs mb → Kept (· = p) w w1 → w1.heap.size = w.heap.size → Calls Try.prog 80 lb w1 fun e w' => e = .returned (.tuple #[]) ∧ Q w') :
    Calls Try.prog 48 #[.pointer (some ⟨p, 0, none⟩), .func (.func 80) #[] lb] w fun e w' => e = .returned (.int .i64 0) ∧ Q w' := by
  have hc1 : w.cell? ⟨p, 1, none⟩ = some (.int .i64 pow) := by simp [World.cell?, h.head]
  have hf1 : w.frozen? ⟨p, 1, none⟩ = false := by simp [World.frozen?, h.head]
  have h0 : (pow == 0) = false := by simpa using hne
  by_cases hpos : 0 < pow
  · have HDO := Lib.hid (hdo (w.setCell ⟨p, 1, none⟩ (.int .i64 (pow - 1))) (by have := h.power (pow - 1); unfold dec; rw [if_pos hpos]; exact this) ((Kept.refl (· = p) w).setCell (p := ⟨p, 1, none⟩) (.inl rfl) _) (by simp [World.setCell]))
    clear hdo h hne
    go_enter Try.func48, Try.ntmps48
    go_wp2_with fail
    refine HDO.out.mono ?_
    rintro e w2 ⟨rfl, hQ⟩
    go_wp2
    go_ret
    exact ⟨rfl, hQ⟩
  · have HDO := Lib.hid (hdo w (by unfold dec; rw [if_neg hpos]; exact h) (Kept.refl _ _) rfl)
    clear hdo h hne
    go_enter Try.func48, Try.ntmps48
    go_wp2_with fail
    refine HDO.out.mono ?_
    rintro e w2 ⟨rfl, hQ⟩
    go_wp2
    go_ret
    exact ⟨rfl, hQ⟩
set_option maxHeartbeats 400000 in
theorem changeSync1 (w : World) (p : Nat) (pow : Int) (xs : List FileR) (mb : Nat) (h : FSAt w p pow xs mb) (hne : pow ≠ 0) (hpm : pow ≤ 9223372036854775807) (lb : Array Value) (Q : World → Prop)
    (hdo : ∀ w1, FSAt w1 p (dec pow) xs mb → Kept (· = p) w w1 → w1.heap.size = w.heap.size → Calls Try.prog 64 lb w1 fun e w' => e = .returned (.tuple #[]) ∧ Q w') :
    Calls Try.prog 48 #[.pointer (some ⟨p, 0, none⟩), .func (.func 64) #[] lb] w fun e w' => e = .returned (.int .i64 0) ∧ Q w' := by
  have hc1 : w.cell? ⟨p, 1, none⟩ = some (.int .i64 pow) := by simp [World.cell?, h.head]
  have hf1 : w.frozen? ⟨p, 1, none⟩ = false := by simp [World.frozen?, h.head]
  have h0 : (pow == 0) = false := by simpa using hne
  by_cases hpos : 0 < pow
  · have HDO := Lib.hid (hdo (w.setCell ⟨p, 1, none⟩ (.int .i64 (pow - 1))) (by have := h.power (pow - 1); unfold dec; rw [if_pos hpos]; exact this) ((Kept.refl (· = p) w).setCell (p := ⟨p, 1, none⟩) (.inl rfl) _) (by simp [World.setCell]))
    clear hdo h hne
    go_enter Try.func48, Try.ntmps48
    go_wp2_with fail
    refine HDO.out.mono ?_
    rintro e w2 ⟨rfl, hQ⟩
    go_wp2
    go_ret
    exact ⟨rfl, hQ⟩
  · have HDO := Lib.hid (hdo w (by unfold dec; rw [if_neg hpos]; exact h) (Kept.refl _ _) rfl)
    clear hdo h hne
    go_enter Try.func48, Try.ntmps48
    go_wp2_with fail
    refine HDO.out.mono ?_
    rintro e w2 ⟨rfl, hQ⟩
    go_wp2
    go_ret
    exact ⟨rfl, hQ⟩
end Go.Proofs.Ytpdelgjfamelfaa
