/- The reader's name. -/
import Derived.Test.YtbhicpjhijondaaDoorT21
namespace Go.Proofs.YtbhicpjhijondaaDoor
open Go.RowKit Go.Lib Go.Vfs Go.Par Go.Typ Go.Shelf
set_option linter.unusedVariables false
set_option linter.unusedSimpArgs false

/-- where a name ends. -/
def nmEnd (s : ByteArray) (a : Nat) : Nat := a + ((s.data.toList.drop a).takeWhile (fun b => nmN true b.toNat)).length
theorem takeWhile_len {α : Type} (p : α → Bool) : ∀ (l : List α) (n : Nat), n ≤ l.length → (∀ j (h : j < l.length), j < n → p l[j] = true) → (∀ h : n < l.length, p l[n] = false) → (l.takeWhile p).length = n
  | [], n, h, _, _ => by simp at h; simp [h]
  | x :: l, 0, _, _, h2 => by
    have := h2 (by simp)
    simp at this
    rw [List.takeWhile_cons, this]; rfl
  | x :: l, n + 1, h, h1, h2 => by
    have hx := h1 0 (by simp) (by omega)
    simp at hx
    rw [List.takeWhile_cons, hx]
    simp only [if_true, List.length_cons]
    rw [takeWhile_len p l n (by simpa using h) (fun j hj hn => by have := h1 (j + 1) (by simp; omega) (by omega); simpa using this) (fun hn => by have := h2 (by simp; omega); simpa using this)]
theorem nmEnd_eq {s : ByteArray} {a k : Nat} (ha : a ≤ k) (hk : k ≤ s.size) (h1 : ∀ j, a ≤ j → j < k → nmN true (byteS s j) = true) (h2 : k < s.size → nmN true (byteS s k) = false) : nmEnd s a = k := by
  have hl := name_len s
  have hg : ∀ j (h : j < (s.data.toList.drop a).length), (s.data.toList.drop a)[j].toNat = byteS s (a + j) := fun j h => by
    unfold byteS
    rw [List.getElem_drop, List.getD_eq_getElem?_getD, List.getElem?_eq_getElem (by rw [List.length_drop] at h; omega)]
    rfl
  unfold nmEnd
  rw [takeWhile_len (fun b => nmN true b.toNat) (s.data.toList.drop a) (k - a) (by rw [List.length_drop]; omega) (fun j hj hn => by
    show nmN true _ = true
    rw [hg j hj]; exact h1 _ (by omega) (by omega)) (fun hn => by
    show nmN true _ = false
    rw [hg _ hn, show a + (k - a) = k by omega]
    exact h2 (by rw [List.length_drop] at hn; omega))]
  omega
/-- what the reader's block says of its place. -/
def atOf (W : World) (p : Nat) : Nat := match W.cell? ⟨p, 1, none⟩ with | some (.int _ z) => z.toNat | _ => 0
theorem atOf_rdr {W : World} {p : Nat} {s : ByteArray} {a : Nat} {c : Int} {bad : Bool} (h : W.heap[p]? = some (rdr s a c bad)) : atOf W p = a := by
  unfold atOf
  rw [(rdr_cells h).2.1]; simp

set_option maxRecDepth 20000 in
set_option maxHeartbeats 1000000 in
theorem name_any (p : Nat) (s : ByteArray) (a : Nat) (c : Int) (bad : Bool) (w : World) (h : w.heap[p]? = some (rdr s a c bad)) (ha : a ≤ s.size) (hs : s.size ≤ 9223372036854775000) :
    Calls Tryd.prog 116 #[.pointer (some ⟨p, 0, none⟩)] w fun e w' => e = .returned (.string (s.extract a (nmEnd s a))) ∧ nmEnd s a ≤ s.size ∧ w'.heap[p]? = some (rdr s (nmEnd s a) c bad) ∧ Kept (· = p) w w' ∧ w'.heap.size = w.heap.size := by
  obtain ⟨y0, y1, y2, y3⟩ := rdr_cells h
  have HH := Lib.hid h
  clear h
  go_enter Tryd.func116, Tryd.ntmps116
  go_wp2
  clear y0 y1 y2 y3
  go_loopw [8] (fun _ wr => ∃ (k : Nat), a ≤ k ∧ k ≤ s.size ∧ Hid (wr.heap[p]? = some (rdr s k c bad)) ∧ Hid (Kept (fun x => x = p) w wr ∧ wr.heap.size = w.heap.size) ∧ Hid (∀ j, a ≤ j → j < k → nmN true (byteS s j) = true)) (fun _ wr => s.size - atOf wr p)
  case atStart => exact ⟨a, by omega, ha, HH, Lib.hid ⟨Kept.refl _ _, rfl⟩, Lib.hid fun j h1 h2 => by omega⟩
  case round =>
    obtain ⟨k, hk0, hk, HR, HK, HJ⟩ := hrel
    obtain ⟨y0, y1, y2, y3⟩ := rdr_cells HR.out
    obtain ⟨q0, q1, q2, q3⟩ := rdr_frozen HR.out
    have HM := Lib.hid (atOf_rdr HR.out)
    by_cases hlt : k < s.size
    · have HX := Lib.hid (byteS_get s k hlt)
      obtain ⟨x, hx⟩ : ∃ x, s[k].toNat = x := ⟨_, rfl⟩
      have HX2 : Hid (byteS s k = x) := Lib.hid (by rw [← hx]; exact HX.out.symm)
      have HN := fun W => Lib.hid (nameByte_any x W)
      obtain ⟨q, hq⟩ : ∃ q, q = nmN true x := ⟨_, rfl⟩
      rw [← hq] at HN
      have HQ := Lib.hid hq
      clear hq HX
      cases q
      · have HE : Hid (nmEnd s a = k) := Lib.hid (nmEnd_eq hk0 hk HJ.out (fun _ => by rw [HX2.out]; exact HQ.out.symm))
        go_wp2
        go_quiet ((go_at_call 115; exact Calls.quiet_of ((HN _).out.mono (fun e w' h => ⟨h.1, 0, h.2⟩))))
        go_wp2
        go_quiet (fail)
        go_wp2
        go_ret
        rw [HE.out]
        refine ⟨rfl, hk, HR.out, (HK.out.1.drewN _).drewN _, HK.out.2⟩
      · go_wp2
        go_quiet ((go_at_call 115; exact Calls.quiet_of ((HN _).out.mono (fun e w' h => ⟨h.1, 0, h.2⟩))))
        go_wp2
        have hput := (rdr_put (W := wr.drewN nq) HR.out).1 (k + 1)
        have e1 : ((k + 1 : Nat) : Int) = (k : Int) + 1 := by omega
        rw [e1] at hput
        have hkp : Kept (fun x => x = p) w ((wr.drewN nq).setCell ⟨p, 1, none⟩ (.int .i64 ((k : Int) + 1))) := Kept.setCell (F := fun x => x = p) (p := ⟨p, 1, none⟩) (HK.out.1.drewN _) (.inl rfl) _
        refine ⟨⟨k + 1, by omega, by omega, Lib.hid hput, Lib.hid ⟨hkp, by simp [World.setCell]; exact HK.out.2⟩, Lib.hid fun j h1 h2 => ?_⟩, ?_⟩
        · by_cases hj : j < k
          · exact HJ.out j h1 hj
          · rw [show j = k by omega, HX2.out]; exact HQ.out.symm
        · rw [atOf_rdr hput, HM.out]; omega
    · have hke : k = s.size := by omega
      have HE : Hid (nmEnd s a = k) := Lib.hid (nmEnd_eq hk0 hk HJ.out (fun h => absurd h hlt))
      clear hke
      go_wp2
      go_quiet (fail)
      go_wp2
      go_quiet (fail)
      go_wp2
      go_ret
      rw [HE.out]
      refine ⟨rfl, hk, HR.out, (HK.out.1.drewN _).drewN _, HK.out.2⟩
end Go.Proofs.YtbhicpjhijondaaDoor
