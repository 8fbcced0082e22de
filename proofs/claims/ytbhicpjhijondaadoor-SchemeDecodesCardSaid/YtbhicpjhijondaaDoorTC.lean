/- Merged of T20 T21 T22 T23 T24 T25 T26 T27 T28 T29 T30. -/
import Derived.Test.YtbhicpjhijondaaDoorTB
import Derived.Lib.ItoaLen
/- T20 -/
/- The reader of a type's words: its small methods. -/
namespace Go.Proofs.YtbhicpjhijondaaDoor
open Go.RowKit Go.Lib Go.Vfs Go.Par Go.Typ Go.Shelf
set_option linter.unusedVariables false
set_option linter.unusedSimpArgs false

/-- a reader in its block. -/
def rdr (s : ByteArray) (a : Nat) (c : Int) (bad : Bool) : Obj := .cells #[.string s, .int .i64 a, .int .i64 c, .bool bad] 77 (0, 0)
theorem rdr_cells {W : World} {p : Nat} {s : ByteArray} {a : Nat} {c : Int} {bad : Bool} (h : W.heap[p]? = some (rdr s a c bad)) :
    (W.cell? ⟨p, 0, none⟩ = some (.string s) ∧ W.cell? ⟨p, 1, none⟩ = some (.int .i64 a) ∧ W.cell? ⟨p, 2, none⟩ = some (.int .i64 c) ∧ W.cell? ⟨p, 3, none⟩ = some (.bool bad)) := by
  unfold rdr at h
  exact box4 h
theorem rdr_frozen {W : World} {p : Nat} {s : ByteArray} {a : Nat} {c : Int} {bad : Bool} (h : W.heap[p]? = some (rdr s a c bad)) :
    (W.frozen? ⟨p, 0, none⟩ = false ∧ W.frozen? ⟨p, 1, none⟩ = false ∧ W.frozen? ⟨p, 2, none⟩ = false ∧ W.frozen? ⟨p, 3, none⟩ = false) := by
  unfold rdr at h
  exact box4_frozen h

set_option maxRecDepth 20000 in
set_option maxHeartbeats 1000000 in
theorem nameByte_any (x : Nat) (w : World) : Calls Tryd.prog 115 #[.int .u8 x] w fun e w' => e = .returned (.bool (nmN true x)) ∧ w' = w := by
  have h1 : smallN x = decide (97 ≤ x ∧ x ≤ 122) := rfl
  have h2 : greatN x = decide (65 ≤ x ∧ x ≤ 90) := rfl
  have h3 : digitN x = decide (48 ≤ x ∧ x ≤ 57) := rfl
  have HN : Hid (nmN true x = (decide (97 ≤ x ∧ x ≤ 122) || decide (65 ≤ x ∧ x ≤ 90) || decide (48 ≤ x ∧ x ≤ 57) || decide (x = 95) || decide (x = 39))) := Lib.hid (by unfold nmN; rw [h1, h2, h3, Bool.true_and])
  clear h1 h2 h3
  have g4 : ((x : Int) == 95) = decide (x = 95) := by
    by_cases h : x = 95
    · subst h; rfl
    · have : ¬ (x : Int) = 95 := by omega
      simp [h, this]
  have g5 : ((x : Int) == 39) = decide (x = 39) := by
    by_cases h : x = 39
    · subst h; rfl
    · have : ¬ (x : Int) = 39 := by omega
      simp [h, this]
  rw [HN.out]
  go_enter Tryd.func115, Tryd.ntmps115
  go_wp2
  all_goals go_ret
  all_goals refine ⟨congrArg (fun b => Ending.returned (.bool b)) ?_, rfl⟩
  all_goals first | rfl | (rw [Bool.eq_iff_iff]; simp only [Bool.or_eq_true, Bool.and_eq_true, decide_eq_true_iff, true_iff, iff_true, Bool.false_eq_true, false_iff]; omega)

end Go.Proofs.YtbhicpjhijondaaDoor
/- T21 -/
/- The reader's fail, skip, part. -/
namespace Go.Proofs.YtbhicpjhijondaaDoor
open Go.RowKit Go.Lib Go.Vfs Go.Par Go.Typ Go.Shelf
set_option linter.unusedVariables false
set_option linter.unusedSimpArgs false

theorem end4 {W : World} {r : Nat} {u0 u1 u2 u3 : Value} (v0 v1 v2 v3 : Value) {t : TypeId} (hr : W.heap[r]? = some (.cells #[u0, u1, u2, u3] t (0, 0))) :
    ∃ Wf, Wf = ((((W.setCell ⟨r, 0, none⟩ v0).setCell ⟨r, 1, none⟩ v1).setCell ⟨r, 2, none⟩ v2).setCell ⟨r, 3, none⟩ v3) ∧ Wf.heap[r]? = some (.cells #[v0, v1, v2, v3] t (0, 0)) ∧ Kept (· = r) W Wf :=
  ⟨_, rfl, put4 hr, kept4 (Kept.refl _ _) (.inl rfl)⟩
theorem rdr_put {W : World} {p : Nat} {s : ByteArray} {a : Nat} {c : Int} {bad : Bool} (h : W.heap[p]? = some (rdr s a c bad)) :
    (∀ a' : Nat, (W.setCell ⟨p, 1, none⟩ (.int .i64 a')).heap[p]? = some (rdr s a' c bad)) ∧ (∀ c' : Int, (W.setCell ⟨p, 2, none⟩ (.int .i64 c')).heap[p]? = some (rdr s a c' bad)) ∧
      (∀ bad' : Bool, (W.setCell ⟨p, 3, none⟩ (.bool bad')).heap[p]? = some (rdr s a c bad')) := by
  unfold rdr at h ⊢
  refine ⟨fun a' => ?_, fun c' => ?_, fun b' => ?_⟩
  · simpa using cells_put h 1 (.int .i64 a')
  · simpa using cells_put h 2 (.int .i64 c')
  · simpa using cells_put h 3 (.bool b')
/-- the zero of a type. -/
def zero4 : Obj := .cells #[.int .i64 0, .int .i64 0, .string ⟨#[]⟩, .slice none 0 0] 24 (0, 0)
set_option maxRecDepth 20000 in
set_option maxHeartbeats 1000000 in
theorem fail_any (p : Nat) (s : ByteArray) (a : Nat) (c : Int) (bad : Bool) (w : World) (h : w.heap[p]? = some (rdr s a c bad)) :
    Calls Tryd.prog 87 #[.pointer (some ⟨p, 0, none⟩)] w fun e w' => e = .returned (tyV 0 0 ⟨#[]⟩ none 0 0) ∧ w'.heap[p]? = some (rdr s a c true) ∧ Kept (· = p) w w' := by
  have hlt := lt_blk h
  have hne : ¬ (p = w.heap.size) := by omega
  have hne2 : ¬ (w.heap.size = p) := by omega
  obtain ⟨W1, hW1⟩ : ∃ W1, W1 = w.alloc zero4 := ⟨_, rfl⟩
  have hb1 : Below w.heap.size w W1 := by rw [hW1]; exact (Below.refl _ _).alloc (Nat.le_refl _) _
  have hp1 := (hb1.block p hlt).trans h
  have hr1 : W1.heap[w.heap.size]? = some (.cells #[.int .i64 0, .int .i64 0, .string ⟨#[]⟩, .slice none 0 0] 24 (0, 0)) := by rw [hW1]; exact heap_alloc_new _ _
  obtain ⟨y0, y1, y2, y3⟩ := rdr_cells hp1
  obtain ⟨q0, q1, q2, q3⟩ := rdr_frozen hp1
  obtain ⟨r0, r1, r2, r3⟩ := box4 hr1
  obtain ⟨s0, s1, s2, s3⟩ := box4_frozen hr1
  have HP1 := Lib.hid hp1; have HR1 := Lib.hid hr1; have HB1 := Lib.hid hb1
  clear h hp1 hr1 hb1
  go_enter Tryd.func87, Tryd.ntmps87
  go_upto_region 1 with fail
  rw [show w.alloc (.cells #[.int .i64 0, .int .i64 0, .string ⟨#[]⟩, .slice none 0 0] 24) = W1 from hW1.symm]
  clear hW1
  go_wp2
  have hr2 : (W1.setCell ⟨p, 3, none⟩ (.bool true)).heap[w.heap.size]? = some (.cells #[.int .i64 0, .int .i64 0, .string ⟨#[]⟩, .slice none 0 0] 24 (0, 0)) := (setCell_blk (by dsimp only; omega)).trans HR1.out
  obtain ⟨Wf, hWf, hbx, hkf⟩ := end4 (.int .i64 0) (.int .i64 0) (.string ⟨#[]⟩) (.slice none 0 0) hr2
  rw [← hWf]
  obtain ⟨f0, f1, f2, f3⟩ := box4 hbx
  refine bodyPost_ret (v := .agg #[.int .i64 0, .int .i64 0, .string ⟨#[]⟩, .slice none 0 0]) (by simp [results, Tryd.results87, go_sem, f0, f1, f2, f3]) rfl ?_
  have hz : (W1.setCell ⟨p, 3, none⟩ (.bool true)).heap.size = W1.heap.size := by simp [World.setCell]
  have hz1 := HB1.out.size
  have hlt1 : p < W1.heap.size := by omega
  refine ⟨rfl, ?_, ?_⟩
  · exact (hkf.block p (by omega) hne).trans ((rdr_put HP1.out).2.2 true)
  · have k1 : Kept (· = p) w (W1.setCell ⟨p, 3, none⟩ (.bool true)) := Kept.setCell (F := fun x => x = p) (p := ⟨p, 3, none⟩) (Kept.of_below HB1.out) (.inl rfl) _
    refine ⟨hkf.os.trans k1.os, hkf.tape.trans k1.tape, hkf.output.trans k1.output, Nat.le_trans k1.size hkf.size, fun g hg hp => ?_⟩
    exact (hkf.block g (by have := k1.size; omega) (by omega)).trans (k1.block g hg hp)

set_option maxRecDepth 20000 in
set_option maxHeartbeats 1000000 in
theorem skip_bad (p : Nat) (s wd : ByteArray) (a : Nat) (c : Int) (w : World) (h : w.heap[p]? = some (rdr s a c true)) :
    Calls Tryd.prog 89 #[.pointer (some ⟨p, 0, none⟩), .string wd] w fun e w' => e = .returned (.bool false) ∧ w'.heap[p]? = some (rdr s a c true) ∧ Kept (· = p) w w' := by
  obtain ⟨y0, y1, y2, y3⟩ := rdr_cells h
  go_enter Tryd.func89, Tryd.ntmps89
  go_wp2
  go_quiet (fail)
  go_wp2
  go_ret
  exact ⟨rfl, h, (Kept.refl _ _).drewN _⟩

set_option maxRecDepth 20000 in
set_option maxHeartbeats 1000000 in
theorem skip_ok (p : Nat) (s wd : ByteArray) (a : Nat) (c : Int) (w : World) (h : w.heap[p]? = some (rdr s a c false)) (ha : a ≤ s.size) (hs : s.size ≤ 9223372036854775000) (hw : wd.size ≤ 100) :
    Calls Tryd.prog 89 #[.pointer (some ⟨p, 0, none⟩), .string wd] w fun e w' => e = .returned (.bool (wd.data.toList.isPrefixOf (s.data.toList.drop a))) ∧
      w'.heap[p]? = some (rdr s (if wd.data.toList.isPrefixOf (s.data.toList.drop a) then a + wd.size else a) c false) ∧ Kept (· = p) w w' := by
  obtain ⟨y0, y1, y2, y3⟩ := rdr_cells h
  obtain ⟨q0, q1, q2, q3⟩ := rdr_frozen h
  obtain ⟨q, hq⟩ : ∃ q, q = wd.data.toList.isPrefixOf (s.data.toList.drop a) := ⟨_, rfl⟩
  rw [← hq]
  have he : (s.extract a s.size).data.toList = s.data.toList.drop a := by
    rw [ByteArray.data_extract]
    show (s.data.extract a s.data.size).toList = s.data.toList.drop a
    simp
    exact List.take_of_length_le (by rw [List.length_drop, name_len]; omega)
  have HP : ∀ W, Hid (Calls Tryd.prog 101 #[.string (s.extract a s.size), .string wd] W fun e w' => e = .returned (.bool q) ∧ w' = W) := fun W => Lib.hid (by
    have h1 := Tryd.strings_HasPrefix (s.extract a s.size) wd W
    unfold Lib.hasPrefix at h1
    rw [he, ← hq] at h1
    exact h1)
  have HH := Lib.hid h
  clear he hq h
  cases q
  · go_enter Tryd.func89, Tryd.ntmps89
    go_wp2
    go_quiet ((go_at_call 101; exact Calls.quiet_of ((HP _).out.mono (fun e w' h => ⟨h.1, 0, h.2⟩))))
    go_wp2
    go_ret
    exact ⟨rfl, HH.out, (Kept.refl _ _).drewN _⟩
  · go_enter Tryd.func89, Tryd.ntmps89
    go_wp2
    go_quiet ((go_at_call 101; exact Calls.quiet_of ((HP _).out.mono (fun e w' h => ⟨h.1, 0, h.2⟩))))
    go_wp2
    go_ret
    have h := (rdr_put (W := w.drewN nq) HH.out).1 (a + wd.size)
    have e : ((a + wd.size : Nat) : Int) = (a : Int) + (wd.size : Int) := by omega
    rw [e] at h
    exact ⟨rfl, h, Kept.setCell (F := fun x => x = p) (p := ⟨p, 1, none⟩) ((Kept.refl _ _).drewN _) (.inl rfl) _⟩

set_option maxRecDepth 20000 in
set_option maxHeartbeats 1000000 in
theorem part_any (p : Nat) (s : ByteArray) (a : Nat) (c : Int) (bad : Bool) (k num : Int) (name : ByteArray) (A : Option Addr) (n cc : Nat) (w : World) (h : w.heap[p]? = some (rdr s a c bad)) (hc0 : -9223372036854775808 ≤ c) (hc : c ≤ 9223372036854775806) :
    Calls Tryd.prog 90 #[.pointer (some ⟨p, 0, none⟩), tyV k num name A n cc] w fun e w' => e = .returned (tyV k num name A n cc) ∧ w'.heap[p]? = some (rdr s a (c + 1) (bad || decide (300 < c + 1))) ∧ Kept (· = p) w w' := by
  have hlt := lt_blk h
  have hne : ¬ (p = w.heap.size) := by omega
  have hne2 : ¬ (w.heap.size = p) := by omega
  have hne3 : ¬ (p = w.heap.size + 1) := by omega
  have hne4 : ¬ (w.heap.size + 1 = p) := by omega
  obtain ⟨W1, hW1⟩ : ∃ W1, W1 = (w.alloc (.cells #[.int .i64 k, .int .i64 num, .string name, .slice A n cc] 24)).alloc zero4 := ⟨_, rfl⟩
  have hb1 : Below w.heap.size w W1 := by rw [hW1]; exact ((Below.refl _ _).alloc (Nat.le_refl _) _).alloc (by simp) _
  have hp1 := (hb1.block p hlt).trans h
  have ht1 : W1.heap[w.heap.size]? = some (.cells #[.int .i64 k, .int .i64 num, .string name, .slice A n cc] 24 (0, 0)) := by
    rw [hW1, Below.heap_alloc _ _ _ (by simp)]; exact heap_alloc_new _ _
  have hr1 : W1.heap[w.heap.size + 1]? = some (.cells #[.int .i64 0, .int .i64 0, .string ⟨#[]⟩, .slice none 0 0] 24 (0, 0)) := by
    rw [hW1]
    have := heap_alloc_new (w.alloc (.cells #[.int .i64 k, .int .i64 num, .string name, .slice A n cc] 24)) zero4
    rw [World.size_alloc] at this
    exact this
  obtain ⟨y0, y1, y2, y3⟩ := rdr_cells hp1
  obtain ⟨q0, q1, q2, q3⟩ := rdr_frozen hp1
  obtain ⟨t0, t1, t2, t3⟩ := box4 ht1
  obtain ⟨r0, r1, r2, r3⟩ := box4 hr1
  obtain ⟨s0, s1, s2, s3⟩ := box4_frozen hr1
  have HP1 := Lib.hid hp1; have HR1 := Lib.hid hr1; have HB1 := Lib.hid hb1
  have hz1 : W1.heap.size = w.heap.size + 2 := by rw [hW1]; simp
  have HZ1 := Lib.hid hz1
  obtain ⟨W2, hW2⟩ : ∃ W2, W2 = W1.setCell ⟨p, 2, none⟩ (.int .i64 (c + 1)) := ⟨_, rfl⟩
  have hp2 : W2.heap[p]? = some (rdr s a (c + 1) bad) := by rw [hW2]; exact (rdr_put hp1).2.1 (c + 1)
  have hk2 : Kept (fun x => x = p) w W2 := by rw [hW2]; exact Kept.setCell (F := fun x => x = p) (p := ⟨p, 2, none⟩) (Kept.of_below hb1) (.inl rfl) _
  have hr2 : W2.heap[w.heap.size + 1]? = some (.cells #[.int .i64 0, .int .i64 0, .string ⟨#[]⟩, .slice none 0 0] 24 (0, 0)) := by rw [hW2]; exact (setCell_blk (by dsimp only; omega)).trans hr1
  have hz2 : W2.heap.size = w.heap.size + 2 := by rw [hW2]; simpa [World.setCell] using hz1
  have HP2 := Lib.hid hp2; have HK2 := Lib.hid hk2; have HR2 := Lib.hid hr2; have HZ2 := Lib.hid hz2; have HW2 := Lib.hid hW2
  have fin : Hid (∀ (W3 : World) (b' : Bool), W3.heap[p]? = some (rdr s a (c + 1) b') → Kept (fun x => x = p) w W3 → W3.heap[w.heap.size + 1]? = some (.cells #[.int .i64 0, .int .i64 0, .string ⟨#[]⟩, .slice none 0 0] 24 (0, 0)) → ∃ Wf, Wf = ((((W3.setCell ⟨w.heap.size + 1, 0, none⟩ (.int .i64 k)).setCell ⟨w.heap.size + 1, 1, none⟩ (.int .i64 num)).setCell ⟨w.heap.size + 1, 2, none⟩ (.string name)).setCell ⟨w.heap.size + 1, 3, none⟩ (.slice A n cc)) ∧
      Wf.heap[w.heap.size + 1]? = some (.cells #[.int .i64 k, .int .i64 num, .string name, .slice A n cc] 24 (0, 0)) ∧ Wf.heap[p]? = some (rdr s a (c + 1) b') ∧ Kept (fun x => x = p) w Wf) := Lib.hid fun W3 b' h1 h2 h3 => by
    obtain ⟨Wf, hWf, hbx, hkf⟩ := end4 (.int .i64 k) (.int .i64 num) (.string name) (.slice A n cc) h3
    refine ⟨Wf, hWf, hbx, (hkf.block p (lt_blk h1) hne3).trans h1, hkf.os.trans h2.os, hkf.tape.trans h2.tape, hkf.output.trans h2.output, Nat.le_trans h2.size hkf.size, fun g hg hp => ?_⟩
    exact (hkf.block g (by have := h2.size; omega) (by omega)).trans (h2.block g hg hp)
  clear h hp1 hr1 hb1 hz1 hp2 hk2 hr2 hz2 hW2 ht1
  unfold tyV
  by_cases hover : (300 : Int) < c + 1
  · have hbd : (bad || decide (300 < c + 1)) = true := by simp [hover]
    rw [hbd]
    go_enter Tryd.func90, Tryd.ntmps90
    go_upto_region 1 with fail
    rw [show (w.alloc (.cells #[.int .i64 k, .int .i64 num, .string name, .slice A n cc] 24)).alloc (.cells #[.int .i64 0, .int .i64 0, .string ⟨#[]⟩, .slice none 0 0] 24) = W1 from hW1.symm]
    clear hW1
    go_wp2
    rw [← HW2.out]
    obtain ⟨Wf, hWf, hbx, hpf, hkf⟩ := fin.out (W2.setCell ⟨p, 3, none⟩ (.bool true)) true ((rdr_put HP2.out).2.2 true) (Kept.setCell (F := fun x => x = p) (p := ⟨p, 3, none⟩) HK2.out (.inl rfl) _) ((setCell_blk (by dsimp only; omega)).trans HR2.out)
    rw [← hWf]
    obtain ⟨f0, f1, f2, f3⟩ := box4 hbx
    refine bodyPost_ret (v := .agg #[.int .i64 k, .int .i64 num, .string name, .slice A n cc]) (by simp [results, Tryd.results90, go_sem, f0, f1, f2, f3]) rfl ?_
    exact ⟨rfl, hpf, hkf⟩
  · have hbd : (bad || decide (300 < c + 1)) = bad := by simp [hover]
    rw [hbd]
    go_enter Tryd.func90, Tryd.ntmps90
    go_upto_region 1 with fail
    rw [show (w.alloc (.cells #[.int .i64 k, .int .i64 num, .string name, .slice A n cc] 24)).alloc (.cells #[.int .i64 0, .int .i64 0, .string ⟨#[]⟩, .slice none 0 0] 24) = W1 from hW1.symm]
    clear hW1
    go_wp2
    rw [← HW2.out]
    obtain ⟨Wf, hWf, hbx, hpf, hkf⟩ := fin.out W2 bad HP2.out HK2.out HR2.out
    rw [← hWf]
    obtain ⟨f0, f1, f2, f3⟩ := box4 hbx
    refine bodyPost_ret (v := .agg #[.int .i64 k, .int .i64 num, .string name, .slice A n cc]) (by simp [results, Tryd.results90, go_sem, f0, f1, f2, f3]) rfl ?_
    exact ⟨rfl, hpf, hkf⟩
end Go.Proofs.YtbhicpjhijondaaDoor
/- T22 -/
/- The reader's name. -/
namespace Go.Proofs.YtbhicpjhijondaaDoor
open Go.RowKit Go.Lib Go.Vfs Go.Par Go.Typ Go.Shelf
set_option linter.unusedVariables false
set_option linter.unusedSimpArgs false

/-- where a name ends. -/
def nmEnd (s : ByteArray) (a : Nat) : Nat := a + ((s.data.toList.drop a).takeWhile (fun b => nmN true b.toNat)).length
theorem takeWhile_len {α : Type} (p : α → Bool) : ∀ (l : List α) (n : Nat), n ≤ l.length → (∀ j (h : j < l.length), j < n → p l[j] = true) → (∀ h : n < l.length, p l[n] = false) → (l.takeWhile p).length = n
  | [], n, h, _, _ => by simp at h; simp [h]
  | x :: l, 0, _, _, h2 => by
    have := h2 (by simp)
    simp at this
    rw [List.takeWhile_cons, this]; rfl
  | x :: l, n + 1, h, h1, h2 => by
    have hx := h1 0 (by simp) (by omega)
    simp at hx
    rw [List.takeWhile_cons, hx]
    simp only [if_true, List.length_cons]
    rw [takeWhile_len p l n (by simpa using h) (fun j hj hn => by have := h1 (j + 1) (by simp; omega) (by omega); simpa using this) (fun hn => by have := h2 (by simp; omega); simpa using this)]
theorem nmEnd_eq {s : ByteArray} {a k : Nat} (ha : a ≤ k) (hk : k ≤ s.size) (h1 : ∀ j, a ≤ j → j < k → nmN true (byteS s j) = true) (h2 : k < s.size → nmN true (byteS s k) = false) : nmEnd s a = k := by
  have hl := name_len s
  have hg : ∀ j (h : j < (s.data.toList.drop a).length), (s.data.toList.drop a)[j].toNat = byteS s (a + j) := fun j h => by
    unfold byteS
    rw [List.getElem_drop, List.getD_eq_getElem?_getD, List.getElem?_eq_getElem (by rw [List.length_drop] at h; omega)]
    rfl
  unfold nmEnd
  rw [takeWhile_len (fun b => nmN true b.toNat) (s.data.toList.drop a) (k - a) (by rw [List.length_drop]; omega) (fun j hj hn => by
    show nmN true _ = true
    rw [hg j hj]; exact h1 _ (by omega) (by omega)) (fun hn => by
    show nmN true _ = false
    rw [hg _ hn, show a + (k - a) = k by omega]
    exact h2 (by rw [List.length_drop] at hn; omega))]
  omega
/-- what the reader's block says of its place. -/
def atOf (W : World) (p : Nat) : Nat := match W.cell? ⟨p, 1, none⟩ with | some (.int _ z) => z.toNat | _ => 0
theorem atOf_rdr {W : World} {p : Nat} {s : ByteArray} {a : Nat} {c : Int} {bad : Bool} (h : W.heap[p]? = some (rdr s a c bad)) : atOf W p = a := by
  unfold atOf
  rw [(rdr_cells h).2.1]; simp

set_option maxRecDepth 20000 in
set_option maxHeartbeats 1000000 in
theorem name_any (p : Nat) (s : ByteArray) (a : Nat) (c : Int) (bad : Bool) (w : World) (h : w.heap[p]? = some (rdr s a c bad)) (ha : a ≤ s.size) (hs : s.size ≤ 9223372036854775000) :
    Calls Tryd.prog 116 #[.pointer (some ⟨p, 0, none⟩)] w fun e w' => e = .returned (.string (s.extract a (nmEnd s a))) ∧ nmEnd s a ≤ s.size ∧ w'.heap[p]? = some (rdr s (nmEnd s a) c bad) ∧ Kept (· = p) w w' ∧ w'.heap.size = w.heap.size := by
  obtain ⟨y0, y1, y2, y3⟩ := rdr_cells h
  have HH := Lib.hid h
  clear h
  go_enter Tryd.func116, Tryd.ntmps116
  go_wp2
  clear y0 y1 y2 y3
  go_loopw [8] (fun _ wr => ∃ (k : Nat), a ≤ k ∧ k ≤ s.size ∧ Hid (wr.heap[p]? = some (rdr s k c bad)) ∧ Hid (Kept (fun x => x = p) w wr ∧ wr.heap.size = w.heap.size) ∧ Hid (∀ j, a ≤ j → j < k → nmN true (byteS s j) = true)) (fun _ wr => s.size - atOf wr p)
  case atStart => exact ⟨a, by omega, ha, HH, Lib.hid ⟨Kept.refl _ _, rfl⟩, Lib.hid fun j h1 h2 => by omega⟩
  case round =>
    obtain ⟨k, hk0, hk, HR, HK, HJ⟩ := hrel
    obtain ⟨y0, y1, y2, y3⟩ := rdr_cells HR.out
    obtain ⟨q0, q1, q2, q3⟩ := rdr_frozen HR.out
    have HM := Lib.hid (atOf_rdr HR.out)
    by_cases hlt : k < s.size
    · have HX := Lib.hid (byteS_get s k hlt)
      obtain ⟨x, hx⟩ : ∃ x, s[k].toNat = x := ⟨_, rfl⟩
      have HX2 : Hid (byteS s k = x) := Lib.hid (by rw [← hx]; exact HX.out.symm)
      have HN := fun W => Lib.hid (nameByte_any x W)
      obtain ⟨q, hq⟩ : ∃ q, q = nmN true x := ⟨_, rfl⟩
      rw [← hq] at HN
      have HQ := Lib.hid hq
      clear hq HX
      cases q
      · have HE : Hid (nmEnd s a = k) := Lib.hid (nmEnd_eq hk0 hk HJ.out (fun _ => by rw [HX2.out]; exact HQ.out.symm))
        go_wp2
        go_quiet ((go_at_call 115; exact Calls.quiet_of ((HN _).out.mono (fun e w' h => ⟨h.1, 0, h.2⟩))))
        go_wp2
        go_quiet (fail)
        go_wp2
        go_ret
        rw [HE.out]
        refine ⟨rfl, hk, HR.out, (HK.out.1.drewN _).drewN _, HK.out.2⟩
      · go_wp2
        go_quiet ((go_at_call 115; exact Calls.quiet_of ((HN _).out.mono (fun e w' h => ⟨h.1, 0, h.2⟩))))
        go_wp2
        have hput := (rdr_put (W := wr.drewN nq) HR.out).1 (k + 1)
        have e1 : ((k + 1 : Nat) : Int) = (k : Int) + 1 := by omega
        rw [e1] at hput
        have hkp : Kept (fun x => x = p) w ((wr.drewN nq).setCell ⟨p, 1, none⟩ (.int .i64 ((k : Int) + 1))) := Kept.setCell (F := fun x => x = p) (p := ⟨p, 1, none⟩) (HK.out.1.drewN _) (.inl rfl) _
        refine ⟨⟨k + 1, by omega, by omega, Lib.hid hput, Lib.hid ⟨hkp, by simp [World.setCell]; exact HK.out.2⟩, Lib.hid fun j h1 h2 => ?_⟩, ?_⟩
        · by_cases hj : j < k
          · exact HJ.out j h1 hj
          · rw [show j = k by omega, HX2.out]; exact HQ.out.symm
        · rw [atOf_rdr hput, HM.out]; omega
    · have hke : k = s.size := by omega
      have HE : Hid (nmEnd s a = k) := Lib.hid (nmEnd_eq hk0 hk HJ.out (fun h => absurd h hlt))
      clear hke
      go_wp2
      go_quiet (fail)
      go_wp2
      go_quiet (fail)
      go_wp2
      go_ret
      rw [HE.out]
      refine ⟨rfl, hk, HR.out, (HK.out.1.drewN _).drewN _, HK.out.2⟩
end Go.Proofs.YtbhicpjhijondaaDoor
/- T23 -/
/- The reader's variable. -/
namespace Go.Typ
/-- a part more. -/
def partP (T : Ty) (a c : Nat) : Option (Ty × Nat × Nat) := if c + 1 ≤ 300 then some (T, a, c + 1) else none
end Go.Typ
namespace Go.Proofs.YtbhicpjhijondaaDoor
open Go.RowKit Go.Lib Go.Vfs Go.Par Go.Typ Go.Shelf
set_option linter.unusedVariables false
set_option linter.unusedSimpArgs false

/-- the digits from k on, times being told so far. -/
def digsF (s : ByteArray) : Nat → Nat → Nat → Option (Nat × Nat)
  | 0, k, t => some (k, t)
  | f + 1, k, t => if k < s.size ∧ digitN (byteS s k) = true then (if 1073741824 < t * 10 + (byteS s k - 48) then none else digsF s f (k + 1) (t * 10 + (byteS s k - 48))) else some (k, t)
theorem digsF_end {s : ByteArray} {f k t : Nat} (h : ¬ (k < s.size ∧ digitN (byteS s k) = true)) : digsF s f k t = some (k, t) := by
  cases f with
  | zero => rfl
  | succ f => rw [digsF, if_neg h]
theorem digsF_step {s : ByteArray} {f k t : Nat} (h1 : k < s.size) (h2 : digitN (byteS s k) = true) (hf : s.size - k ≤ f) : ∃ f', s.size - (k + 1) ≤ f' ∧
    digsF s f k t = (if 1073741824 < t * 10 + (byteS s k - 48) then none else digsF s f' (k + 1) (t * 10 + (byteS s k - 48))) := by
  cases f with
  | zero => omega
  | succ f => exact ⟨f, by omega, by rw [digsF, if_pos ⟨h1, h2⟩]⟩
/-- a variable behind its mark. -/
def varP (s : ByteArray) (a c : Nat) : Option (Ty × Nat × Nat) :=
  if a < s.size ∧ smallN (byteS s a) = true then
    match digsF s s.size (a + 1) 0 with
    | none => none
    | some (k, t) => partP (.mk 1 (((t * 26 + (byteS s a - 97) : Nat)) : Int) ⟨#[]⟩ []) k c
  else none
/-- what the reader's block o says of the plain parser's answer m, begun at a. -/
def OkM (N : Nat) (s : ByteArray) (a : Nat) (m : Option (Ty × Nat × Nat)) (T : Ty) (o : Obj) : Prop :=
  match m with
  | some (T', a', c') => T = T' ∧ a ≤ a' ∧ a' ≤ s.size ∧ c' ≤ 300 ∧ o = rdr s a' c' false
  | none => ∃ (a' z : Nat), a' ≤ s.size ∧ z ≤ N ∧ o = rdr s a' z true
/-- what a method of the reader leaves: the plain parser's answer m. -/
def RdPost (N p : Nat) (s : ByteArray) (a : Nat) (m : Option (Ty × Nat × Nat)) (w : World) (e : Ending) (w' : World) : Prop :=
  ∃ (T : Ty) (A : Option Addr) (cc : Nat) (o : Obj), e = .returned (tyV T.kind T.num T.name A T.args.length cc) ∧ TyAt (fun g => w.heap.size ≤ g ∧ g < w'.heap.size) w' (tyV T.kind T.num T.name A T.args.length cc) T ∧ Kept (fun x => x = p) w w' ∧
    w'.heap[p]? = some o ∧ OkM N s a m T o
/-- a type without arguments. -/
theorem TyAt.leaf (S : Nat → Prop) (W : World) (k num : Int) (name : ByteArray) (A : Option Addr) (c : Nat) (hc : c ≤ maxLen) (hn : name.size ≤ 9223372036854775807) : TyAt S W (tyV k num name A 0 c) (.mk k num name []) :=
  .mk k num name [] A c (fun _ => .bool false) (by simp) hc hn (fun h => by simp at h) (fun i h => by simp at h)

/-- between two rounds of variable. -/
structure VI (w : World) (p : Nat) (s : ByteArray) (c k : Nat) (W : World) : Prop where
  rd : W.heap[p]? = some (rdr s k c false)
  res : W.heap[w.heap.size]? = some (.cells #[.int .i64 0, .int .i64 0, .string ⟨#[]⟩, .slice none 0 0] 24 (0, 0))
  kept : Kept (fun x => x = p) w W
theorem VI.drewN {w : World} {p : Nat} {s : ByteArray} {c k : Nat} {W : World} (h : VI w p s c k W) (n : Nat) : VI w p s c k (W.drewN n) := ⟨h.rd, h.res, h.kept.drewN n⟩
theorem VI.next {w : World} {p : Nat} {s : ByteArray} {c k : Nat} {W : World} (h : VI w p s c k W) (hp : p < w.heap.size) : VI w p s c (k + 1) (W.setCell ⟨p, 1, none⟩ (.int .i64 ((k : Int) + 1))) := by
  have e1 : ((k + 1 : Nat) : Int) = (k : Int) + 1 := by omega
  have hput := (rdr_put h.rd).1 (k + 1)
  rw [e1] at hput
  exact ⟨hput, (setCell_blk (by dsimp only; omega)).trans h.res, Kept.setCell (F := fun x => x = p) (p := ⟨p, 1, none⟩) h.kept (.inl rfl) _⟩
/-- the answer is stored and told. -/
theorem VI.fin {w W W' : World} {p : Nat} {s : ByteArray} {c k : Nat} {N : Nat} (m : Option (Ty × Nat × Nat)) (h : VI w p s c k W) (hp : p < w.heap.size) (hk : Kept (fun x => x = p) W W') (kk num : Int) (name : ByteArray) (A : Option Addr) (n cc : Nat) :
    ∃ Wf, Wf = ((((W'.setCell ⟨w.heap.size, 0, none⟩ (.int .i64 kk)).setCell ⟨w.heap.size, 1, none⟩ (.int .i64 num)).setCell ⟨w.heap.size, 2, none⟩ (.string name)).setCell ⟨w.heap.size, 3, none⟩ (.slice A n cc)) ∧
      Wf.heap[w.heap.size]? = some (.cells #[.int .i64 kk, .int .i64 num, .string name, .slice A n cc] 24 (0, 0)) ∧ Wf.heap[p]? = W'.heap[p]? ∧ Kept (fun x => x = p) w Wf ∧ Kept (fun x => x = w.heap.size) W' Wf := by
  have hz := h.kept.size
  have hlt := lt_blk h.res
  have hr : W'.heap[w.heap.size]? = some (.cells #[.int .i64 0, .int .i64 0, .string ⟨#[]⟩, .slice none 0 0] 24 (0, 0)) := (hk.block _ hlt (by omega)).trans h.res
  obtain ⟨Wf, hWf, hbx, hkf⟩ := end4 (.int .i64 kk) (.int .i64 num) (.string name) (.slice A n cc) hr
  have h2 := h.kept.trans' hk
  refine ⟨Wf, hWf, hbx, hkf.block p (by have := h2.size; omega) (by omega), ⟨hkf.os.trans h2.os, hkf.tape.trans h2.tape, hkf.output.trans h2.output, Nat.le_trans h2.size hkf.size, fun g hg hp => ?_⟩, hkf⟩
  exact (hkf.block g (by have := h2.size; omega) (by omega)).trans (h2.block g hg hp)

set_option maxRecDepth 20000 in
set_option maxHeartbeats 2000000 in
theorem variable_any (p : Nat) (s : ByteArray) (a c : Nat) (w : World) (h : w.heap[p]? = some (rdr s a c false)) (ha : a ≤ s.size) (hc : c ≤ 300) (hs : s.size ≤ 9223372036854775000) :
    Calls Tryd.prog 127 #[.pointer (some ⟨p, 0, none⟩)] w (RdPost 400 p s a (varP s a c) w) := by
  have hlt := lt_blk h
  obtain ⟨W1, hW1⟩ : ∃ W1, W1 = w.alloc zero4 := ⟨_, rfl⟩
  have hb1 : Below w.heap.size w W1 := by rw [hW1]; exact (Below.refl _ _).alloc (Nat.le_refl _) _
  have hv1 : VI w p s c a W1 := ⟨(hb1.block p hlt).trans h, by rw [hW1]; exact heap_alloc_new _ _, Kept.of_below hb1⟩
  have HV1 := Lib.hid hv1
  obtain ⟨y0, y1, y2, y3⟩ := rdr_cells hv1.rd
  have HF := fun (W : World) (k : Nat) (c' : Int) (h : W.heap[p]? = some (rdr s k c' false)) => Lib.hid (fail_any p s k c' false W h)
  -- what fails
  have hnone : Hid (varP s a c = none → ∀ (W W' : World) (k : Nat), VI w p s c k W → k ≤ s.size → W'.heap[p]? = some (rdr s k c true) → Kept (fun x => x = p) W W' → ∃ Wf, Wf = ((((W'.setCell ⟨w.heap.size, 0, none⟩ (.int .i64 0)).setCell ⟨w.heap.size, 1, none⟩ (.int .i64 0)).setCell ⟨w.heap.size, 2, none⟩ (.string ⟨#[]⟩)).setCell ⟨w.heap.size, 3, none⟩ (.slice none 0 0)) ∧
      Wf.heap[w.heap.size]? = some (.cells #[.int .i64 0, .int .i64 0, .string ⟨#[]⟩, .slice none 0 0] 24 (0, 0)) ∧ RdPost 400 p s a (varP s a c) w (.returned (tyV 0 0 ⟨#[]⟩ none 0 0)) Wf) := Lib.hid fun hn W W' k hv hk hp' hkp => by
    obtain ⟨Wf, hWf, hbx, hpf, hkf, -⟩ := hv.fin (N := 400) none hlt hkp 0 0 ⟨#[]⟩ none 0 0
    refine ⟨Wf, hWf, hbx, .mk 0 0 ⟨#[]⟩ [], none, 0, _, rfl, TyAt.leaf _ _ 0 0 ⟨#[]⟩ none 0 (by simp [maxLen]) (by show 0 ≤ _; omega), hkf, hpf.trans hp', ?_⟩
    rw [hn]
    exact ⟨k, c, hk, by omega, rfl⟩
  clear h hb1 hv1
  by_cases hlt2 : a < s.size
  · obtain ⟨x, hx⟩ : ∃ x, s[a].toNat = x := ⟨_, rfl⟩
    have HX : Hid (byteS s a = x) := Lib.hid (by rw [← hx]; exact (byteS_get s a hlt2).symm)
    have g0 : ((a : Int) == (s.size : Int)) = false := by simp; omega
    by_cases g1 : (x : Int) < 97
    · have HN : Hid (varP s a c = none) := Lib.hid (by
        unfold varP
        rw [if_neg]
        rintro ⟨-, h⟩
        rw [HX.out] at h
        have := of_decide_eq_true h
        omega)
      go_enter Tryd.func127, Tryd.ntmps127
      go_upto_region 1 with fail
      rw [show w.alloc (.cells #[.int .i64 0, .int .i64 0, .string ⟨#[]⟩, .slice none 0 0] 24) = W1 from hW1.symm]
      clear hW1
      go_quiet (fail)
      have HV2 := Lib.hid (HV1.out.drewN nq)
      have HF2 := HF (W1.drewN nq) a c HV2.out.rd
      go_wp2_with fail
      refine HF2.out.mono ?_
      rintro e w2 ⟨rfl, H2, K2⟩
      have hres := (K2.block _ (lt_blk HV2.out.res) (by omega)).trans HV2.out.res
      obtain ⟨r0, r1, r2, r3⟩ := box4 hres
      obtain ⟨s0, s1, s2, s3⟩ := box4_frozen hres
      obtain ⟨Wf, hWf, hbx, hpost⟩ := hnone.out HN.out _ w2 _ HV2.out (by omega) H2 K2
      have HW := Lib.hid hWf; have HBXF := Lib.hid hbx; have HPO := Lib.hid hpost
      clear hres H2 K2 hWf hbx hpost
      unfold tyV
      go_wp2
      rw [← HW.out]
      obtain ⟨f0, f1, f2, f3⟩ := box4 HBXF.out
      refine bodyPost_ret (v := .agg #[.int .i64 0, .int .i64 0, .string ⟨#[]⟩, .slice none 0 0]) (by simp [results, Tryd.results127, go_sem, f0, f1, f2, f3]) rfl ?_
      exact HPO.out
    · by_cases g2 : (122 : Int) < (x : Int)
      · have HN : Hid (varP s a c = none) := Lib.hid (by
          unfold varP
          rw [if_neg]
          rintro ⟨-, h⟩
          rw [HX.out] at h
          have := of_decide_eq_true h
          omega)
        go_enter Tryd.func127, Tryd.ntmps127
        go_upto_region 1 with fail
        rw [show w.alloc (.cells #[.int .i64 0, .int .i64 0, .string ⟨#[]⟩, .slice none 0 0] 24) = W1 from hW1.symm]
        clear hW1
        go_quiet (fail)
        have HV2 := Lib.hid (HV1.out.drewN nq)
        have HF2 := HF (W1.drewN nq) a c HV2.out.rd
        go_wp2_with fail
        refine HF2.out.mono ?_
        rintro e w2 ⟨rfl, H2, K2⟩
        have hres := (K2.block _ (lt_blk HV2.out.res) (by omega)).trans HV2.out.res
        obtain ⟨r0, r1, r2, r3⟩ := box4 hres
        obtain ⟨s0, s1, s2, s3⟩ := box4_frozen hres
        obtain ⟨Wf, hWf, hbx, hpost⟩ := hnone.out HN.out _ w2 _ HV2.out (by omega) H2 K2
        have HW := Lib.hid hWf; have HBXF := Lib.hid hbx; have HPO := Lib.hid hpost
        clear hres H2 K2 hWf hbx hpost
        unfold tyV
        go_wp2
        rw [← HW.out]
        obtain ⟨f0, f1, f2, f3⟩ := box4 HBXF.out
        refine bodyPost_ret (v := .agg #[.int .i64 0, .int .i64 0, .string ⟨#[]⟩, .slice none 0 0]) (by simp [results, Tryd.results127, go_sem, f0, f1, f2, f3]) rfl ?_
        exact HPO.out
      · have hsm : smallN (byteS s a) = true := by rw [HX.out]; exact decide_eq_true (by omega)
        have HVP : Hid (varP s a c = match digsF s s.size (a + 1) 0 with
            | none => none
            | some (k, t) => partP (.mk 1 (((t * 26 + (x - 97) : Nat)) : Int) ⟨#[]⟩ []) k c) := Lib.hid (by
          unfold varP
          rw [if_pos ⟨hlt2, hsm⟩, HX.out])
        clear hsm
        have hx1 : 97 ≤ x := by omega
        have hx2 : x ≤ 122 := by omega
        go_enter Tryd.func127, Tryd.ntmps127
        go_upto_region 1 with fail
        rw [show w.alloc (.cells #[.int .i64 0, .int .i64 0, .string ⟨#[]⟩, .slice none 0 0] 24) = W1 from hW1.symm]
        clear hW1
        go_quiet (fail)
        go_wp2
        go_quiet (fail)
        obtain ⟨q0, q1, q2, q3⟩ := rdr_frozen HV1.out.rd
        go_wp2
        clear y0 y1 y2 y3 q0 q1 q2 q3
        obtain ⟨D, hD⟩ : ∃ D, D = digsF s s.size (a + 1) 0 := ⟨_, rfl⟩
        rw [← hD] at HVP
        have HD := Lib.hid hD
        clear hD
        go_loopw [4] (fun tv wr => ∃ (k t f : Nat), tv = .int .i64 t ∧ t ≤ 1073741824 ∧ a + 1 ≤ k ∧ k ≤ s.size ∧ s.size - k ≤ f ∧ Hid (VI w p s c k wr) ∧ Hid (D = digsF s f k t)) (fun _ wr => s.size - atOf wr p)
        case atStart => exact ⟨a + 1, 0, s.size, rfl, by omega, by omega, by omega, by omega, Lib.hid ((HV1.out.drewN _).next hlt), HD⟩
        case round =>
          obtain ⟨k, t, f, rfl, ht, hk0, hk, hf, HV, HDF⟩ := hrel
          have HM := Lib.hid (atOf_rdr HV.out.rd)
          obtain ⟨y0, y1, y2, y3⟩ := rdr_cells HV.out.rd
          obtain ⟨q0, q1, q2, q3⟩ := rdr_frozen HV.out.rd
          by_cases hkl : k < s.size
          · obtain ⟨y, hy⟩ : ∃ y, s[k].toNat = y := ⟨_, rfl⟩
            have HY : Hid (byteS s k = y) := Lib.hid (by rw [← hy]; exact (byteS_get s k hkl).symm)
            by_cases e1 : (48 : Int) ≤ (y : Int)
            · by_cases e2 : (y : Int) ≤ 57
              · have hdg : digitN (byteS s k) = true := by rw [HY.out]; exact decide_eq_true (by omega)
                obtain ⟨f', hf', hst⟩ := digsF_step (t := t) hkl hdg hf
                rw [HY.out] at hst
                have HST := Lib.hid (HDF.out.trans hst)
                have hy1 : 48 ≤ y := by omega
                have hy2 : y ≤ 57 := by omega
                obtain ⟨t', ht'⟩ : ∃ t', t' = t * 10 + (y - 48) := ⟨_, rfl⟩
                have hti : (t : Int) * 10 + ((y : Int) - 48) = (t' : Int) := by omega
                rw [← ht'] at HST
                have htb : t' ≤ 10737418249 := by omega
                clear hst hdg ht'
                by_cases g5 : (1073741824 : Int) < (t' : Int)
                · have HN : Hid (varP s a c = none) := Lib.hid (by rw [HVP.out, HST.out, if_pos (by omega)])
                  go_wp2
                  go_quiet (fail)
                  revert nq
                  intro n1
                  intros
                  go_wp2
                  go_quiet (fail)
                  have HV2 := Lib.hid (HV.out.drewN (n1 + nq))
                  have HF2 := HF _ k c HV2.out.rd
                  go_wp2_with fail
                  refine HF2.out.mono ?_
                  rintro e w2 ⟨rfl, H2, K2⟩
                  have hres := (K2.block _ (lt_blk HV2.out.res) (by omega)).trans HV2.out.res
                  obtain ⟨r0, r1, r2, r3⟩ := box4 hres
                  obtain ⟨s0, s1, s2, s3⟩ := box4_frozen hres
                  obtain ⟨Wf, hWf, hbx, hpost⟩ := hnone.out HN.out _ w2 _ HV2.out (by omega) H2 K2
                  have HW := Lib.hid hWf; have HBXF := Lib.hid hbx; have HPO := Lib.hid hpost
                  clear hres H2 K2 hWf hbx hpost
                  unfold tyV
                  go_wp2
                  rw [← HW.out]
                  obtain ⟨f0, f1, f2, f3⟩ := box4 HBXF.out
                  refine bodyPost_ret (v := .agg #[.int .i64 0, .int .i64 0, .string ⟨#[]⟩, .slice none 0 0]) (by simp [results, Tryd.results127, go_sem, f0, f1, f2, f3]) rfl ?_
                  exact HPO.out
                · go_wp2
                  go_quiet (fail)
                  revert nq
                  intro n1
                  intros
                  go_wp2
                  go_quiet (fail)
                  have HVb := Lib.hid ((HV.out.drewN (n1 + nq)).next hlt)
                  go_wp2
                  refine ⟨⟨k + 1, t', f', rfl, by omega, by omega, by omega, by omega, HVb, Lib.hid ?_⟩, ?_⟩
                  · rw [HST.out, if_neg (by omega)]
                  · rw [atOf_rdr HVb.out.rd, HM.out]; omega
              · have hdg : digitN (byteS s k) = false := by rw [HY.out]; exact decide_eq_false (by omega)
                have HDE : Hid (D = some (k, t)) := Lib.hid (by rw [HDF.out]; exact digsF_end (by rintro ⟨-, h⟩; rw [hdg] at h; cases h))
                clear hdg
                go_wp2
                go_quiet (fail)
                have HV8 := Lib.hid (HV.out.drewN nq)
                have hnum : ((t * 26 + (x - 97) : Nat) : Int) = (t : Int) * 26 + ((x : Int) - 97) := by omega
                have HPT := Lib.hid (part_any p s k c false 1 ((t : Int) * 26 + ((x : Int) - 97)) ⟨#[]⟩ none 0 0 _ HV8.out.rd (by omega) (by omega))
                unfold tyV at HPT
                go_wp2_with fail
                refine HPT.out.mono ?_
                rintro e w2 ⟨rfl, H2, K2⟩
                have hres := (K2.block _ (lt_blk HV8.out.res) (by omega)).trans HV8.out.res
                obtain ⟨r0, r1, r2, r3⟩ := box4 hres
                obtain ⟨s0, s1, s2, s3⟩ := box4_frozen hres
                obtain ⟨Wf, hWf, hbx, hpf, hkf, -⟩ := HV8.out.fin (N := 400) none hlt K2 1 ((t : Int) * 26 + ((x : Int) - 97)) ⟨#[]⟩ none 0 0
                have hpost : RdPost 400 p s a (varP s a c) w (.returned (tyV 1 ((t : Int) * 26 + ((x : Int) - 97)) ⟨#[]⟩ none 0 0)) Wf := by
                  refine ⟨.mk 1 ((t : Int) * 26 + ((x : Int) - 97)) ⟨#[]⟩ [], none, 0, _, rfl, TyAt.leaf _ _ _ _ _ _ _ (by simp [maxLen]) (by show 0 ≤ _; omega), hkf, hpf.trans H2, ?_⟩
                  rw [HVP.out, HDE.out]
                  unfold OkM
                  simp only
                  unfold partP
                  rw [hnum]
                  by_cases h3 : c + 1 ≤ 300
                  · rw [if_pos h3]
                    refine ⟨rfl, by omega, by omega, h3, ?_⟩
                    rw [Bool.false_or, decide_eq_false (by omega), show ((c + 1 : Nat) : Int) = (c : Int) + 1 by omega]
                  · rw [if_neg h3]
                    refine ⟨k, c + 1, by omega, by omega, ?_⟩
                    rw [Bool.false_or, decide_eq_true (by omega), show ((c + 1 : Nat) : Int) = (c : Int) + 1 by omega]
                have HW := Lib.hid hWf; have HBXF := Lib.hid hbx; have HPO := Lib.hid hpost
                clear hres H2 K2 hWf hbx hpost hpf hkf
                go_wp2
                rw [← HW.out]
                obtain ⟨f0, f1, f2, f3⟩ := box4 HBXF.out
                refine bodyPost_ret (v := .agg #[.int .i64 1, .int .i64 ((t : Int) * 26 + ((x : Int) - 97)), .string ⟨#[]⟩, .slice none 0 0]) (by simp [results, Tryd.results127, go_sem, f0, f1, f2, f3]) rfl ?_
                exact HPO.out
            · have e3 : (y : Int) < 48 := by omega
              have e4 : decide ((48 : Int) ≤ (y : Int)) = false := decide_eq_false (by omega)
              have hdg : digitN (byteS s k) = false := by rw [HY.out]; exact decide_eq_false (by omega)
              have HDE : Hid (D = some (k, t)) := Lib.hid (by rw [HDF.out]; exact digsF_end (by rintro ⟨-, h⟩; rw [hdg] at h; cases h))
              clear hdg
              go_wp2
              go_quiet (fail)
              have HV8 := Lib.hid (HV.out.drewN nq)
              have hnum : ((t * 26 + (x - 97) : Nat) : Int) = (t : Int) * 26 + ((x : Int) - 97) := by omega
              have HPT := Lib.hid (part_any p s k c false 1 ((t : Int) * 26 + ((x : Int) - 97)) ⟨#[]⟩ none 0 0 _ HV8.out.rd (by omega) (by omega))
              unfold tyV at HPT
              go_wp2_with fail
              refine HPT.out.mono ?_
              rintro e w2 ⟨rfl, H2, K2⟩
              have hres := (K2.block _ (lt_blk HV8.out.res) (by omega)).trans HV8.out.res
              obtain ⟨r0, r1, r2, r3⟩ := box4 hres
              obtain ⟨s0, s1, s2, s3⟩ := box4_frozen hres
              obtain ⟨Wf, hWf, hbx, hpf, hkf, -⟩ := HV8.out.fin (N := 400) none hlt K2 1 ((t : Int) * 26 + ((x : Int) - 97)) ⟨#[]⟩ none 0 0
              have hpost : RdPost 400 p s a (varP s a c) w (.returned (tyV 1 ((t : Int) * 26 + ((x : Int) - 97)) ⟨#[]⟩ none 0 0)) Wf := by
                refine ⟨.mk 1 ((t : Int) * 26 + ((x : Int) - 97)) ⟨#[]⟩ [], none, 0, _, rfl, TyAt.leaf _ _ _ _ _ _ _ (by simp [maxLen]) (by show 0 ≤ _; omega), hkf, hpf.trans H2, ?_⟩
                rw [HVP.out, HDE.out]
                unfold OkM
                simp only
                unfold partP
                rw [hnum]
                by_cases h3 : c + 1 ≤ 300
                · rw [if_pos h3]
                  refine ⟨rfl, by omega, by omega, h3, ?_⟩
                  rw [Bool.false_or, decide_eq_false (by omega), show ((c + 1 : Nat) : Int) = (c : Int) + 1 by omega]
                · rw [if_neg h3]
                  refine ⟨k, c + 1, by omega, by omega, ?_⟩
                  rw [Bool.false_or, decide_eq_true (by omega), show ((c + 1 : Nat) : Int) = (c : Int) + 1 by omega]
              have HW := Lib.hid hWf; have HBXF := Lib.hid hbx; have HPO := Lib.hid hpost
              clear hres H2 K2 hWf hbx hpost hpf hkf
              go_wp2
              rw [← HW.out]
              obtain ⟨f0, f1, f2, f3⟩ := box4 HBXF.out
              refine bodyPost_ret (v := .agg #[.int .i64 1, .int .i64 ((t : Int) * 26 + ((x : Int) - 97)), .string ⟨#[]⟩, .slice none 0 0]) (by simp [results, Tryd.results127, go_sem, f0, f1, f2, f3]) rfl ?_
              exact HPO.out
          · have HDE : Hid (D = some (k, t)) := Lib.hid (by rw [HDF.out]; exact digsF_end (by rintro ⟨h, -⟩; exact hkl h))
            go_wp2
            go_quiet (fail)
            have HV8 := Lib.hid (HV.out.drewN nq)
            have hnum : ((t * 26 + (x - 97) : Nat) : Int) = (t : Int) * 26 + ((x : Int) - 97) := by omega
            have HPT := Lib.hid (part_any p s k c false 1 ((t : Int) * 26 + ((x : Int) - 97)) ⟨#[]⟩ none 0 0 _ HV8.out.rd (by omega) (by omega))
            unfold tyV at HPT
            go_wp2_with fail
            refine HPT.out.mono ?_
            rintro e w2 ⟨rfl, H2, K2⟩
            have hres := (K2.block _ (lt_blk HV8.out.res) (by omega)).trans HV8.out.res
            obtain ⟨r0, r1, r2, r3⟩ := box4 hres
            obtain ⟨s0, s1, s2, s3⟩ := box4_frozen hres
            obtain ⟨Wf, hWf, hbx, hpf, hkf, -⟩ := HV8.out.fin (N := 400) none hlt K2 1 ((t : Int) * 26 + ((x : Int) - 97)) ⟨#[]⟩ none 0 0
            have hpost : RdPost 400 p s a (varP s a c) w (.returned (tyV 1 ((t : Int) * 26 + ((x : Int) - 97)) ⟨#[]⟩ none 0 0)) Wf := by
              refine ⟨.mk 1 ((t : Int) * 26 + ((x : Int) - 97)) ⟨#[]⟩ [], none, 0, _, rfl, TyAt.leaf _ _ _ _ _ _ _ (by simp [maxLen]) (by show 0 ≤ _; omega), hkf, hpf.trans H2, ?_⟩
              rw [HVP.out, HDE.out]
              unfold OkM
              simp only
              unfold partP
              rw [hnum]
              by_cases h3 : c + 1 ≤ 300
              · rw [if_pos h3]
                refine ⟨rfl, by omega, by omega, h3, ?_⟩
                rw [Bool.false_or, decide_eq_false (by omega), show ((c + 1 : Nat) : Int) = (c : Int) + 1 by omega]
              · rw [if_neg h3]
                refine ⟨k, c + 1, by omega, by omega, ?_⟩
                rw [Bool.false_or, decide_eq_true (by omega), show ((c + 1 : Nat) : Int) = (c : Int) + 1 by omega]
            have HW := Lib.hid hWf; have HBXF := Lib.hid hbx; have HPO := Lib.hid hpost
            clear hres H2 K2 hWf hbx hpost hpf hkf
            go_wp2
            rw [← HW.out]
            obtain ⟨f0, f1, f2, f3⟩ := box4 HBXF.out
            refine bodyPost_ret (v := .agg #[.int .i64 1, .int .i64 ((t : Int) * 26 + ((x : Int) - 97)), .string ⟨#[]⟩, .slice none 0 0]) (by simp [results, Tryd.results127, go_sem, f0, f1, f2, f3]) rfl ?_
            exact HPO.out
  · have HN : Hid (varP s a c = none) := Lib.hid (by unfold varP; rw [if_neg]; rintro ⟨h, -⟩; exact hlt2 h)
    have g0 : ((a : Int) == (s.size : Int)) = true := by simp; omega
    go_enter Tryd.func127, Tryd.ntmps127
    go_upto_region 1 with fail
    rw [show w.alloc (.cells #[.int .i64 0, .int .i64 0, .string ⟨#[]⟩, .slice none 0 0] 24) = W1 from hW1.symm]
    clear hW1
    go_quiet (fail)
    have HV2 := Lib.hid (HV1.out.drewN nq)
    have HF2 := HF (W1.drewN nq) a c HV2.out.rd
    go_wp2_with fail
    refine HF2.out.mono ?_
    rintro e w2 ⟨rfl, H2, K2⟩
    have hres := (K2.block _ (lt_blk HV2.out.res) (by omega)).trans HV2.out.res
    obtain ⟨r0, r1, r2, r3⟩ := box4 hres
    obtain ⟨s0, s1, s2, s3⟩ := box4_frozen hres
    obtain ⟨Wf, hWf, hbx, hpost⟩ := hnone.out HN.out _ w2 _ HV2.out (by omega) H2 K2
    have HW := Lib.hid hWf; have HBXF := Lib.hid hbx; have HPO := Lib.hid hpost
    clear hres H2 K2 hWf hbx hpost
    unfold tyV
    go_wp2
    rw [← HW.out]
    obtain ⟨f0, f1, f2, f3⟩ := box4 HBXF.out
    refine bodyPost_ret (v := .agg #[.int .i64 0, .int .i64 0, .string ⟨#[]⟩, .slice none 0 0]) (by simp [results, Tryd.results127, go_sem, f0, f1, f2, f3]) rfl ?_
    exact HPO.out
end Go.Proofs.YtbhicpjhijondaaDoor
/- T24 -/
/- The reader between its calls; rows of types beside a reader. -/
namespace Go.Typ
open Go.RowKit Go.Lib Go.Vfs Go.Par
section
variable {α : Type} {e k : Nat} {R : (Nat → Prop) → World → Value → α → Prop} {L B : Nat} {w w' w2 w3 : World} {xs : List α} {v v' : Value} {us : List Value}
/-- a row beside blocks below Lo that are written. -/
theorem RowK.above (hK : ∀ {S S' : Nat → Prop} {w w' : World} {v : Value} {x : α}, R S w v x → (∀ b, S b → S' b ∧ w'.heap[b]? = w.heap[b]?) → R S' w' v x)
    (h : RowK e k R L B w xs v us) {Lo : Nat} (hL : Lo ≤ L) (hB : Lo ≤ B) (hb : ∀ g, Lo ≤ g → g < w.heap.size → w'.heap[g]? = w.heap[g]?) (hz : w.heap.size ≤ w'.heap.size) : RowK e k R L B w' xs v us :=
  ⟨h.len, ownsRow_block h.own fun g e => hb g (by have := (h.own.lt g e).1; omega) (h.own.lt g e).2, h.size, fun i hi => hK (h.each i hi) fun b hk => ⟨⟨hk.1, by omega, hk.2.2⟩, hb b (by omega) hk.2.1⟩⟩
/-- a row of one element, just written. -/
theorem RowK.one (hK : ∀ {S S' : Nat → Prop} {w w' : World} {v : Value} {x : α}, R S w v x → (∀ b, S b → S' b ∧ w'.heap[b]? = w.heap[b]?) → R S' w' v x)
    {u : Value} {x : α} {S : Nat → Prop} (hu : R S w u x) (hS : ∀ g, S g → L ≤ g ∧ g < w.heap.size) (hB : B ≤ w.heap.size) (hsz : (flatC u).length = k) :
    RowK e k R L B (w.alloc (.cells (flatC u).toArray e)) [x] (.slice (some ⟨w.heap.size, 0, none⟩) 1 1) [u] := by
  refine ⟨rfl, ⟨by simp [hsz], .inr ⟨w.heap.size, 1, (flatC u).toArray, rfl, hB, heap_alloc_new _ _, Nat.le_refl _, by simp [maxLen], by simp [hsz], ?_⟩⟩, by simp [hsz], fun i hi => ?_⟩
  · simp only [List.length_singleton, Nat.one_mul, List.flatMap_cons, List.flatMap_nil, List.append_nil]
    exact List.take_of_length_le (by omega)
  · have : i = 0 := by simpa using hi
    subst this
    refine hK hu fun g hg => ?_
    have := hS g hg
    refine ⟨⟨this.1, by simp; omega, fun e => ?_⟩, Below.heap_alloc _ _ _ this.2⟩
    have e' : w.heap.size = g := by injection e
    omega
end
end Go.Typ
namespace Go.Proofs.YtbhicpjhijondaaDoor
open Go.RowKit Go.Lib Go.Vfs Go.Par Go.Typ Go.Shelf
set_option linter.unusedVariables false
set_option linter.unusedSimpArgs false

/-- a method of the reader under way: the reader's block o, the result's block. -/
structure RdI (w : World) (p : Nat) (o : Obj) (W : World) : Prop where
  rd : W.heap[p]? = some o
  res : W.heap[w.heap.size]? = some (.cells #[.int .i64 0, .int .i64 0, .string ⟨#[]⟩, .slice none 0 0] 24 (0, 0))
  kept : Kept (fun x => x = p) w W
theorem RdI.start {w : World} {p : Nat} {o : Obj} (h : w.heap[p]? = some o) : RdI w p o (w.alloc zero4) :=
  ⟨(Below.heap_alloc _ _ _ (lt_blk h)).trans h, heap_alloc_new _ _, Kept.of_below ((Below.refl _ _).alloc (Nat.le_refl _) _)⟩
theorem RdI.size {w : World} {p : Nat} {o : Obj} {W : World} (h : RdI w p o W) : w.heap.size < W.heap.size := lt_blk h.res
theorem RdI.t {w : World} {p : Nat} {o o' : Obj} {W W' : World} (h : RdI w p o W) (hp : p < w.heap.size) (hk : Kept (fun x => x = p) W W') (ho : W'.heap[p]? = some o') : RdI w p o' W' :=
  ⟨ho, (hk.block _ h.size (by omega)).trans h.res, h.kept.trans' hk⟩
theorem RdI.new {w : World} {p : Nat} {o : Obj} {W W' : World} (h : RdI w p o W) (hb : Below W.heap.size W W') : RdI w p o W' :=
  ⟨(hb.block _ (lt_blk h.rd)).trans h.rd, (hb.block _ h.size).trans h.res, h.kept.trans' (Kept.of_below hb)⟩
/-- the answer is stored. -/
theorem RdI.fin {w : World} {p : Nat} {o : Obj} {W : World} (h : RdI w p o W) (hp : p < w.heap.size) (N : Nat) (s : ByteArray) (a : Nat) (T : Ty) (A : Option Addr) (cc : Nat) (hT : TyAt (fun g => w.heap.size < g ∧ g < W.heap.size) W (tyV T.kind T.num T.name A T.args.length cc) T) :
    ∃ Wf, Wf = ((((W.setCell ⟨w.heap.size, 0, none⟩ (.int .i64 T.kind)).setCell ⟨w.heap.size, 1, none⟩ (.int .i64 T.num)).setCell ⟨w.heap.size, 2, none⟩ (.string T.name)).setCell ⟨w.heap.size, 3, none⟩ (.slice A T.args.length cc)) ∧
      Wf.heap[w.heap.size]? = some (.cells #[.int .i64 T.kind, .int .i64 T.num, .string T.name, .slice A T.args.length cc] 24 (0, 0)) ∧ (∀ m, OkM N s a m T o → RdPost N p s a m w (.returned (tyV T.kind T.num T.name A T.args.length cc)) Wf) := by
  obtain ⟨Wf, hWf, hbx, hkf⟩ := end4 (.int .i64 T.kind) (.int .i64 T.num) (.string T.name) (.slice A T.args.length cc) h.res
  have hz := h.size
  have hzf := hkf.size
  refine ⟨Wf, hWf, hbx, fun m hm => ⟨T, A, cc, o, rfl, hT.keep fun g hg => ⟨⟨by omega, by omega⟩, hkf.block g hg.2 (by omega)⟩, ⟨hkf.os.trans h.kept.os, hkf.tape.trans h.kept.tape, hkf.output.trans h.kept.output, by omega, fun g hg hp => ?_⟩, (hkf.block p (by omega) (by omega)).trans h.rd, hm⟩⟩
  exact (hkf.block g (by omega) (by omega)).trans (h.kept.block g hg hp)
theorem OkM.up {N N' : Nat} {s : ByteArray} {a a' : Nat} {m : Option (Ty × Nat × Nat)} {T : Ty} {o : Obj} (h : OkM N s a m T o) (hN : N ≤ N') (ha : a' ≤ a) : OkM N' s a' m T o := by
  unfold OkM at h ⊢
  cases m with
  | none => obtain ⟨b, z, h1, h2, h3⟩ := h; exact ⟨b, z, h1, by omega, h3⟩
  | some x => obtain ⟨T', b, c⟩ := x; obtain ⟨h1, h2, h3, h4⟩ := h; exact ⟨h1, by omega, h3, h4⟩
/-- do these words stand there? -/
def preB (s : ByteArray) (wd : List UInt8) (a : Nat) : Bool := wd.isPrefixOf (s.data.toList.drop a)
theorem preB_le {s : ByteArray} {wd : List UInt8} {a : Nat} (h : preB s wd a = true) (hw : 0 < wd.length) : a + wd.length ≤ s.size := by
  have h1 := (List.isPrefixOf_iff_prefix.1 h).length_le
  rw [List.length_drop, name_len] at h1
  omega
/-- the contract of a method at its depth. -/
def RdC (f N : Nat) (p : Nat) (s : ByteArray) (d : Int) (m : Nat → Nat → Option (Ty × Nat × Nat)) : Prop :=
  ∀ (a c : Nat) (w : World), w.heap[p]? = some (rdr s a c false) → a ≤ s.size → c ≤ 300 → Calls Tryd.prog f #[.pointer (some ⟨p, 0, none⟩), .int .i64 d] w (RdPost N p s a (m a c) w)
/-- further types behind these words. -/
def listP (m : Nat → Nat → Option (Ty × Nat × Nat)) (s : ByteArray) (wd : List UInt8) : Nat → List Ty → Nat → Nat → Option (List Ty × Nat × Nat)
  | 0, ts, a, c => some (ts, a, c)
  | f + 1, ts, a, c => if preB s wd a = true then (match m (a + wd.length) c with | none => none | some (T, a', c') => listP m s wd f (ts ++ [T]) a' c') else some (ts, a, c)
/-- types with these words between. -/
def manyP (m : Nat → Nat → Option (Ty × Nat × Nat)) (s : ByteArray) (wd : List UInt8) (a c : Nat) : Option (List Ty × Nat × Nat) :=
  match m a c with
  | none => none
  | some (T0, a1, c1) => listP m s wd s.size [T0] a1 c1
/-- what stands behind types in brackets. -/
def closeP (s : ByteArray) : Option (List Ty × Nat × Nat) → Option (Ty × Nat × Nat)
  | none => none
  | some (ts, a2, c2) => if preB s [41] a2 = true then
      (if ts.length = 1 then some (ts.getD 0 (.mk 0 0 ⟨#[]⟩ []), a2 + 1, c2)
       else if preB s [32] (a2 + 1) = true then partP (.mk 2 0 (s.extract (a2 + 2) (nmEnd s (a2 + 2))) ts) (nmEnd s (a2 + 2)) c2 else none)
    else none
/-- a variable, a name, a type in brackets, or several in brackets with their name. -/
def firstP (arr : Nat → Nat → Option (Ty × Nat × Nat)) (s : ByteArray) (a c : Nat) : Option (Ty × Nat × Nat) :=
  if preB s [39] a = true then varP s (a + 1) c
  else if preB s [40] a = true then closeP s (manyP arr s [44, 32] (a + 1) c)
  else partP (.mk 2 0 (s.extract a (nmEnd s a)) []) (nmEnd s a) c
theorem nmEnd_le (s : ByteArray) (a : Nat) : a ≤ nmEnd s a := by unfold nmEnd; omega
theorem extract_le (s : ByteArray) (i j : Nat) : (s.extract i j).size ≤ s.size := by simp [ByteArray.size_extract]; omega

set_option maxRecDepth 20000 in
set_option maxHeartbeats 2000000 in
theorem first_lead (p : Nat) (s : ByteArray) (d : Int) (arr : Nat → Nat → Option (Ty × Nat × Nat)) (N : Nat) (hN : 400 ≤ N) (hs : s.size ≤ 9223372036854775000) (a c : Nat) (w : World) (h : w.heap[p]? = some (rdr s a c false)) (ha : a ≤ s.size) (hc : c ≤ 300) (h40 : preB s [40] a = false) :
    Calls Tryd.prog 114 #[.pointer (some ⟨p, 0, none⟩), .int .i64 d] w (RdPost N p s a (firstP arr s a c) w) := by
  have hlt := lt_blk h
  obtain ⟨W1, hW1⟩ : ∃ W1, W1 = w.alloc zero4 := ⟨_, rfl⟩
  have hi1 := RdI.start h
  rw [← hW1] at hi1
  have HI1 := Lib.hid hi1
  obtain ⟨q, hq⟩ : ∃ q, q = preB s [39] a := ⟨_, rfl⟩
  have hsk := skip_ok p s ⟨#[39]⟩ a c W1 hi1.rd ha hs (by decide)
  rw [show ((⟨#[39]⟩ : ByteArray).data.toList.isPrefixOf (s.data.toList.drop a)) = q from hq.symm] at hsk
  have HSK := Lib.hid hsk; have HQ := Lib.hid hq; have H40 := Lib.hid h40
  clear h hi1 hsk hq h40
  cases q
  · have HF : Hid (firstP arr s a c = partP (.mk 2 0 (s.extract a (nmEnd s a)) []) (nmEnd s a) c) := Lib.hid (by
      unfold firstP
      rw [if_neg (by rw [← HQ.out]; simp), if_neg (by rw [H40.out]; simp)])
    go_enter Tryd.func114, Tryd.ntmps114
    go_wp2_with fail
    rw [show w.alloc (.cells #[.int .i64 0, .int .i64 0, .string ⟨#[]⟩, .slice none 0 0] 24) = W1 from hW1.symm]
    clear hW1
    refine HSK.out.mono ?_
    rintro e w2 ⟨rfl, H2, K2⟩
    have HI2 := Lib.hid (HI1.out.t hlt K2 H2)
    have hsk2 := skip_ok p s ⟨#[40]⟩ a c w2 H2 ha hs (by decide)
    rw [show ((⟨#[40]⟩ : ByteArray).data.toList.isPrefixOf (s.data.toList.drop a)) = false from H40.out] at hsk2
    have HSK2 := Lib.hid hsk2
    clear H2 K2 hsk2
    go_wp2_with fail
    refine HSK2.out.mono ?_
    rintro e w3 ⟨rfl, H3, K3⟩
    have HI3 := Lib.hid (HI2.out.t hlt K3 H3)
    have HNM := Lib.hid (name_any p s a c false w3 H3 ha hs)
    clear H3 K3
    go_wp2_with fail
    refine HNM.out.mono ?_
    rintro e w4 ⟨rfl, hne, H4, K4, -⟩
    have HI4 := Lib.hid (HI3.out.t hlt K4 H4)
    have hex := extract_le s a (nmEnd s a)
    have hna := nmEnd_le s a
    have HPT := Lib.hid (part_any p s (nmEnd s a) c false 2 0 (s.extract a (nmEnd s a)) none 0 0 w4 H4 (by omega) (by omega))
    unfold tyV at HPT
    clear H4 K4
    generalize hnm : s.extract a (nmEnd s a) = nm at *
    go_wp2_with fail
    refine HPT.out.mono ?_
    rintro e w5 ⟨rfl, H5, K5⟩
    have hi5 := HI4.out.t hlt K5 H5
    have hnms : nm.size ≤ 9223372036854775807 := by omega
    have hx := hi5.fin hlt N s a (.mk 2 0 nm []) none 0 (TyAt.leaf _ _ 2 0 nm none 0 (by simp [maxLen]) hnms)
    simp only [Ty.kind, Ty.num, Ty.name, Ty.args, List.length_nil] at hx
    obtain ⟨Wf, hWf, hbx, hpost⟩ := hx
    have hok : OkM N s a (firstP arr s a c) (.mk 2 0 nm []) (rdr s (nmEnd s a) ((c : Int) + 1) (false || decide (300 < (c : Int) + 1))) := by
      rw [HF.out]
      unfold OkM partP
      by_cases h3 : c + 1 ≤ 300
      · rw [if_pos h3]
        refine ⟨rfl, hna, hne, h3, ?_⟩
        rw [Bool.false_or, decide_eq_false (by omega), show ((c + 1 : Nat) : Int) = (c : Int) + 1 by omega]
      · rw [if_neg h3]
        refine ⟨nmEnd s a, c + 1, hne, by omega, ?_⟩
        rw [Bool.false_or, decide_eq_true (by omega), show ((c + 1 : Nat) : Int) = (c : Int) + 1 by omega]
    obtain ⟨r0, r1, r2, r3⟩ := box4 hi5.res
    obtain ⟨s0, s1, s2, s3⟩ := box4_frozen hi5.res
    have HW := Lib.hid hWf; have HBXF := Lib.hid hbx; have HPO := Lib.hid (hpost _ hok)
    clear hWf hbx hpost hok hi5 H5 K5
    go_wp2
    rw [← HW.out]
    obtain ⟨f0, f1, f2, f3⟩ := box4 HBXF.out
    refine bodyPost_ret (v := .agg #[.int .i64 2, .int .i64 0, .string nm, .slice none 0 0]) (by simp [results, Tryd.results114, go_sem, f0, f1, f2, f3]) rfl ?_
    exact HPO.out
  · have hle := preB_le HQ.out.symm (by decide)
    have HF : Hid (firstP arr s a c = varP s (a + 1) c) := Lib.hid (by unfold firstP; rw [if_pos HQ.out.symm])
    go_enter Tryd.func114, Tryd.ntmps114
    go_wp2_with fail
    rw [show w.alloc (.cells #[.int .i64 0, .int .i64 0, .string ⟨#[]⟩, .slice none 0 0] 24) = W1 from hW1.symm]
    clear hW1
    refine HSK.out.mono ?_
    rintro e w2 ⟨rfl, H2, K2⟩
    have HI2 := Lib.hid (HI1.out.t hlt K2 H2)
    have HV := Lib.hid (variable_any p s (a + 1) c w2 H2 (by simpa using hle) hc hs)
    clear H2 K2
    go_wp2_with fail
    refine HV.out.mono ?_
    rintro e w3 ⟨T, A, cc, o, rfl, hT, hk, ho, hm⟩
    have hi3 := HI2.out.t hlt hk ho
    have hz2 := HI2.out.size
    obtain ⟨Wf, hWf, hbx, hpost⟩ := hi3.fin hlt N s a T A cc (hT.sub fun g hg => ⟨by omega, hg.2⟩)
    obtain ⟨r0, r1, r2, r3⟩ := box4 hi3.res
    obtain ⟨s0, s1, s2, s3⟩ := box4_frozen hi3.res
    have HW := Lib.hid hWf; have HBXF := Lib.hid hbx; have HPO := Lib.hid (hpost _ (hm.up hN (by omega)))
    clear hWf hbx hpost hT hk ho hm hi3 hz2
    unfold tyV
    go_wp2
    rw [← HW.out]
    obtain ⟨f0, f1, f2, f3⟩ := box4 HBXF.out
    refine bodyPost_ret (v := .agg #[.int .i64 T.kind, .int .i64 T.num, .string T.name, .slice A T.args.length cc]) (by simp [results, Tryd.results114, go_sem, f0, f1, f2, f3]) rfl ?_
    rw [HF.out]
    exact HPO.out
end Go.Proofs.YtbhicpjhijondaaDoor
/- T25 -/
/- The reader's first: brackets. -/
namespace Go.Proofs.YtbhicpjhijondaaDoor
open Go.RowKit Go.Lib Go.Vfs Go.Par Go.Typ Go.Shelf
set_option linter.unusedVariables false
set_option linter.unusedSimpArgs false

/-- how much is left to be read. -/
def leftOf (W : World) (p n : Nat) : Nat := match W.cell? ⟨p, 3, none⟩ with | some (.bool true) => 0 | _ => n - atOf W p + 1
theorem leftOf_ok {W : World} {p n : Nat} {s : ByteArray} {a : Nat} {c : Int} (h : W.heap[p]? = some (rdr s a c false)) : leftOf W p n = n - a + 1 := by
  unfold leftOf
  rw [(rdr_cells h).2.2.2, atOf_rdr h]
theorem leftOf_bad {W : World} {p n : Nat} {s : ByteArray} {a : Nat} {c : Int} (h : W.heap[p]? = some (rdr s a c true)) : leftOf W p n = 0 := by
  unfold leftOf
  rw [(rdr_cells h).2.2.2]

/-- where a row of types is read: how the reader stands. -/
def LSt (m : Nat → Nat → Option (Ty × Nat × Nat)) (N : Nat) (s : ByteArray) (wd : List UInt8) (a0 : Nat) (D : Option (List Ty × Nat × Nat)) (ts : List Ty) (o : Obj) : Prop :=
  (∃ (a c f : Nat), o = rdr s a c false ∧ a0 ≤ a ∧ a ≤ s.size ∧ c ≤ 300 ∧ s.size - a ≤ f ∧ ts.length ≤ a + 1 ∧ D = listP m s wd f ts a c) ∨ (∃ (a z : Nat), o = rdr s a z true ∧ a ≤ s.size ∧ z ≤ N ∧ ts.length ≤ s.size + 2 ∧ D = none)

theorem LSt.start {m : Nat → Nat → Option (Ty × Nat × Nat)} {N : Nat} {s : ByteArray} {wd : List UInt8} {a0 a c : Nat} {T : Ty} {o : Obj} (h : OkM N s a (m a c) T o) (ha : a0 ≤ a) :
    LSt m N s wd a0 (manyP m s wd a c) [T] o := by
  unfold OkM at h
  unfold manyP
  cases hm : m a c with
  | none =>
    rw [hm] at h
    obtain ⟨b, z, h1, h2, h3⟩ := h
    exact .inr ⟨b, z, h3, h1, h2, by simp, rfl⟩
  | some x =>
    obtain ⟨T', b, c'⟩ := x
    rw [hm] at h
    obtain ⟨rfl, h2, h3, h4, h5⟩ := h
    exact .inl ⟨b, c', s.size, h5, by omega, h3, h4, by omega, by simp, rfl⟩
/-- a type more has been read. -/
theorem LSt.next {m : Nat → Nat → Option (Ty × Nat × Nat)} {N : Nat} {s : ByteArray} {wd : List UInt8} {a0 a c f : Nat} {D : Option (List Ty × Nat × Nat)} {ts : List Ty} {T : Ty} {o : Obj} (hw : 2 ≤ wd.length) (hpre : preB s wd a = true) (hle : a + wd.length ≤ s.size) (ha : a0 ≤ a) (hf : s.size - a ≤ f) (hl : ts.length ≤ a + 1)
    (hD : D = listP m s wd f ts a c) (h : OkM N s (a + wd.length) (m (a + wd.length) c) T o) : LSt m N s wd (a + wd.length) D (ts ++ [T]) o := by
  cases f with
  | zero => omega
  | succ f =>
    rw [listP, if_pos hpre] at hD
    unfold OkM at h
    cases hm : m (a + wd.length) c with
    | none =>
      rw [hm] at h hD
      obtain ⟨b, z, h1, h2, h3⟩ := h
      exact .inr ⟨b, z, h3, h1, h2, by simp; omega, hD⟩
    | some x =>
      obtain ⟨T', b, c'⟩ := x
      rw [hm] at h hD
      obtain ⟨rfl, h2, h3, h4, h5⟩ := h
      exact .inl ⟨b, c', f, h5, by omega, h3, h4, by omega, by simp; omega, hD⟩
theorem LSt.weak {m : Nat → Nat → Option (Ty × Nat × Nat)} {N : Nat} {s : ByteArray} {wd : List UInt8} {a0 a0' : Nat} {D : Option (List Ty × Nat × Nat)} {ts : List Ty} {o : Obj} (h : LSt m N s wd a0 D ts o) (ha : a0' ≤ a0) : LSt m N s wd a0' D ts o := by
  rcases h with ⟨b, c, f, h1, h2, h3⟩ | h
  · exact .inl ⟨b, c, f, h1, by omega, h3⟩
  · exact .inr h
theorem listP_end {m : Nat → Nat → Option (Ty × Nat × Nat)} {s : ByteArray} {wd : List UInt8} {f a c : Nat} {ts : List Ty} (h : preB s wd a = false) : listP m s wd f ts a c = some (ts, a, c) := by
  cases f with
  | zero => rfl
  | succ f => rw [listP, if_neg (by rw [h]; simp)]
theorem closeP_some (s : ByteArray) (ts : List Ty) (a2 c2 : Nat) : closeP s (some (ts, a2, c2)) = if preB s [41] a2 = true then
      (if ts.length = 1 then some (ts.getD 0 (.mk 0 0 ⟨#[]⟩ []), a2 + 1, c2)
       else if preB s [32] (a2 + 1) = true then partP (.mk 2 0 (s.extract (a2 + 2) (nmEnd s (a2 + 2))) ts) (nmEnd s (a2 + 2)) c2 else none)
    else none := rfl
/-- a type's value has four cells. -/
theorem flat_tyV (k num : Int) (name : ByteArray) (A : Option Addr) (n c : Nat) : (flatC (tyV k num name A n c)).length = 4 := rfl

set_option maxRecDepth 20000 in
set_option maxHeartbeats 2000000 in
theorem first_open (p : Nat) (s : ByteArray) (d : Int) (arr : Nat → Nat → Option (Ty × Nat × Nat)) (N : Nat) (hN : 400 ≤ N) (hN2 : N ≤ 1000000) (hd0 : 0 ≤ d) (hd : d ≤ 1000) (HA : RdC 58 N p s (d + 1) arr) (hs : s.size ≤ 1000000000) (a c : Nat) (w : World) (h : w.heap[p]? = some (rdr s a c false)) (ha : a ≤ s.size) (hc : c ≤ 300) (h39 : preB s [39] a = false) (h40 : preB s [40] a = true) :
    Calls Tryd.prog 114 #[.pointer (some ⟨p, 0, none⟩), .int .i64 d] w (RdPost N p s a (firstP arr s a c) w) := by
  have hlt := lt_blk h
  have hle := preB_le h40 (by decide)
  obtain ⟨W1, hW1⟩ : ∃ W1, W1 = w.alloc zero4 := ⟨_, rfl⟩
  have hi1 := RdI.start h
  rw [← hW1] at hi1
  have HI1 := Lib.hid hi1
  have hsk := skip_ok p s ⟨#[39]⟩ a c W1 hi1.rd ha (by omega) (by decide)
  rw [show ((⟨#[39]⟩ : ByteArray).data.toList.isPrefixOf (s.data.toList.drop a)) = false from h39] at hsk
  have HSK := Lib.hid hsk; have H39 := Lib.hid h39; have H40 := Lib.hid h40; have HAR := Lib.hid HA
  obtain ⟨D, hD⟩ : ∃ D, D = manyP arr s [44, 32] (a + 1) c := ⟨_, rfl⟩
  have HF : Hid (firstP arr s a c = closeP s D) := Lib.hid (by
    unfold firstP
    rw [if_neg (by rw [h39]; simp), if_pos h40, hD])
  have HD := Lib.hid hD
  clear h hi1 hsk h39 h40 HA hD
  go_enter Tryd.func114, Tryd.ntmps114
  go_wp2_with fail
  rw [show w.alloc (.cells #[.int .i64 0, .int .i64 0, .string ⟨#[]⟩, .slice none 0 0] 24) = W1 from hW1.symm]
  clear hW1
  refine HSK.out.mono ?_
  rintro e w2 ⟨rfl, H2, K2⟩
  have HI2 := Lib.hid (HI1.out.t hlt K2 H2)
  have hsk2 := skip_ok p s ⟨#[40]⟩ a c w2 H2 ha (by omega) (by decide)
  rw [show ((⟨#[40]⟩ : ByteArray).data.toList.isPrefixOf (s.data.toList.drop a)) = true from H40.out] at hsk2
  have HSK2 := Lib.hid hsk2
  clear H2 K2 hsk2
  go_wp2_with fail
  refine HSK2.out.mono ?_
  rintro e w3 ⟨rfl, H3, K3⟩
  have HI3 := Lib.hid (HI2.out.t hlt K3 H3)
  have HA3 := Lib.hid (HAR.out (a + 1) c w3 H3 (by simpa using hle) hc)
  clear H3 K3
  go_wp2_with fail
  refine HA3.out.mono ?_
  rintro e w4 ⟨T0, A0, cc0, o0, rfl, hT0, hk4, ho4, hm4⟩
  have hi4 := HI3.out.t hlt hk4 ho4
  have hz3 := HI3.out.size
  have hz4 := hk4.size
  obtain ⟨W5, hW5⟩ : ∃ W5, W5 = w4.alloc (.cells #[.int .i64 T0.kind, .int .i64 T0.num, .string T0.name, .slice A0 T0.args.length cc0] 24) := ⟨_, rfl⟩
  have hr5 : RowK 24 4 TyAt (w.heap.size + 1) (w.heap.size + 1) W5 [T0] (.slice (some ⟨w4.heap.size, 0, none⟩) 1 1) [tyV T0.kind T0.num T0.name A0 T0.args.length cc0] := by
    rw [hW5]
    exact RowK.one (R := TyAt) TyAt.keep hT0 (fun g hg => ⟨by omega, hg.2⟩) (by omega) rfl
  have hi5 : RdI w p o0 W5 := hi4.new (by rw [hW5]; exact (Below.refl _ _).alloc (Nat.le_refl _) _)
  have hst5 : LSt arr N s [44, 32] (a + 1) D [T0] o0 := by
    rw [HD.out]; exact LSt.start hm4 (Nat.le_refl _)
  have HR5 := Lib.hid hr5; have HI5 := Lib.hid hi5; have HST5 := Lib.hid hst5
  clear hr5 hi5 hst5 hT0 hk4 ho4 hm4 hi4 hz3 hz4
  unfold tyV
  go_wp2_with fail
  rw [← hW5]
  clear hW5
  go_loopw [5] (fun sv wr => ∃ (ts : List Ty) (us : List Value) (o : Obj), Hid (RowK 24 4 TyAt (w.heap.size + 1) (w.heap.size + 1) wr ts sv us) ∧ Hid (RdI w p o wr) ∧ Hid (LSt arr N s [44, 32] (a + 1) D ts o)) (fun _ wr => leftOf wr p s.size)
  case atStart => exact ⟨_, _, _, HR5, HI5, HST5⟩
  case round =>
    obtain ⟨ts, us, o, HR, HI, HL⟩ := hrel
    clear HR5 HI5 HST5 HI3 HI2 HA3 HSK2 HSK
    rcases HL.out with ⟨a', c', f, rfl, ha0, has, hc', hf, htl, hD⟩ | ⟨a', z, rfl, has, hz, htl, hD⟩
    · have hsk := skip_ok p s ⟨#[44, 32]⟩ a' c' wr HI.out.rd has (by omega) (by decide)
      obtain ⟨q, hq⟩ : ∃ q, q = preB s [44, 32] a' := ⟨_, rfl⟩
      rw [show ((⟨#[44, 32]⟩ : ByteArray).data.toList.isPrefixOf (s.data.toList.drop a')) = q from hq.symm] at hsk
      have HSK := Lib.hid hsk; have HQ := Lib.hid hq; have HDD := Lib.hid hD
      have HM := Lib.hid (leftOf_ok (n := s.size) HI.out.rd)
      clear hsk hq hD
      cases q
      · have HDE : Hid (D = some (ts, a', c')) := Lib.hid (by rw [HDD.out]; exact listP_end HQ.out.symm)
        go_wp2_with fail
        refine HSK.out.mono ?_
        rintro e w2 ⟨rfl, H2, K2⟩
        have HI2 := Lib.hid (HI.out.t hlt K2 H2)
        have HR2 := Lib.hid (RowK.above (R := TyAt) TyAt.keep HR.out (Nat.le_refl _) (Nat.le_refl _) (fun g h1 h2 => K2.block g h2 (by omega)) K2.size)
        have hsk2 := skip_ok p s ⟨#[41]⟩ a' c' w2 H2 has (by omega) (by decide)
        obtain ⟨q2, hq2⟩ : ∃ q, q = preB s [41] a' := ⟨_, rfl⟩
        rw [show ((⟨#[41]⟩ : ByteArray).data.toList.isPrefixOf (s.data.toList.drop a')) = q2 from hq2.symm] at hsk2
        have HSK2 := Lib.hid hsk2; have HQ2 := Lib.hid hq2
        clear H2 K2 hsk2 hq2
        go_wp2_with fail
        refine HSK2.out.mono ?_
        cases q2
        · rintro e w3 ⟨rfl, H3, K3⟩
          have HI3 := Lib.hid (HI2.out.t hlt K3 H3)
          have HNONE : Hid (firstP arr s a c = none) := Lib.hid (by rw [HF.out, HDE.out, closeP_some, if_neg (by rw [← HQ2.out]; simp)])
          clear H3 K3
          have HFL := Lib.hid (fail_any p s a' c' false w3 HI3.out.rd)
          go_wp2_with fail
          refine HFL.out.mono ?_
          rintro e w8 ⟨rfl, H8, K8⟩
          have hi8 := HI3.out.t hlt K8 H8
          have hx := hi8.fin hlt N s a (.mk 0 0 ⟨#[]⟩ []) none 0 (TyAt.leaf _ _ 0 0 ⟨#[]⟩ none 0 (by simp [maxLen]) (by show 0 ≤ _; omega))
          simp only [Ty.kind, Ty.num, Ty.name, Ty.args, List.length_nil] at hx
          obtain ⟨Wf, hWf, hbx, hpost⟩ := hx
          obtain ⟨r0, r1, r2, r3⟩ := box4 hi8.res
          obtain ⟨s0, s1, s2, s3⟩ := box4_frozen hi8.res
          have HW := Lib.hid hWf; have HBXF := Lib.hid hbx; have HPO := Lib.hid (hpost _ (show OkM N s a (firstP arr s a c) _ _ from by rw [HNONE.out]; exact ⟨a', c', by omega, by omega, rfl⟩))
          clear hWf hbx hpost hi8 H8 K8
          unfold tyV
          go_wp2
          rw [← HW.out]
          obtain ⟨f0, f1, f2, f3⟩ := box4 HBXF.out
          refine bodyPost_ret (v := .agg #[.int .i64 0, .int .i64 0, .string ⟨#[]⟩, .slice none 0 0]) (by simp [results, Tryd.results114, go_sem, f0, f1, f2, f3]) rfl ?_
          exact HPO.out
        · have hle3 := preB_le HQ2.out.symm (by decide)
          have hle4 : a' + 1 ≤ s.size := hle3
          rintro e w3 ⟨rfl, H3, K3⟩
          have HI3 := Lib.hid (HI2.out.t hlt K3 H3)
          have HR3 := Lib.hid (RowK.above (R := TyAt) TyAt.keep HR2.out (Nat.le_refl _) (Nat.le_refl _) (fun g h1 h2 => K3.block g h2 (by omega)) K3.size)
          have H3' : Hid (w3.heap[p]? = some (rdr s (a' + 1) c' false)) := Lib.hid H3
          clear H3 K3
          obtain ⟨Ar, cr, hur, hcr, hmr⟩ := HR3.out.form
          by_cases hl1 : ts.length = 1
          · have hp0 : 0 < ts.length := by omega
            obtain ⟨gg, ccr, hg1, hg2, hg3, hcells⟩ := HR3.out.cells hp0
            have hty := HR3.out.each 0 hp0
            obtain ⟨A1, c1, hv1, -, -, -⟩ := hty.form
            have hrow := hcells 0 hp0
            rw [hv1] at hty hrow
            have e0 := hrow 0 (by omega)
            have e1 := hrow 1 (by omega)
            have e2 := hrow 2 (by omega)
            have e3 := hrow 3 (by omega)
            simp only [Nat.zero_mul, Nat.add_zero, Nat.zero_add, flatC, tyV] at e0 e1 e2 e3
            have hT1 : ts.getD 0 (.mk 0 0 ⟨#[]⟩ []) = ts[0] := by rw [List.getD_eq_getElem?_getD, List.getElem?_eq_getElem hp0]; rfl
            have HT1 := Lib.hid hT1; have HTY := Lib.hid hty
            clear hT1 hty hrow hcells hv1
            generalize ts[0] = X at *
            have x0 : w3.cell? ⟨gg, 0, none⟩ = some (.int .i64 X.kind) := e0
            have x1 : w3.cell? ⟨gg, 1, none⟩ = some (.int .i64 X.num) := e1
            have x2 : w3.cell? ⟨gg, 2, none⟩ = some (.string X.name) := e2
            have x3 : w3.cell? ⟨gg, 3, none⟩ = some (.slice A1 X.args.length c1) := e3
            clear e0 e1 e2 e3
            rw [hg1] at hur
            obtain ⟨hA, hn, hcc⟩ := Value.slice.inj hur
            have hx := HI3.out.fin hlt N s a X A1 c1 (HTY.out.sub fun g hg => ⟨by omega, hg.2.1⟩)
            obtain ⟨Wf, hWf, hbx, hpost⟩ := hx
            obtain ⟨r0, r1, r2, r3⟩ := box4 HI3.out.res
            obtain ⟨s0, s1, s2, s3⟩ := box4_frozen HI3.out.res
            have HW := Lib.hid hWf; have HBXF := Lib.hid hbx; have HPO := Lib.hid (hpost _ (show OkM N s a (firstP arr s a c) X (rdr s (a' + 1) c' false) from by
              rw [HF.out, HDE.out, closeP_some, if_pos HQ2.out.symm, if_pos hl1]
              exact ⟨HT1.out.symm, by omega, by omega, hc', rfl⟩))
            have g0 : ((ts.length : Int) == 1) = true := by simp; omega
            have HL1 := Lib.hid hl1
            clear hWf hbx hpost hl1 hA hn hcc hur
            subst hg1
            go_wp2
            rw [← HW.out]
            obtain ⟨f0, f1, f2, f3⟩ := box4 HBXF.out
            refine bodyPost_ret (v := .agg #[.int .i64 X.kind, .int .i64 X.num, .string X.name, .slice A1 X.args.length c1]) (by simp [results, Tryd.results114, go_sem, f0, f1, f2, f3]) rfl ?_
            exact HPO.out
          · have hsk4 := skip_ok p s ⟨#[32]⟩ (a' + 1) c' w3 HI3.out.rd (by omega) (by omega) (by decide)
            obtain ⟨q4, hq4⟩ : ∃ q, q = preB s [32] (a' + 1) := ⟨_, rfl⟩
            rw [show ((⟨#[32]⟩ : ByteArray).data.toList.isPrefixOf (s.data.toList.drop (a' + 1))) = q4 from hq4.symm] at hsk4
            have HSK4 := Lib.hid hsk4; have HQ4 := Lib.hid hq4; have HL1 := Lib.hid hl1
            have g0 : ((ts.length : Int) == 1) = false := by simp; omega
            clear hsk4 hq4 hl1
            rw [hur]
            go_wp2_with fail
            refine HSK4.out.mono ?_
            cases q4
            · rintro e w4 ⟨rfl, H4, K4⟩
              have HI4 := Lib.hid (HI3.out.t hlt K4 H4)
              have HNONE : Hid (firstP arr s a c = none) := Lib.hid (by rw [HF.out, HDE.out, closeP_some, if_pos HQ2.out.symm, if_neg HL1.out, if_neg (by rw [← HQ4.out]; simp)])
              clear H4 K4
              have HFL := Lib.hid (fail_any p s (a' + 1) c' false w4 HI4.out.rd)
              go_wp2_with fail
              refine HFL.out.mono ?_
              rintro e w8 ⟨rfl, H8, K8⟩
              have hi8 := HI4.out.t hlt K8 H8
              have hx := hi8.fin hlt N s a (.mk 0 0 ⟨#[]⟩ []) none 0 (TyAt.leaf _ _ 0 0 ⟨#[]⟩ none 0 (by simp [maxLen]) (by show 0 ≤ _; omega))
              simp only [Ty.kind, Ty.num, Ty.name, Ty.args, List.length_nil] at hx
              obtain ⟨Wf, hWf, hbx, hpost⟩ := hx
              obtain ⟨r0, r1, r2, r3⟩ := box4 hi8.res
              obtain ⟨s0, s1, s2, s3⟩ := box4_frozen hi8.res
              have HW := Lib.hid hWf; have HBXF := Lib.hid hbx; have HPO := Lib.hid (hpost _ (show OkM N s a (firstP arr s a c) _ _ from by rw [HNONE.out]; exact ⟨(a' + 1), c', by omega, by omega, rfl⟩))
              clear hWf hbx hpost hi8 H8 K8
              unfold tyV
              go_wp2
              rw [← HW.out]
              obtain ⟨f0, f1, f2, f3⟩ := box4 HBXF.out
              refine bodyPost_ret (v := .agg #[.int .i64 0, .int .i64 0, .string ⟨#[]⟩, .slice none 0 0]) (by simp [results, Tryd.results114, go_sem, f0, f1, f2, f3]) rfl ?_
              exact HPO.out
            · have hle5 := preB_le HQ4.out.symm (by decide)
              have hle6 : a' + 2 ≤ s.size := hle5
              rintro e w4 ⟨rfl, H4, K4⟩
              have HI4 := Lib.hid (HI3.out.t hlt K4 H4)
              have HR4 := Lib.hid (RowK.above (R := TyAt) TyAt.keep HR3.out (Nat.le_refl _) (Nat.le_refl _) (fun g h1 h2 => K4.block g h2 (by omega)) K4.size)
              have HNM := Lib.hid (name_any p s (a' + 2) c' false w4 H4 hle6 (by omega))
              clear H4 K4
              go_wp2_with fail
              refine HNM.out.mono ?_
              rintro e w5 ⟨rfl, hne, H5, K5, -⟩
              have HI5 := Lib.hid (HI4.out.t hlt K5 H5)
              have HR5 := Lib.hid (RowK.above (R := TyAt) TyAt.keep HR4.out (Nat.le_refl _) (Nat.le_refl _) (fun g h1 h2 => K5.block g h2 (by omega)) K5.size)
              have hex := extract_le s (a' + 2) (nmEnd s (a' + 2))
              have hna := nmEnd_le s (a' + 2)
              have HPT := Lib.hid (part_any p s (nmEnd s (a' + 2)) c' false 2 0 (s.extract (a' + 2) (nmEnd s (a' + 2))) Ar ts.length cr w5 H5 (by omega) (by omega))
              unfold tyV at HPT
              clear H5 K5
              go_wp2_with fail
              refine HPT.out.mono ?_
              rintro e w6 ⟨rfl, H6, K6⟩
              have hi6 := HI5.out.t hlt K6 H6
              have hr6 := RowK.above (R := TyAt) TyAt.keep HR5.out (Nat.le_refl _) (Nat.le_refl _) (fun g h1 h2 => K6.block g h2 (by omega)) K6.size
              obtain ⟨A7, c7, he7, hty7⟩ := hr6.ty 2 0 (s.extract (a' + 2) (nmEnd s (a' + 2))) (by omega)
              rw [hur] at he7
              obtain ⟨rfl, -, rfl⟩ := Value.slice.inj he7
              have hx := hi6.fin hlt N s a (.mk 2 0 (s.extract (a' + 2) (nmEnd s (a' + 2))) ts) Ar cr (hty7.sub fun g hg => ⟨by omega, hg.2⟩)
              simp only [Ty.kind, Ty.num, Ty.name, Ty.args] at hx
              obtain ⟨Wf, hWf, hbx, hpost⟩ := hx
              obtain ⟨r0, r1, r2, r3⟩ := box4 hi6.res
              obtain ⟨s0, s1, s2, s3⟩ := box4_frozen hi6.res
              have hok : OkM N s a (firstP arr s a c) (.mk 2 0 (s.extract (a' + 2) (nmEnd s (a' + 2))) ts) (rdr s (nmEnd s (a' + 2)) ((c' : Int) + 1) (false || decide (300 < (c' : Int) + 1))) := by
                rw [HF.out, HDE.out, closeP_some, if_pos HQ2.out.symm, if_neg HL1.out, if_pos HQ4.out.symm]
                unfold OkM partP
                by_cases h3 : c' + 1 ≤ 300
                · rw [if_pos h3]
                  refine ⟨rfl, by omega, hne, h3, ?_⟩
                  rw [Bool.false_or, decide_eq_false (by omega), show ((c' + 1 : Nat) : Int) = (c' : Int) + 1 by omega]
                · rw [if_neg h3]
                  refine ⟨nmEnd s (a' + 2), c' + 1, hne, by omega, ?_⟩
                  rw [Bool.false_or, decide_eq_true (by omega), show ((c' + 1 : Nat) : Int) = (c' : Int) + 1 by omega]
              have HW := Lib.hid hWf; have HBXF := Lib.hid hbx; have HPO := Lib.hid (hpost _ hok)
              clear hWf hbx hpost hok hi6 hr6 hty7 he7 H6 K6
              generalize hnm : s.extract (a' + 2) (nmEnd s (a' + 2)) = nm at *
              go_wp2
              rw [← HW.out]
              obtain ⟨f0, f1, f2, f3⟩ := box4 HBXF.out
              refine bodyPost_ret (v := .agg #[.int .i64 2, .int .i64 0, .string nm, .slice Ar ts.length cr]) (by simp [results, Tryd.results114, go_sem, f0, f1, f2, f3]) rfl ?_
              exact HPO.out
      · have hle := preB_le HQ.out.symm (by decide)
        have hle2 : a' + 2 ≤ s.size := hle
        go_wp2_with fail
        refine HSK.out.mono ?_
        rintro e w2 ⟨rfl, H2, K2⟩
        have HI2 := Lib.hid (HI.out.t hlt K2 H2)
        have HA2 := Lib.hid (HAR.out (a' + 2) c' w2 H2 (by omega) hc')
        have hr2 := RowK.above (R := TyAt) TyAt.keep HR.out (Nat.le_refl _) (Nat.le_refl _) (fun g h1 h2 => K2.block g h2 (by omega)) K2.size
        have HR2 := Lib.hid hr2
        clear H2 K2 hr2
        go_wp2_with fail
        refine HA2.out.mono ?_
        rintro e w3 ⟨T, A, cc, o3, rfl, hT, hk3, ho3, hm3⟩
        have HI3 := Lib.hid (HI2.out.t hlt hk3 ho3)
        have hz2 := HI2.out.size
        have hr3 := RowK.above (R := TyAt) TyAt.keep HR2.out (Nat.le_refl _) (Nat.le_refl _) (fun g h1 h2 => hk3.block g h2 (by omega)) hk3.size
        have hst3 : LSt arr N s [44, 32] (a' + 2) D (ts ++ [T]) o3 := LSt.next (by decide) HQ.out.symm hle ha0 hf htl HDD.out hm3
        have HR3 := Lib.hid hr3; have HST3 := Lib.hid hst3; have HT3 := Lib.hid hT
        have hown := hr3.own
        obtain ⟨us', hus⟩ : ∃ us', us' = us.flatMap flatC := ⟨_, rfl⟩
        rw [← hus] at hown
        have hz3 := hk3.size
        have hlr : ∀ g, u5.ownBlock = some g → g < w2.heap.size := fun g e => (HR2.out.lt g e).2
        have HLR := Lib.hid hlr
        clear hr3 hst3 hT hk3 ho3 hm3 hlr
        have hnext : Hid (∀ (v' : Value) (W4 : World), W4.ownsRow (w.heap.size + 1) 24 4 v' (ts.length + 1) (us' ++ [.int .i64 T.kind, .int .i64 T.num, .string T.name, .slice A T.args.length cc]) → (w3.alloc (.cells #[.int .i64 T.kind, .int .i64 T.num, .string T.name, .slice A T.args.length cc] 24)).grownBy W4 u5.ownBlock →
            (v'.ownBlock = u5.ownBlock ∨ v'.ownBlock = some (w3.alloc (.cells #[.int .i64 T.kind, .int .i64 T.num, .string T.name, .slice A T.args.length cc] 24)).heap.size) →
            RowK 24 4 TyAt (w.heap.size + 1) (w.heap.size + 1) W4 (ts ++ [T]) v' (us ++ [tyV T.kind T.num T.name A T.args.length cc]) ∧ RdI w p o3 W4) := Lib.hid fun v' W4 h1 h2 h3 => by
          refine ⟨RowK.next (R := TyAt) TyAt.keep HR3.out HT3.out (fun g hg => ⟨by omega, hg.2, fun e => ?_⟩) rfl _ (by rw [← hus]; exact h1) h2 h3, ?_⟩
          · have := HLR.out g e; omega
          · have hal : (w3.alloc (.cells #[.int .i64 T.kind, .int .i64 T.num, .string T.name, .slice A T.args.length cc] 24)).heap.size = w3.heap.size + 1 := by simp
            have hI := HI3.out
            have hsz := hI.size
            have hlp := lt_blk hI.rd
            have hown3 := fun g e => HR3.out.lt g e
            have key : ∀ g, g < w3.heap.size → g ≤ w.heap.size → W4.heap[g]? = w3.heap[g]? := fun g hg hle2 => by
              rw [h2.block g (by omega) (fun e => by have := (hown3 g e.symm).1; omega), Below.heap_alloc _ _ _ hg]
            refine ⟨(key p hlp (by omega)).trans hI.rd, (key _ hsz (Nat.le_refl _)).trans hI.res, h2.os.trans hI.kept.os, h2.tape.trans hI.kept.tape, h2.output.trans hI.kept.output, by have := h2.size; omega, fun g hg hp => ?_⟩
            exact (key g (by omega) (by omega)).trans (hI.kept.block g hg hp)
        unfold tyV
        go_wp2_with (at_builtin; refine wpList_appK _ rfl _ _ _ rfl (w.heap.size + 1) _ 4 tyE _ ts.length us' rfl (World.ownsRow.alloc hown _) ⟨w3.heap.size, 0, none⟩ 1 1 [.int .i64 T.kind, .int .i64 T.num, .string T.name, .slice A T.args.length cc] rfl rfl (cells_new _ _ _) (one4 _ _ _ _ _ _) (by omega) (by simp; omega) ?_; intro v9 w9 hown9 hg9 hat9)
        obtain ⟨hr9, hi9⟩ := hnext.out v9 w9 hown9 hg9 hat9
        go_roundw
        case rel => exact ⟨ts ++ [T], _, o3, Lib.hid hr9, Lib.hid hi9, Lib.hid (HST3.out.weak (by omega))⟩
        case measure =>
          rw [HM.out]
          rcases HST3.out with ⟨b', e', f', rfl, h1, h2, -⟩ | ⟨b', z', rfl, -⟩
          · rw [leftOf_ok hi9.rd]; omega
          · rw [leftOf_bad hi9.rd]; omega
    · have HNONE : Hid (firstP arr s a c = none) := Lib.hid (by rw [HF.out, hD]; rfl)
      have HSK := Lib.hid (skip_bad p s ⟨#[44, 32]⟩ a' z wr HI.out.rd)
      clear hD
      go_wp2_with fail
      refine HSK.out.mono ?_
      rintro e w2 ⟨rfl, H2, K2⟩
      have HI2 := Lib.hid (HI.out.t hlt K2 H2)
      have HSK2 := Lib.hid (skip_bad p s ⟨#[41]⟩ a' z w2 H2)
      clear H2 K2
      go_wp2_with fail
      refine HSK2.out.mono ?_
      rintro e w3 ⟨rfl, H3, K3⟩
      have HI3 := Lib.hid (HI2.out.t hlt K3 H3)
      clear H3 K3
      have HFL := Lib.hid (fail_any p s a' z true w3 HI3.out.rd)
      go_wp2_with fail
      refine HFL.out.mono ?_
      rintro e w8 ⟨rfl, H8, K8⟩
      have hi8 := HI3.out.t hlt K8 H8
      have hx := hi8.fin hlt N s a (.mk 0 0 ⟨#[]⟩ []) none 0 (TyAt.leaf _ _ 0 0 ⟨#[]⟩ none 0 (by simp [maxLen]) (by show 0 ≤ _; omega))
      simp only [Ty.kind, Ty.num, Ty.name, Ty.args, List.length_nil] at hx
      obtain ⟨Wf, hWf, hbx, hpost⟩ := hx
      obtain ⟨r0, r1, r2, r3⟩ := box4 hi8.res
      obtain ⟨s0, s1, s2, s3⟩ := box4_frozen hi8.res
      have HW := Lib.hid hWf; have HBXF := Lib.hid hbx; have HPO := Lib.hid (hpost _ (show OkM N s a (firstP arr s a c) _ _ from by rw [HNONE.out]; exact ⟨a', z, by omega, by omega, rfl⟩))
      clear hWf hbx hpost hi8 H8 K8
      unfold tyV
      go_wp2
      rw [← HW.out]
      obtain ⟨f0, f1, f2, f3⟩ := box4 HBXF.out
      refine bodyPost_ret (v := .agg #[.int .i64 0, .int .i64 0, .string ⟨#[]⟩, .slice none 0 0]) (by simp [results, Tryd.results114, go_sem, f0, f1, f2, f3]) rfl ?_
      exact HPO.out
end Go.Proofs.YtbhicpjhijondaaDoor
/- T26 -/
/- The reader's named. -/
namespace Go.Proofs.YtbhicpjhijondaaDoor
open Go.RowKit Go.Lib Go.Vfs Go.Par Go.Typ Go.Shelf
set_option linter.unusedVariables false
set_option linter.unusedSimpArgs false

/-- first at its depth. -/
theorem first_any (p : Nat) (s : ByteArray) (d : Int) (arr : Nat → Nat → Option (Ty × Nat × Nat)) (N : Nat) (hN : 400 ≤ N) (hN2 : N ≤ 1000000) (hd0 : 0 ≤ d) (hd : d ≤ 1000) (HA : RdC 58 N p s (d + 1) arr) (hs : s.size ≤ 1000000000) : RdC 114 N p s d (firstP arr s) := fun a c w h ha hc => by
  cases h40 : preB s [40] a with
  | false => exact first_lead p s d arr N hN (by omega) a c w h ha hc h40
  | true =>
    refine first_open p s d arr N hN hN2 hd0 hd HA hs a c w h ha hc ?_ h40
    unfold preB at h40 ⊢
    cases hl : s.data.toList.drop a with
    | nil => rw [hl] at h40; simp at h40
    | cons x l =>
      rw [hl] at h40
      simp at h40
      simp [← h40, List.isPrefixOf]
/-- the names behind a type. -/
def namL (s : ByteArray) : Nat → Ty → Nat → Nat → Option (Ty × Nat × Nat)
  | 0, T, a, c => some (T, a, c)
  | f + 1, T, a, c => if a + 1 < s.size ∧ byteS s a = 32 ∧ nmN true (byteS s (a + 1)) = true then
      (match partP (.mk 2 0 (s.extract (a + 1) (nmEnd s (a + 1))) [T]) (nmEnd s (a + 1)) c with | none => none | some (T', a', c') => namL s f T' a' c')
    else some (T, a, c)
/-- a type, and the names behind it. -/
def namedP (arr : Nat → Nat → Option (Ty × Nat × Nat)) (s : ByteArray) (a c : Nat) : Option (Ty × Nat × Nat) :=
  match firstP arr s a c with
  | none => none
  | some (T, a1, c1) => namL s s.size T a1 c1
theorem namL_end {s : ByteArray} {f a c : Nat} {T : Ty} (h : ¬ (a + 1 < s.size ∧ byteS s a = 32 ∧ nmN true (byteS s (a + 1)) = true)) : namL s f T a c = some (T, a, c) := by
  cases f with
  | zero => rfl
  | succ f => rw [namL, if_neg h]
/-- how the reader stands between two names. -/
def NSt (N : Nat) (s : ByteArray) (a0 : Nat) (D : Option (Ty × Nat × Nat)) (T : Ty) (o : Obj) : Prop :=
  (∃ (a c f : Nat), o = rdr s a c false ∧ a0 ≤ a ∧ a ≤ s.size ∧ c ≤ 300 ∧ s.size - a ≤ f ∧ D = namL s f T a c) ∨ (∃ (a z : Nat), o = rdr s a z true ∧ a ≤ s.size ∧ z ≤ N ∧ D = none)
theorem NSt.weak {N : Nat} {s : ByteArray} {a0 a0' : Nat} {D : Option (Ty × Nat × Nat)} {T : Ty} {o : Obj} (h : NSt N s a0 D T o) (ha : a0' ≤ a0) : NSt N s a0' D T o := by
  rcases h with ⟨b, c, f, h1, h2, h3⟩ | h
  · exact .inl ⟨b, c, f, h1, by omega, h3⟩
  · exact .inr h
theorem NSt.next {N : Nat} (hN : 400 ≤ N) {s : ByteArray} {a c f : Nat} {D : Option (Ty × Nat × Nat)} {T : Ty} (h1 : a + 1 < s.size) (h2 : byteS s a = 32) (h3 : nmN true (byteS s (a + 1)) = true) (hc : c ≤ 300) (hf : s.size - a ≤ f) (hne : nmEnd s (a + 1) ≤ s.size) (hD : D = namL s f T a c) :
    NSt N s (a + 1) D (.mk 2 0 (s.extract (a + 1) (nmEnd s (a + 1))) [T]) (rdr s (nmEnd s (a + 1)) ((c : Int) + 1) (false || decide (300 < (c : Int) + 1))) := by
  have hna := nmEnd_le s (a + 1)
  cases f with
  | zero => omega
  | succ f =>
    rw [namL, if_pos ⟨h1, h2, h3⟩] at hD
    unfold partP at hD
    by_cases h : c + 1 ≤ 300
    · rw [if_pos h] at hD
      refine .inl ⟨nmEnd s (a + 1), c + 1, f, ?_, hna, hne, h, by omega, hD⟩
      rw [Bool.false_or, decide_eq_false (by omega), show ((c + 1 : Nat) : Int) = (c : Int) + 1 by omega]
    · rw [if_neg h] at hD
      refine .inr ⟨nmEnd s (a + 1), c + 1, ?_, hne, by omega, hD⟩
      rw [Bool.false_or, decide_eq_true (by omega), show ((c + 1 : Nat) : Int) = (c : Int) + 1 by omega]
/-- the type read so far lies in the box b5. -/
structure NI (w : World) (p b5 : Nat) (T : Ty) (A : Option Addr) (cc : Nat) (o : Obj) (W : World) : Prop where
  i : RdI w p o W
  box : W.heap[b5]? = some (.cells #[.int .i64 T.kind, .int .i64 T.num, .string T.name, .slice A T.args.length cc] 24 (0, 0))
  gt : w.heap.size < b5
  ty : TyAt (fun g => w.heap.size < g ∧ g < W.heap.size ∧ g ≠ b5) W (tyV T.kind T.num T.name A T.args.length cc) T
theorem NI.t {w : World} {p b5 : Nat} {T : Ty} {A : Option Addr} {cc : Nat} {o o' : Obj} {W W' : World} (h : NI w p b5 T A cc o W) (hp : p < w.heap.size) (hk : Kept (fun x => x = p) W W') (ho : W'.heap[p]? = some o') : NI w p b5 T A cc o' W' := by
  have hg := h.gt
  have hz := hk.size
  exact ⟨h.i.t hp hk ho, (hk.block _ (lt_blk h.box) (by omega)).trans h.box, hg, h.ty.keep fun g hg2 => ⟨⟨hg2.1, by omega, hg2.2.2⟩, hk.block g hg2.2.1 (by omega)⟩⟩
theorem NI.drewN {w : World} {p b5 : Nat} {T : Ty} {A : Option Addr} {cc : Nat} {o : Obj} {W : World} (h : NI w p b5 T A cc o W) (n : Nat) : NI w p b5 T A cc o (W.drewN n) := ⟨⟨h.i.rd, h.i.res, h.i.kept.drewN n⟩, h.box, h.gt, h.ty.keep fun g hg => ⟨hg, rfl⟩⟩
theorem NI.new {w : World} {p b5 : Nat} {T : Ty} {A : Option Addr} {cc : Nat} {o : Obj} {W W' : World} (h : NI w p b5 T A cc o W) (hb : Below W.heap.size W W') : NI w p b5 T A cc o W' := by
  have hz := hb.size
  exact ⟨h.i.new hb, (hb.block _ (lt_blk h.box)).trans h.box, h.gt, h.ty.keep fun g hg => ⟨⟨hg.1, by omega, hg.2.2⟩, hb.block g hg.2.1⟩⟩
/-- a name more: the type's value lies as the one argument in a new block. -/
theorem NI.wrap {w : World} {p b5 : Nat} {T : Ty} {A : Option Addr} {cc : Nat} {o : Obj} {W : World} (h : NI w p b5 T A cc o W) {bn : Nat} (hn : W.heap[bn]? = some (.cells #[.int .i64 T.kind, .int .i64 T.num, .string T.name, .slice A T.args.length cc] 24 (0, 0))) (hg : w.heap.size < bn) (hb : bn ≠ b5) (nm : ByteArray) (hnm : nm.size ≤ 9223372036854775807) :
    ∃ Wf, Wf = ((((W.setCell ⟨b5, 0, none⟩ (.int .i64 2)).setCell ⟨b5, 1, none⟩ (.int .i64 0)).setCell ⟨b5, 2, none⟩ (.string nm)).setCell ⟨b5, 3, none⟩ (.slice (some ⟨bn, 0, none⟩) 1 1)) ∧ (p < w.heap.size → NI w p b5 (.mk 2 0 nm [T]) (some ⟨bn, 0, none⟩) 1 o Wf) := by
  obtain ⟨Wf, hWf, hbx, hkf⟩ := end4 (.int .i64 2) (.int .i64 0) (.string nm) (.slice (some ⟨bn, 0, none⟩) 1 1) h.box
  have hzf := hkf.size
  have hg5 := h.gt
  have hsz := h.i.size
  refine ⟨Wf, hWf, fun hp => ⟨⟨(hkf.block p (lt_blk h.i.rd) (by omega)).trans h.i.rd, (hkf.block _ hsz (by omega)).trans h.i.res, hkf.os.trans h.i.kept.os, hkf.tape.trans h.i.kept.tape, hkf.output.trans h.i.kept.output, Nat.le_trans h.i.kept.size hzf, fun g hg2 hp2 => ?_⟩, hbx, hg5, ?_⟩⟩
  · exact (hkf.block g (by omega) (by omega)).trans (h.i.kept.block g hg2 hp2)
  · refine .mk 2 0 nm [T] _ 1 (fun _ => tyV T.kind T.num T.name A T.args.length cc) (by simp) (by simp [maxLen]) hnm (fun _ => ⟨bn, 0, rfl, ⟨hg, by have := lt_blk hn; omega, hb⟩, fun i hi j hj => ?_⟩) (fun i hi => ?_)
    · have hi0 : i = 0 := by simpa using hi
      subst hi0
      have hbn2 : Wf.heap[bn]? = some (.cells #[.int .i64 T.kind, .int .i64 T.num, .string T.name, .slice A T.args.length cc] 24 (0, 0)) := (hkf.block bn (lt_blk hn) hb).trans hn
      obtain ⟨f0, f1, f2, f3⟩ := box4 hbn2
      have : j = 0 ∨ j = 1 ∨ j = 2 ∨ j = 3 := by omega
      rcases this with rfl | rfl | rfl | rfl
      · exact f0
      · exact f1
      · exact f2
      · exact f3
    · have hi0 : i = 0 := by simpa using hi
      subst hi0
      exact h.ty.keep fun g hg2 => ⟨⟨hg2.1, by omega, hg2.2.2⟩, hkf.block g hg2.2.1 hg2.2.2⟩

set_option maxRecDepth 20000 in
set_option maxHeartbeats 2000000 in
theorem named_any (p : Nat) (s : ByteArray) (d : Int) (arr : Nat → Nat → Option (Ty × Nat × Nat)) (N : Nat) (hN : 400 ≤ N) (HFC : RdC 114 N p s d (firstP arr s)) (hs : s.size ≤ 1000000000) : RdC 100 N p s d (namedP arr s) := by
  intro a c w h ha hc
  have hlt := lt_blk h
  obtain ⟨W1, hW1⟩ : ∃ W1, W1 = w.alloc zero4 := ⟨_, rfl⟩
  have hi1 := RdI.start h
  rw [← hW1] at hi1
  have HI1 := Lib.hid hi1
  have HC1 := Lib.hid (HFC a c W1 hi1.rd ha hc)
  obtain ⟨D, hD⟩ : ∃ D, D = namedP arr s a c := ⟨_, rfl⟩
  rw [← hD]
  have HD := Lib.hid hD
  clear h hi1 HFC hD
  go_enter Tryd.func100, Tryd.ntmps100
  go_wp2_with fail
  rw [show w.alloc (.cells #[.int .i64 0, .int .i64 0, .string ⟨#[]⟩, .slice none 0 0] 24) = W1 from hW1.symm]
  clear hW1
  refine HC1.out.mono ?_
  rintro e w2 ⟨T0, A0, cc0, o0, rfl, hT0, hk2, ho2, hm2⟩
  have hi2 := HI1.out.t hlt hk2 ho2
  have hz1 := HI1.out.size
  have hz2 := hk2.size
  obtain ⟨W3, hW3⟩ : ∃ W3, W3 = w2.alloc (.cells #[.int .i64 T0.kind, .int .i64 T0.num, .string T0.name, .slice A0 T0.args.length cc0] 24) := ⟨_, rfl⟩
  have hb3 : Below w2.heap.size w2 W3 := by rw [hW3]; exact (Below.refl _ _).alloc (Nat.le_refl _) _
  have hbx3 : W3.heap[w2.heap.size]? = some (.cells #[.int .i64 T0.kind, .int .i64 T0.num, .string T0.name, .slice A0 T0.args.length cc0] 24 (0, 0)) := by rw [hW3]; exact heap_alloc_new _ _
  have hn3 : NI w p w2.heap.size T0 A0 cc0 o0 W3 := ⟨hi2.new hb3, hbx3, by omega, hT0.keep fun g hg => ⟨⟨by omega, by have := hb3.size; omega, by omega⟩, hb3.block g hg.2⟩⟩
  have hst3 : NSt N s a D T0 o0 := by
    rw [HD.out]
    unfold namedP
    unfold OkM at hm2
    cases hf : firstP arr s a c with
    | none => rw [hf] at hm2; obtain ⟨b, z, h1, h2, h3⟩ := hm2; exact .inr ⟨b, z, h3, h1, h2, rfl⟩
    | some x => obtain ⟨T', b, c'⟩ := x; rw [hf] at hm2; obtain ⟨rfl, h2, h3, h4, h5⟩ := hm2; exact .inl ⟨b, c', s.size, h5, h2, h3, h4, by omega, rfl⟩
  have HN3 := Lib.hid hn3; have HST3 := Lib.hid hst3
  clear hi2 hz1 hz2 hb3 hbx3 hn3 hst3 hT0 hk2 ho2 hm2
  unfold tyV
  go_wp2
  rw [← hW3]
  clear hW3
  go_loopw [9] (fun _ wr => ∃ (T : Ty) (A : Option Addr) (cc : Nat) (o : Obj), Hid (NI w p w2.heap.size T A cc o wr) ∧ Hid (NSt N s a D T o)) (fun _ wr => leftOf wr p s.size)
  case atStart => exact ⟨_, _, _, _, HN3, HST3⟩
  case round =>
    obtain ⟨T, A, cc, o, HN, HL⟩ := hrel
    clear HN3 HST3 HC1 HI1
    rcases HL.out with ⟨a', c', f, rfl, ha0, has, hc', hf, hD⟩ | ⟨a', z, rfl, has, hz, hD⟩
    · obtain ⟨y0, y1, y2, y3⟩ := rdr_cells HN.out.i.rd
      obtain ⟨q0, q1, q2, q3⟩ := rdr_frozen HN.out.i.rd
      have HDD := Lib.hid hD
      have HM := Lib.hid (leftOf_ok (n := s.size) HN.out.i.rd)
      clear hD
      obtain ⟨b', hb'⟩ : ∃ b', b' = a' + 1 := ⟨_, rfl⟩
      have gw : IntKind.wrap .i64 ((a' : Int) + 1) = (b' : Int) := by rw [wrap_small _ (by omega) (by omega), hb']; omega
      have HB' := Lib.hid hb'
      by_cases h1 : b' < s.size
      · have hlt0 : a' < s.size := by omega
        have g1 : (b' : Int) < (s.size : Int) := by omega
        obtain ⟨x, hx⟩ : ∃ x, s[a'].toNat = x := ⟨_, rfl⟩
        have HX : Hid (byteS s a' = x) := Lib.hid (by rw [← hx]; exact (byteS_get s a' hlt0).symm)
        obtain ⟨y, hy⟩ : ∃ y, s[b'].toNat = y := ⟨_, rfl⟩
        have HY : Hid (byteS s (a' + 1) = y) := Lib.hid (by rw [← hy, ← hb']; exact (byteS_get s b' h1).symm)
        clear hb'
        by_cases h2 : x = 32
        · have g2 : ((x : Int) == 32) = true := by rw [h2]; rfl
          have HB := fun W => Lib.hid (nameByte_any y W)
          obtain ⟨q, hq⟩ : ∃ q, q = nmN true y := ⟨_, rfl⟩
          rw [← hq] at HB
          have HQ := Lib.hid hq; have H2' := Lib.hid h2
          clear hq h2
          cases q
          · have HOK : Hid (OkM N s a D T (rdr s a' c' false)) := Lib.hid (by rw [HDD.out, namL_end (by rintro ⟨-, -, h⟩; rw [HY.out, ← HQ.out] at h; cases h)]; exact ⟨rfl, ha0, has, hc', rfl⟩)
            go_wp2
            go_quiet ((go_at_call 115; exact Calls.quiet_of ((HB _).out.mono (fun e w' h => ⟨h.1, 0, h.2⟩))))
            have HNE := Lib.hid (HN.out.drewN nq)
            clear y0 y1 y2 y3 q0 q1 q2 q3
            obtain ⟨r0, r1, r2, r3⟩ := box4 HNE.out.i.res
            obtain ⟨s0, s1, s2, s3⟩ := box4_frozen HNE.out.i.res
            obtain ⟨x0, x1, x2, x3⟩ := box4 HNE.out.box
            obtain ⟨Wf, hWf, hbx, hpost⟩ := HNE.out.i.fin hlt N s a T A cc (HNE.out.ty.sub fun g hg => ⟨hg.1, hg.2.1⟩)
            have HW := Lib.hid hWf; have HBXF := Lib.hid hbx; have HPO := Lib.hid (hpost D HOK.out)
            clear hWf hbx hpost
            go_wp2
            rw [← HW.out]
            obtain ⟨f0, f1, f2, f3⟩ := box4 HBXF.out
            refine bodyPost_ret (v := .agg #[.int .i64 T.kind, .int .i64 T.num, .string T.name, .slice A T.args.length cc]) (by simp [results, Tryd.results100, go_sem, f0, f1, f2, f3]) rfl ?_
            exact HPO.out
          · go_wp2
            go_quiet ((go_at_call 115; exact Calls.quiet_of ((HB _).out.mono (fun e w' h => ⟨h.1, 0, h.2⟩))))
            have HV := Lib.hid (HN.out.drewN nq)
            have h3 : nmN true (byteS s (a' + 1)) = true := by rw [HY.out]; exact HQ.out.symm
            have h2' : byteS s a' = 32 := by rw [HX.out]; exact H2'.out
            have hb1 := HB'.out
            have hput := (rdr_put HV.out.i.rd).1 (a' + 1)
            have hbb : ((a' + 1 : Nat) : Int) = (b' : Int) := by omega
            rw [hbb] at hput
            obtain ⟨W5, hW5⟩ : ∃ W5, W5 = (wr.drewN nq).setCell ⟨p, 1, none⟩ (.int .i64 (b' : Int)) := ⟨_, rfl⟩
            rw [← hW5] at hput
            have hk5 : Kept (fun x => x = p) (wr.drewN nq) W5 := by rw [hW5]; exact Kept.setCell (F := fun x => x = p) (p := ⟨p, 1, none⟩) (Kept.refl _ _) (.inl rfl) _
            have hn5 := HV.out.t hlt hk5 hput
            obtain ⟨E, hE⟩ : ∃ E, E = nmEnd s (a' + 1) := ⟨_, rfl⟩
            obtain ⟨nm, hnm⟩ : ∃ nm, nm = s.extract (a' + 1) (nmEnd s (a' + 1)) := ⟨_, rfl⟩
            have hnms : nm.size ≤ 9223372036854775807 := by have := extract_le s (a' + 1) (nmEnd s (a' + 1)); rw [hnm]; omega
            have hz5 := hn5.gt
            have hzz := hn5.i.size
            have hbx5 := lt_blk hn5.box
            have HNM1 : Hid (Calls Tryd.prog 116 #[.pointer (some ⟨p, 0, none⟩)] W5.drew fun e w' => e = .returned (.string nm) ∧ Hid (E ≤ s.size ∧ NI w p w2.heap.size T A cc (rdr s E c' false) w' ∧ w'.heap.size = W5.heap.size) ∧
                (w'.cell? ⟨w2.heap.size, 0, none⟩ = some (.int .i64 T.kind) ∧ w'.cell? ⟨w2.heap.size, 1, none⟩ = some (.int .i64 T.num) ∧ w'.cell? ⟨w2.heap.size, 2, none⟩ = some (.string T.name) ∧ w'.cell? ⟨w2.heap.size, 3, none⟩ = some (.slice A T.args.length cc))) := Lib.hid (by
              refine (name_any p s (a' + 1) c' false W5.drew hput (by omega) (by omega)).mono ?_
              rintro e w' ⟨rfl, hne, hr, hk, hsz⟩
              have hn := (hn5.drewN 1).t hlt hk hr
              rw [hnm, hE]
              exact ⟨rfl, Lib.hid ⟨hne, hn, hsz⟩, box4 hn.box⟩)
            obtain ⟨o5, ho5⟩ : ∃ o5, o5 = Obj.cells #[.int .i64 T.kind, .int .i64 T.num, .string T.name, .slice A T.args.length cc] 24 (0, 0) := ⟨_, rfl⟩
            have hba : ∀ W : World, Below W.heap.size W (W.alloc o5) := fun W => (Below.refl _ _).alloc (Nat.le_refl _) _
            have HNM2 : Hid (Calls Tryd.prog 116 #[.pointer (some ⟨p, 0, none⟩)] ((W5.alloc o5).drew) fun e w' => e = .returned (.string nm) ∧ Hid (E ≤ s.size ∧ NI w p w2.heap.size T A cc (rdr s E c' false) w' ∧ w'.heap[W5.heap.size]? = some o5)) := Lib.hid (by
              have hn6 := (hn5.new (hba _)).drewN 1
              refine (name_any p s (a' + 1) c' false ((W5.alloc o5).drew) hn6.i.rd (by omega) (by omega)).mono ?_
              rintro e w' ⟨rfl, hne, hr, hk, hsz⟩
              rw [hnm, hE]
              refine ⟨rfl, Lib.hid ⟨hne, hn6.t hlt hk hr, ?_⟩⟩
              have h0 : ((W5.alloc o5).drew).heap[W5.heap.size]? = some o5 := heap_alloc_new W5 o5
              exact (hk.block _ (lt_blk h0) (by have := lt_blk hn5.i.rd; omega)).trans h0)
            have HPT : Hid (∀ (W : World) (bn : Nat), E ≤ s.size → NI w p w2.heap.size T A cc (rdr s E c' false) W → W.heap[bn]? = some o5 → w.heap.size < bn → bn ≠ w2.heap.size → Calls Tryd.prog 90 #[.pointer (some ⟨p, 0, none⟩), .agg #[.int .i64 2, .int .i64 0, .string nm, .slice (some ⟨bn, 0, none⟩) 1 1]] W fun e w' => e = .returned (.agg #[.int .i64 2, .int .i64 0, .string nm, .slice (some ⟨bn, 0, none⟩) 1 1]) ∧
                Hid (E ≤ s.size ∧ NI w p w2.heap.size T A cc (rdr s E ((c' : Int) + 1) (false || decide (300 < (c' : Int) + 1))) w' ∧ w'.heap[bn]? = some o5 ∧ w.heap.size < bn ∧ bn ≠ w2.heap.size) ∧
                (w'.cell? ⟨w2.heap.size, 0, none⟩ = some (.int .i64 T.kind) ∧ w'.cell? ⟨w2.heap.size, 1, none⟩ = some (.int .i64 T.num) ∧ w'.cell? ⟨w2.heap.size, 2, none⟩ = some (.string T.name) ∧ w'.cell? ⟨w2.heap.size, 3, none⟩ = some (.slice A T.args.length cc)) ∧
                (w'.frozen? ⟨w2.heap.size, 0, none⟩ = false ∧ w'.frozen? ⟨w2.heap.size, 1, none⟩ = false ∧ w'.frozen? ⟨w2.heap.size, 2, none⟩ = false ∧ w'.frozen? ⟨w2.heap.size, 3, none⟩ = false)) := Lib.hid fun W bn hne hn hbn hg hb => by
              refine (part_any p s E c' false 2 0 nm (some ⟨bn, 0, none⟩) 1 1 W hn.i.rd (by omega) (by omega)).mono ?_
              rintro e w' ⟨rfl, hr, hk⟩
              have hn' := hn.t hlt hk hr
              exact ⟨rfl, Lib.hid ⟨hne, hn', (hk.block _ (lt_blk hbn) (by omega)).trans hbn, hg, hb⟩, box4 hn'.box, box4_frozen hn'.box⟩
            have HFIN : Hid (∀ (W : World) (bn : Nat), (E ≤ s.size ∧ NI w p w2.heap.size T A cc (rdr s E ((c' : Int) + 1) (false || decide (300 < (c' : Int) + 1))) W ∧ W.heap[bn]? = some o5 ∧ w.heap.size < bn ∧ bn ≠ w2.heap.size) →
                (∃ (T' : Ty) (A' : Option Addr) (cc' : Nat) (o' : Obj), Hid (NI w p w2.heap.size T' A' cc' o' ((((W.setCell ⟨w2.heap.size, 0, none⟩ (.int .i64 2)).setCell ⟨w2.heap.size, 1, none⟩ (.int .i64 0)).setCell ⟨w2.heap.size, 2, none⟩ (.string nm)).setCell ⟨w2.heap.size, 3, none⟩ (.slice (some ⟨bn, 0, none⟩) 1 1))) ∧ Hid (NSt N s a D T' o')) ∧
                leftOf ((((W.setCell ⟨w2.heap.size, 0, none⟩ (.int .i64 2)).setCell ⟨w2.heap.size, 1, none⟩ (.int .i64 0)).setCell ⟨w2.heap.size, 2, none⟩ (.string nm)).setCell ⟨w2.heap.size, 3, none⟩ (.slice (some ⟨bn, 0, none⟩) 1 1)) p s.size < leftOf wr p s.size) := Lib.hid fun W bn ⟨hne, hn, hbn, hg, hb⟩ => by
              rw [ho5] at hbn
              obtain ⟨Wf, hWf, hni⟩ := hn.wrap hbn hg hb nm hnms
              rw [← hWf]
              have hni' := hni hlt
              have hst : NSt N s (a' + 1) D (.mk 2 0 nm [T]) (rdr s E ((c' : Int) + 1) (false || decide (300 < (c' : Int) + 1))) := by
                rw [hnm, hE]; exact NSt.next hN (by omega) h2' h3 hc' hf (by rw [← hE]; exact hne) HDD.out
              refine ⟨⟨_, _, _, _, Lib.hid hni', Lib.hid (hst.weak (by omega))⟩, ?_⟩
              rw [HM.out]
              cases hbd : (false || decide (300 < (c' : Int) + 1)) with
              | false =>
                have hr := hni'.i.rd
                rw [hbd] at hr
                have := nmEnd_le s (a' + 1)
                rw [leftOf_ok hr]; omega
              | true =>
                have hr := hni'.i.rd
                rw [hbd] at hr
                rw [leftOf_bad hr]; omega
            obtain ⟨x0, x1, x2, x3⟩ := box4 hn5.box
            have HN5 := Lib.hid hn5; have HZ5 : Hid (w.heap.size < W5.heap.size ∧ w2.heap.size < W5.heap.size) := Lib.hid ⟨hzz, hbx5⟩
            have HO5 := Lib.hid ho5; have HBA := Lib.hid hba
            clear hput hk5 hn5 hnms hE hnm h3 h2' hb1 hbb y0 y1 y2 y3
            obtain ⟨y0, y1, y2, y3⟩ := rdr_cells HV.out.i.rd
            go_wp2
            rw [← hW5]
            clear hW5 y0 y1 y2 y3 q0 q1 q2 q3
            have HPT1 : Hid (∀ W' : World, Hid (E ≤ s.size ∧ NI w p w2.heap.size T A cc (rdr s E c' false) W' ∧ W'.heap.size = W5.heap.size) → Calls Tryd.prog 90 #[.pointer (some ⟨p, 0, none⟩), .agg #[.int .i64 2, .int .i64 0, .string nm, .slice (some ⟨W'.heap.size, 0, none⟩) 1 1]] (W'.alloc (Obj.cells #[.int .i64 T.kind, .int .i64 T.num, .string T.name, .slice A T.args.length cc] 24 (0, 0))) fun e w' => ∃ bn, bn = W'.heap.size ∧ e = .returned (.agg #[.int .i64 2, .int .i64 0, .string nm, .slice (some ⟨bn, 0, none⟩) 1 1]) ∧
                Hid (E ≤ s.size ∧ NI w p w2.heap.size T A cc (rdr s E ((c' : Int) + 1) (false || decide (300 < (c' : Int) + 1))) w' ∧ w'.heap[bn]? = some o5 ∧ w.heap.size < bn ∧ bn ≠ w2.heap.size) ∧
                (w'.cell? ⟨w2.heap.size, 0, none⟩ = some (.int .i64 T.kind) ∧ w'.cell? ⟨w2.heap.size, 1, none⟩ = some (.int .i64 T.num) ∧ w'.cell? ⟨w2.heap.size, 2, none⟩ = some (.string T.name) ∧ w'.cell? ⟨w2.heap.size, 3, none⟩ = some (.slice A T.args.length cc)) ∧
                (w'.frozen? ⟨w2.heap.size, 0, none⟩ = false ∧ w'.frozen? ⟨w2.heap.size, 1, none⟩ = false ∧ w'.frozen? ⟨w2.heap.size, 2, none⟩ = false ∧ w'.frozen? ⟨w2.heap.size, 3, none⟩ = false)) := Lib.hid fun W' hw => by
              have hz := HZ5.out
              have hsz := hw.out.2.2
              rw [← HO5.out]
              refine (HPT.out (W'.alloc o5) W'.heap.size hw.out.1 (hw.out.2.1.new (HBA.out _)) (heap_alloc_new _ _) (by omega) (by omega)).mono ?_
              rintro e w' h
              exact ⟨_, rfl, h⟩
            have HPT2 : Hid (∀ W' : World, Hid (E ≤ s.size ∧ NI w p w2.heap.size T A cc (rdr s E c' false) W' ∧ W'.heap[W5.heap.size]? = some o5) → Calls Tryd.prog 90 #[.pointer (some ⟨p, 0, none⟩), .agg #[.int .i64 2, .int .i64 0, .string nm, .slice (some ⟨W5.heap.size, 0, none⟩) 1 1]] W' fun e w' => ∃ bn, bn = W5.heap.size ∧ e = .returned (.agg #[.int .i64 2, .int .i64 0, .string nm, .slice (some ⟨bn, 0, none⟩) 1 1]) ∧
                Hid (E ≤ s.size ∧ NI w p w2.heap.size T A cc (rdr s E ((c' : Int) + 1) (false || decide (300 < (c' : Int) + 1))) w' ∧ w'.heap[bn]? = some o5 ∧ w.heap.size < bn ∧ bn ≠ w2.heap.size) ∧
                (w'.cell? ⟨w2.heap.size, 0, none⟩ = some (.int .i64 T.kind) ∧ w'.cell? ⟨w2.heap.size, 1, none⟩ = some (.int .i64 T.num) ∧ w'.cell? ⟨w2.heap.size, 2, none⟩ = some (.string T.name) ∧ w'.cell? ⟨w2.heap.size, 3, none⟩ = some (.slice A T.args.length cc)) ∧
                (w'.frozen? ⟨w2.heap.size, 0, none⟩ = false ∧ w'.frozen? ⟨w2.heap.size, 1, none⟩ = false ∧ w'.frozen? ⟨w2.heap.size, 2, none⟩ = false ∧ w'.frozen? ⟨w2.heap.size, 3, none⟩ = false)) := Lib.hid fun W' hw => by
              have hz := HZ5.out
              refine (HPT.out W' W5.heap.size hw.out.1 hw.out.2.1 hw.out.2.2 (by omega) (by omega)).mono ?_
              rintro e w' h
              exact ⟨_, rfl, h⟩
            rw [HO5.out] at HNM2 HPT1 HPT2 HFIN
            go_region_with (first
              | (go_at_call 116; (with_reducible refine HNM1.out.mono ?_); rintro e w6 ⟨rfl, H6, v0, v1, v2, v3⟩)
              | (go_at_call 116; (with_reducible refine HNM2.out.mono ?_); rintro e w6 ⟨rfl, H6⟩)
              | (go_at_call 90; (with_reducible refine (HPT1.out _ H6).mono ?_); rintro e w7 ⟨bn, hbn, rfl, H7, ⟨k0, k1, k2, k3⟩, ⟨l0, l1, l2, l3⟩⟩; have HBN := Lib.hid hbn; clear hbn)
              | (go_at_call 90; (with_reducible refine (HPT2.out _ H6).mono ?_); rintro e w7 ⟨bn, hbn, rfl, H7, ⟨k0, k1, k2, k3⟩, ⟨l0, l1, l2, l3⟩⟩; have HBN := Lib.hid hbn; clear hbn))
            all_goals (
              go_wp2
              exact HFIN.out _ _ H7.out)
        · have g2 : ((x : Int) == 32) = false := by simp; omega
          have H2' := Lib.hid h2
          clear h2
          have HOK : Hid (OkM N s a D T (rdr s a' c' false)) := Lib.hid (by rw [HDD.out, namL_end (by rintro ⟨-, h, -⟩; rw [HX.out] at h; exact H2'.out h)]; exact ⟨rfl, ha0, has, hc', rfl⟩)
          go_wp2
          go_quiet (fail)
          have HNE := Lib.hid (HN.out.drewN nq)
          clear y0 y1 y2 y3 q0 q1 q2 q3
          obtain ⟨r0, r1, r2, r3⟩ := box4 HNE.out.i.res
          obtain ⟨s0, s1, s2, s3⟩ := box4_frozen HNE.out.i.res
          obtain ⟨x0, x1, x2, x3⟩ := box4 HNE.out.box
          obtain ⟨Wf, hWf, hbx, hpost⟩ := HNE.out.i.fin hlt N s a T A cc (HNE.out.ty.sub fun g hg => ⟨hg.1, hg.2.1⟩)
          have HW := Lib.hid hWf; have HBXF := Lib.hid hbx; have HPO := Lib.hid (hpost D HOK.out)
          clear hWf hbx hpost
          go_wp2
          rw [← HW.out]
          obtain ⟨f0, f1, f2, f3⟩ := box4 HBXF.out
          refine bodyPost_ret (v := .agg #[.int .i64 T.kind, .int .i64 T.num, .string T.name, .slice A T.args.length cc]) (by simp [results, Tryd.results100, go_sem, f0, f1, f2, f3]) rfl ?_
          exact HPO.out
      · have g1 : ¬ (b' : Int) < (s.size : Int) := by omega
        clear hb'
        have HOK : Hid (OkM N s a D T (rdr s a' c' false)) := Lib.hid (by rw [HDD.out, namL_end (by rintro ⟨h, -⟩; have := HB'.out; omega)]; exact ⟨rfl, ha0, has, hc', rfl⟩)
        go_wp2
        go_quiet (fail)
        have HNE := Lib.hid (HN.out.drewN nq)
        clear y0 y1 y2 y3 q0 q1 q2 q3
        obtain ⟨r0, r1, r2, r3⟩ := box4 HNE.out.i.res
        obtain ⟨s0, s1, s2, s3⟩ := box4_frozen HNE.out.i.res
        obtain ⟨x0, x1, x2, x3⟩ := box4 HNE.out.box
        obtain ⟨Wf, hWf, hbx, hpost⟩ := HNE.out.i.fin hlt N s a T A cc (HNE.out.ty.sub fun g hg => ⟨hg.1, hg.2.1⟩)
        have HW := Lib.hid hWf; have HBXF := Lib.hid hbx; have HPO := Lib.hid (hpost D HOK.out)
        clear hWf hbx hpost
        go_wp2
        rw [← HW.out]
        obtain ⟨f0, f1, f2, f3⟩ := box4 HBXF.out
        refine bodyPost_ret (v := .agg #[.int .i64 T.kind, .int .i64 T.num, .string T.name, .slice A T.args.length cc]) (by simp [results, Tryd.results100, go_sem, f0, f1, f2, f3]) rfl ?_
        exact HPO.out
    · obtain ⟨y0, y1, y2, y3⟩ := rdr_cells HN.out.i.rd
      have HOK : Hid (OkM N s a D T (rdr s a' z true)) := Lib.hid (by rw [hD]; exact ⟨a', z, has, hz, rfl⟩)
      clear hD
      go_wp2
      go_quiet (fail)
      have HNE := Lib.hid (HN.out.drewN nq)
      clear y0 y1 y2 y3
      obtain ⟨r0, r1, r2, r3⟩ := box4 HNE.out.i.res
      obtain ⟨s0, s1, s2, s3⟩ := box4_frozen HNE.out.i.res
      obtain ⟨x0, x1, x2, x3⟩ := box4 HNE.out.box
      obtain ⟨Wf, hWf, hbx, hpost⟩ := HNE.out.i.fin hlt N s a T A cc (HNE.out.ty.sub fun g hg => ⟨hg.1, hg.2.1⟩)
      have HW := Lib.hid hWf; have HBXF := Lib.hid hbx; have HPO := Lib.hid (hpost D HOK.out)
      clear hWf hbx hpost
      go_wp2
      rw [← HW.out]
      obtain ⟨f0, f1, f2, f3⟩ := box4 HBXF.out
      refine bodyPost_ret (v := .agg #[.int .i64 T.kind, .int .i64 T.num, .string T.name, .slice A T.args.length cc]) (by simp [results, Tryd.results100, go_sem, f0, f1, f2, f3]) rfl ?_
      exact HPO.out
end Go.Proofs.YtbhicpjhijondaaDoor
/- T27 -/
/- The reader's pair. -/
namespace Go.Proofs.YtbhicpjhijondaaDoor
open Go.RowKit Go.Lib Go.Vfs Go.Par Go.Typ Go.Shelf
set_option linter.unusedVariables false
set_option linter.unusedSimpArgs false

/-- what stands behind types with stars between. -/
def starP : Option (List Ty × Nat × Nat) → Option (Ty × Nat × Nat)
  | none => none
  | some (ts, a, c) => if ts.length = 1 then some (ts.getD 0 (.mk 0 0 ⟨#[]⟩ []), a, c) else partP (.mk 3 0 ⟨#[]⟩ ts) a c
theorem starP_some (ts : List Ty) (a c : Nat) : starP (some (ts, a, c)) = if ts.length = 1 then some (ts.getD 0 (.mk 0 0 ⟨#[]⟩ []), a, c) else partP (.mk 3 0 ⟨#[]⟩ ts) a c := rfl
/-- types with stars between. -/
def pairP (arr : Nat → Nat → Option (Ty × Nat × Nat)) (s : ByteArray) (a c : Nat) : Option (Ty × Nat × Nat) := starP (manyP (namedP arr s) s [32, 42, 32] a c)

set_option maxRecDepth 20000 in
set_option maxHeartbeats 2000000 in
theorem pair_any (p : Nat) (s : ByteArray) (d : Int) (arr : Nat → Nat → Option (Ty × Nat × Nat)) (N : Nat) (hN : 400 ≤ N) (hN2 : N ≤ 1000000) (HA : RdC 100 N p s d (namedP arr s)) (hs : s.size ≤ 1000000000) : RdC 88 (N + 1) p s d (pairP arr s) := by
  intro a c w h ha hc
  have hlt := lt_blk h
  obtain ⟨W1, hW1⟩ : ∃ W1, W1 = w.alloc zero4 := ⟨_, rfl⟩
  have hi1 := RdI.start h
  rw [← hW1] at hi1
  have HI3 := Lib.hid hi1
  have HAR := Lib.hid HA
  obtain ⟨D, hD⟩ : ∃ D, D = manyP (namedP arr s) s [32, 42, 32] a c := ⟨_, rfl⟩
  have HF : Hid (pairP arr s a c = starP D) := Lib.hid (by unfold pairP; rw [hD])
  have HD := Lib.hid hD
  have HA3 := Lib.hid (HA a c W1 hi1.rd ha hc)
  clear h hi1 HA hD
  go_enter Tryd.func88, Tryd.ntmps88
  go_wp2_with fail
  rw [show w.alloc (.cells #[.int .i64 0, .int .i64 0, .string ⟨#[]⟩, .slice none 0 0] 24) = W1 from hW1.symm]
  clear hW1
  refine HA3.out.mono ?_
  rintro e w4 ⟨T0, A0, cc0, o0, rfl, hT0, hk4, ho4, hm4⟩
  have hi4 := HI3.out.t hlt hk4 ho4
  have hz3 := HI3.out.size
  have hz4 := hk4.size
  obtain ⟨W5, hW5⟩ : ∃ W5, W5 = w4.alloc (.cells #[.int .i64 T0.kind, .int .i64 T0.num, .string T0.name, .slice A0 T0.args.length cc0] 24) := ⟨_, rfl⟩
  have hr5 : RowK 24 4 TyAt (w.heap.size + 1) (w.heap.size + 1) W5 [T0] (.slice (some ⟨w4.heap.size, 0, none⟩) 1 1) [tyV T0.kind T0.num T0.name A0 T0.args.length cc0] := by
    rw [hW5]
    exact RowK.one (R := TyAt) TyAt.keep hT0 (fun g hg => ⟨by omega, hg.2⟩) (by omega) rfl
  have hi5 : RdI w p o0 W5 := hi4.new (by rw [hW5]; exact (Below.refl _ _).alloc (Nat.le_refl _) _)
  have hst5 : LSt (namedP arr s) N s [32, 42, 32] a D [T0] o0 := by
    rw [HD.out]; exact LSt.start hm4 (Nat.le_refl _)
  have HR5 := Lib.hid hr5; have HI5 := Lib.hid hi5; have HST5 := Lib.hid hst5
  clear hr5 hi5 hst5 hT0 hk4 ho4 hm4 hi4 hz3 hz4
  unfold tyV
  go_wp2_with fail
  rw [← hW5]
  clear hW5
  go_loopw [5] (fun sv wr => ∃ (ts : List Ty) (us : List Value) (o : Obj), Hid (RowK 24 4 TyAt (w.heap.size + 1) (w.heap.size + 1) wr ts sv us) ∧ Hid (RdI w p o wr) ∧ Hid (LSt (namedP arr s) N s [32, 42, 32] a D ts o)) (fun _ wr => leftOf wr p s.size)
  case atStart => exact ⟨_, _, _, HR5, HI5, HST5⟩
  case round =>
    obtain ⟨ts, us, o, HR, HI, HL⟩ := hrel
    clear HR5 HI5 HST5 HI3 HA3
    rcases HL.out with ⟨a', c', f, rfl, ha0, has, hc', hf, htl, hD⟩ | ⟨a', z, rfl, has, hz, htl, hD⟩
    · have hsk := skip_ok p s ⟨#[32, 42, 32]⟩ a' c' wr HI.out.rd has (by omega) (by decide)
      obtain ⟨q, hq⟩ : ∃ q, q = preB s [32, 42, 32] a' := ⟨_, rfl⟩
      rw [show ((⟨#[32, 42, 32]⟩ : ByteArray).data.toList.isPrefixOf (s.data.toList.drop a')) = q from hq.symm] at hsk
      have HSK := Lib.hid hsk; have HQ := Lib.hid hq; have HDD := Lib.hid hD
      have HM := Lib.hid (leftOf_ok (n := s.size) HI.out.rd)
      clear hsk hq hD
      cases q
      · have HDE : Hid (D = some (ts, a', c')) := Lib.hid (by rw [HDD.out]; exact listP_end HQ.out.symm)
        go_wp2_with fail
        refine HSK.out.mono ?_
        rintro e w3 ⟨rfl, H3, K3⟩
        have HI3 := Lib.hid (HI.out.t hlt K3 H3)
        have HR3 := Lib.hid (RowK.above (R := TyAt) TyAt.keep HR.out (Nat.le_refl _) (Nat.le_refl _) (fun g h1 h2 => K3.block g h2 (by omega)) K3.size)
        clear H3 K3
        by_cases hl1 : ts.length = 1
        · have hp0 : 0 < ts.length := by omega
          obtain ⟨gg, ccr, hg1, hg2, hg3, hcells⟩ := HR3.out.cells hp0
          have hty := HR3.out.each 0 hp0
          obtain ⟨A1, c1, hv1, -, -, -⟩ := hty.form
          have hrow := hcells 0 hp0
          rw [hv1] at hty hrow
          have e0 := hrow 0 (by omega)
          have e1 := hrow 1 (by omega)
          have e2 := hrow 2 (by omega)
          have e3 := hrow 3 (by omega)
          simp only [Nat.zero_mul, Nat.add_zero, Nat.zero_add, flatC, tyV] at e0 e1 e2 e3
          have hT1 : ts.getD 0 (.mk 0 0 ⟨#[]⟩ []) = ts[0] := by rw [List.getD_eq_getElem?_getD, List.getElem?_eq_getElem hp0]; rfl
          have HT1 := Lib.hid hT1; have HTY := Lib.hid hty
          clear hT1 hty hrow hcells hv1
          generalize ts[0] = X at *
          have x0 : w3.cell? ⟨gg, 0, none⟩ = some (.int .i64 X.kind) := e0
          have x1 : w3.cell? ⟨gg, 1, none⟩ = some (.int .i64 X.num) := e1
          have x2 : w3.cell? ⟨gg, 2, none⟩ = some (.string X.name) := e2
          have x3 : w3.cell? ⟨gg, 3, none⟩ = some (.slice A1 X.args.length c1) := e3
          clear e0 e1 e2 e3
          have hx := HI3.out.fin hlt (N + 1) s a X A1 c1 (HTY.out.sub fun g hg => ⟨by omega, hg.2.1⟩)
          obtain ⟨Wf, hWf, hbx, hpost⟩ := hx
          obtain ⟨r0, r1, r2, r3⟩ := box4 HI3.out.res
          obtain ⟨s0, s1, s2, s3⟩ := box4_frozen HI3.out.res
          have HW := Lib.hid hWf; have HBXF := Lib.hid hbx; have HPO := Lib.hid (hpost (pairP arr s a c) (by rw [HF.out, HDE.out, starP_some, if_pos hl1]; exact ⟨HT1.out.symm, ha0, has, hc', rfl⟩))
          have g0 : ((ts.length : Int) == 1) = true := by simp; omega
          have HL1 := Lib.hid hl1
          clear hWf hbx hpost hl1
          subst hg1
          go_wp2
          rw [← HW.out]
          obtain ⟨f0, f1, f2, f3⟩ := box4 HBXF.out
          refine bodyPost_ret (v := .agg #[.int .i64 X.kind, .int .i64 X.num, .string X.name, .slice A1 X.args.length c1]) (by simp [results, Tryd.results88, go_sem, f0, f1, f2, f3]) rfl ?_
          exact HPO.out
        · obtain ⟨Ar, cr, hur, hcr, hmr⟩ := HR3.out.form
          have g0 : ((ts.length : Int) == 1) = false := by simp; omega
          have HL1 := Lib.hid hl1
          clear hl1
          have HPT := Lib.hid (part_any p s a' c' false 3 0 ⟨#[]⟩ Ar ts.length cr w3 HI3.out.rd (by omega) (by omega))
          unfold tyV at HPT
          subst hur
          go_wp2_with fail
          refine HPT.out.mono ?_
          rintro e w6 ⟨rfl, H6, K6⟩
          have hi6 := HI3.out.t hlt K6 H6
          have hr6 := RowK.above (R := TyAt) TyAt.keep HR3.out (Nat.le_refl _) (Nat.le_refl _) (fun g h1 h2 => K6.block g h2 (by omega)) K6.size
          obtain ⟨A7, c7, he7, hty7⟩ := hr6.ty 3 0 ⟨#[]⟩ (by show 0 ≤ _; omega)
          obtain ⟨rfl, -, rfl⟩ := Value.slice.inj he7
          have hx := hi6.fin hlt (N + 1) s a (.mk 3 0 ⟨#[]⟩ ts) Ar cr (hty7.sub fun g hg => ⟨by omega, hg.2⟩)
          simp only [Ty.kind, Ty.num, Ty.name, Ty.args] at hx
          obtain ⟨Wf, hWf, hbx, hpost⟩ := hx
          obtain ⟨r0, r1, r2, r3⟩ := box4 hi6.res
          obtain ⟨s0, s1, s2, s3⟩ := box4_frozen hi6.res
          have hok : OkM (N + 1) s a (pairP arr s a c) (.mk 3 0 ⟨#[]⟩ ts) (rdr s a' ((c' : Int) + 1) (false || decide (300 < (c' : Int) + 1))) := by
            rw [HF.out, HDE.out, starP_some, if_neg HL1.out]
            unfold OkM partP
            by_cases h3 : c' + 1 ≤ 300
            · rw [if_pos h3]
              refine ⟨rfl, ha0, has, h3, ?_⟩
              rw [Bool.false_or, decide_eq_false (by omega), show ((c' + 1 : Nat) : Int) = (c' : Int) + 1 by omega]
            · rw [if_neg h3]
              refine ⟨a', c' + 1, has, by omega, ?_⟩
              rw [Bool.false_or, decide_eq_true (by omega), show ((c' + 1 : Nat) : Int) = (c' : Int) + 1 by omega]
          have HW := Lib.hid hWf; have HBXF := Lib.hid hbx; have HPO := Lib.hid (hpost _ hok)
          clear hWf hbx hpost hok hi6 hr6 hty7 he7 H6 K6
          go_wp2
          rw [← HW.out]
          obtain ⟨f0, f1, f2, f3⟩ := box4 HBXF.out
          refine bodyPost_ret (v := .agg #[.int .i64 3, .int .i64 0, .string ⟨#[]⟩, .slice Ar ts.length cr]) (by simp [results, Tryd.results88, go_sem, f0, f1, f2, f3]) rfl ?_
          exact HPO.out
      · have hle := preB_le HQ.out.symm (by decide)
        have hle2 : a' + 3 ≤ s.size := hle
        go_wp2_with fail
        refine HSK.out.mono ?_
        rintro e w2 ⟨rfl, H2, K2⟩
        have HI2 := Lib.hid (HI.out.t hlt K2 H2)
        have HA2 := Lib.hid (HAR.out (a' + 3) c' w2 H2 (by omega) hc')
        have hr2 := RowK.above (R := TyAt) TyAt.keep HR.out (Nat.le_refl _) (Nat.le_refl _) (fun g h1 h2 => K2.block g h2 (by omega)) K2.size
        have HR2 := Lib.hid hr2
        clear H2 K2 hr2
        go_wp2_with fail
        refine HA2.out.mono ?_
        rintro e w3 ⟨T, A, cc, o3, rfl, hT, hk3, ho3, hm3⟩
        have HI3 := Lib.hid (HI2.out.t hlt hk3 ho3)
        have hz2 := HI2.out.size
        have hr3 := RowK.above (R := TyAt) TyAt.keep HR2.out (Nat.le_refl _) (Nat.le_refl _) (fun g h1 h2 => hk3.block g h2 (by omega)) hk3.size
        have hst3 : LSt (namedP arr s) N s [32, 42, 32] (a' + 3) D (ts ++ [T]) o3 := LSt.next (by decide) HQ.out.symm hle ha0 hf htl HDD.out hm3
        have HR3 := Lib.hid hr3; have HST3 := Lib.hid hst3; have HT3 := Lib.hid hT
        have hown := hr3.own
        obtain ⟨us', hus⟩ : ∃ us', us' = us.flatMap flatC := ⟨_, rfl⟩
        rw [← hus] at hown
        have hz3 := hk3.size
        have hlr : ∀ g, u5.ownBlock = some g → g < w2.heap.size := fun g e => (HR2.out.lt g e).2
        have HLR := Lib.hid hlr
        clear hr3 hst3 hT hk3 ho3 hm3 hlr
        have hnext : Hid (∀ (v' : Value) (W4 : World), W4.ownsRow (w.heap.size + 1) 24 4 v' (ts.length + 1) (us' ++ [.int .i64 T.kind, .int .i64 T.num, .string T.name, .slice A T.args.length cc]) → (w3.alloc (.cells #[.int .i64 T.kind, .int .i64 T.num, .string T.name, .slice A T.args.length cc] 24)).grownBy W4 u5.ownBlock →
            (v'.ownBlock = u5.ownBlock ∨ v'.ownBlock = some (w3.alloc (.cells #[.int .i64 T.kind, .int .i64 T.num, .string T.name, .slice A T.args.length cc] 24)).heap.size) →
            RowK 24 4 TyAt (w.heap.size + 1) (w.heap.size + 1) W4 (ts ++ [T]) v' (us ++ [tyV T.kind T.num T.name A T.args.length cc]) ∧ RdI w p o3 W4) := Lib.hid fun v' W4 h1 h2 h3 => by
          refine ⟨RowK.next (R := TyAt) TyAt.keep HR3.out HT3.out (fun g hg => ⟨by omega, hg.2, fun e => ?_⟩) rfl _ (by rw [← hus]; exact h1) h2 h3, ?_⟩
          · have := HLR.out g e; omega
          · have hal : (w3.alloc (.cells #[.int .i64 T.kind, .int .i64 T.num, .string T.name, .slice A T.args.length cc] 24)).heap.size = w3.heap.size + 1 := by simp
            have hI := HI3.out
            have hsz := hI.size
            have hlp := lt_blk hI.rd
            have hown3 := fun g e => HR3.out.lt g e
            have key : ∀ g, g < w3.heap.size → g ≤ w.heap.size → W4.heap[g]? = w3.heap[g]? := fun g hg hle2 => by
              rw [h2.block g (by omega) (fun e => by have := (hown3 g e.symm).1; omega), Below.heap_alloc _ _ _ hg]
            refine ⟨(key p hlp (by omega)).trans hI.rd, (key _ hsz (Nat.le_refl _)).trans hI.res, h2.os.trans hI.kept.os, h2.tape.trans hI.kept.tape, h2.output.trans hI.kept.output, by have := h2.size; omega, fun g hg hp => ?_⟩
            exact (key g (by omega) (by omega)).trans (hI.kept.block g hg hp)
        unfold tyV
        go_wp2_with (at_builtin; refine wpList_appK _ rfl _ _ _ rfl (w.heap.size + 1) _ 4 tyE _ ts.length us' rfl (World.ownsRow.alloc hown _) ⟨w3.heap.size, 0, none⟩ 1 1 [.int .i64 T.kind, .int .i64 T.num, .string T.name, .slice A T.args.length cc] rfl rfl (cells_new _ _ _) (one4 _ _ _ _ _ _) (by omega) (by simp; omega) ?_; intro v9 w9 hown9 hg9 hat9)
        obtain ⟨hr9, hi9⟩ := hnext.out v9 w9 hown9 hg9 hat9
        go_roundw
        case rel => exact ⟨ts ++ [T], _, o3, Lib.hid hr9, Lib.hid hi9, Lib.hid (HST3.out.weak (by omega))⟩
        case measure =>
          rw [HM.out]
          rcases HST3.out with ⟨b', e', f', rfl, h1, h2, -⟩ | ⟨b', z', rfl, -⟩
          · rw [leftOf_ok hi9.rd]; omega
          · rw [leftOf_bad hi9.rd]; omega
    · have HNONE : Hid (pairP arr s a c = none) := Lib.hid (by rw [HF.out, hD]; rfl)
      have HSK := Lib.hid (skip_bad p s ⟨#[32, 42, 32]⟩ a' z wr HI.out.rd)
      clear hD
      go_wp2_with fail
      refine HSK.out.mono ?_
      rintro e w3 ⟨rfl, H3, K3⟩
      have HI3 := Lib.hid (HI.out.t hlt K3 H3)
      have HR3 := Lib.hid (RowK.above (R := TyAt) TyAt.keep HR.out (Nat.le_refl _) (Nat.le_refl _) (fun g h1 h2 => K3.block g h2 (by omega)) K3.size)
      clear H3 K3
      by_cases hl1 : ts.length = 1
      · have hp0 : 0 < ts.length := by omega
        obtain ⟨gg, ccr, hg1, hg2, hg3, hcells⟩ := HR3.out.cells hp0
        have hty := HR3.out.each 0 hp0
        obtain ⟨A1, c1, hv1, -, -, -⟩ := hty.form
        have hrow := hcells 0 hp0
        rw [hv1] at hty hrow
        have e0 := hrow 0 (by omega)
        have e1 := hrow 1 (by omega)
        have e2 := hrow 2 (by omega)
        have e3 := hrow 3 (by omega)
        simp only [Nat.zero_mul, Nat.add_zero, Nat.zero_add, flatC, tyV] at e0 e1 e2 e3
        have hT1 : ts.getD 0 (.mk 0 0 ⟨#[]⟩ []) = ts[0] := by rw [List.getD_eq_getElem?_getD, List.getElem?_eq_getElem hp0]; rfl
        have HT1 := Lib.hid hT1; have HTY := Lib.hid hty
        clear hT1 hty hrow hcells hv1
        generalize ts[0] = X at *
        have x0 : w3.cell? ⟨gg, 0, none⟩ = some (.int .i64 X.kind) := e0
        have x1 : w3.cell? ⟨gg, 1, none⟩ = some (.int .i64 X.num) := e1
        have x2 : w3.cell? ⟨gg, 2, none⟩ = some (.string X.name) := e2
        have x3 : w3.cell? ⟨gg, 3, none⟩ = some (.slice A1 X.args.length c1) := e3
        clear e0 e1 e2 e3
        have hx := HI3.out.fin hlt (N + 1) s a X A1 c1 (HTY.out.sub fun g hg => ⟨by omega, hg.2.1⟩)
        obtain ⟨Wf, hWf, hbx, hpost⟩ := hx
        obtain ⟨r0, r1, r2, r3⟩ := box4 HI3.out.res
        obtain ⟨s0, s1, s2, s3⟩ := box4_frozen HI3.out.res
        have HW := Lib.hid hWf; have HBXF := Lib.hid hbx; have HPO := Lib.hid (hpost (pairP arr s a c) (by rw [HNONE.out]; exact ⟨a', z, has, by omega, rfl⟩))
        have g0 : ((ts.length : Int) == 1) = true := by simp; omega
        have HL1 := Lib.hid hl1
        clear hWf hbx hpost hl1
        subst hg1
        go_wp2
        rw [← HW.out]
        obtain ⟨f0, f1, f2, f3⟩ := box4 HBXF.out
        refine bodyPost_ret (v := .agg #[.int .i64 X.kind, .int .i64 X.num, .string X.name, .slice A1 X.args.length c1]) (by simp [results, Tryd.results88, go_sem, f0, f1, f2, f3]) rfl ?_
        exact HPO.out
      · obtain ⟨Ar, cr, hur, hcr, hmr⟩ := HR3.out.form
        have g0 : ((ts.length : Int) == 1) = false := by simp; omega
        have HL1 := Lib.hid hl1
        clear hl1
        have HPT := Lib.hid (part_any p s a' z true 3 0 ⟨#[]⟩ Ar ts.length cr w3 HI3.out.rd (by omega) (by omega))
        unfold tyV at HPT
        subst hur
        go_wp2_with fail
        refine HPT.out.mono ?_
        rintro e w6 ⟨rfl, H6, K6⟩
        have hi6 := HI3.out.t hlt K6 H6
        have hr6 := RowK.above (R := TyAt) TyAt.keep HR3.out (Nat.le_refl _) (Nat.le_refl _) (fun g h1 h2 => K6.block g h2 (by omega)) K6.size
        obtain ⟨A7, c7, he7, hty7⟩ := hr6.ty 3 0 ⟨#[]⟩ (by show 0 ≤ _; omega)
        obtain ⟨rfl, -, rfl⟩ := Value.slice.inj he7
        have hx := hi6.fin hlt (N + 1) s a (.mk 3 0 ⟨#[]⟩ ts) Ar cr (hty7.sub fun g hg => ⟨by omega, hg.2⟩)
        simp only [Ty.kind, Ty.num, Ty.name, Ty.args] at hx
        obtain ⟨Wf, hWf, hbx, hpost⟩ := hx
        obtain ⟨r0, r1, r2, r3⟩ := box4 hi6.res
        obtain ⟨s0, s1, s2, s3⟩ := box4_frozen hi6.res
        have hok : OkM (N + 1) s a (pairP arr s a c) (.mk 3 0 ⟨#[]⟩ ts) (rdr s a' ((z : Int) + 1) (true || decide (300 < (z : Int) + 1))) := by
          rw [HNONE.out]
          refine ⟨a', z + 1, has, by omega, ?_⟩
          rw [Bool.true_or, show ((z + 1 : Nat) : Int) = (z : Int) + 1 by omega]
        have HW := Lib.hid hWf; have HBXF := Lib.hid hbx; have HPO := Lib.hid (hpost _ hok)
        clear hWf hbx hpost hok hi6 hr6 hty7 he7 H6 K6
        go_wp2
        rw [← HW.out]
        obtain ⟨f0, f1, f2, f3⟩ := box4 HBXF.out
        refine bodyPost_ret (v := .agg #[.int .i64 3, .int .i64 0, .string ⟨#[]⟩, .slice Ar ts.length cr]) (by simp [results, Tryd.results88, go_sem, f0, f1, f2, f3]) rfl ?_
        exact HPO.out
end Go.Proofs.YtbhicpjhijondaaDoor
/- T28 -/
/- The reader's arrow. -/
namespace Go.Proofs.YtbhicpjhijondaaDoor
open Go.RowKit Go.Lib Go.Vfs Go.Par Go.Typ Go.Shelf
set_option linter.unusedVariables false
set_option linter.unusedSimpArgs false

/-- a type, and perhaps an arrow behind it. -/
def arr1 (pr arr : Nat → Nat → Option (Ty × Nat × Nat)) (s : ByteArray) (a c : Nat) : Option (Ty × Nat × Nat) :=
  match pr a c with
  | none => none
  | some (T, a1, c1) => if preB s [32, 45, 62, 32] a1 = true then
      (match arr (a1 + 4) c1 with | none => none | some (U, a2, c2) => partP (.mk 4 0 ⟨#[]⟩ [T, U]) a2 c2)
    else some (T, a1, c1)
/-- the parser: a type that may stand so deep. -/
def arrowP (s : ByteArray) : Nat → Nat → Nat → Option (Ty × Nat × Nat)
  | 0, _, _ => none
  | f + 1, a, c => arr1 (pairP (arrowP s f) s) (arrowP s f) s a c

/-- a type in a box of its own. -/
structure BI (w : World) (p b5 : Nat) (T : Ty) (A : Option Addr) (cc : Nat) (W : World) : Prop where
  box : W.heap[b5]? = some (.cells #[.int .i64 T.kind, .int .i64 T.num, .string T.name, .slice A T.args.length cc] 24 (0, 0))
  gt : w.heap.size < b5
  ty : TyAt (fun g => w.heap.size < g ∧ g < W.heap.size) W (tyV T.kind T.num T.name A T.args.length cc) T
theorem BI.t {w : World} {p b5 : Nat} {T : Ty} {A : Option Addr} {cc : Nat} {W W' : World} (h : BI w p b5 T A cc W) (hp : p < w.heap.size) (hk : Kept (fun x => x = p) W W') : BI w p b5 T A cc W' := by
  have hg := h.gt
  have hz := hk.size
  exact ⟨(hk.block _ (lt_blk h.box) (by omega)).trans h.box, hg, h.ty.keep fun g hg2 => ⟨⟨hg2.1, by omega⟩, hk.block g hg2.2 (by omega)⟩⟩
theorem BI.new {w : World} {p b5 : Nat} {T : Ty} {A : Option Addr} {cc : Nat} {W W' : World} (h : BI w p b5 T A cc W) (hb : Below W.heap.size W W') : BI w p b5 T A cc W' := by
  have hz := hb.size
  exact ⟨(hb.block _ (lt_blk h.box)).trans h.box, h.gt, h.ty.keep fun g hg => ⟨⟨hg.1, by omega⟩, hb.block g hg.2⟩⟩
/-- two types as the arguments in a new block. -/
theorem BI.two {w : World} {p b5 b6 : Nat} {T U : Ty} {A A' : Option Addr} {cc cc' : Nat} {W : World} (h : BI w p b5 T A cc W) (h' : BI w p b6 U A' cc' W) {bn : Nat} (hn : W.heap[bn]? = some (.cells #[.int .i64 T.kind, .int .i64 T.num, .string T.name, .slice A T.args.length cc, .int .i64 U.kind, .int .i64 U.num, .string U.name, .slice A' U.args.length cc'] 24 (0, 0))) (hg : w.heap.size < bn) :
    TyAt (fun g => w.heap.size < g ∧ g < W.heap.size) W (tyV 4 0 ⟨#[]⟩ (some ⟨bn, 0, none⟩) 2 2) (.mk 4 0 ⟨#[]⟩ [T, U]) := by
  have hbn := lt_blk hn
  refine .mk 4 0 ⟨#[]⟩ [T, U] _ 2 (fun i => if i = 0 then tyV T.kind T.num T.name A T.args.length cc else tyV U.kind U.num U.name A' U.args.length cc') (by simp) (by simp [maxLen]) (by show 0 ≤ _; omega) (fun _ => ⟨bn, 0, rfl, ⟨hg, hbn⟩, fun i hi j hj => ?_⟩) (fun i hi => ?_)
  · have hi2 : i = 0 ∨ i = 1 := by have : i < 2 := hi; omega
    have hj4 : j = 0 ∨ j = 1 ∨ j = 2 ∨ j = 3 := by omega
    rcases hi2 with rfl | rfl <;> rcases hj4 with rfl | rfl | rfl | rfl <;> simp [World.cell?, hn, fld, tyV]
  · have hi2 : i = 0 ∨ i = 1 := by have : i < 2 := hi; omega
    rcases hi2 with rfl | rfl
    · exact h.ty
    · exact h'.ty

set_option maxRecDepth 20000 in
set_option maxHeartbeats 2000000 in
theorem arrow_deep (p : Nat) (s : ByteArray) (hs : s.size ≤ 1000000000) : RdC 58 400 p s 301 (arrowP s 0) := by
  intro a c w h ha hc
  have hlt := lt_blk h
  obtain ⟨W1, hW1⟩ : ∃ W1, W1 = w.alloc zero4 := ⟨_, rfl⟩
  have hi1 := RdI.start h
  rw [← hW1] at hi1
  have HI1 := Lib.hid hi1
  obtain ⟨y0, y1, y2, y3⟩ := rdr_cells hi1.rd
  have HFL := Lib.hid (fail_any p s a c false W1 hi1.rd)
  clear h hi1
  go_enter Tryd.func58, Tryd.ntmps58
  go_upto_region 1 with fail
  rw [show w.alloc (.cells #[.int .i64 0, .int .i64 0, .string ⟨#[]⟩, .slice none 0 0] 24) = W1 from hW1.symm]
  clear hW1
  go_wp2_with fail
  refine HFL.out.mono ?_
  rintro e w8 ⟨rfl, H8, K8⟩
  have hi8 := HI1.out.t hlt K8 H8
  have hx := hi8.fin hlt 400 s a (.mk 0 0 ⟨#[]⟩ []) none 0 (TyAt.leaf _ _ 0 0 ⟨#[]⟩ none 0 (by simp [maxLen]) (by show 0 ≤ _; omega))
  simp only [Ty.kind, Ty.num, Ty.name, Ty.args, List.length_nil] at hx
  obtain ⟨Wf, hWf, hbx, hpost⟩ := hx
  obtain ⟨r0, r1, r2, r3⟩ := box4 hi8.res
  obtain ⟨s0, s1, s2, s3⟩ := box4_frozen hi8.res
  have HW := Lib.hid hWf; have HBXF := Lib.hid hbx; have HPO := Lib.hid (hpost (arrowP s 0 a c) ⟨a, c, ha, by omega, rfl⟩)
  clear hWf hbx hpost hi8 H8 K8
  unfold tyV
  go_wp2
  rw [← HW.out]
  obtain ⟨f0, f1, f2, f3⟩ := box4 HBXF.out
  refine bodyPost_ret (v := .agg #[.int .i64 0, .int .i64 0, .string ⟨#[]⟩, .slice none 0 0]) (by simp [results, Tryd.results58, go_sem, f0, f1, f2, f3]) rfl ?_
  exact HPO.out

set_option maxRecDepth 20000 in
set_option maxHeartbeats 2000000 in
theorem arrow_one (p : Nat) (s : ByteArray) (d : Int) (pr arr : Nat → Nat → Option (Ty × Nat × Nat)) (N : Nat) (hN : 400 ≤ N) (hN2 : N ≤ 1000000) (hd0 : 0 ≤ d) (hd : d ≤ 300) (HP : RdC 88 (N + 1) p s d pr) (HA : RdC 58 N p s (d + 1) arr) (hs : s.size ≤ 1000000000) : RdC 58 (N + 4) p s d (arr1 pr arr s) := by
  intro a c w h ha hc
  have hlt := lt_blk h
  obtain ⟨W1, hW1⟩ : ∃ W1, W1 = w.alloc zero4 := ⟨_, rfl⟩
  have hi1 := RdI.start h
  rw [← hW1] at hi1
  have HI1 := Lib.hid hi1
  obtain ⟨y0, y1, y2, y3⟩ := rdr_cells hi1.rd
  have HP1 := Lib.hid (HP a c W1 hi1.rd ha hc)
  have HAR := Lib.hid HA
  have gd : ¬ (300 : Int) < d := by omega
  clear h hi1 HP HA
  go_enter Tryd.func58, Tryd.ntmps58
  go_upto_region 1 with fail
  rw [show w.alloc (.cells #[.int .i64 0, .int .i64 0, .string ⟨#[]⟩, .slice none 0 0] 24) = W1 from hW1.symm]
  clear hW1
  go_wp2_with fail
  refine HP1.out.mono ?_
  rintro e w2 ⟨T, A, cc, o2, rfl, hT, hk2, ho2, hm2⟩
  have hi2 := HI1.out.t hlt hk2 ho2
  have hz1 := HI1.out.size
  have hz2 := hk2.size
  obtain ⟨W3, hW3⟩ : ∃ W3, W3 = w2.alloc (.cells #[.int .i64 T.kind, .int .i64 T.num, .string T.name, .slice A T.args.length cc] 24) := ⟨_, rfl⟩
  have hb3 : Below w2.heap.size w2 W3 := by rw [hW3]; exact (Below.refl _ _).alloc (Nat.le_refl _) _
  have hi3 := hi2.new hb3
  have hbi3 : BI w p w2.heap.size T A cc W3 := ⟨by rw [hW3]; exact heap_alloc_new _ _, by omega, hT.keep fun g hg => ⟨⟨by omega, by have := hb3.size; omega⟩, hb3.block g hg.2⟩⟩
  have HI3 := Lib.hid hi3; have HB3 := Lib.hid hbi3; have HM2 := Lib.hid hm2
  clear y0 y1 y2 y3 hi2 hz1 hz2 hb3 hi3 hbi3 hT hk2 ho2 hm2
  unfold tyV
  cases hpr : pr a c with
  | none =>
    have hm := HM2.out
    rw [hpr] at hm
    obtain ⟨a', z, has, hz, ho⟩ := hm
    subst ho
    have HNONE : Hid (arr1 pr arr s a c = none) := Lib.hid (by unfold arr1; rw [hpr])
    have HSK := Lib.hid (skip_bad p s ⟨#[32, 45, 62, 32]⟩ a' z W3 HI3.out.rd)
    clear hpr
    go_wp2_with fail
    rw [← hW3]
    clear hW3
    refine HSK.out.mono ?_
    rintro e w4 ⟨rfl, H4, K4⟩
    have hi4 := HI3.out.t hlt K4 H4
    have hbi4 := HB3.out.t hlt K4
    obtain ⟨x0, x1, x2, x3⟩ := box4 hbi4.box
    obtain ⟨r0, r1, r2, r3⟩ := box4 hi4.res
    obtain ⟨s0, s1, s2, s3⟩ := box4_frozen hi4.res
    obtain ⟨Wf, hWf, hbx, hpost⟩ := hi4.fin hlt (N + 4) s a T A cc hbi4.ty
    have HW := Lib.hid hWf; have HBXF := Lib.hid hbx; have HPO := Lib.hid (hpost (arr1 pr arr s a c) (by rw [HNONE.out]; exact ⟨a', z, has, by omega, rfl⟩))
    clear hWf hbx hpost hi4 hbi4 H4 K4
    go_wp2
    rw [← HW.out]
    obtain ⟨f0, f1, f2, f3⟩ := box4 HBXF.out
    refine bodyPost_ret (v := .agg #[.int .i64 T.kind, .int .i64 T.num, .string T.name, .slice A T.args.length cc]) (by simp [results, Tryd.results58, go_sem, f0, f1, f2, f3]) rfl ?_
    exact HPO.out
  | some x =>
    obtain ⟨T', a', c'⟩ := x
    have hm := HM2.out
    rw [hpr] at hm
    obtain ⟨rfl, ha0, has, hc', ho⟩ := hm
    subst ho
    have hsk := skip_ok p s ⟨#[32, 45, 62, 32]⟩ a' c' W3 HI3.out.rd has (by omega) (by decide)
    obtain ⟨q, hq⟩ : ∃ q, q = preB s [32, 45, 62, 32] a' := ⟨_, rfl⟩
    rw [show ((⟨#[32, 45, 62, 32]⟩ : ByteArray).data.toList.isPrefixOf (s.data.toList.drop a')) = q from hq.symm] at hsk
    have HSK := Lib.hid hsk; have HQ := Lib.hid hq; have HPR := Lib.hid hpr
    clear hpr hsk hq
    cases q
    · have HSOME : Hid (arr1 pr arr s a c = some (T, a', c')) := Lib.hid (by unfold arr1; rw [HPR.out]; simp only; rw [if_neg (by rw [← HQ.out]; simp)])
      go_wp2_with fail
      rw [← hW3]
      clear hW3
      refine HSK.out.mono ?_
      rintro e w4 ⟨rfl, H4, K4⟩
      have hi4 := HI3.out.t hlt K4 H4
      have hbi4 := HB3.out.t hlt K4
      obtain ⟨x0, x1, x2, x3⟩ := box4 hbi4.box
      obtain ⟨r0, r1, r2, r3⟩ := box4 hi4.res
      obtain ⟨s0, s1, s2, s3⟩ := box4_frozen hi4.res
      obtain ⟨Wf, hWf, hbx, hpost⟩ := hi4.fin hlt (N + 4) s a T A cc hbi4.ty
      have HW := Lib.hid hWf; have HBXF := Lib.hid hbx; have HPO := Lib.hid (hpost (arr1 pr arr s a c) (by rw [HSOME.out]; exact ⟨rfl, ha0, has, hc', rfl⟩))
      clear hWf hbx hpost hi4 hbi4 H4 K4
      go_wp2
      rw [← HW.out]
      obtain ⟨f0, f1, f2, f3⟩ := box4 HBXF.out
      refine bodyPost_ret (v := .agg #[.int .i64 T.kind, .int .i64 T.num, .string T.name, .slice A T.args.length cc]) (by simp [results, Tryd.results58, go_sem, f0, f1, f2, f3]) rfl ?_
      exact HPO.out
    · have hle := preB_le HQ.out.symm (by decide)
      have hle4 : a' + 4 ≤ s.size := hle
      go_wp2_with fail
      rw [← hW3]
      clear hW3
      refine HSK.out.mono ?_
      rintro e w4 ⟨rfl, H4, K4⟩
      have HI4 := Lib.hid (HI3.out.t hlt K4 H4)
      have HB4 := Lib.hid (HB3.out.t hlt K4)
      have HA4 := Lib.hid (HAR.out (a' + 4) c' w4 H4 hle4 hc')
      clear H4 K4
      go_wp2_with fail
      refine HA4.out.mono ?_
      rintro e w5 ⟨U, A5, cc5, o5, rfl, hU, hk5, ho5, hm5⟩
      have hz4 := HI4.out.size
      have hi5 := HI4.out.t hlt hk5 ho5
      have hbi5 := HB4.out.t hlt hk5
      obtain ⟨W6, hW6⟩ : ∃ W6, W6 = w5.alloc (.cells #[.int .i64 U.kind, .int .i64 U.num, .string U.name, .slice A5 U.args.length cc5] 24) := ⟨_, rfl⟩
      have hb6 : Below w5.heap.size w5 W6 := by rw [hW6]; exact (Below.refl _ _).alloc (Nat.le_refl _) _
      have hz5 := hk5.size
      have hbu6 : BI w p w5.heap.size U A5 cc5 W6 := ⟨by rw [hW6]; exact heap_alloc_new _ _, by omega, hU.keep fun g hg => ⟨⟨by omega, by have := hb6.size; omega⟩, hb6.block g hg.2⟩⟩
      have hi6 := hi5.new hb6
      have hbt6 := hbi5.new hb6
      obtain ⟨x0, x1, x2, x3⟩ := box4 hbt6.box
      obtain ⟨z0, z1, z2, z3⟩ := box4 hbu6.box
      obtain ⟨W7, hW7⟩ : ∃ W7, W7 = W6.alloc (.cells #[.int .i64 T.kind, .int .i64 T.num, .string T.name, .slice A T.args.length cc, .int .i64 U.kind, .int .i64 U.num, .string U.name, .slice A5 U.args.length cc5] 24) := ⟨_, rfl⟩
      have hb7 : Below W6.heap.size W6 W7 := by rw [hW7]; exact (Below.refl _ _).alloc (Nat.le_refl _) _
      have hz6 : W6.heap.size = w5.heap.size + 1 := by rw [hW6]; simp
      have hbn7 : W7.heap[w5.heap.size + 1]? = some (.cells #[.int .i64 T.kind, .int .i64 T.num, .string T.name, .slice A T.args.length cc, .int .i64 U.kind, .int .i64 U.num, .string U.name, .slice A5 U.args.length cc5] 24 (0, 0)) := by rw [hW7, ← hz6]; exact heap_alloc_new _ _
      have HI7 := Lib.hid (hi6.new hb7); have HT7 := Lib.hid (hbt6.new hb7); have HU7 := Lib.hid (hbu6.new hb7); have HBN := Lib.hid hbn7; have HM5 := Lib.hid hm5
      have hgw5 : w.heap.size < w5.heap.size + 1 := by omega
      have hpn : p ≠ w5.heap.size + 1 := by omega
      rw [hW6] at x0 x1 x2 x3 z0 z1 z2 z3
      clear hz4 hi5 hbi5 hb6 hz5 hbu6 hi6 hbt6 hU hk5 ho5 hm5 hb7 hbn7 hz6
      unfold tyV
      cases har : arr (a' + 4) c' with
      | none =>
        have hm := HM5.out
        rw [har] at hm
        obtain ⟨b', z, hbs, hz, ho⟩ := hm
        subst ho
        have HOK : Hid (OkM (N + 4) s a (arr1 pr arr s a c) (.mk 4 0 ⟨#[]⟩ [T, U]) (rdr s b' ((z : Int) + 1) (true || decide (300 < (z : Int) + 1)))) := Lib.hid (by
          unfold arr1
          rw [HPR.out]
          simp only
          rw [if_pos HQ.out.symm, har]
          refine ⟨b', z + 1, hbs, by omega, ?_⟩
          rw [Bool.true_or, show ((z + 1 : Nat) : Int) = (z : Int) + 1 by omega])
        have HPT := Lib.hid (part_any p s b' z true 4 0 ⟨#[]⟩ (some ⟨w5.heap.size + 1, 0, none⟩) 2 2 W7 HI7.out.rd (by omega) (by omega))
        unfold tyV at HPT
        clear har
        go_wp2_with fail
        rw [← hW6, ← hW7]
        clear hW6 hW7
        refine HPT.out.mono ?_
        rintro e w8 ⟨rfl, H8, K8⟩
        have hi8 := HI7.out.t hlt K8 H8
        have hbt8 := HT7.out.t hlt K8
        have hbu8 := HU7.out.t hlt K8
        have hbn8 := (K8.block _ (lt_blk HBN.out) (by omega)).trans HBN.out
        have hty8 := BI.two hbt8 hbu8 hbn8 (by omega)
        have hx := hi8.fin hlt (N + 4) s a (.mk 4 0 ⟨#[]⟩ [T, U]) (some ⟨w5.heap.size + 1, 0, none⟩) 2 hty8
        simp only [Ty.kind, Ty.num, Ty.name, Ty.args, List.length_cons, List.length_nil] at hx
        obtain ⟨Wf, hWf, hbx, hpost⟩ := hx
        obtain ⟨r0, r1, r2, r3⟩ := box4 hi8.res
        obtain ⟨s0, s1, s2, s3⟩ := box4_frozen hi8.res
        have HW := Lib.hid hWf; have HBXF := Lib.hid hbx; have HPO := Lib.hid (hpost _ HOK.out)
        clear hWf hbx hpost hi8 hbt8 hbu8 hbn8 hty8 H8 K8
        go_wp2
        rw [← HW.out]
        obtain ⟨f0, f1, f2, f3⟩ := box4 HBXF.out
        refine bodyPost_ret (v := .agg #[.int .i64 4, .int .i64 0, .string ⟨#[]⟩, .slice (some ⟨w5.heap.size + 1, 0, none⟩) 2 2]) (by simp [results, Tryd.results58, go_sem, f0, f1, f2, f3]) rfl ?_
        exact HPO.out
      | some y =>
        obtain ⟨U', b', c2⟩ := y
        have hm := HM5.out
        rw [har] at hm
        obtain ⟨rfl, hb0, hbs, hc2, ho⟩ := hm
        subst ho
        have HOK : Hid (OkM (N + 4) s a (arr1 pr arr s a c) (.mk 4 0 ⟨#[]⟩ [T, U]) (rdr s b' ((c2 : Int) + 1) (false || decide (300 < (c2 : Int) + 1)))) := Lib.hid (by
          unfold arr1
          rw [HPR.out]
          simp only
          rw [if_pos HQ.out.symm, har]
          unfold OkM partP
          simp only
          by_cases h3 : c2 + 1 ≤ 300
          · rw [if_pos h3]
            refine ⟨rfl, by omega, hbs, h3, ?_⟩
            rw [Bool.false_or, decide_eq_false (by omega), show ((c2 + 1 : Nat) : Int) = (c2 : Int) + 1 by omega]
          · rw [if_neg h3]
            refine ⟨b', c2 + 1, hbs, by omega, ?_⟩
            rw [Bool.false_or, decide_eq_true (by omega), show ((c2 + 1 : Nat) : Int) = (c2 : Int) + 1 by omega])
        have HPT := Lib.hid (part_any p s b' c2 false 4 0 ⟨#[]⟩ (some ⟨w5.heap.size + 1, 0, none⟩) 2 2 W7 HI7.out.rd (by omega) (by omega))
        unfold tyV at HPT
        clear har
        go_wp2_with fail
        rw [← hW6, ← hW7]
        clear hW6 hW7
        refine HPT.out.mono ?_
        rintro e w8 ⟨rfl, H8, K8⟩
        have hi8 := HI7.out.t hlt K8 H8
        have hbt8 := HT7.out.t hlt K8
        have hbu8 := HU7.out.t hlt K8
        have hbn8 := (K8.block _ (lt_blk HBN.out) (by omega)).trans HBN.out
        have hty8 := BI.two hbt8 hbu8 hbn8 (by omega)
        have hx := hi8.fin hlt (N + 4) s a (.mk 4 0 ⟨#[]⟩ [T, U]) (some ⟨w5.heap.size + 1, 0, none⟩) 2 hty8
        simp only [Ty.kind, Ty.num, Ty.name, Ty.args, List.length_cons, List.length_nil] at hx
        obtain ⟨Wf, hWf, hbx, hpost⟩ := hx
        obtain ⟨r0, r1, r2, r3⟩ := box4 hi8.res
        obtain ⟨s0, s1, s2, s3⟩ := box4_frozen hi8.res
        have HW := Lib.hid hWf; have HBXF := Lib.hid hbx; have HPO := Lib.hid (hpost _ HOK.out)
        clear hWf hbx hpost hi8 hbt8 hbu8 hbn8 hty8 H8 K8
        go_wp2
        rw [← HW.out]
        obtain ⟨f0, f1, f2, f3⟩ := box4 HBXF.out
        refine bodyPost_ret (v := .agg #[.int .i64 4, .int .i64 0, .string ⟨#[]⟩, .slice (some ⟨w5.heap.size + 1, 0, none⟩) 2 2]) (by simp [results, Tryd.results58, go_sem, f0, f1, f2, f3]) rfl ?_
        exact HPO.out
end Go.Proofs.YtbhicpjhijondaaDoor
/- T29 -/
/- The reader at every depth; the names in what it reads; how long a type's words are. -/
namespace Go.Typ
/-- no name is longer. -/
def NmB (n : Nat) (T : Ty) : Prop := ∀ x ∈ T.list, x.name.size ≤ n
theorem mem_listL' {x : Ty} : ∀ {ts : List Ty}, x ∈ listL ts → ∃ t ∈ ts, x ∈ t.list
  | t :: ts, h => by
    rw [listL] at h
    rcases List.mem_append.1 h with h | h
    · exact ⟨t, List.mem_cons_self, h⟩
    · obtain ⟨u, hu, hx⟩ := mem_listL' h
      exact ⟨u, List.mem_cons_of_mem _ hu, hx⟩
theorem NmB.mk {n : Nat} {k num : Int} {nm : ByteArray} {ts : List Ty} (h : nm.size ≤ n) (hs : ∀ t ∈ ts, NmB n t) : NmB n (.mk k num nm ts) := fun x hx => by
  rw [Ty.list_eq] at hx
  rcases List.mem_cons.1 hx with rfl | hx
  · exact h
  · obtain ⟨t, ht, hx⟩ := mem_listL' hx
    exact hs t ht x hx
theorem NmB.self {n : Nat} {T : Ty} (h : NmB n T) : T.name.size ≤ n := h T (by rw [T.list_eq]; exact List.mem_cons_self)
theorem NmB.arg {n : Nat} {T : Ty} (h : NmB n T) {i : Nat} (hi : i < T.args.length) : NmB n T.args[i] := fun x hx => h x (by
  rw [T.list_eq]
  exact List.mem_cons_of_mem _ (mem_listL (List.getElem_mem hi) hx))
/-- all that a parser answers has short names. -/
def PNm (n : Nat) (m : Option (Ty × Nat × Nat)) : Prop := ∀ T a c, m = some (T, a, c) → NmB n T
theorem PNm.none (n : Nat) : PNm n none := fun _ _ _ h => by cases h
theorem PNm.some {n : Nat} {T : Ty} {a c : Nat} (h : NmB n T) : PNm n (some (T, a, c)) := fun _ _ _ e => by
  injection e with e; injection e with e _; subst e; exact h
end Go.Typ
namespace Go.Proofs.YtbhicpjhijondaaDoor
open Go.RowKit Go.Lib Go.Vfs Go.Par Go.Typ Go.Shelf
set_option linter.unusedVariables false
set_option linter.unusedSimpArgs false

theorem PNm.part {n : Nat} {T : Ty} (h : NmB n T) (a c : Nat) : PNm n (partP T a c) := by
  unfold partP
  split
  · exact PNm.some h
  · exact PNm.none n
theorem PNm.var (n : Nat) (s : ByteArray) (a c : Nat) : PNm n (varP s a c) := by
  unfold varP
  split
  · split
    · exact PNm.none n
    · exact PNm.part (NmB.mk (Nat.zero_le _) fun t ht => by simp at ht) _ _
  · exact PNm.none n
theorem PNm.list {n : Nat} {m : Nat → Nat → Option (Ty × Nat × Nat)} (hm : ∀ a c, PNm n (m a c)) (s : ByteArray) (wd : List UInt8) :
    ∀ (f : Nat) (ts : List Ty) (a c : Nat) (ts' : List Ty) (a' c' : Nat), (∀ t ∈ ts, NmB n t) → listP m s wd f ts a c = some (ts', a', c') → ∀ t ∈ ts', NmB n t := by
  intro f
  induction f with
  | zero => intro ts a c ts' a' c' h e; rw [listP] at e; injection e with e; injection e with e _; subst e; exact h
  | succ f ih =>
    intro ts a c ts' a' c' h e
    rw [listP] at e
    split at e
    · cases hx : m (a + wd.length) c with
      | none => rw [hx] at e; cases e
      | some y =>
        obtain ⟨T, a2, c2⟩ := y
        rw [hx] at e
        refine ih _ _ _ _ _ _ (fun t ht => ?_) e
        rcases List.mem_append.1 ht with ht | ht
        · exact h t ht
        · rw [List.mem_singleton.1 ht]; exact hm _ _ _ _ _ hx
    · injection e with e; injection e with e _; subst e; exact h
theorem PNm.many {n : Nat} {m : Nat → Nat → Option (Ty × Nat × Nat)} (hm : ∀ a c, PNm n (m a c)) (s : ByteArray) (wd : List UInt8) (a c : Nat) (ts' : List Ty) (a' c' : Nat) (e : manyP m s wd a c = some (ts', a', c')) : ∀ t ∈ ts', NmB n t := by
  unfold manyP at e
  cases hx : m a c with
  | none => rw [hx] at e; cases e
  | some y =>
    obtain ⟨T, a2, c2⟩ := y
    rw [hx] at e
    exact PNm.list hm s wd _ _ _ _ _ _ _ (fun t ht => by rw [List.mem_singleton.1 ht]; exact hm _ _ _ _ _ hx) e
theorem getD_nm {n : Nat} {ts : List Ty} (h : ∀ t ∈ ts, NmB n t) : NmB n (ts.getD 0 (.mk 0 0 ⟨#[]⟩ [])) := by
  cases ts with
  | nil => exact NmB.mk (Nat.zero_le _) fun t ht => by simp at ht
  | cons t ts => exact h t List.mem_cons_self
theorem PNm.first {arr : Nat → Nat → Option (Ty × Nat × Nat)} {s : ByteArray} (hm : ∀ a c, PNm s.size (arr a c)) (a c : Nat) : PNm s.size (firstP arr s a c) := by
  unfold firstP
  split
  · exact PNm.var _ _ _ _
  · split
    · cases hx : manyP arr s [44, 32] (a + 1) c with
      | none => exact PNm.none _
      | some y =>
        obtain ⟨ts, a2, c2⟩ := y
        have hts := PNm.many hm s _ _ _ _ _ _ hx
        unfold closeP
        simp only
        split
        · split
          · exact PNm.some (getD_nm hts)
          · split
            · exact PNm.part (NmB.mk (extract_le _ _ _) hts) _ _
            · exact PNm.none _
        · exact PNm.none _
    · exact PNm.part (NmB.mk (extract_le _ _ _) fun t ht => by simp at ht) _ _
theorem PNm.namL {s : ByteArray} : ∀ (f : Nat) (T : Ty) (a c : Nat), NmB s.size T → PNm s.size (namL s f T a c) := by
  intro f
  induction f with
  | zero => intro T a c h; exact PNm.some h
  | succ f ih =>
    intro T a c h
    rw [Go.Proofs.YtbhicpjhijondaaDoor.namL]
    split
    · have hp := PNm.part (n := s.size) (T := .mk 2 0 (s.extract (a + 1) (nmEnd s (a + 1))) [T]) (NmB.mk (extract_le _ _ _) fun t ht => by rw [List.mem_singleton.1 ht]; exact h) (nmEnd s (a + 1)) c
      cases hx : partP (.mk 2 0 (s.extract (a + 1) (nmEnd s (a + 1))) [T]) (nmEnd s (a + 1)) c with
      | none => exact PNm.none _
      | some y =>
        obtain ⟨T', a', c'⟩ := y
        exact ih _ _ _ (hp _ _ _ hx)
    · exact PNm.some h
theorem PNm.named {arr : Nat → Nat → Option (Ty × Nat × Nat)} {s : ByteArray} (hm : ∀ a c, PNm s.size (arr a c)) (a c : Nat) : PNm s.size (namedP arr s a c) := by
  unfold namedP
  cases hx : firstP arr s a c with
  | none => exact PNm.none _
  | some y =>
    obtain ⟨T, a1, c1⟩ := y
    exact PNm.namL _ _ _ _ (PNm.first hm a c _ _ _ hx)
theorem PNm.pair {arr : Nat → Nat → Option (Ty × Nat × Nat)} {s : ByteArray} (hm : ∀ a c, PNm s.size (arr a c)) (a c : Nat) : PNm s.size (pairP arr s a c) := by
  unfold pairP
  cases hx : manyP (namedP arr s) s [32, 42, 32] a c with
  | none => exact PNm.none _
  | some y =>
    obtain ⟨ts, a2, c2⟩ := y
    have hts := PNm.many (PNm.named hm) s _ _ _ _ _ _ hx
    rw [starP_some]
    split
    · exact PNm.some (getD_nm hts)
    · exact PNm.part (NmB.mk (Nat.zero_le _) hts) _ _
theorem PNm.arr1 {pr arr : Nat → Nat → Option (Ty × Nat × Nat)} {s : ByteArray} (hp : ∀ a c, PNm s.size (pr a c)) (hm : ∀ a c, PNm s.size (arr a c)) (a c : Nat) : PNm s.size (arr1 pr arr s a c) := by
  unfold Go.Proofs.YtbhicpjhijondaaDoor.arr1
  cases hx : pr a c with
  | none => exact PNm.none _
  | some y =>
    obtain ⟨T, a1, c1⟩ := y
    have hT := hp _ _ _ _ _ hx
    simp only
    split
    · cases hy : arr (a1 + 4) c1 with
      | none => exact PNm.none _
      | some z =>
        obtain ⟨U, a2, c2⟩ := z
        have hU := hm _ _ _ _ _ hy
        exact PNm.part (NmB.mk (Nat.zero_le _) fun t ht => by
          rcases List.mem_cons.1 ht with rfl | ht
          · exact hT
          · rw [List.mem_singleton.1 ht]; exact hU) _ _
    · exact PNm.some hT
theorem PNm.arrow (s : ByteArray) : ∀ (f a c : Nat), PNm s.size (arrowP s f a c) := by
  intro f
  induction f with
  | zero => intro a c; exact PNm.none _
  | succ f ih => exact PNm.arr1 (PNm.pair ih) ih

/-- how long a right type's words are. -/
theorem say_le (n : Nat) (T : Ty) : FitAll T → NmB n T → (sayT T).length + 8 ≤ T.parts * (n + 40) := by
  induction T using Ty.ind with
  | h T ih =>
    intro hF hN
    have hbound : ∀ ts : List Ty, (∀ t ∈ ts, (sayT t).length + 8 ≤ t.parts * (n + 40)) → ∀ (g : Ty → List UInt8), (∀ t, (g t).length ≤ (sayT t).length + 5) → ((ts.map g).flatMap fun x => x).length + 3 * ts.length ≤ partsL ts * (n + 40) := by
      intro ts hts g hg
      induction ts with
      | nil => simp [partsL]
      | cons t ts iht =>
        have h1 := hts t List.mem_cons_self
        have h2 := hg t
        have h3 := iht fun u hu => hts u (List.mem_cons_of_mem _ hu)
        simp only [List.map_cons, List.flatMap_cons, List.length_append, List.length_cons, partsL, Nat.add_mul]
        omega
    have hjoin : ∀ (sep : List UInt8) (ws : List (List UInt8)), (joinW sep ws).length ≤ (ws.flatMap fun x => x).length + sep.length * ws.length := by
      intro sep ws
      cases ws with
      | nil => simp [joinW]
      | cons w ws =>
        have : ∀ ws : List (List UInt8), (ws.flatMap fun x => sep ++ x).length = (ws.flatMap fun x => x).length + sep.length * ws.length := by
          intro ws
          induction ws with
          | nil => simp
          | cons x ws ih => simp only [List.flatMap_cons, List.length_append, ih, List.length_cons, Nat.mul_add]; omega
        simp only [joinW, List.length_append, this, List.flatMap_cons, List.length_cons, Nat.mul_add]
        omega
    obtain ⟨k, num, nm, ts⟩ := T
    have hfit := hF.self
    have hnm : nm.size ≤ n := hN.self
    have hsub : ∀ t ∈ ts, (sayT t).length + 8 ≤ t.parts * (n + 40) := fun t ht => by
      obtain ⟨i, hi, rfl⟩ := List.getElem_of_mem ht
      exact ih i hi (hF.arg hi) (hN.arg hi)
    have hwrap : ∀ (b : Bool) (w : List UInt8), (wrapB b w).length ≤ w.length + 2 := fun b w => by cases b <;> simp [wrapB]
    have hins := hbound ts hsub insT fun t => by have := hwrap (pairB t) (sayT t); unfold insT; omega
    have hsay := hbound ts hsub sayT fun t => by omega
    have hlen : nm.data.toList.length = nm.size := name_len nm
    rw [sayT, insW_map, sayL_map]
    rw [Ty.parts, Nat.add_mul, Nat.one_mul]
    by_cases k1 : k = 1
    · subst k1
      rw [if_pos rfl]
      have hv : (varW num).length ≤ 30 := by
        have hr : 0 ≤ num ∧ num < 1073741824 := by
          simp [fitsT, Ty.kind, Ty.num] at hfit
          exact ⟨of_decide_eq_true hfit.1.1.1, of_decide_eq_true hfit.1.1.2⟩
        have hi := Lib.itoa_length_le (num / 26) (by omega) (by omega)
        unfold varW
        by_cases h26 : 26 ≤ num
        · rw [if_pos h26]; simp only [List.length_append, List.length_cons, List.length_nil]; omega
        · rw [if_neg h26]; simp only [List.length_append, List.length_cons, List.length_nil]; omega
      omega
    · rw [if_neg k1]
      by_cases k2 : k = 2
      · subst k2
        rw [if_pos rfl]
        have j1 := hjoin [] (ts.map insT)
        have j2 := hjoin [44, 32] (ts.map sayT)
        simp only [List.length_map, List.length_nil, List.length_cons] at j1 j2
        by_cases h1 : ts.length = 1
        · rw [if_pos h1, if_neg (by omega)]
          simp only [List.length_append, List.length_cons, List.length_nil]
          omega
        · rw [if_neg h1]
          by_cases h0 : ts.length = 0
          · rw [if_pos h0, if_pos h0]
            simp only [List.length_append, List.length_nil]
            omega
          · rw [if_neg h0, if_neg h0]
            simp only [List.length_append, List.length_cons, List.length_nil]
            omega
      · rw [if_neg k2]
        by_cases k3 : k = 3
        · subst k3
          rw [if_pos rfl]
          have j1 := hjoin [32, 42, 32] (ts.map insT)
          simp only [List.length_map, List.length_nil, List.length_cons] at j1
          omega
        · rw [if_neg k3]
          by_cases k4 : k = 4
          · subst k4
            rw [if_pos rfl]
            have h2 : ts.length = 2 := by
              simp [fitsT, Ty.kind, Ty.args] at hfit
              exact of_decide_eq_true hfit.2
            obtain ⟨a, b, rfl⟩ : ∃ a b, ts = [a, b] := by
              match ts, h2 with
              | [a, b], _ => exact ⟨a, b, rfl⟩
            have ha := hsub a (by simp)
            have hb := hsub b (by simp)
            have hw := hwrap (decide (a.kind = 4)) (sayT a)
            simp only [List.map_cons, List.map_nil, List.getD_cons_zero, List.getD_cons_succ, List.length_append, List.length_cons, List.length_nil, partsL, Nat.add_mul] at hw ⊢
            omega
          · rw [if_neg k4]
            simp only [List.length_nil]
            omega
set_option maxRecDepth 20000 in
theorem arrow_any (p : Nat) (s : ByteArray) (hs : s.size ≤ 1000000000) : ∀ f : Nat, f ≤ 301 → RdC 58 (400 + 4 * f) p s ((301 - f : Nat) : Int) (arrowP s f) := by
  intro f
  induction f with
  | zero => intro _; exact arrow_deep p s hs
  | succ f ih =>
    intro hf
    have ih' := ih (by omega)
    rw [show ((301 - f : Nat) : Int) = ((301 - (f + 1) : Nat) : Int) + 1 by omega] at ih'
    have h1 := first_any p s _ _ (400 + 4 * f) (by omega) (by omega) (by omega) (by omega) ih' hs
    have h2 := named_any p s _ _ (400 + 4 * f) (by omega) h1 hs
    have h3 := pair_any p s _ _ (400 + 4 * f) (by omega) (by omega) h2 hs
    exact arrow_one p s _ _ _ (400 + 4 * f) (by omega) (by omega) (by omega) (by omega) h3 ih' hs
end Go.Proofs.YtbhicpjhijondaaDoor
/- T30 -/
/- types.Read. -/
namespace Go.Typ
/-- no type. -/
def zeroT : Ty := .mk 0 0 ⟨#[]⟩ []
end Go.Typ
namespace Go.Proofs.YtbhicpjhijondaaDoor
open Go.RowKit Go.Lib Go.Vfs Go.Par Go.Typ Go.Shelf
set_option linter.unusedVariables false
set_option linter.unusedSimpArgs false

/-- the type of a text. -/
def readT (s : ByteArray) : Option Ty :=
  match arrowP s 301 0 0 with
  | none => none
  | some (T, a, _) => if a = s.size then (if rightT T = true ∧ sayT T = s.data.toList then some T else none) else none
/-- what Read answers. -/
def ReadPost (s : ByteArray) (w : World) (e : Ending) (w' : World) : Prop :=
  ∃ (T : Ty) (A : Option Addr) (cc : Nat), e = .returned (.tuple #[tyV T.kind T.num T.name A T.args.length cc, .int .i64 (if (readT s).isSome then 0 else 120)]) ∧ TyAt (fun g => w.heap.size ≤ g ∧ g < w'.heap.size) w' (tyV T.kind T.num T.name A T.args.length cc) T ∧ Below w.heap.size w w' ∧ T = (readT s).getD zeroT

theorem below_of_kept {p B : Nat} {w W : World} (h : Kept (fun x => x = p) w W) (hp : B ≤ p) (hB : B ≤ w.heap.size) : Below B w W :=
  ⟨h.os, h.tape, h.output, h.size, fun g hg => h.block g (by omega) (by omega)⟩
theorem read_end {w W : World} (hr : W.heap[w.heap.size]? = some (.cells #[.int .i64 0, .int .i64 0, .string ⟨#[]⟩, .slice none 0 0] 24 (0, 0))) (hb : Below w.heap.size w W) (T : Ty) (A : Option Addr) (cc : Nat)
    (hT : TyAt (fun g => w.heap.size < g ∧ g < W.heap.size) W (tyV T.kind T.num T.name A T.args.length cc) T) :
    ∃ Wf, Wf = ((((W.setCell ⟨w.heap.size, 0, none⟩ (.int .i64 T.kind)).setCell ⟨w.heap.size, 1, none⟩ (.int .i64 T.num)).setCell ⟨w.heap.size, 2, none⟩ (.string T.name)).setCell ⟨w.heap.size, 3, none⟩ (.slice A T.args.length cc)) ∧
      Wf.heap[w.heap.size]? = some (.cells #[.int .i64 T.kind, .int .i64 T.num, .string T.name, .slice A T.args.length cc] 24 (0, 0)) ∧
      (∀ s r, T = (readT s).getD zeroT → r = (if (readT s).isSome then 0 else 120) → ReadPost s w (.returned (.tuple #[tyV T.kind T.num T.name A T.args.length cc, .int .i64 r])) Wf) := by
  obtain ⟨Wf, hWf, hbx, hkf⟩ := end4 (.int .i64 T.kind) (.int .i64 T.num) (.string T.name) (.slice A T.args.length cc) hr
  have hz := lt_blk hr
  have hzf := hkf.size
  refine ⟨Wf, hWf, hbx, fun s r hs hr => ⟨T, A, cc, by rw [hr], hT.keep fun g hg => ⟨⟨by omega, by omega⟩, hkf.block g hg.2 (by omega)⟩, hb.trans (below_of_kept hkf (Nat.le_refl _) hb.size), hs⟩⟩
theorem read_zero {w W : World} (hr : W.heap[w.heap.size]? = some (.cells #[.int .i64 0, .int .i64 0, .string ⟨#[]⟩, .slice none 0 0] 24 (0, 0))) (hb : Below w.heap.size w W) (s : ByteArray) (hs : readT s = none) :
    ∃ Wf, Wf = ((((W.setCell ⟨w.heap.size, 0, none⟩ (.int .i64 0)).setCell ⟨w.heap.size, 1, none⟩ (.int .i64 0)).setCell ⟨w.heap.size, 2, none⟩ (.string ⟨#[]⟩)).setCell ⟨w.heap.size, 3, none⟩ (.slice none 0 0)) ∧
      Wf.heap[w.heap.size]? = some (.cells #[.int .i64 0, .int .i64 0, .string ⟨#[]⟩, .slice none 0 0] 24 (0, 0)) ∧
      ReadPost s w (.returned (.tuple #[.agg #[.int .i64 0, .int .i64 0, .string ⟨#[]⟩, .slice none 0 0], .int .i64 120])) Wf := by
  obtain ⟨Wf, h1, h2, h3⟩ := read_end hr hb zeroT none 0 (TyAt.leaf _ _ 0 0 ⟨#[]⟩ none 0 (by simp [maxLen]) (by show 0 ≤ _; omega))
  exact ⟨Wf, h1, h2, h3 s 120 (by rw [hs]; rfl) (by rw [hs]; rfl)⟩

set_option maxRecDepth 20000 in
set_option maxHeartbeats 2000000 in
theorem read_any (s : ByteArray) (hs : s.size ≤ 1000000000) (w : World) (htb : Tb w) : Calls Tryd.prog 23 #[.string s] w (ReadPost s w) := by
  obtain ⟨W1, hW1⟩ : ∃ W1, W1 = w.alloc zero4 := ⟨_, rfl⟩
  have hz1 : W1.heap.size = w.heap.size + 1 := by rw [hW1]; simp
  obtain ⟨W2, hW2⟩ : ∃ W2, W2 = W1.alloc (.cells #[.string s, .int .i64 0, .int .i64 0, .bool false] 77) := ⟨_, rfl⟩
  have hz2 : W2.heap.size = w.heap.size + 2 := by rw [hW2]; simp [hz1]
  have hb1 : Below w.heap.size w W1 := by rw [hW1]; exact (Below.refl _ _).alloc (Nat.le_refl _) _
  have hb2 : Below W1.heap.size W1 W2 := by rw [hW2]; exact (Below.refl _ _).alloc (Nat.le_refl _) _
  have hb02 : Below w.heap.size w W2 := hb1.trans (hb2.mono (by omega))
  have hr2 : W2.heap[w.heap.size]? = some (.cells #[.int .i64 0, .int .i64 0, .string ⟨#[]⟩, .slice none 0 0] 24 (0, 0)) := (hb2.block _ (by omega)).trans (by rw [hW1]; exact heap_alloc_new _ _)
  have hp2 : W2.heap[w.heap.size + 1]? = some (rdr s 0 0 false) := by rw [hW2, ← hz1]; exact heap_alloc_new _ _
  have HAR := Lib.hid (arrow_any (w.heap.size + 1) s hs 301 (Nat.le_refl _) 0 0 W2 hp2 (Nat.zero_le _) (by omega))
  have HB2 := Lib.hid hb02; have HR2 := Lib.hid hr2; have HTB := Lib.hid htb
  clear hb1 hb2 hb02 hr2 hp2 htb
  go_enter Tryd.func23, Tryd.ntmps23
  go_wp2_with fail
  rw [show w.alloc (.cells #[.int .i64 0, .int .i64 0, .string ⟨#[]⟩, .slice none 0 0] 24) = W1 from hW1.symm, ← hW2]
  clear hW1 hW2
  refine HAR.out.mono ?_
  rintro e w3 ⟨T, A, cc, o3, rfl, hT, hk3, ho3, hm3⟩
  have hz3 := hk3.size
  obtain ⟨W4, hW4⟩ : ∃ W4, W4 = w3.alloc (.cells #[.int .i64 T.kind, .int .i64 T.num, .string T.name, .slice A T.args.length cc] 24) := ⟨_, rfl⟩
  have hb4 : Below w3.heap.size w3 W4 := by rw [hW4]; exact (Below.refl _ _).alloc (Nat.le_refl _) _
  have hz4 := hb4.size
  have hbx4 : W4.heap[w3.heap.size]? = some (.cells #[.int .i64 T.kind, .int .i64 T.num, .string T.name, .slice A T.args.length cc] 24 (0, 0)) := by rw [hW4]; exact heap_alloc_new _ _
  have hB4 : Below w.heap.size w W4 := HB2.out.trans ((below_of_kept hk3 (by omega) (by omega)).trans (hb4.mono (by omega)))
  have hr4 := (hb4.block _ (by omega)).trans ((hk3.block _ (lt_blk HR2.out) (by omega)).trans HR2.out)
  have ho4 := (hb4.block _ (lt_blk ho3)).trans ho3
  have hT4 : TyAt (fun g => w.heap.size < g ∧ g < W4.heap.size) W4 (tyV T.kind T.num T.name A T.args.length cc) T := hT.keep fun g hg => ⟨⟨by omega, by omega⟩, hb4.block g hg.2⟩
  have HB4 := Lib.hid hB4; have HR4 := Lib.hid hr4; have HT4 := Lib.hid hT4; have HTB4 := Lib.hid (HTB.out.below hB4)
  have HBX4 := Lib.hid hbx4; have HM := Lib.hid hm3
  clear hT hk3 ho3 hz3 hb4 hz4 hbx4 hB4 hr4 hT4 hm3
  cases har : arrowP s 301 0 0 with
  | none =>
    have hm := HM.out
    rw [har] at hm
    obtain ⟨a', z, has, hz, ho⟩ := hm
    subst ho
    obtain ⟨o0, o1, o2, o3⟩ := rdr_cells ho4
    have HNONE : Hid (readT s = none) := Lib.hid (by unfold readT; rw [har])
    clear har ho4
    obtain ⟨Wf, hWf, hbx, hpost⟩ := read_zero HR4.out HB4.out s HNONE.out
    obtain ⟨r0, r1, r2, r3⟩ := box4 HR4.out
    obtain ⟨s0, s1, s2, s3⟩ := box4_frozen HR4.out
    have HW := Lib.hid hWf; have HBXF := Lib.hid hbx; have HPO := Lib.hid hpost
    clear hWf hbx hpost
    rw [hW4] at o0 o1 o2 o3 r0 r1 r2 r3 s0 s1 s2 s3
    unfold tyV
    go_wp2
    rw [← hW4]
    rw [← HW.out]
    obtain ⟨f0, f1, f2, f3⟩ := box4 HBXF.out
    refine bodyPost_ret (v := .tuple #[.agg #[.int .i64 0, .int .i64 0, .string ⟨#[]⟩, .slice none 0 0], .int .i64 120]) (by simp [results, Tryd.results23, go_sem, f0, f1, f2, f3]) rfl ?_
    exact HPO.out
  | some y =>
    obtain ⟨T', a', c'⟩ := y
    have hm := HM.out
    rw [har] at hm
    obtain ⟨rfl, -, has, hc', ho⟩ := hm
    subst ho
    obtain ⟨o0, o1, o2, o3⟩ := rdr_cells ho4
    have HNM := Lib.hid (PNm.arrow s 301 0 0 _ _ _ har)
    have HARR := Lib.hid har
    clear har ho4
    by_cases hae : a' = s.size
    · have HRD : Hid (readT s = if rightT T = true ∧ sayT T = s.data.toList then some T else none) := Lib.hid (by unfold readT; rw [HARR.out]; simp only; rw [if_pos hae])
      have HSH := Lib.hid (show_any T _ W4 (HT4.out.sub fun g hg => hg.2) HTB4.out fun hr => by
        have := say_le s.size T (rightT_iff.1 hr).2 HNM.out
        have h3 := Nat.mul_le_mul_right (s.size + 40) (rightT_iff.1 hr).1
        omega)
      have g0 : ((a' : Int) == (s.size : Int)) = true := by simp; omega
      obtain ⟨x0, x1, x2, x3⟩ := box4 HBX4.out
      unfold tyV at HSH
      rw [hW4] at o0 o1 o2 o3 x0 x1 x2 x3
      unfold tyV
      go_wp2_with fail
      rw [← hW4]
      clear hW4 o0 o1 o2 o3 x0 x1 x2 x3 g0
      refine HSH.out.mono ?_
      rintro e w5 ⟨rfl, H5⟩
      have HR5 := Lib.hid ((H5.block _ (lt_blk HR4.out)).trans HR4.out)
      have HBX5 := Lib.hid ((H5.block _ (lt_blk HBX4.out)).trans HBX4.out)
      have HB5 := Lib.hid (HB4.out.trans (H5.mono HB4.out.size))
      have hz5 := H5.size
      have HT5 := Lib.hid (HT4.out.keep (S' := fun g => w.heap.size < g ∧ g < w5.heap.size) fun g hg => ⟨⟨hg.1, by omega⟩, H5.block g hg.2⟩)
      clear H5 hz5
      cases hq : rightT T with
      | false =>
        have HE : Hid (showT T = ([], 120)) := Lib.hid (by unfold showT; rw [hq]; rfl)
        have HNONE : Hid (readT s = none) := Lib.hid (by rw [HRD.out, hq]; rfl)
        rw [HE.out]
        clear hq
        obtain ⟨Wf, hWf, hbx, hpost⟩ := read_zero HR5.out HB5.out s HNONE.out
        obtain ⟨r0, r1, r2, r3⟩ := box4 HR5.out
        obtain ⟨s0, s1, s2, s3⟩ := box4_frozen HR5.out
        have HW := Lib.hid hWf; have HBXF := Lib.hid hbx; have HPO := Lib.hid hpost
        clear hWf hbx hpost
        go_wp2
        rw [← HW.out]
        obtain ⟨f0, f1, f2, f3⟩ := box4 HBXF.out
        refine bodyPost_ret (v := .tuple #[.agg #[.int .i64 0, .int .i64 0, .string ⟨#[]⟩, .slice none 0 0], .int .i64 120]) (by simp [results, Tryd.results23, go_sem, f0, f1, f2, f3]) rfl ?_
        exact HPO.out
      | true =>
        have HE : Hid (showT T = (sayT T, 0)) := Lib.hid (by unfold showT; rw [hq]; rfl)
        rw [HE.out]
        by_cases heq : sayT T = s.data.toList
        · have HSOME : Hid (readT s = some T) := Lib.hid (by rw [HRD.out, if_pos ⟨hq, heq⟩])
          have hst : (⟨(sayT T).toArray⟩ : ByteArray) = s := by rw [heq]
          rw [hst]
          clear heq hst hq
          obtain ⟨Wf, hWf, hbx, hpost⟩ := read_end HR5.out HB5.out T A cc HT5.out
          obtain ⟨r0, r1, r2, r3⟩ := box4 HR5.out
          obtain ⟨s0, s1, s2, s3⟩ := box4_frozen HR5.out
          obtain ⟨x0, x1, x2, x3⟩ := box4 HBX5.out
          have HW := Lib.hid hWf; have HBXF := Lib.hid hbx; have HPO := Lib.hid (hpost s 0 (by rw [HSOME.out]; rfl) (by rw [HSOME.out]; rfl))
          clear hWf hbx hpost
          go_wp2
          rw [← HW.out]
          obtain ⟨f0, f1, f2, f3⟩ := box4 HBXF.out
          refine bodyPost_ret (v := .tuple #[.agg #[.int .i64 T.kind, .int .i64 T.num, .string T.name, .slice A T.args.length cc], .int .i64 0]) (by simp [results, Tryd.results23, go_sem, f0, f1, f2, f3]) rfl ?_
          exact HPO.out
        · have HNONE : Hid (readT s = none) := Lib.hid (by rw [HRD.out, if_neg (fun h => heq h.2)])
          have g1 : ((⟨(sayT T).toArray⟩ : ByteArray).toList == s.toList) = false := beqS_ne fun h => heq (by rw [← h])
          clear heq hq
          generalize (⟨(sayT T).toArray⟩ : ByteArray) = tx at *
          obtain ⟨Wf, hWf, hbx, hpost⟩ := read_zero HR5.out HB5.out s HNONE.out
          obtain ⟨r0, r1, r2, r3⟩ := box4 HR5.out
          obtain ⟨s0, s1, s2, s3⟩ := box4_frozen HR5.out
          have HW := Lib.hid hWf; have HBXF := Lib.hid hbx; have HPO := Lib.hid hpost
          clear hWf hbx hpost
          go_wp2
          rw [← HW.out]
          obtain ⟨f0, f1, f2, f3⟩ := box4 HBXF.out
          refine bodyPost_ret (v := .tuple #[.agg #[.int .i64 0, .int .i64 0, .string ⟨#[]⟩, .slice none 0 0], .int .i64 120]) (by simp [results, Tryd.results23, go_sem, f0, f1, f2, f3]) rfl ?_
          exact HPO.out
    · have HNONE : Hid (readT s = none) := Lib.hid (by unfold readT; rw [HARR.out]; simp only; rw [if_neg hae])
      have g0 : ((a' : Int) == (s.size : Int)) = false := by simp; omega
      obtain ⟨Wf, hWf, hbx, hpost⟩ := read_zero HR4.out HB4.out s HNONE.out
      obtain ⟨r0, r1, r2, r3⟩ := box4 HR4.out
      obtain ⟨s0, s1, s2, s3⟩ := box4_frozen HR4.out
      have HW := Lib.hid hWf; have HBXF := Lib.hid hbx; have HPO := Lib.hid hpost
      clear hWf hbx hpost hae
      rw [hW4] at o0 o1 o2 o3 r0 r1 r2 r3 s0 s1 s2 s3
      unfold tyV
      go_wp2
      rw [← hW4]
      rw [← HW.out]
      obtain ⟨f0, f1, f2, f3⟩ := box4 HBXF.out
      refine bodyPost_ret (v := .tuple #[.agg #[.int .i64 0, .int .i64 0, .string ⟨#[]⟩, .slice none 0 0], .int .i64 120]) (by simp [results, Tryd.results23, go_sem, f0, f1, f2, f3]) rfl ?_
      exact HPO.out
end Go.Proofs.YtbhicpjhijondaaDoor
