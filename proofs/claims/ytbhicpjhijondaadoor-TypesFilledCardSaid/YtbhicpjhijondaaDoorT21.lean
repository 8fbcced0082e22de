/- The reader's fail, skip, part. -/
import Derived.Test.YtbhicpjhijondaaDoorT20
namespace Go.Proofs.YtbhicpjhijondaaDoor
open Go.RowKit Go.Lib Go.Vfs Go.Par Go.Typ Go.Shelf
set_option linter.unusedVariables false
set_option linter.unusedSimpArgs false

theorem end4 {W : World} {r : Nat} {u0 u1 u2 u3 : Value} (v0 v1 v2 v3 : Value) {t : TypeId} (hr : W.heap[r]? = some (.cells #[u0, u1, u2, u3] t (0, 0))) :
    ∃ Wf, Wf = ((((W.setCell ⟨r, 0, none⟩ v0).setCell ⟨r, 1, none⟩ v1).setCell ⟨r, 2, none⟩ v2).setCell ⟨r, 3, none⟩ v3) ∧ Wf.heap[r]? = some (.cells #[v0, v1, v2, v3] t (0, 0)) ∧ Kept (· = r) W Wf :=
  ⟨_, rfl, put4 hr, kept4 (Kept.refl _ _) (.inl rfl)⟩
theorem rdr_put {W : World} {p : Nat} {s : ByteArray} {a : Nat} {c : Int} {bad : Bool} (h : W.heap[p]? = some (rdr s a c bad)) :
    (∀ a' : Nat, (W.setCell ⟨p, 1, none⟩ (.int .i64 a')).heap[p]? = some (rdr s a' c bad)) ∧ (∀ c' : Int, (W.setCell ⟨p, 2, none⟩ (.int .i64 c')).heap[p]? = some (rdr s a c' bad)) ∧
      (∀ bad' : Bool, (W.setCell ⟨p, 3, none⟩ (.bool bad')).heap[p]? = some (rdr s a c bad')) := by
  unfold rdr at h ⊢
  refine ⟨fun a' => ?_, fun c' => ?_, fun b' => ?_⟩
  · simpa using cells_put h 1 (.int .i64 a')
  · simpa using cells_put h 2 (.int .i64 c')
  · simpa using cells_put h 3 (.bool b')
/-- the zero of a type. -/
def zero4 : Obj := .cells #[.int .i64 0, .int .i64 0, .string ⟨#[]⟩, .slice none 0 0] 24 (0, 0)
set_option maxRecDepth 20000 in
set_option maxHeartbeats 1000000 in
theorem fail_any (p : Nat) (s : ByteArray) (a : Nat) (c : Int) (bad : Bool) (w : World) (h : w.heap[p]? = some (rdr s a c bad)) :
    Calls Tryd.prog 87 #[.pointer (some ⟨p, 0, none⟩)] w fun e w' => e = .returned (tyV 0 0 ⟨#[]⟩ none 0 0) ∧ w'.heap[p]? = some (rdr s a c true) ∧ Kept (· = p) w w' := by
  have hlt := lt_blk h
  have hne : ¬ (p = w.heap.size) := by omega
  have hne2 : ¬ (w.heap.size = p) := by omega
  obtain ⟨W1, hW1⟩ : ∃ W1, W1 = w.alloc zero4 := ⟨_, rfl⟩
  have hb1 : Below w.heap.size w W1 := by rw [hW1]; exact (Below.refl _ _).alloc (Nat.le_refl _) _
  have hp1 := (hb1.block p hlt).trans h
  have hr1 : W1.heap[w.heap.size]? = some (.cells #[.int .i64 0, .int .i64 0, .string ⟨#[]⟩, .slice none 0 0] 24 (0, 0)) := by rw [hW1]; exact heap_alloc_new _ _
  obtain ⟨y0, y1, y2, y3⟩ := rdr_cells hp1
  obtain ⟨q0, q1, q2, q3⟩ := rdr_frozen hp1
  obtain ⟨r0, r1, r2, r3⟩ := box4 hr1
  obtain ⟨s0, s1, s2, s3⟩ := box4_frozen hr1
  have HP1 := Lib.hid hp1; have HR1 := Lib.hid hr1; have HB1 := Lib.hid hb1
  clear h hp1 hr1 hb1
  go_enter Tryd.func87, Tryd.ntmps87
  go_upto_region 1 with fail
  rw [show w.alloc (.cells #[.int .i64 0, .int .i64 0, .string ⟨#[]⟩, .slice none 0 0] 24) = W1 from hW1.symm]
  clear hW1
  go_wp2
  have hr2 : (W1.setCell ⟨p, 3, none⟩ (.bool true)).heap[w.heap.size]? = some (.cells #[.int .i64 0, .int .i64 0, .string ⟨#[]⟩, .slice none 0 0] 24 (0, 0)) := (setCell_blk (by dsimp only; omega)).trans HR1.out
  obtain ⟨Wf, hWf, hbx, hkf⟩ := end4 (.int .i64 0) (.int .i64 0) (.string ⟨#[]⟩) (.slice none 0 0) hr2
  rw [← hWf]
  obtain ⟨f0, f1, f2, f3⟩ := box4 hbx
  refine bodyPost_ret (v := .agg #[.int .i64 0, .int .i64 0, .string ⟨#[]⟩, .slice none 0 0]) (by simp [results, Tryd.results87, go_sem, f0, f1, f2, f3]) rfl ?_
  have hz : (W1.setCell ⟨p, 3, none⟩ (.bool true)).heap.size = W1.heap.size := by simp [World.setCell]
  have hz1 := HB1.out.size
  have hlt1 : p < W1.heap.size := by omega
  refine ⟨rfl, ?_, ?_⟩
  · exact (hkf.block p (by omega) hne).trans ((rdr_put HP1.out).2.2 true)
  · have k1 : Kept (· = p) w (W1.setCell ⟨p, 3, none⟩ (.bool true)) := Kept.setCell (F := fun x => x = p) (p := ⟨p, 3, none⟩) (Kept.of_below HB1.out) (.inl rfl) _
    refine ⟨hkf.os.trans k1.os, hkf.tape.trans k1.tape, hkf.output.trans k1.output, Nat.le_trans k1.size hkf.size, fun g hg hp => ?_⟩
    exact (hkf.block g (by have := k1.size; omega) (by omega)).trans (k1.block g hg hp)

set_option maxRecDepth 20000 in
set_option maxHeartbeats 1000000 in
theorem skip_bad (p : Nat) (s wd : ByteArray) (a : Nat) (c : Int) (w : World) (h : w.heap[p]? = some (rdr s a c true)) :
    Calls Tryd.prog 89 #[.pointer (some ⟨p, 0, none⟩), .string wd] w fun e w' => e = .returned (.bool false) ∧ w'.heap[p]? = some (rdr s a c true) ∧ Kept (· = p) w w' := by
  obtain ⟨y0, y1, y2, y3⟩ := rdr_cells h
  go_enter Tryd.func89, Tryd.ntmps89
  go_wp2
  go_quiet (fail)
  go_wp2
  go_ret
  exact ⟨rfl, h, (Kept.refl _ _).drewN _⟩

set_option maxRecDepth 20000 in
set_option maxHeartbeats 1000000 in
theorem skip_ok (p : Nat) (s wd : ByteArray) (a : Nat) (c : Int) (w : World) (h : w.heap[p]? = some (rdr s a c false)) (ha : a ≤ s.size) (hs : s.size ≤ 9223372036854775000) (hw : wd.size ≤ 100) :
    Calls Tryd.prog 89 #[.pointer (some ⟨p, 0, none⟩), .string wd] w fun e w' => e = .returned (.bool (wd.data.toList.isPrefixOf (s.data.toList.drop a))) ∧
      w'.heap[p]? = some (rdr s (if wd.data.toList.isPrefixOf (s.data.toList.drop a) then a + wd.size else a) c false) ∧ Kept (· = p) w w' := by
  obtain ⟨y0, y1, y2, y3⟩ := rdr_cells h
  obtain ⟨q0, q1, q2, q3⟩ := rdr_frozen h
  obtain ⟨q, hq⟩ : ∃ q, q = wd.data.toList.isPrefixOf (s.data.toList.drop a) := ⟨_, rfl⟩
  rw [← hq]
  have he : (s.extract a s.size).data.toList = s.data.toList.drop a := by
    rw [ByteArray.data_extract]
    show (s.data.extract a s.data.size).toList = s.data.toList.drop a
    simp
    exact List.take_of_length_le (by rw [List.length_drop, name_len]; omega)
  have HP : ∀ W, Hid (Calls Tryd.prog 101 #[.string (s.extract a s.size), .string wd] W fun e w' => e = .returned (.bool q) ∧ w' = W) := fun W => Lib.hid (by
    have h1 := Tryd.strings_HasPrefix (s.extract a s.size) wd W
    unfold Lib.hasPrefix at h1
    rw [he, ← hq] at h1
    exact h1)
  have HH := Lib.hid h
  clear he hq h
  cases q
  · go_enter Tryd.func89, Tryd.ntmps89
    go_wp2
    go_quiet ((go_at_call 101; exact Calls.quiet_of ((HP _).out.mono (fun e w' h => ⟨h.1, 0, h.2⟩))))
    go_wp2
    go_ret
    exact ⟨rfl, HH.out, (Kept.refl _ _).drewN _⟩
  · go_enter Tryd.func89, Tryd.ntmps89
    go_wp2
    go_quiet ((go_at_call 101; exact Calls.quiet_of ((HP _).out.mono (fun e w' h => ⟨h.1, 0, h.2⟩))))
    go_wp2
    go_ret
    have h := (rdr_put (W := w.drewN nq) HH.out).1 (a + wd.size)
    have e : ((a + wd.size : Nat) : Int) = (a : Int) + (wd.size : Int) := by omega
    rw [e] at h
    exact ⟨rfl, h, Kept.setCell (F := fun x => x = p) (p := ⟨p, 1, none⟩) ((Kept.refl _ _).drewN _) (.inl rfl) _⟩

set_option maxRecDepth 20000 in
set_option maxHeartbeats 1000000 in
theorem part_any (p : Nat) (s : ByteArray) (a : Nat) (c : Int) (bad : Bool) (k num : Int) (name : ByteArray) (A : Option Addr) (n cc : Nat) (w : World) (h : w.heap[p]? = some (rdr s a c bad)) (hc0 : -9223372036854775808 ≤ c) (hc : c ≤ 9223372036854775806) :
    Calls Tryd.prog 90 #[.pointer (some ⟨p, 0, none⟩), tyV k num name A n cc] w fun e w' => e = .returned (tyV k num name A n cc) ∧ w'.heap[p]? = some (rdr s a (c + 1) (bad || decide (300 < c + 1))) ∧ Kept (· = p) w w' := by
  have hlt := lt_blk h
  have hne : ¬ (p = w.heap.size) := by omega
  have hne2 : ¬ (w.heap.size = p) := by omega
  have hne3 : ¬ (p = w.heap.size + 1) := by omega
  have hne4 : ¬ (w.heap.size + 1 = p) := by omega
  obtain ⟨W1, hW1⟩ : ∃ W1, W1 = (w.alloc (.cells #[.int .i64 k, .int .i64 num, .string name, .slice A n cc] 24)).alloc zero4 := ⟨_, rfl⟩
  have hb1 : Below w.heap.size w W1 := by rw [hW1]; exact ((Below.refl _ _).alloc (Nat.le_refl _) _).alloc (by simp) _
  have hp1 := (hb1.block p hlt).trans h
  have ht1 : W1.heap[w.heap.size]? = some (.cells #[.int .i64 k, .int .i64 num, .string name, .slice A n cc] 24 (0, 0)) := by
    rw [hW1, Below.heap_alloc _ _ _ (by simp)]; exact heap_alloc_new _ _
  have hr1 : W1.heap[w.heap.size + 1]? = some (.cells #[.int .i64 0, .int .i64 0, .string ⟨#[]⟩, .slice none 0 0] 24 (0, 0)) := by
    rw [hW1]
    have := heap_alloc_new (w.alloc (.cells #[.int .i64 k, .int .i64 num, .string name, .slice A n cc] 24)) zero4
    rw [World.size_alloc] at this
    exact this
  obtain ⟨y0, y1, y2, y3⟩ := rdr_cells hp1
  obtain ⟨q0, q1, q2, q3⟩ := rdr_frozen hp1
  obtain ⟨t0, t1, t2, t3⟩ := box4 ht1
  obtain ⟨r0, r1, r2, r3⟩ := box4 hr1
  obtain ⟨s0, s1, s2, s3⟩ := box4_frozen hr1
  have HP1 := Lib.hid hp1; have HR1 := Lib.hid hr1; have HB1 := Lib.hid hb1
  have hz1 : W1.heap.size = w.heap.size + 2 := by rw [hW1]; simp
  have HZ1 := Lib.hid hz1
  obtain ⟨W2, hW2⟩ : ∃ W2, W2 = W1.setCell ⟨p, 2, none⟩ (.int .i64 (c + 1)) := ⟨_, rfl⟩
  have hp2 : W2.heap[p]? = some (rdr s a (c + 1) bad) := by rw [hW2]; exact (rdr_put hp1).2.1 (c + 1)
  have hk2 : Kept (fun x => x = p) w W2 := by rw [hW2]; exact Kept.setCell (F := fun x => x = p) (p := ⟨p, 2, none⟩) (Kept.of_below hb1) (.inl rfl) _
  have hr2 : W2.heap[w.heap.size + 1]? = some (.cells #[.int .i64 0, .int .i64 0, .string ⟨#[]⟩, .slice none 0 0] 24 (0, 0)) := by rw [hW2]; exact (setCell_blk (by dsimp only; omega)).trans hr1
  have hz2 : W2.heap.size = w.heap.size + 2 := by rw [hW2]; simpa [World.setCell] using hz1
  have HP2 := Lib.hid hp2; have HK2 := Lib.hid hk2; have HR2 := Lib.hid hr2; have HZ2 := Lib.hid hz2; have HW2 := Lib.hid hW2
  have fin : Hid (∀ (W3 : World) (b' : Bool), W3.heap[p]? = some (rdr s a (c + 1) b') → Kept (fun x => x = p) w W3 → W3.heap[w.heap.size + 1]? = some (.cells #[.int .i64 0, .int .i64 0, .string ⟨#[]⟩, .slice none 0 0] 24 (0, 0)) → ∃ Wf, Wf = ((((W3.setCell ⟨w.heap.size + 1, 0, none⟩ (.int .i64 k)).setCell ⟨w.heap.size + 1, 1, none⟩ (.int .i64 num)).setCell ⟨w.heap.size + 1, 2, none⟩ (.string name)).setCell ⟨w.heap.size + 1, 3, none⟩ (.slice A n cc)) ∧
      Wf.heap[w.heap.size + 1]? = some (.cells #[.int .i64 k, .int .i64 num, .string name, .slice A n cc] 24 (0, 0)) ∧ Wf.heap[p]? = some (rdr s a (c + 1) b') ∧ Kept (fun x => x = p) w Wf) := Lib.hid fun W3 b' h1 h2 h3 => by
    obtain ⟨Wf, hWf, hbx, hkf⟩ := end4 (.int .i64 k) (.int .i64 num) (.string name) (.slice A n cc) h3
    refine ⟨Wf, hWf, hbx, (hkf.block p (lt_blk h1) hne3).trans h1, hkf.os.trans h2.os, hkf.tape.trans h2.tape, hkf.output.trans h2.output, Nat.le_trans h2.size hkf.size, fun g hg hp => ?_⟩
    exact (hkf.block g (by have := h2.size; omega) (by omega)).trans (h2.block g hg hp)
  clear h hp1 hr1 hb1 hz1 hp2 hk2 hr2 hz2 hW2 ht1
  unfold tyV
  by_cases hover : (300 : Int) < c + 1
  · have hbd : (bad || decide (300 < c + 1)) = true := by simp [hover]
    rw [hbd]
    go_enter Tryd.func90, Tryd.ntmps90
    go_upto_region 1 with fail
    rw [show (w.alloc (.cells #[.int .i64 k, .int .i64 num, .string name, .slice A n cc] 24)).alloc (.cells #[.int .i64 0, .int .i64 0, .string ⟨#[]⟩, .slice none 0 0] 24) = W1 from hW1.symm]
    clear hW1
    go_wp2
    rw [← HW2.out]
    obtain ⟨Wf, hWf, hbx, hpf, hkf⟩ := fin.out (W2.setCell ⟨p, 3, none⟩ (.bool true)) true ((rdr_put HP2.out).2.2 true) (Kept.setCell (F := fun x => x = p) (p := ⟨p, 3, none⟩) HK2.out (.inl rfl) _) ((setCell_blk (by dsimp only; omega)).trans HR2.out)
    rw [← hWf]
    obtain ⟨f0, f1, f2, f3⟩ := box4 hbx
    refine bodyPost_ret (v := .agg #[.int .i64 k, .int .i64 num, .string name, .slice A n cc]) (by simp [results, Tryd.results90, go_sem, f0, f1, f2, f3]) rfl ?_
    exact ⟨rfl, hpf, hkf⟩
  · have hbd : (bad || decide (300 < c + 1)) = bad := by simp [hover]
    rw [hbd]
    go_enter Tryd.func90, Tryd.ntmps90
    go_upto_region 1 with fail
    rw [show (w.alloc (.cells #[.int .i64 k, .int .i64 num, .string name, .slice A n cc] 24)).alloc (.cells #[.int .i64 0, .int .i64 0, .string ⟨#[]⟩, .slice none 0 0] 24) = W1 from hW1.symm]
    clear hW1
    go_wp2
    rw [← HW2.out]
    obtain ⟨Wf, hWf, hbx, hpf, hkf⟩ := fin.out W2 bad HP2.out HK2.out HR2.out
    rw [← hWf]
    obtain ⟨f0, f1, f2, f3⟩ := box4 hbx
    refine bodyPost_ret (v := .agg #[.int .i64 k, .int .i64 num, .string name, .slice A n cc]) (by simp [results, Tryd.results90, go_sem, f0, f1, f2, f3]) rfl ?_
    exact ⟨rfl, hpf, hkf⟩
end Go.Proofs.YtbhicpjhijondaaDoor
