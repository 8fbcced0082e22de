/- The reader's variable. -/
import Derived.Test.YtbhicpjhijondaaDoorT22
namespace Go.Typ
/-- a part more. -/
def partP (T : Ty) (a c : Nat) : Option (Ty × Nat × Nat) := if c + 1 ≤ 300 then some (T, a, c + 1) else none
end Go.Typ
namespace Go.Proofs.YtbhicpjhijondaaDoor
open Go.RowKit Go.Lib Go.Vfs Go.Par Go.Typ Go.Shelf
set_option linter.unusedVariables false
set_option linter.unusedSimpArgs false

/-- the digits from k on, times being told so far. -/
def digsF (s : ByteArray) : Nat → Nat → Nat → Option (Nat × Nat)
  | 0, k, t => some (k, t)
  | f + 1, k, t => if k < s.size ∧ digitN (byteS s k) = true then (if 1073741824 < t * 10 + (byteS s k - 48) then none else digsF s f (k + 1) (t * 10 + (byteS s k - 48))) else some (k, t)
theorem digsF_end {s : ByteArray} {f k t : Nat} (h : ¬ (k < s.size ∧ digitN (byteS s k) = true)) : digsF s f k t = some (k, t) := by
  cases f with
  | zero => rfl
  | succ f => rw [digsF, if_neg h]
theorem digsF_step {s : ByteArray} {f k t : Nat} (h1 : k < s.size) (h2 : digitN (byteS s k) = true) (hf : s.size - k ≤ f) : ∃ f', s.size - (k + 1) ≤ f' ∧
    digsF s f k t = (if 1073741824 < t * 10 + (byteS s k - 48) then none else digsF s f' (k + 1) (t * 10 + (byteS s k - 48))) := by
  cases f with
  | zero => omega
  | succ f => exact ⟨f, by omega, by rw [digsF, if_pos ⟨h1, h2⟩]⟩
/-- a variable behind its mark. -/
def varP (s : ByteArray) (a c : Nat) : Option (Ty × Nat × Nat) :=
  if a < s.size ∧ smallN (byteS s a) = true then
    match digsF s s.size (a + 1) 0 with
    | none => none
    | some (k, t) => partP (.mk 1 (((t * 26 + (byteS s a - 97) : Nat)) : Int) ⟨#[]⟩ []) k c
  else none
/-- what the reader's block o says of the plain parser's answer m, begun at a. -/
def OkM (N : Nat) (s : ByteArray) (a : Nat) (m : Option (Ty × Nat × Nat)) (T : Ty) (o : Obj) : Prop :=
  match m with
  | some (T', a', c') => T = T' ∧ a ≤ a' ∧ a' ≤ s.size ∧ c' ≤ 300 ∧ o = rdr s a' c' false
  | none => ∃ (a' z : Nat), a' ≤ s.size ∧ z ≤ N ∧ o = rdr s a' z true
/-- what a method of the reader leaves: the plain parser's answer m. -/
def RdPost (N p : Nat) (s : ByteArray) (a : Nat) (m : Option (Ty × Nat × Nat)) (w : World) (e : Ending) (w' : World) : Prop :=
  ∃ (T : Ty) (A : Option Addr) (cc : Nat) (o : Obj), e = .returned (tyV T.kind T.num T.name A T.args.length cc) ∧ TyAt (fun g => w.heap.size ≤ g ∧ g < w'.heap.size) w' (tyV T.kind T.num T.name A T.args.length cc) T ∧ Kept (fun x => x = p) w w' ∧
    w'.heap[p]? = some o ∧ OkM N s a m T o
/-- a type without arguments. -/
theorem TyAt.leaf (S : Nat → Prop) (W : World) (k num : Int) (name : ByteArray) (A : Option Addr) (c : Nat) (hc : c ≤ maxLen) (hn : name.size ≤ 9223372036854775807) : TyAt S W (tyV k num name A 0 c) (.mk k num name []) :=
  .mk k num name [] A c (fun _ => .bool false) (by simp) hc hn (fun h => by simp at h) (fun i h => by simp at h)

/-- between two rounds of variable. -/
structure VI (w : World) (p : Nat) (s : ByteArray) (c k : Nat) (W : World) : Prop where
  rd : W.heap[p]? = some (rdr s k c false)
  res : W.heap[w.heap.size]? = some (.cells #[.int .i64 0, .int .i64 0, .string ⟨#[]⟩, .slice none 0 0] 24 (0, 0))
  kept : Kept (fun x => x = p) w W
theorem VI.drewN {w : World} {p : Nat} {s : ByteArray} {c k : Nat} {W : World} (h : VI w p s c k W) (n : Nat) : VI w p s c k (W.drewN n) := ⟨h.rd, h.res, h.kept.drewN n⟩
theorem VI.next {w : World} {p : Nat} {s : ByteArray} {c k : Nat} {W : World} (h : VI w p s c k W) (hp : p < w.heap.size) : VI w p s c (k + 1) (W.setCell ⟨p, 1, none⟩ (.int .i64 ((k : Int) + 1))) := by
  have e1 : ((k + 1 : Nat) : Int) = (k : Int) + 1 := by omega
  have hput := (rdr_put h.rd).1 (k + 1)
  rw [e1] at hput
  exact ⟨hput, (setCell_blk (by dsimp only; omega)).trans h.res, Kept.setCell (F := fun x => x = p) (p := ⟨p, 1, none⟩) h.kept (.inl rfl) _⟩
/-- the answer is stored and told. -/
theorem VI.fin {w W W' : World} {p : Nat} {s : ByteArray} {c k : Nat} {N : Nat} (m : Option (Ty × Nat × Nat)) (h : VI w p s c k W) (hp : p < w.heap.size) (hk : Kept (fun x => x = p) W W') (kk num : Int) (name : ByteArray) (A : Option Addr) (n cc : Nat) :
    ∃ Wf, Wf = ((((W'.setCell ⟨w.heap.size, 0, none⟩ (.int .i64 kk)).setCell ⟨w.heap.size, 1, none⟩ (.int .i64 num)).setCell ⟨w.heap.size, 2, none⟩ (.string name)).setCell ⟨w.heap.size, 3, none⟩ (.slice A n cc)) ∧
      Wf.heap[w.heap.size]? = some (.cells #[.int .i64 kk, .int .i64 num, .string name, .slice A n cc] 24 (0, 0)) ∧ Wf.heap[p]? = W'.heap[p]? ∧ Kept (fun x => x = p) w Wf ∧ Kept (fun x => x = w.heap.size) W' Wf := by
  have hz := h.kept.size
  have hlt := lt_blk h.res
  have hr : W'.heap[w.heap.size]? = some (.cells #[.int .i64 0, .int .i64 0, .string ⟨#[]⟩, .slice none 0 0] 24 (0, 0)) := (hk.block _ hlt (by omega)).trans h.res
  obtain ⟨Wf, hWf, hbx, hkf⟩ := end4 (.int .i64 kk) (.int .i64 num) (.string name) (.slice A n cc) hr
  have h2 := h.kept.trans' hk
  refine ⟨Wf, hWf, hbx, hkf.block p (by have := h2.size; omega) (by omega), ⟨hkf.os.trans h2.os, hkf.tape.trans h2.tape, hkf.output.trans h2.output, Nat.le_trans h2.size hkf.size, fun g hg hp => ?_⟩, hkf⟩
  exact (hkf.block g (by have := h2.size; omega) (by omega)).trans (h2.block g hg hp)

set_option maxRecDepth 20000 in
set_option maxHeartbeats 2000000 in
theorem variable_any (p : Nat) (s : ByteArray) (a c : Nat) (w : World) (h : w.heap[p]? = some (rdr s a c false)) (ha : a ≤ s.size) (hc : c ≤ 300) (hs : s.size ≤ 9223372036854775000) :
    Calls Tryd.prog 127 #[.pointer (some ⟨p, 0, none⟩)] w (RdPost 400 p s a (varP s a c) w) := by
  have hlt := lt_blk h
  obtain ⟨W1, hW1⟩ : ∃ W1, W1 = w.alloc zero4 := ⟨_, rfl⟩
  have hb1 : Below w.heap.size w W1 := by rw [hW1]; exact (Below.refl _ _).alloc (Nat.le_refl _) _
  have hv1 : VI w p s c a W1 := ⟨(hb1.block p hlt).trans h, by rw [hW1]; exact heap_alloc_new _ _, Kept.of_below hb1⟩
  have HV1 := Lib.hid hv1
  obtain ⟨y0, y1, y2, y3⟩ := rdr_cells hv1.rd
  have HF := fun (W : World) (k : Nat) (c' : Int) (h : W.heap[p]? = some (rdr s k c' false)) => Lib.hid (fail_any p s k c' false W h)
  -- what fails
  have hnone : Hid (varP s a c = none → ∀ (W W' : World) (k : Nat), VI w p s c k W → k ≤ s.size → W'.heap[p]? = some (rdr s k c true) → Kept (fun x => x = p) W W' → ∃ Wf, Wf = ((((W'.setCell ⟨w.heap.size, 0, none⟩ (.int .i64 0)).setCell ⟨w.heap.size, 1, none⟩ (.int .i64 0)).setCell ⟨w.heap.size, 2, none⟩ (.string ⟨#[]⟩)).setCell ⟨w.heap.size, 3, none⟩ (.slice none 0 0)) ∧
      Wf.heap[w.heap.size]? = some (.cells #[.int .i64 0, .int .i64 0, .string ⟨#[]⟩, .slice none 0 0] 24 (0, 0)) ∧ RdPost 400 p s a (varP s a c) w (.returned (tyV 0 0 ⟨#[]⟩ none 0 0)) Wf) := Lib.hid fun hn W W' k hv hk hp' hkp => by
    obtain ⟨Wf, hWf, hbx, hpf, hkf, -⟩ := hv.fin (N := 400) none hlt hkp 0 0 ⟨#[]⟩ none 0 0
    refine ⟨Wf, hWf, hbx, .mk 0 0 ⟨#[]⟩ [], none, 0, _, rfl, TyAt.leaf _ _ 0 0 ⟨#[]⟩ none 0 (by simp [maxLen]) (by show 0 ≤ _; omega), hkf, hpf.trans hp', ?_⟩
    rw [hn]
    exact ⟨k, c, hk, by omega, rfl⟩
  clear h hb1 hv1
  by_cases hlt2 : a < s.size
  · obtain ⟨x, hx⟩ : ∃ x, s[a].toNat = x := ⟨_, rfl⟩
    have HX : Hid (byteS s a = x) := Lib.hid (by rw [← hx]; exact (byteS_get s a hlt2).symm)
    have g0 : ((a : Int) == (s.size : Int)) = false := by simp; omega
    by_cases g1 : (x : Int) < 97
    · have HN : Hid (varP s a c = none) := Lib.hid (by
        unfold varP
        rw [if_neg]
        rintro ⟨-, h⟩
        rw [HX.out] at h
        have := of_decide_eq_true h
        omega)
      go_enter Tryd.func127, Tryd.ntmps127
      go_upto_region 1 with fail
      rw [show w.alloc (.cells #[.int .i64 0, .int .i64 0, .string ⟨#[]⟩, .slice none 0 0] 24) = W1 from hW1.symm]
      clear hW1
      go_quiet (fail)
      have HV2 := Lib.hid (HV1.out.drewN nq)
      have HF2 := HF (W1.drewN nq) a c HV2.out.rd
      go_wp2_with fail
      refine HF2.out.mono ?_
      rintro e w2 ⟨rfl, H2, K2⟩
      have hres := (K2.block _ (lt_blk HV2.out.res) (by omega)).trans HV2.out.res
      obtain ⟨r0, r1, r2, r3⟩ := box4 hres
      obtain ⟨s0, s1, s2, s3⟩ := box4_frozen hres
      obtain ⟨Wf, hWf, hbx, hpost⟩ := hnone.out HN.out _ w2 _ HV2.out (by omega) H2 K2
      have HW := Lib.hid hWf; have HBXF := Lib.hid hbx; have HPO := Lib.hid hpost
      clear hres H2 K2 hWf hbx hpost
      unfold tyV
      go_wp2
      rw [← HW.out]
      obtain ⟨f0, f1, f2, f3⟩ := box4 HBXF.out
      refine bodyPost_ret (v := .agg #[.int .i64 0, .int .i64 0, .string ⟨#[]⟩, .slice none 0 0]) (by simp [results, Tryd.results127, go_sem, f0, f1, f2, f3]) rfl ?_
      exact HPO.out
    · by_cases g2 : (122 : Int) < (x : Int)
      · have HN : Hid (varP s a c = none) := Lib.hid (by
          unfold varP
          rw [if_neg]
          rintro ⟨-, h⟩
          rw [HX.out] at h
          have := of_decide_eq_true h
          omega)
        go_enter Tryd.func127, Tryd.ntmps127
        go_upto_region 1 with fail
        rw [show w.alloc (.cells #[.int .i64 0, .int .i64 0, .string ⟨#[]⟩, .slice none 0 0] 24) = W1 from hW1.symm]
        clear hW1
        go_quiet (fail)
        have HV2 := Lib.hid (HV1.out.drewN nq)
        have HF2 := HF (W1.drewN nq) a c HV2.out.rd
        go_wp2_with fail
        refine HF2.out.mono ?_
        rintro e w2 ⟨rfl, H2, K2⟩
        have hres := (K2.block _ (lt_blk HV2.out.res) (by omega)).trans HV2.out.res
        obtain ⟨r0, r1, r2, r3⟩ := box4 hres
        obtain ⟨s0, s1, s2, s3⟩ := box4_frozen hres
        obtain ⟨Wf, hWf, hbx, hpost⟩ := hnone.out HN.out _ w2 _ HV2.out (by omega) H2 K2
        have HW := Lib.hid hWf; have HBXF := Lib.hid hbx; have HPO := Lib.hid hpost
        clear hres H2 K2 hWf hbx hpost
        unfold tyV
        go_wp2
        rw [← HW.out]
        obtain ⟨f0, f1, f2, f3⟩ := box4 HBXF.out
        refine bodyPost_ret (v := .agg #[.int .i64 0, .int .i64 0, .string ⟨#[]⟩, .slice none 0 0]) (by simp [results, Tryd.results127, go_sem, f0, f1, f2, f3]) rfl ?_
        exact HPO.out
      · have hsm : smallN (byteS s a) = true := by rw [HX.out]; exact decide_eq_true (by omega)
        have HVP : Hid (varP s a c = match digsF s s.size (a + 1) 0 with
            | none => none
            | some (k, t) => partP (.mk 1 (((t * 26 + (x - 97) : Nat)) : Int) ⟨#[]⟩ []) k c) := Lib.hid (by
          unfold varP
          rw [if_pos ⟨hlt2, hsm⟩, HX.out])
        clear hsm
        have hx1 : 97 ≤ x := by omega
        have hx2 : x ≤ 122 := by omega
        go_enter Tryd.func127, Tryd.ntmps127
        go_upto_region 1 with fail
        rw [show w.alloc (.cells #[.int .i64 0, .int .i64 0, .string ⟨#[]⟩, .slice none 0 0] 24) = W1 from hW1.symm]
        clear hW1
        go_quiet (fail)
        go_wp2
        go_quiet (fail)
        obtain ⟨q0, q1, q2, q3⟩ := rdr_frozen HV1.out.rd
        go_wp2
        clear y0 y1 y2 y3 q0 q1 q2 q3
        obtain ⟨D, hD⟩ : ∃ D, D = digsF s s.size (a + 1) 0 := ⟨_, rfl⟩
        rw [← hD] at HVP
        have HD := Lib.hid hD
        clear hD
        go_loopw [4] (fun tv wr => ∃ (k t f : Nat), tv = .int .i64 t ∧ t ≤ 1073741824 ∧ a + 1 ≤ k ∧ k ≤ s.size ∧ s.size - k ≤ f ∧ Hid (VI w p s c k wr) ∧ Hid (D = digsF s f k t)) (fun _ wr => s.size - atOf wr p)
        case atStart => exact ⟨a + 1, 0, s.size, rfl, by omega, by omega, by omega, by omega, Lib.hid ((HV1.out.drewN _).next hlt), HD⟩
        case round =>
          obtain ⟨k, t, f, rfl, ht, hk0, hk, hf, HV, HDF⟩ := hrel
          have HM := Lib.hid (atOf_rdr HV.out.rd)
          obtain ⟨y0, y1, y2, y3⟩ := rdr_cells HV.out.rd
          obtain ⟨q0, q1, q2, q3⟩ := rdr_frozen HV.out.rd
          by_cases hkl : k < s.size
          · obtain ⟨y, hy⟩ : ∃ y, s[k].toNat = y := ⟨_, rfl⟩
            have HY : Hid (byteS s k = y) := Lib.hid (by rw [← hy]; exact (byteS_get s k hkl).symm)
            by_cases e1 : (48 : Int) ≤ (y : Int)
            · by_cases e2 : (y : Int) ≤ 57
              · have hdg : digitN (byteS s k) = true := by rw [HY.out]; exact decide_eq_true (by omega)
                obtain ⟨f', hf', hst⟩ := digsF_step (t := t) hkl hdg hf
                rw [HY.out] at hst
                have HST := Lib.hid (HDF.out.trans hst)
                have hy1 : 48 ≤ y := by omega
                have hy2 : y ≤ 57 := by omega
                obtain ⟨t', ht'⟩ : ∃ t', t' = t * 10 + (y - 48) := ⟨_, rfl⟩
                have hti : (t : Int) * 10 + ((y : Int) - 48) = (t' : Int) := by omega
                rw [← ht'] at HST
                have htb : t' ≤ 10737418249 := by omega
                clear hst hdg ht'
                by_cases g5 : (1073741824 : Int) < (t' : Int)
                · have HN : Hid (varP s a c = none) := Lib.hid (by rw [HVP.out, HST.out, if_pos (by omega)])
                  go_wp2
                  go_quiet (fail)
                  revert nq
                  intro n1
                  intros
                  go_wp2
                  go_quiet (fail)
                  have HV2 := Lib.hid (HV.out.drewN (n1 + nq))
                  have HF2 := HF _ k c HV2.out.rd
                  go_wp2_with fail
                  refine HF2.out.mono ?_
                  rintro e w2 ⟨rfl, H2, K2⟩
                  have hres := (K2.block _ (lt_blk HV2.out.res) (by omega)).trans HV2.out.res
                  obtain ⟨r0, r1, r2, r3⟩ := box4 hres
                  obtain ⟨s0, s1, s2, s3⟩ := box4_frozen hres
                  obtain ⟨Wf, hWf, hbx, hpost⟩ := hnone.out HN.out _ w2 _ HV2.out (by omega) H2 K2
                  have HW := Lib.hid hWf; have HBXF := Lib.hid hbx; have HPO := Lib.hid hpost
                  clear hres H2 K2 hWf hbx hpost
                  unfold tyV
                  go_wp2
                  rw [← HW.out]
                  obtain ⟨f0, f1, f2, f3⟩ := box4 HBXF.out
                  refine bodyPost_ret (v := .agg #[.int .i64 0, .int .i64 0, .string ⟨#[]⟩, .slice none 0 0]) (by simp [results, Tryd.results127, go_sem, f0, f1, f2, f3]) rfl ?_
                  exact HPO.out
                · go_wp2
                  go_quiet (fail)
                  revert nq
                  intro n1
                  intros
                  go_wp2
                  go_quiet (fail)
                  have HVb := Lib.hid ((HV.out.drewN (n1 + nq)).next hlt)
                  go_wp2
                  refine ⟨⟨k + 1, t', f', rfl, by omega, by omega, by omega, by omega, HVb, Lib.hid ?_⟩, ?_⟩
                  · rw [HST.out, if_neg (by omega)]
                  · rw [atOf_rdr HVb.out.rd, HM.out]; omega
              · have hdg : digitN (byteS s k) = false := by rw [HY.out]; exact decide_eq_false (by omega)
                have HDE : Hid (D = some (k, t)) := Lib.hid (by rw [HDF.out]; exact digsF_end (by rintro ⟨-, h⟩; rw [hdg] at h; cases h))
                clear hdg
                go_wp2
                go_quiet (fail)
                have HV8 := Lib.hid (HV.out.drewN nq)
                have hnum : ((t * 26 + (x - 97) : Nat) : Int) = (t : Int) * 26 + ((x : Int) - 97) := by omega
                have HPT := Lib.hid (part_any p s k c false 1 ((t : Int) * 26 + ((x : Int) - 97)) ⟨#[]⟩ none 0 0 _ HV8.out.rd (by omega) (by omega))
                unfold tyV at HPT
                go_wp2_with fail
                refine HPT.out.mono ?_
                rintro e w2 ⟨rfl, H2, K2⟩
                have hres := (K2.block _ (lt_blk HV8.out.res) (by omega)).trans HV8.out.res
                obtain ⟨r0, r1, r2, r3⟩ := box4 hres
                obtain ⟨s0, s1, s2, s3⟩ := box4_frozen hres
                obtain ⟨Wf, hWf, hbx, hpf, hkf, -⟩ := HV8.out.fin (N := 400) none hlt K2 1 ((t : Int) * 26 + ((x : Int) - 97)) ⟨#[]⟩ none 0 0
                have hpost : RdPost 400 p s a (varP s a c) w (.returned (tyV 1 ((t : Int) * 26 + ((x : Int) - 97)) ⟨#[]⟩ none 0 0)) Wf := by
                  refine ⟨.mk 1 ((t : Int) * 26 + ((x : Int) - 97)) ⟨#[]⟩ [], none, 0, _, rfl, TyAt.leaf _ _ _ _ _ _ _ (by simp [maxLen]) (by show 0 ≤ _; omega), hkf, hpf.trans H2, ?_⟩
                  rw [HVP.out, HDE.out]
                  unfold OkM
                  simp only
                  unfold partP
                  rw [hnum]
                  by_cases h3 : c + 1 ≤ 300
                  · rw [if_pos h3]
                    refine ⟨rfl, by omega, by omega, h3, ?_⟩
                    rw [Bool.false_or, decide_eq_false (by omega), show ((c + 1 : Nat) : Int) = (c : Int) + 1 by omega]
                  · rw [if_neg h3]
                    refine ⟨k, c + 1, by omega, by omega, ?_⟩
                    rw [Bool.false_or, decide_eq_true (by omega), show ((c + 1 : Nat) : Int) = (c : Int) + 1 by omega]
                have HW := Lib.hid hWf; have HBXF := Lib.hid hbx; have HPO := Lib.hid hpost
                clear hres H2 K2 hWf hbx hpost hpf hkf
                go_wp2
                rw [← HW.out]
                obtain ⟨f0, f1, f2, f3⟩ := box4 HBXF.out
                refine bodyPost_ret (v := .agg #[.int .i64 1, .int .i64 ((t : Int) * 26 + ((x : Int) - 97)), .string ⟨#[]⟩, .slice none 0 0]) (by simp [results, Tryd.results127, go_sem, f0, f1, f2, f3]) rfl ?_
                exact HPO.out
            · have e3 : (y : Int) < 48 := by omega
              have e4 : decide ((48 : Int) ≤ (y : Int)) = false := decide_eq_false (by omega)
              have hdg : digitN (byteS s k) = false := by rw [HY.out]; exact decide_eq_false (by omega)
              have HDE : Hid (D = some (k, t)) := Lib.hid (by rw [HDF.out]; exact digsF_end (by rintro ⟨-, h⟩; rw [hdg] at h; cases h))
              clear hdg
              go_wp2
              go_quiet (fail)
              have HV8 := Lib.hid (HV.out.drewN nq)
              have hnum : ((t * 26 + (x - 97) : Nat) : Int) = (t : Int) * 26 + ((x : Int) - 97) := by omega
              have HPT := Lib.hid (part_any p s k c false 1 ((t : Int) * 26 + ((x : Int) - 97)) ⟨#[]⟩ none 0 0 _ HV8.out.rd (by omega) (by omega))
              unfold tyV at HPT
              go_wp2_with fail
              refine HPT.out.mono ?_
              rintro e w2 ⟨rfl, H2, K2⟩
              have hres := (K2.block _ (lt_blk HV8.out.res) (by omega)).trans HV8.out.res
              obtain ⟨r0, r1, r2, r3⟩ := box4 hres
              obtain ⟨s0, s1, s2, s3⟩ := box4_frozen hres
              obtain ⟨Wf, hWf, hbx, hpf, hkf, -⟩ := HV8.out.fin (N := 400) none hlt K2 1 ((t : Int) * 26 + ((x : Int) - 97)) ⟨#[]⟩ none 0 0
              have hpost : RdPost 400 p s a (varP s a c) w (.returned (tyV 1 ((t : Int) * 26 + ((x : Int) - 97)) ⟨#[]⟩ none 0 0)) Wf := by
                refine ⟨.mk 1 ((t : Int) * 26 + ((x : Int) - 97)) ⟨#[]⟩ [], none, 0, _, rfl, TyAt.leaf _ _ _ _ _ _ _ (by simp [maxLen]) (by show 0 ≤ _; omega), hkf, hpf.trans H2, ?_⟩
                rw [HVP.out, HDE.out]
                unfold OkM
                simp only
                unfold partP
                rw [hnum]
                by_cases h3 : c + 1 ≤ 300
                · rw [if_pos h3]
                  refine ⟨rfl, by omega, by omega, h3, ?_⟩
                  rw [Bool.false_or, decide_eq_false (by omega), show ((c + 1 : Nat) : Int) = (c : Int) + 1 by omega]
                · rw [if_neg h3]
                  refine ⟨k, c + 1, by omega, by omega, ?_⟩
                  rw [Bool.false_or, decide_eq_true (by omega), show ((c + 1 : Nat) : Int) = (c : Int) + 1 by omega]
              have HW := Lib.hid hWf; have HBXF := Lib.hid hbx; have HPO := Lib.hid hpost
              clear hres H2 K2 hWf hbx hpost hpf hkf
              go_wp2
              rw [← HW.out]
              obtain ⟨f0, f1, f2, f3⟩ := box4 HBXF.out
              refine bodyPost_ret (v := .agg #[.int .i64 1, .int .i64 ((t : Int) * 26 + ((x : Int) - 97)), .string ⟨#[]⟩, .slice none 0 0]) (by simp [results, Tryd.results127, go_sem, f0, f1, f2, f3]) rfl ?_
              exact HPO.out
          · have HDE : Hid (D = some (k, t)) := Lib.hid (by rw [HDF.out]; exact digsF_end (by rintro ⟨h, -⟩; exact hkl h))
            go_wp2
            go_quiet (fail)
            have HV8 := Lib.hid (HV.out.drewN nq)
            have hnum : ((t * 26 + (x - 97) : Nat) : Int) = (t : Int) * 26 + ((x : Int) - 97) := by omega
            have HPT := Lib.hid (part_any p s k c false 1 ((t : Int) * 26 + ((x : Int) - 97)) ⟨#[]⟩ none 0 0 _ HV8.out.rd (by omega) (by omega))
            unfold tyV at HPT
            go_wp2_with fail
            refine HPT.out.mono ?_
            rintro e w2 ⟨rfl, H2, K2⟩
            have hres := (K2.block _ (lt_blk HV8.out.res) (by omega)).trans HV8.out.res
            obtain ⟨r0, r1, r2, r3⟩ := box4 hres
            obtain ⟨s0, s1, s2, s3⟩ := box4_frozen hres
            obtain ⟨Wf, hWf, hbx, hpf, hkf, -⟩ := HV8.out.fin (N := 400) none hlt K2 1 ((t : Int) * 26 + ((x : Int) - 97)) ⟨#[]⟩ none 0 0
            have hpost : RdPost 400 p s a (varP s a c) w (.returned (tyV 1 ((t : Int) * 26 + ((x : Int) - 97)) ⟨#[]⟩ none 0 0)) Wf := by
              refine ⟨.mk 1 ((t : Int) * 26 + ((x : Int) - 97)) ⟨#[]⟩ [], none, 0, _, rfl, TyAt.leaf _ _ _ _ _ _ _ (by simp [maxLen]) (by show 0 ≤ _; omega), hkf, hpf.trans H2, ?_⟩
              rw [HVP.out, HDE.out]
              unfold OkM
              simp only
              unfold partP
              rw [hnum]
              by_cases h3 : c + 1 ≤ 300
              · rw [if_pos h3]
                refine ⟨rfl, by omega, by omega, h3, ?_⟩
                rw [Bool.false_or, decide_eq_false (by omega), show ((c + 1 : Nat) : Int) = (c : Int) + 1 by omega]
              · rw [if_neg h3]
                refine ⟨k, c + 1, by omega, by omega, ?_⟩
                rw [Bool.false_or, decide_eq_true (by omega), show ((c + 1 : Nat) : Int) = (c : Int) + 1 by omega]
            have HW := Lib.hid hWf; have HBXF := Lib.hid hbx; have HPO := Lib.hid hpost
            clear hres H2 K2 hWf hbx hpost hpf hkf
            go_wp2
            rw [← HW.out]
            obtain ⟨f0, f1, f2, f3⟩ := box4 HBXF.out
            refine bodyPost_ret (v := .agg #[.int .i64 1, .int .i64 ((t : Int) * 26 + ((x : Int) - 97)), .string ⟨#[]⟩, .slice none 0 0]) (by simp [results, Tryd.results127, go_sem, f0, f1, f2, f3]) rfl ?_
            exact HPO.out
  · have HN : Hid (varP s a c = none) := Lib.hid (by unfold varP; rw [if_neg]; rintro ⟨h, -⟩; exact hlt2 h)
    have g0 : ((a : Int) == (s.size : Int)) = true := by simp; omega
    go_enter Tryd.func127, Tryd.ntmps127
    go_upto_region 1 with fail
    rw [show w.alloc (.cells #[.int .i64 0, .int .i64 0, .string ⟨#[]⟩, .slice none 0 0] 24) = W1 from hW1.symm]
    clear hW1
    go_quiet (fail)
    have HV2 := Lib.hid (HV1.out.drewN nq)
    have HF2 := HF (W1.drewN nq) a c HV2.out.rd
    go_wp2_with fail
    refine HF2.out.mono ?_
    rintro e w2 ⟨rfl, H2, K2⟩
    have hres := (K2.block _ (lt_blk HV2.out.res) (by omega)).trans HV2.out.res
    obtain ⟨r0, r1, r2, r3⟩ := box4 hres
    obtain ⟨s0, s1, s2, s3⟩ := box4_frozen hres
    obtain ⟨Wf, hWf, hbx, hpost⟩ := hnone.out HN.out _ w2 _ HV2.out (by omega) H2 K2
    have HW := Lib.hid hWf; have HBXF := Lib.hid hbx; have HPO := Lib.hid hpost
    clear hres H2 K2 hWf hbx hpost
    unfold tyV
    go_wp2
    rw [← HW.out]
    obtain ⟨f0, f1, f2, f3⟩ := box4 HBXF.out
    refine bodyPost_ret (v := .agg #[.int .i64 0, .int .i64 0, .string ⟨#[]⟩, .slice none 0 0]) (by simp [results, Tryd.results127, go_sem, f0, f1, f2, f3]) rfl ?_
    exact HPO.out
end Go.Proofs.YtbhicpjhijondaaDoor
