/- The reader's named. -/
import Derived.Test.YtbhicpjhijondaaDoorT25
namespace Go.Proofs.YtbhicpjhijondaaDoor
open Go.RowKit Go.Lib Go.Vfs Go.Par Go.Typ Go.Shelf
set_option linter.unusedVariables false
set_option linter.unusedSimpArgs false

/-- first at its depth. -/
theorem first_any (p : Nat) (s : ByteArray) (d : Int) (arr : Nat → Nat → Option (Ty × Nat × Nat)) (N : Nat) (hN : 400 ≤ N) (hN2 : N ≤ 1000000) (hd0 : 0 ≤ d) (hd : d ≤ 1000) (HA : RdC 58 N p s (d + 1) arr) (hs : s.size ≤ 1000000000) : RdC 114 N p s d (firstP arr s) := fun a c w h ha hc => by
  cases h40 : preB s [40] a with
  | false => exact first_lead p s d arr N hN (by omega) a c w h ha hc h40
  | true =>
    refine first_open p s d arr N hN hN2 hd0 hd HA hs a c w h ha hc ?_ h40
    unfold preB at h40 ⊢
    cases hl : s.data.toList.drop a with
    | nil => rw [hl] at h40; simp at h40
    | cons x l =>
      rw [hl] at h40
      simp at h40
      simp [← h40, List.isPrefixOf]
/-- the names behind a type. -/
def namL (s : ByteArray) : Nat → Ty → Nat → Nat → Option (Ty × Nat × Nat)
  | 0, T, a, c => some (T, a, c)
  | f + 1, T, a, c => if a + 1 < s.size ∧ byteS s a = 32 ∧ nmN true (byteS s (a + 1)) = true then
      (match partP (.mk 2 0 (s.extract (a + 1) (nmEnd s (a + 1))) [T]) (nmEnd s (a + 1)) c with | none => none | some (T', a', c') => namL s f T' a' c')
    else some (T, a, c)
/-- a type, and the names behind it. -/
def namedP (arr : Nat → Nat → Option (Ty × Nat × Nat)) (s : ByteArray) (a c : Nat) : Option (Ty × Nat × Nat) :=
  match firstP arr s a c with
  | none => none
  | some (T, a1, c1) => namL s s.size T a1 c1
theorem namL_end {s : ByteArray} {f a c : Nat} {T : Ty} (h : ¬ (a + 1 < s.size ∧ byteS s a = 32 ∧ nmN true (byteS s (a + 1)) = true)) : namL s f T a c = some (T, a, c) := by
  cases f with
  | zero => rfl
  | succ f => rw [namL, if_neg h]
/-- how the reader stands between two names. -/
def NSt (N : Nat) (s : ByteArray) (a0 : Nat) (D : Option (Ty × Nat × Nat)) (T : Ty) (o : Obj) : Prop :=
  (∃ (a c f : Nat), o = rdr s a c false ∧ a0 ≤ a ∧ a ≤ s.size ∧ c ≤ 300 ∧ s.size - a ≤ f ∧ D = namL s f T a c) ∨ (∃ (a z : Nat), o = rdr s a z true ∧ a ≤ s.size ∧ z ≤ N ∧ D = none)
theorem NSt.weak {N : Nat} {s : ByteArray} {a0 a0' : Nat} {D : Option (Ty × Nat × Nat)} {T : Ty} {o : Obj} (h : NSt N s a0 D T o) (ha : a0' ≤ a0) : NSt N s a0' D T o := by
  rcases h with ⟨b, c, f, h1, h2, h3⟩ | h
  · exact .inl ⟨b, c, f, h1, by omega, h3⟩
  · exact .inr h
theorem NSt.next {N : Nat} (hN : 400 ≤ N) {s : ByteArray} {a c f : Nat} {D : Option (Ty × Nat × Nat)} {T : Ty} (h1 : a + 1 < s.size) (h2 : byteS s a = 32) (h3 : nmN true (byteS s (a + 1)) = true) (hc : c ≤ 300) (hf : s.size - a ≤ f) (hne : nmEnd s (a + 1) ≤ s.size) (hD : D = namL s f T a c) :
    NSt N s (a + 1) D (.mk 2 0 (s.extract (a + 1) (nmEnd s (a + 1))) [T]) (rdr s (nmEnd s (a + 1)) ((c : Int) + 1) (false || decide (300 < (c : Int) + 1))) := by
  have hna := nmEnd_le s (a + 1)
  cases f with
  | zero => omega
  | succ f =>
    rw [namL, if_pos ⟨h1, h2, h3⟩] at hD
    unfold partP at hD
    by_cases h : c + 1 ≤ 300
    · rw [if_pos h] at hD
      refine .inl ⟨nmEnd s (a + 1), c + 1, f, ?_, hna, hne, h, by omega, hD⟩
      rw [Bool.false_or, decide_eq_false (by omega), show ((c + 1 : Nat) : Int) = (c : Int) + 1 by omega]
    · rw [if_neg h] at hD
      refine .inr ⟨nmEnd s (a + 1), c + 1, ?_, hne, by omega, hD⟩
      rw [Bool.false_or, decide_eq_true (by omega), show ((c + 1 : Nat) : Int) = (c : Int) + 1 by omega]
/-- the type read so far lies in the box b5. -/
structure NI (w : World) (p b5 : Nat) (T : Ty) (A : Option Addr) (cc : Nat) (o : Obj) (W : World) : Prop where
  i : RdI w p o W
  box : W.heap[b5]? = some (.cells #[.int .i64 T.kind, .int .i64 T.num, .string T.name, .slice A T.args.length cc] 24 (0, 0))
  gt : w.heap.size < b5
  ty : TyAt (fun g => w.heap.size < g ∧ g < W.heap.size ∧ g ≠ b5) W (tyV T.kind T.num T.name A T.args.length cc) T
theorem NI.t {w : World} {p b5 : Nat} {T : Ty} {A : Option Addr} {cc : Nat} {o o' : Obj} {W W' : World} (h : NI w p b5 T A cc o W) (hp : p < w.heap.size) (hk : Kept (fun x => x = p) W W') (ho : W'.heap[p]? = some o') : NI w p b5 T A cc o' W' := by
  have hg := h.gt
  have hz := hk.size
  exact ⟨h.i.t hp hk ho, (hk.block _ (lt_blk h.box) (by omega)).trans h.box, hg, h.ty.keep fun g hg2 => ⟨⟨hg2.1, by omega, hg2.2.2⟩, hk.block g hg2.2.1 (by omega)⟩⟩
theorem NI.drewN {w : World} {p b5 : Nat} {T : Ty} {A : Option Addr} {cc : Nat} {o : Obj} {W : World} (h : NI w p b5 T A cc o W) (n : Nat) : NI w p b5 T A cc o (W.drewN n) := ⟨⟨h.i.rd, h.i.res, h.i.kept.drewN n⟩, h.box, h.gt, h.ty.keep fun g hg => ⟨hg, rfl⟩⟩
theorem NI.new {w : World} {p b5 : Nat} {T : Ty} {A : Option Addr} {cc : Nat} {o : Obj} {W W' : World} (h : NI w p b5 T A cc o W) (hb : Below W.heap.size W W') : NI w p b5 T A cc o W' := by
  have hz := hb.size
  exact ⟨h.i.new hb, (hb.block _ (lt_blk h.box)).trans h.box, h.gt, h.ty.keep fun g hg => ⟨⟨hg.1, by omega, hg.2.2⟩, hb.block g hg.2.1⟩⟩
/-- a name more: the type's value lies as the one argument in a new block. -/
theorem NI.wrap {w : World} {p b5 : Nat} {T : Ty} {A : Option Addr} {cc : Nat} {o : Obj} {W : World} (h : NI w p b5 T A cc o W) {bn : Nat} (hn : W.heap[bn]? = some (.cells #[.int .i64 T.kind, .int .i64 T.num, .string T.name, .slice A T.args.length cc] 24 (0, 0))) (hg : w.heap.size < bn) (hb : bn ≠ b5) (nm : ByteArray) (hnm : nm.size ≤ 9223372036854775807) :
    ∃ Wf, Wf = ((((W.setCell ⟨b5, 0, none⟩ (.int .i64 2)).setCell ⟨b5, 1, none⟩ (.int .i64 0)).setCell ⟨b5, 2, none⟩ (.string nm)).setCell ⟨b5, 3, none⟩ (.slice (some ⟨bn, 0, none⟩) 1 1)) ∧ (p < w.heap.size → NI w p b5 (.mk 2 0 nm [T]) (some ⟨bn, 0, none⟩) 1 o Wf) := by
  obtain ⟨Wf, hWf, hbx, hkf⟩ := end4 (.int .i64 2) (.int .i64 0) (.string nm) (.slice (some ⟨bn, 0, none⟩) 1 1) h.box
  have hzf := hkf.size
  have hg5 := h.gt
  have hsz := h.i.size
  refine ⟨Wf, hWf, fun hp => ⟨⟨(hkf.block p (lt_blk h.i.rd) (by omega)).trans h.i.rd, (hkf.block _ hsz (by omega)).trans h.i.res, hkf.os.trans h.i.kept.os, hkf.tape.trans h.i.kept.tape, hkf.output.trans h.i.kept.output, Nat.le_trans h.i.kept.size hzf, fun g hg2 hp2 => ?_⟩, hbx, hg5, ?_⟩⟩
  · exact (hkf.block g (by omega) (by omega)).trans (h.i.kept.block g hg2 hp2)
  · refine .mk 2 0 nm [T] _ 1 (fun _ => tyV T.kind T.num T.name A T.args.length cc) (by simp) (by simp [maxLen]) hnm (fun _ => ⟨bn, 0, rfl, ⟨hg, by have := lt_blk hn; omega, hb⟩, fun i hi j hj => ?_⟩) (fun i hi => ?_)
    · have hi0 : i = 0 := by simpa using hi
      subst hi0
      have hbn2 : Wf.heap[bn]? = some (.cells #[.int .i64 T.kind, .int .i64 T.num, .string T.name, .slice A T.args.length cc] 24 (0, 0)) := (hkf.block bn (lt_blk hn) hb).trans hn
      obtain ⟨f0, f1, f2, f3⟩ := box4 hbn2
      have : j = 0 ∨ j = 1 ∨ j = 2 ∨ j = 3 := by omega
      rcases this with rfl | rfl | rfl | rfl
      · exact f0
      · exact f1
      · exact f2
      · exact f3
    · have hi0 : i = 0 := by simpa using hi
      subst hi0
      exact h.ty.keep fun g hg2 => ⟨⟨hg2.1, by omega, hg2.2.2⟩, hkf.block g hg2.2.1 hg2.2.2⟩

set_option maxRecDepth 20000 in
set_option maxHeartbeats 2000000 in
theorem named_any (p : Nat) (s : ByteArray) (d : Int) (arr : Nat → Nat → Option (Ty × Nat × Nat)) (N : Nat) (hN : 400 ≤ N) (HFC : RdC 114 N p s d (firstP arr s)) (hs : s.size ≤ 1000000000) : RdC 100 N p s d (namedP arr s) := by
  intro a c w h ha hc
  have hlt := lt_blk h
  obtain ⟨W1, hW1⟩ : ∃ W1, W1 = w.alloc zero4 := ⟨_, rfl⟩
  have hi1 := RdI.start h
  rw [← hW1] at hi1
  have HI1 := Lib.hid hi1
  have HC1 := Lib.hid (HFC a c W1 hi1.rd ha hc)
  obtain ⟨D, hD⟩ : ∃ D, D = namedP arr s a c := ⟨_, rfl⟩
  rw [← hD]
  have HD := Lib.hid hD
  clear h hi1 HFC hD
  go_enter Tryd.func100, Tryd.ntmps100
  go_wp2_with fail
  rw [show w.alloc (.cells #[.int .i64 0, .int .i64 0, .string ⟨#[]⟩, .slice none 0 0] 24) = W1 from hW1.symm]
  clear hW1
  refine HC1.out.mono ?_
  rintro e w2 ⟨T0, A0, cc0, o0, rfl, hT0, hk2, ho2, hm2⟩
  have hi2 := HI1.out.t hlt hk2 ho2
  have hz1 := HI1.out.size
  have hz2 := hk2.size
  obtain ⟨W3, hW3⟩ : ∃ W3, W3 = w2.alloc (.cells #[.int .i64 T0.kind, .int .i64 T0.num, .string T0.name, .slice A0 T0.args.length cc0] 24) := ⟨_, rfl⟩
  have hb3 : Below w2.heap.size w2 W3 := by rw [hW3]; exact (Below.refl _ _).alloc (Nat.le_refl _) _
  have hbx3 : W3.heap[w2.heap.size]? = some (.cells #[.int .i64 T0.kind, .int .i64 T0.num, .string T0.name, .slice A0 T0.args.length cc0] 24 (0, 0)) := by rw [hW3]; exact heap_alloc_new _ _
  have hn3 : NI w p w2.heap.size T0 A0 cc0 o0 W3 := ⟨hi2.new hb3, hbx3, by omega, hT0.keep fun g hg => ⟨⟨by omega, by have := hb3.size; omega, by omega⟩, hb3.block g hg.2⟩⟩
  have hst3 : NSt N s a D T0 o0 := by
    rw [HD.out]
    unfold namedP
    unfold OkM at hm2
    cases hf : firstP arr s a c with
    | none => rw [hf] at hm2; obtain ⟨b, z, h1, h2, h3⟩ := hm2; exact .inr ⟨b, z, h3, h1, h2, rfl⟩
    | some x => obtain ⟨T', b, c'⟩ := x; rw [hf] at hm2; obtain ⟨rfl, h2, h3, h4, h5⟩ := hm2; exact .inl ⟨b, c', s.size, h5, h2, h3, h4, by omega, rfl⟩
  have HN3 := Lib.hid hn3; have HST3 := Lib.hid hst3
  clear hi2 hz1 hz2 hb3 hbx3 hn3 hst3 hT0 hk2 ho2 hm2
  unfold tyV
  go_wp2
  rw [← hW3]
  clear hW3
  go_loopw [9] (fun _ wr => ∃ (T : Ty) (A : Option Addr) (cc : Nat) (o : Obj), Hid (NI w p w2.heap.size T A cc o wr) ∧ Hid (NSt N s a D T o)) (fun _ wr => leftOf wr p s.size)
  case atStart => exact ⟨_, _, _, _, HN3, HST3⟩
  case round =>
    obtain ⟨T, A, cc, o, HN, HL⟩ := hrel
    clear HN3 HST3 HC1 HI1
    rcases HL.out with ⟨a', c', f, rfl, ha0, has, hc', hf, hD⟩ | ⟨a', z, rfl, has, hz, hD⟩
    · obtain ⟨y0, y1, y2, y3⟩ := rdr_cells HN.out.i.rd
      obtain ⟨q0, q1, q2, q3⟩ := rdr_frozen HN.out.i.rd
      have HDD := Lib.hid hD
      have HM := Lib.hid (leftOf_ok (n := s.size) HN.out.i.rd)
      clear hD
      obtain ⟨b', hb'⟩ : ∃ b', b' = a' + 1 := ⟨_, rfl⟩
      have gw : IntKind.wrap .i64 ((a' : Int) + 1) = (b' : Int) := by rw [wrap_small _ (by omega) (by omega), hb']; omega
      have HB' := Lib.hid hb'
      by_cases h1 : b' < s.size
      · have hlt0 : a' < s.size := by omega
        have g1 : (b' : Int) < (s.size : Int) := by omega
        obtain ⟨x, hx⟩ : ∃ x, s[a'].toNat = x := ⟨_, rfl⟩
        have HX : Hid (byteS s a' = x) := Lib.hid (by rw [← hx]; exact (byteS_get s a' hlt0).symm)
        obtain ⟨y, hy⟩ : ∃ y, s[b'].toNat = y := ⟨_, rfl⟩
        have HY : Hid (byteS s (a' + 1) = y) := Lib.hid (by rw [← hy, ← hb']; exact (byteS_get s b' h1).symm)
        clear hb'
        by_cases h2 : x = 32
        · have g2 : ((x : Int) == 32) = true := by rw [h2]; rfl
          have HB := fun W => Lib.hid (nameByte_any y W)
          obtain ⟨q, hq⟩ : ∃ q, q = nmN true y := ⟨_, rfl⟩
          rw [← hq] at HB
          have HQ := Lib.hid hq; have H2' := Lib.hid h2
          clear hq h2
          cases q
          · have HOK : Hid (OkM N s a D T (rdr s a' c' false)) := Lib.hid (by rw [HDD.out, namL_end (by rintro ⟨-, -, h⟩; rw [HY.out, ← HQ.out] at h; cases h)]; exact ⟨rfl, ha0, has, hc', rfl⟩)
            go_wp2
            go_quiet ((go_at_call 115; exact Calls.quiet_of ((HB _).out.mono (fun e w' h => ⟨h.1, 0, h.2⟩))))
            have HNE := Lib.hid (HN.out.drewN nq)
            clear y0 y1 y2 y3 q0 q1 q2 q3
            obtain ⟨r0, r1, r2, r3⟩ := box4 HNE.out.i.res
            obtain ⟨s0, s1, s2, s3⟩ := box4_frozen HNE.out.i.res
            obtain ⟨x0, x1, x2, x3⟩ := box4 HNE.out.box
            obtain ⟨Wf, hWf, hbx, hpost⟩ := HNE.out.i.fin hlt N s a T A cc (HNE.out.ty.sub fun g hg => ⟨hg.1, hg.2.1⟩)
            have HW := Lib.hid hWf; have HBXF := Lib.hid hbx; have HPO := Lib.hid (hpost D HOK.out)
            clear hWf hbx hpost
            go_wp2
            rw [← HW.out]
            obtain ⟨f0, f1, f2, f3⟩ := box4 HBXF.out
            refine bodyPost_ret (v := .agg #[.int .i64 T.kind, .int .i64 T.num, .string T.name, .slice A T.args.length cc]) (by simp [results, Tryd.results100, go_sem, f0, f1, f2, f3]) rfl ?_
            exact HPO.out
          · go_wp2
            go_quiet ((go_at_call 115; exact Calls.quiet_of ((HB _).out.mono (fun e w' h => ⟨h.1, 0, h.2⟩))))
            have HV := Lib.hid (HN.out.drewN nq)
            have h3 : nmN true (byteS s (a' + 1)) = true := by rw [HY.out]; exact HQ.out.symm
            have h2' : byteS s a' = 32 := by rw [HX.out]; exact H2'.out
            have hb1 := HB'.out
            have hput := (rdr_put HV.out.i.rd).1 (a' + 1)
            have hbb : ((a' + 1 : Nat) : Int) = (b' : Int) := by omega
            rw [hbb] at hput
            obtain ⟨W5, hW5⟩ : ∃ W5, W5 = (wr.drewN nq).setCell ⟨p, 1, none⟩ (.int .i64 (b' : Int)) := ⟨_, rfl⟩
            rw [← hW5] at hput
            have hk5 : Kept (fun x => x = p) (wr.drewN nq) W5 := by rw [hW5]; exact Kept.setCell (F := fun x => x = p) (p := ⟨p, 1, none⟩) (Kept.refl _ _) (.inl rfl) _
            have hn5 := HV.out.t hlt hk5 hput
            obtain ⟨E, hE⟩ : ∃ E, E = nmEnd s (a' + 1) := ⟨_, rfl⟩
            obtain ⟨nm, hnm⟩ : ∃ nm, nm = s.extract (a' + 1) (nmEnd s (a' + 1)) := ⟨_, rfl⟩
            have hnms : nm.size ≤ 9223372036854775807 := by have := extract_le s (a' + 1) (nmEnd s (a' + 1)); rw [hnm]; omega
            have hz5 := hn5.gt
            have hzz := hn5.i.size
            have hbx5 := lt_blk hn5.box
            have HNM1 : Hid (Calls Tryd.prog 116 #[.pointer (some ⟨p, 0, none⟩)] W5.drew fun e w' => e = .returned (.string nm) ∧ Hid (E ≤ s.size ∧ NI w p w2.heap.size T A cc (rdr s E c' false) w' ∧ w'.heap.size = W5.heap.size) ∧
                (w'.cell? ⟨w2.heap.size, 0, none⟩ = some (.int .i64 T.kind) ∧ w'.cell? ⟨w2.heap.size, 1, none⟩ = some (.int .i64 T.num) ∧ w'.cell? ⟨w2.heap.size, 2, none⟩ = some (.string T.name) ∧ w'.cell? ⟨w2.heap.size, 3, none⟩ = some (.slice A T.args.length cc))) := Lib.hid (by
              refine (name_any p s (a' + 1) c' false W5.drew hput (by omega) (by omega)).mono ?_
              rintro e w' ⟨rfl, hne, hr, hk, hsz⟩
              have hn := (hn5.drewN 1).t hlt hk hr
              rw [hnm, hE]
              exact ⟨rfl, Lib.hid ⟨hne, hn, hsz⟩, box4 hn.box⟩)
            obtain ⟨o5, ho5⟩ : ∃ o5, o5 = Obj.cells #[.int .i64 T.kind, .int .i64 T.num, .string T.name, .slice A T.args.length cc] 24 (0, 0) := ⟨_, rfl⟩
            have hba : ∀ W : World, Below W.heap.size W (W.alloc o5) := fun W => (Below.refl _ _).alloc (Nat.le_refl _) _
            have HNM2 : Hid (Calls Tryd.prog 116 #[.pointer (some ⟨p, 0, none⟩)] ((W5.alloc o5).drew) fun e w' => e = .returned (.string nm) ∧ Hid (E ≤ s.size ∧ NI w p w2.heap.size T A cc (rdr s E c' false) w' ∧ w'.heap[W5.heap.size]? = some o5)) := Lib.hid (by
              have hn6 := (hn5.new (hba _)).drewN 1
              refine (name_any p s (a' + 1) c' false ((W5.alloc o5).drew) hn6.i.rd (by omega) (by omega)).mono ?_
              rintro e w' ⟨rfl, hne, hr, hk, hsz⟩
              rw [hnm, hE]
              refine ⟨rfl, Lib.hid ⟨hne, hn6.t hlt hk hr, ?_⟩⟩
              have h0 : ((W5.alloc o5).drew).heap[W5.heap.size]? = some o5 := heap_alloc_new W5 o5
              exact (hk.block _ (lt_blk h0) (by have := lt_blk hn5.i.rd; omega)).trans h0)
            have HPT : Hid (∀ (W : World) (bn : Nat), E ≤ s.size → NI w p w2.heap.size T A cc (rdr s E c' false) W → W.heap[bn]? = some o5 → w.heap.size < bn → bn ≠ w2.heap.size → Calls Tryd.prog 90 #[.pointer (some ⟨p, 0, none⟩), .agg #[.int .i64 2, .int .i64 0, .string nm, .slice (some ⟨bn, 0, none⟩) 1 1]] W fun e w' => e = .returned (.agg #[.int .i64 2, .int .i64 0, .string nm, .slice (some ⟨bn, 0, none⟩) 1 1]) ∧
                Hid (E ≤ s.size ∧ NI w p w2.heap.size T A cc (rdr s E ((c' : Int) + 1) (false || decide (300 < (c' : Int) + 1))) w' ∧ w'.heap[bn]? = some o5 ∧ w.heap.size < bn ∧ bn ≠ w2.heap.size) ∧
                (w'.cell? ⟨w2.heap.size, 0, none⟩ = some (.int .i64 T.kind) ∧ w'.cell? ⟨w2.heap.size, 1, none⟩ = some (.int .i64 T.num) ∧ w'.cell? ⟨w2.heap.size, 2, none⟩ = some (.string T.name) ∧ w'.cell? ⟨w2.heap.size, 3, none⟩ = some (.slice A T.args.length cc)) ∧
                (w'.frozen? ⟨w2.heap.size, 0, none⟩ = false ∧ w'.frozen? ⟨w2.heap.size, 1, none⟩ = false ∧ w'.frozen? ⟨w2.heap.size, 2, none⟩ = false ∧ w'.frozen? ⟨w2.heap.size, 3, none⟩ = false)) := Lib.hid fun W bn hne hn hbn hg hb => by
              refine (part_any p s E c' false 2 0 nm (some ⟨bn, 0, none⟩) 1 1 W hn.i.rd (by omega) (by omega)).mono ?_
              rintro e w' ⟨rfl, hr, hk⟩
              have hn' := hn.t hlt hk hr
              exact ⟨rfl, Lib.hid ⟨hne, hn', (hk.block _ (lt_blk hbn) (by omega)).trans hbn, hg, hb⟩, box4 hn'.box, box4_frozen hn'.box⟩
            have HFIN : Hid (∀ (W : World) (bn : Nat), (E ≤ s.size ∧ NI w p w2.heap.size T A cc (rdr s E ((c' : Int) + 1) (false || decide (300 < (c' : Int) + 1))) W ∧ W.heap[bn]? = some o5 ∧ w.heap.size < bn ∧ bn ≠ w2.heap.size) →
                (∃ (T' : Ty) (A' : Option Addr) (cc' : Nat) (o' : Obj), Hid (NI w p w2.heap.size T' A' cc' o' ((((W.setCell ⟨w2.heap.size, 0, none⟩ (.int .i64 2)).setCell ⟨w2.heap.size, 1, none⟩ (.int .i64 0)).setCell ⟨w2.heap.size, 2, none⟩ (.string nm)).setCell ⟨w2.heap.size, 3, none⟩ (.slice (some ⟨bn, 0, none⟩) 1 1))) ∧ Hid (NSt N s a D T' o')) ∧
                leftOf ((((W.setCell ⟨w2.heap.size, 0, none⟩ (.int .i64 2)).setCell ⟨w2.heap.size, 1, none⟩ (.int .i64 0)).setCell ⟨w2.heap.size, 2, none⟩ (.string nm)).setCell ⟨w2.heap.size, 3, none⟩ (.slice (some ⟨bn, 0, none⟩) 1 1)) p s.size < leftOf wr p s.size) := Lib.hid fun W bn ⟨hne, hn, hbn, hg, hb⟩ => by
              rw [ho5] at hbn
              obtain ⟨Wf, hWf, hni⟩ := hn.wrap hbn hg hb nm hnms
              rw [← hWf]
              have hni' := hni hlt
              have hst : NSt N s (a' + 1) D (.mk 2 0 nm [T]) (rdr s E ((c' : Int) + 1) (false || decide (300 < (c' : Int) + 1))) := by
                rw [hnm, hE]; exact NSt.next hN (by omega) h2' h3 hc' hf (by rw [← hE]; exact hne) HDD.out
              refine ⟨⟨_, _, _, _, Lib.hid hni', Lib.hid (hst.weak (by omega))⟩, ?_⟩
              rw [HM.out]
              cases hbd : (false || decide (300 < (c' : Int) + 1)) with
              | false =>
                have hr := hni'.i.rd
                rw [hbd] at hr
                have := nmEnd_le s (a' + 1)
                rw [leftOf_ok hr]; omega
              | true =>
                have hr := hni'.i.rd
                rw [hbd] at hr
                rw [leftOf_bad hr]; omega
            obtain ⟨x0, x1, x2, x3⟩ := box4 hn5.box
            have HN5 := Lib.hid hn5; have HZ5 : Hid (w.heap.size < W5.heap.size ∧ w2.heap.size < W5.heap.size) := Lib.hid ⟨hzz, hbx5⟩
            have HO5 := Lib.hid ho5; have HBA := Lib.hid hba
            clear hput hk5 hn5 hnms hE hnm h3 h2' hb1 hbb y0 y1 y2 y3
            obtain ⟨y0, y1, y2, y3⟩ := rdr_cells HV.out.i.rd
            go_wp2
            rw [← hW5]
            clear hW5 y0 y1 y2 y3 q0 q1 q2 q3
            have HPT1 : Hid (∀ W' : World, Hid (E ≤ s.size ∧ NI w p w2.heap.size T A cc (rdr s E c' false) W' ∧ W'.heap.size = W5.heap.size) → Calls Tryd.prog 90 #[.pointer (some ⟨p, 0, none⟩), .agg #[.int .i64 2, .int .i64 0, .string nm, .slice (some ⟨W'.heap.size, 0, none⟩) 1 1]] (W'.alloc (Obj.cells #[.int .i64 T.kind, .int .i64 T.num, .string T.name, .slice A T.args.length cc] 24 (0, 0))) fun e w' => ∃ bn, bn = W'.heap.size ∧ e = .returned (.agg #[.int .i64 2, .int .i64 0, .string nm, .slice (some ⟨bn, 0, none⟩) 1 1]) ∧
                Hid (E ≤ s.size ∧ NI w p w2.heap.size T A cc (rdr s E ((c' : Int) + 1) (false || decide (300 < (c' : Int) + 1))) w' ∧ w'.heap[bn]? = some o5 ∧ w.heap.size < bn ∧ bn ≠ w2.heap.size) ∧
                (w'.cell? ⟨w2.heap.size, 0, none⟩ = some (.int .i64 T.kind) ∧ w'.cell? ⟨w2.heap.size, 1, none⟩ = some (.int .i64 T.num) ∧ w'.cell? ⟨w2.heap.size, 2, none⟩ = some (.string T.name) ∧ w'.cell? ⟨w2.heap.size, 3, none⟩ = some (.slice A T.args.length cc)) ∧
                (w'.frozen? ⟨w2.heap.size, 0, none⟩ = false ∧ w'.frozen? ⟨w2.heap.size, 1, none⟩ = false ∧ w'.frozen? ⟨w2.heap.size, 2, none⟩ = false ∧ w'.frozen? ⟨w2.heap.size, 3, none⟩ = false)) := Lib.hid fun W' hw => by
              have hz := HZ5.out
              have hsz := hw.out.2.2
              rw [← HO5.out]
              refine (HPT.out (W'.alloc o5) W'.heap.size hw.out.1 (hw.out.2.1.new (HBA.out _)) (heap_alloc_new _ _) (by omega) (by omega)).mono ?_
              rintro e w' h
              exact ⟨_, rfl, h⟩
            have HPT2 : Hid (∀ W' : World, Hid (E ≤ s.size ∧ NI w p w2.heap.size T A cc (rdr s E c' false) W' ∧ W'.heap[W5.heap.size]? = some o5) → Calls Tryd.prog 90 #[.pointer (some ⟨p, 0, none⟩), .agg #[.int .i64 2, .int .i64 0, .string nm, .slice (some ⟨W5.heap.size, 0, none⟩) 1 1]] W' fun e w' => ∃ bn, bn = W5.heap.size ∧ e = .returned (.agg #[.int .i64 2, .int .i64 0, .string nm, .slice (some ⟨bn, 0, none⟩) 1 1]) ∧
                Hid (E ≤ s.size ∧ NI w p w2.heap.size T A cc (rdr s E ((c' : Int) + 1) (false || decide (300 < (c' : Int) + 1))) w' ∧ w'.heap[bn]? = some o5 ∧ w.heap.size < bn ∧ bn ≠ w2.heap.size) ∧
                (w'.cell? ⟨w2.heap.size, 0, none⟩ = some (.int .i64 T.kind) ∧ w'.cell? ⟨w2.heap.size, 1, none⟩ = some (.int .i64 T.num) ∧ w'.cell? ⟨w2.heap.size, 2, none⟩ = some (.string T.name) ∧ w'.cell? ⟨w2.heap.size, 3, none⟩ = some (.slice A T.args.length cc)) ∧
                (w'.frozen? ⟨w2.heap.size, 0, none⟩ = false ∧ w'.frozen? ⟨w2.heap.size, 1, none⟩ = false ∧ w'.frozen? ⟨w2.heap.size, 2, none⟩ = false ∧ w'.frozen? ⟨w2.heap.size, 3, none⟩ = false)) := Lib.hid fun W' hw => by
              have hz := HZ5.out
              refine (HPT.out W' W5.heap.size hw.out.1 hw.out.2.1 hw.out.2.2 (by omega) (by omega)).mono ?_
              rintro e w' h
              exact ⟨_, rfl, h⟩
            rw [HO5.out] at HNM2 HPT1 HPT2 HFIN
            go_region_with (first
              | (go_at_call 116; (with_reducible refine HNM1.out.mono ?_); rintro e w6 ⟨rfl, H6, v0, v1, v2, v3⟩)
              | (go_at_call 116; (with_reducible refine HNM2.out.mono ?_); rintro e w6 ⟨rfl, H6⟩)
              | (go_at_call 90; (with_reducible refine (HPT1.out _ H6).mono ?_); rintro e w7 ⟨bn, hbn, rfl, H7, ⟨k0, k1, k2, k3⟩, ⟨l0, l1, l2, l3⟩⟩; have HBN := Lib.hid hbn; clear hbn)
              | (go_at_call 90; (with_reducible refine (HPT2.out _ H6).mono ?_); rintro e w7 ⟨bn, hbn, rfl, H7, ⟨k0, k1, k2, k3⟩, ⟨l0, l1, l2, l3⟩⟩; have HBN := Lib.hid hbn; clear hbn))
            all_goals (
              go_wp2
              exact HFIN.out _ _ H7.out)
        · have g2 : ((x : Int) == 32) = false := by simp; omega
          have H2' := Lib.hid h2
          clear h2
          have HOK : Hid (OkM N s a D T (rdr s a' c' false)) := Lib.hid (by rw [HDD.out, namL_end (by rintro ⟨-, h, -⟩; rw [HX.out] at h; exact H2'.out h)]; exact ⟨rfl, ha0, has, hc', rfl⟩)
          go_wp2
          go_quiet (fail)
          have HNE := Lib.hid (HN.out.drewN nq)
          clear y0 y1 y2 y3 q0 q1 q2 q3
          obtain ⟨r0, r1, r2, r3⟩ := box4 HNE.out.i.res
          obtain ⟨s0, s1, s2, s3⟩ := box4_frozen HNE.out.i.res
          obtain ⟨x0, x1, x2, x3⟩ := box4 HNE.out.box
          obtain ⟨Wf, hWf, hbx, hpost⟩ := HNE.out.i.fin hlt N s a T A cc (HNE.out.ty.sub fun g hg => ⟨hg.1, hg.2.1⟩)
          have HW := Lib.hid hWf; have HBXF := Lib.hid hbx; have HPO := Lib.hid (hpost D HOK.out)
          clear hWf hbx hpost
          go_wp2
          rw [← HW.out]
          obtain ⟨f0, f1, f2, f3⟩ := box4 HBXF.out
          refine bodyPost_ret (v := .agg #[.int .i64 T.kind, .int .i64 T.num, .string T.name, .slice A T.args.length cc]) (by simp [results, Tryd.results100, go_sem, f0, f1, f2, f3]) rfl ?_
          exact HPO.out
      · have g1 : ¬ (b' : Int) < (s.size : Int) := by omega
        clear hb'
        have HOK : Hid (OkM N s a D T (rdr s a' c' false)) := Lib.hid (by rw [HDD.out, namL_end (by rintro ⟨h, -⟩; have := HB'.out; omega)]; exact ⟨rfl, ha0, has, hc', rfl⟩)
        go_wp2
        go_quiet (fail)
        have HNE := Lib.hid (HN.out.drewN nq)
        clear y0 y1 y2 y3 q0 q1 q2 q3
        obtain ⟨r0, r1, r2, r3⟩ := box4 HNE.out.i.res
        obtain ⟨s0, s1, s2, s3⟩ := box4_frozen HNE.out.i.res
        obtain ⟨x0, x1, x2, x3⟩ := box4 HNE.out.box
        obtain ⟨Wf, hWf, hbx, hpost⟩ := HNE.out.i.fin hlt N s a T A cc (HNE.out.ty.sub fun g hg => ⟨hg.1, hg.2.1⟩)
        have HW := Lib.hid hWf; have HBXF := Lib.hid hbx; have HPO := Lib.hid (hpost D HOK.out)
        clear hWf hbx hpost
        go_wp2
        rw [← HW.out]
        obtain ⟨f0, f1, f2, f3⟩ := box4 HBXF.out
        refine bodyPost_ret (v := .agg #[.int .i64 T.kind, .int .i64 T.num, .string T.name, .slice A T.args.length cc]) (by simp [results, Tryd.results100, go_sem, f0, f1, f2, f3]) rfl ?_
        exact HPO.out
    · obtain ⟨y0, y1, y2, y3⟩ := rdr_cells HN.out.i.rd
      have HOK : Hid (OkM N s a D T (rdr s a' z true)) := Lib.hid (by rw [hD]; exact ⟨a', z, has, hz, rfl⟩)
      clear hD
      go_wp2
      go_quiet (fail)
      have HNE := Lib.hid (HN.out.drewN nq)
      clear y0 y1 y2 y3
      obtain ⟨r0, r1, r2, r3⟩ := box4 HNE.out.i.res
      obtain ⟨s0, s1, s2, s3⟩ := box4_frozen HNE.out.i.res
      obtain ⟨x0, x1, x2, x3⟩ := box4 HNE.out.box
      obtain ⟨Wf, hWf, hbx, hpost⟩ := HNE.out.i.fin hlt N s a T A cc (HNE.out.ty.sub fun g hg => ⟨hg.1, hg.2.1⟩)
      have HW := Lib.hid hWf; have HBXF := Lib.hid hbx; have HPO := Lib.hid (hpost D HOK.out)
      clear hWf hbx hpost
      go_wp2
      rw [← HW.out]
      obtain ⟨f0, f1, f2, f3⟩ := box4 HBXF.out
      refine bodyPost_ret (v := .agg #[.int .i64 T.kind, .int .i64 T.num, .string T.name, .slice A T.args.length cc]) (by simp [results, Tryd.results100, go_sem, f0, f1, f2, f3]) rfl ?_
      exact HPO.out
end Go.Proofs.YtbhicpjhijondaaDoor
