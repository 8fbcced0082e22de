import Derived.Test.YtpdelgjfamelfaaV9
namespace Go.Proofs.Ytpdelgjfamelfaa
open Go.RowKit Go.Lib Go.Vfs Go.Par
set_option linter.unusedVariables false

theorem slice_to (A : Option Addr) (n c N : Nat) (w : World) (h : N ≤ c) : (Instr.slice 22 (.slice A n c) none (some (.int .i64 (N : Int))) none).run Try.prog w = .ok (.slice A N c) w := by
  have ht' : Try.prog.underlying 22 = some (.slice (Try.prog.elem 22)) := by simp [Program.elem, Try.underlying22]
  have he : Try.prog.elem 22 = 5 := by simp [Program.elem, Try.underlying22]
  rw [run_slice_h w 22 _ _ _ ht' .i64 _ (by omega) (by omega), he, Try.sizeOf5]
  simp only [Result.andThen, sliced]
  cases A <;> simp [Addr.add]
theorem ownsRow_take {w : World} {A : Option Addr} {c : Nat} {l : List UInt8} (h : w.ownsRow 0 5 1 (.slice A l.length c) l.length (byteCells l)) (n : Nat) (hn : n ≤ l.length) : w.ownsRow 0 5 1 (.slice A n c) n (byteCells (l.take n)) := by
  refine ⟨by rw [byteCells_length, List.length_take]; omega, ?_⟩
  rcases h.2 with ⟨h1, h2⟩ | ⟨g, cap, cur, h1, h2, h3, h4, h5, h6, h7⟩
  · obtain ⟨rfl, _, rfl⟩ := Value.slice.inj h1
    have : n = 0 := by omega
    subst this
    exact .inl ⟨rfl, rfl⟩
  · cases h1
    refine .inr ⟨g, c, cur, rfl, h2, h3, by omega, h5, h6, ?_⟩
    have := congrArg (List.take n) h7
    rw [List.take_take] at this
    rw [show min n (l.length * 1) = n * 1 by omega] at this
    rw [this]
    simp [byteCells, List.map_take]
theorem row_cap {w : World} {A : Option Addr} {c n : Nat} {xs : List Value} {b : Nat} (h : w.ownsRow b 5 1 (.slice A n c) n xs) : n ≤ c ∧ c ≤ 9223372036854775807 := by
  rcases h.2 with ⟨h1, h2⟩ | ⟨g, cap, cur, h1, h2, h3, h4, h5, h6, h7⟩
  · cases h1; exact ⟨by omega, by omega⟩
  · cases h1; exact ⟨h4, by simpa [maxLen] using h5⟩

/- Truncate. -/
theorem truncate1_do {w : World} {p : Nat} {pow : Int} {xs : List FileR} {mb : Nat} (h : FSAt w p pow xs mb) {x : FileR} (hx : x ∈ xs) {A : Option Addr} {c : Nat} (hv : x.v = .slice A x.f.data.length c) (n : Nat) (hn : n ≤ x.f.data.length) (w' : World)
    (hw : ∃ a b, w' = (((w.drewN a).setCell ⟨x.q, 0, none⟩ (.slice A n c)).drewN b).setCell ⟨x.q, 1, none⟩ (.int .i64 (min x.f.safe n : Nat))) :
    DoPost w p pow xs mb (withL File.name ⟨x.f.name, x.f.data.take n, min x.f.safe n⟩ (xs.map (·.f))) w' := by
  obtain ⟨a, b, rfl⟩ := hw
  have hf := h.files x hx
  have hpf := h.pf x hx
  have hown : (Value.slice A n c).ownBlock = x.v.ownBlock := by rw [hv]; cases A <;> rfl
  have hk : Kept (· ∈ blocksR x) w ((((w.drewN a).setCell ⟨x.q, 0, none⟩ (.slice A n c)).drewN b).setCell ⟨x.q, 1, none⟩ (.int .i64 (min x.f.safe n : Nat))) :=
    ((((Kept.refl _ w).drewN a).setCell (p := ⟨x.q, 0, none⟩) (.inl (by simp [blocksR])) _).drewN b).setCell (p := ⟨x.q, 1, none⟩) (.inl (by simp [blocksR])) _
  have hrow := hf.row
  rw [hv] at hrow
  have hne : (Value.slice A n c).ownBlock ≠ some x.q := by rw [hown]; exact hpf.2.2
  have hr2 : (((w.drewN a).setCell ⟨x.q, 0, none⟩ (.slice A n c)).drewN b).ownsRow 0 5 1 (.slice A n c) n (byteCells (x.f.data.take n)) :=
    ownsRow_setCell_other (w := w.drewN a) (a := ⟨x.q, 0, none⟩) (ownsRow_take hrow n hn) hne _
  have hh := hf.head
  rw [hv] at hh
  obtain ⟨h1, h2⟩ := h.repl (x' := ⟨⟨x.f.name, x.f.data.take n, min x.f.safe n⟩, x.q, .slice A n c⟩) hx rfl rfl
    (w' := (((w.drewN a).setCell ⟨x.q, 0, none⟩ (.slice A n c)).drewN b).setCell ⟨x.q, 1, none⟩ (.int .i64 (min x.f.safe n : Nat)))
    ⟨two_setCell (w := ((w.drewN a).setCell ⟨x.q, 0, none⟩ (.slice A n c)).drewN b) (two_setCell0 (w := w.drewN a) hh), by
      have := ownsRow_setCell_other (a := ⟨x.q, 1, none⟩) hr2 hne (.int .i64 (min x.f.safe n : Nat))
      simpa [Nat.min_eq_left hn] using this, by simp; omega⟩ hne hk (fun g e => .inl (by rw [← hown]; exact e))
  exact ⟨_, by rw [map_withL (key := keyR) (key' := File.name) FileR.f (fun _ => rfl)], h1, hk.mono (fun k _ hb => .inr (.inr ⟨x, hx, hb⟩)), h2⟩

set_option maxRecDepth 20000 in
set_option maxHeartbeats 1000000 in
theorem truncate1_any (w : World) (p : Nat) (pow : Int) (xs : List FileR) (mb : Nat) (h : FSAt w p pow xs mb) (x : FileR) (hx : x ∈ xs) (n : Nat) (hn : n ≤ x.f.data.length) (bx bn : Nat) (hbx : w.cell? ⟨bx, 0, none⟩ = some (.pointer (some ⟨x.q, 0, none⟩)))
    (hbn : w.cell? ⟨bn, 0, none⟩ = some (.int .i64 n)) (hnx : bx ≠ x.q) (hnn : bn ≠ x.q) :
    Calls Try.prog 69 #[.pointer (some ⟨bx, 0, none⟩), .pointer (some ⟨bn, 0, none⟩)] w fun e w' => e = .returned (.tuple #[]) ∧ DoPost w p pow xs mb (withL File.name ⟨x.f.name, x.f.data.take n, min x.f.safe n⟩ (xs.map (·.f))) w' := by
  obtain ⟨A, c, hv⟩ := (h.files x hx).form
  have hh := (h.files x hx).head
  rw [hv] at hh
  have hrow := (h.files x hx).row
  rw [hv] at hrow
  have hcap := row_cap hrow
  have c0 : w.cell? ⟨x.q, 0, none⟩ = some (.slice A x.f.data.length c) := by simp [World.cell?, hh]
  have c1 : w.cell? ⟨x.q, 1, none⟩ = some (.int .i64 x.f.safe) := by simp [World.cell?, hh]
  have f0 : w.frozen? ⟨x.q, 0, none⟩ = false := by simp [World.frozen?, hh]
  have f1 : w.frozen? ⟨x.q, 1, none⟩ = false := by simp [World.frozen?, hh]
  have hsl := fun W => slice_to A x.f.data.length c n W (by omega)
  have hmin : min (x.f.safe : Int) (n : Int) = ((min x.f.safe n : Nat) : Int) := by omega
  have HD := Lib.hid (fun W hW => truncate1_do h hx hv n hn W hW)
  have hnx' : x.q ≠ bx := fun e => hnx e.symm
  have hnn' : x.q ≠ bn := fun e => hnn e.symm
  clear hv hh h hrow
  go_enter Try.func69, Try.ntmps69
  go_wp2_with fail
  go_region
  go_wp2_with fail
  go_region
  go_end0
  refine ⟨rfl, HD.out _ ⟨1, 1, ?_⟩⟩
  have hif : (if n < x.f.safe then (n : Int) else (x.f.safe : Int)) = ((min x.f.safe n : Nat) : Int) := by split <;> omega
  rw [hif]
  rfl

theorem stTruncate_err {st : St} {s : List UInt8} {n m : Int} (h : stFind st s = .error n) : stTruncate st s m = (st, n) := by unfold stTruncate; rw [h]
theorem stTruncate_range {st : St} {s : List UInt8} {f : File} {m : Int} (h : stFind st s = .ok f) (hm : m < 0 ∨ (f.data.length : Int) < m) : stTruncate st s m = (st, 12) := by unfold stTruncate; rw [h]; simp only []; rw [if_pos hm]
theorem stTruncate_ok {st : St} {s : List UInt8} {f : File} {n : Nat} (h : stFind st s = .ok f) (hm : n ≤ f.data.length) : stTruncate st s n = doSt st (withL File.name ⟨f.name, f.data.take n, min f.safe n⟩ st.files) := by
  unfold stTruncate; rw [h]; simp only []; rw [if_neg (by omega)]; rfl

set_option maxRecDepth 20000 in
set_option maxHeartbeats 1000000 in
theorem truncate_any (w : World) (p : Nat) (st : St) (F : Nat → Prop) (h : Fsy w p st F) (s : ByteArray) (hs : s.size ≤ 9223372036854775807) (hpw : st.power ≤ 9223372036854775807) (m : Int) :
    Calls Try.prog 42 #[.pointer (some ⟨p, 0, none⟩), .string s, .int .i64 m] w (OpPost w p F (stTruncate st s.data.toList m)) := by
  have h' := h
  obtain ⟨xs, mb, hfs, hat, rfl⟩ := h
  have hp0 : p < w.heap.size := lt_of_block hat.head
  have HAT := Lib.hid hat; clear hat
  have HFS := Lib.hid hfs; clear hfs
  have HS := Lib.hid h'; clear h'
  obtain ⟨r, hr⟩ : ∃ r, r = stTruncate st s.data.toList m := ⟨_, rfl⟩
  rw [← hr]
  have HR := Lib.hid hr; clear hr
  have hb1 : Below w.heap.size w (w.alloc (.cells #[.int .i64 m] 3)) := (Below.refl _ w).alloc (Nat.le_refl _) _
  have HAT1 := Lib.hid (HAT.out.below hb1)
  go_enter Try.func42, Try.ntmps42
  go_wp2_with fail
  refine (find_any s hs _ p st.power xs mb HAT1.out).mono ?_
  intro e w1 hpost
  obtain rfl := hpost.1
  rcases find_st HFS.out s.data.toList hpost with ⟨n, he, hn0, rfl⟩ | ⟨x, he, hx, hkx, hnm, hff, rfl⟩
  · have HE := Lib.hid (HR.out.trans (stTruncate_err he))
    have hq : (n != 0) = true := by simpa using hn0
    have HB1 := Lib.hid hb1
    clear hpost he hn0 hb1
    go_wp2
    go_ret
    rw [HE.out]
    exact OpPost.same HS.out (HB1.out.alloc (by simp) _)
  · have hb : Below w.heap.size w ((w.alloc (.cells #[.int .i64 m] 3)).alloc (.cells #[.pointer (some ⟨x.q, 0, none⟩)] 87)) := hb1.alloc (by simp) _
    have HB := Lib.hid hb
    have HAT2 := Lib.hid (HAT.out.below hb)
    obtain ⟨A, c, hv⟩ := (HAT.out.files x hx).form
    have hxq : x.q < w.heap.size := lt_of_block (HAT.out.files x hx).head
    have hh := (HAT2.out.files x hx).head
    rw [hv] at hh
    have c0 : ((w.alloc (.cells #[.int .i64 m] 3)).alloc (.cells #[.pointer (some ⟨x.q, 0, none⟩)] 87)).cell? ⟨x.q, 0, none⟩ = some (.slice A x.f.data.length c) := by simp [World.cell?, hh]
    have hlen : x.f.data.length ≤ 9223372036854775807 := by
      have hrow := (HAT.out.files x hx).row
      rw [hv] at hrow
      have := row_cap hrow
      omega
    have HE := Lib.hid he
    clear hpost he hkx hnm hff hb hb1 hv hh HAT1
    by_cases hneg : m < 0
    · have HE2 := Lib.hid (HR.out.trans (stTruncate_range HE.out (.inl hneg)))
      have hd : decide (m < 0) = true := by simpa using hneg
      go_wp2_with fail
      go_quiet (fail)
      go_wp2
      go_ret
      rw [HE2.out]
      exact OpPost.same HS.out (below_drewN HB.out _)
    · have hd : decide (m < 0) = false := by simpa using hneg
      by_cases hbig : (x.f.data.length : Int) < m
      · have HE2 := Lib.hid (HR.out.trans (stTruncate_range HE.out (.inr hbig)))
        have hd2 : decide ((x.f.data.length : Int) < m) = true := by simpa using hbig
        go_wp2_with fail
        go_quiet (fail)
        go_wp2
        go_ret
        rw [HE2.out]
        exact OpPost.same HS.out (below_drewN HB.out _)
      · obtain ⟨n, rfl⟩ : ∃ n : Nat, m = n := ⟨m.toNat, by omega⟩
        have hn : n ≤ x.f.data.length := by omega
        have hd2 : decide (x.f.data.length < n) = false := by simp; omega
        have HE2 := Lib.hid (HR.out.trans (stTruncate_ok HE.out hn))
        clear hneg hbig
        go_wp2_with fail
        go_quiet (fail)
        have HAT3 := Lib.hid (HAT2.out.drewN nq)
        have HB3 := Lib.hid (below_drewN HB.out nq)
        by_cases hz : st.power = 0
        · have hdd : doSt st (withL File.name ⟨x.f.name, x.f.data.take n, min x.f.safe n⟩ st.files) = (st, 13) := by unfold doSt; rw [if_pos hz]
          rw [hz] at HAT3
          have HE3 := Lib.hid (HE2.out.trans hdd)
          clear hz hdd HE2
          go_wp2_with fail
          refine (change_down _ p xs mb HAT3.out _).mono ?_
          rintro e w1 ⟨rfl, rfl⟩
          go_wp2
          go_ret
          rw [HE3.out]
          exact OpPost.same HS.out HB3.out
        · have HZ := Lib.hid hz; clear hz
          go_wp2_with fail
          refine (changeTruncate1 _ p st.power xs mb HAT3.out HZ.out hpw _ (fun w' => OpPost w p (OwnF p mb xs) r (.returned (.int .i64 0)) w') (fun w1 h1 k1 s1 => ?_)).mono ?_
          · have e0 := box_old (ob := .cells #[.pointer (some ⟨x.q, 0, none⟩)] 87) (box_new w (.int .i64 (n : Int)) 3)
            have e1 := box_new (w.alloc (.cells #[.int .i64 (n : Int)] 3)) (.pointer (some ⟨x.q, 0, none⟩)) 87
            simp only [World.size_alloc] at e1
            refine (truncate1_any w1 p (dec st.power) xs mb h1 x hx n hn (w.heap.size + 1) w.heap.size ((k1.cell (p := ⟨_, _, _⟩) (by first | omega | (simp; done) | (simp; omega)) (by first | omega | (simp; done) | (simp; omega))).trans e1) ((k1.cell (p := ⟨_, _, _⟩) (by first | omega | (simp; done) | (simp; omega)) (by first | omega | (simp; done) | (simp; omega))).trans e0) (by omega) (by omega)).mono ?_
            rintro e w2 ⟨rfl, hd⟩
            rw [← HFS.out] at hd
            rw [HE2.out]
            exact ⟨rfl, OpPost.did HZ.out HB3.out HAT3.out k1 hd⟩
          · rintro e w1 ⟨rfl, hpost⟩
            have HPO := Lib.hid hpost; clear hpost
            go_wp2
            go_ret
            exact HPO.out
end Go.Proofs.Ytpdelgjfamelfaa
