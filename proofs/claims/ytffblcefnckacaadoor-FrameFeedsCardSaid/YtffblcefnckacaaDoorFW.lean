/- Feed. -/
import Derived.Test.YtffblcefnckacaaDoorFV
namespace Go.Proofs.YtffblcefnckacaaDoor
open Go.RowKit Go.Lib Go.Vfs Go.Par Go.Frm Go.Shelf
set_option linter.unusedVariables false
set_option linter.unusedSimpArgs false

def FeedPost (w : World) (p : Nat) (d : Dc) (hv : Value) (b : List UInt8) (e : Ending) (w' : World) : Prop :=
  ∃ rv us hv' hh' bb', e = .returned (.tuple #[rv, .int .i64 (feed d b).2.e]) ∧ DV w' p (feed d b).2 hv' hh' bb' ∧ RX w.heap.size w' (feed d b).1 rv us ∧ Kept (FD p hv) w w' ∧ Grows w (FD p hv) (FD p hv') ∧ ∀ g, InX rv us g → ¬ FD p hv' g

set_option maxRecDepth 20000 in
set_option maxHeartbeats 1000000 in
theorem feed_dead (p : Nat) (d : Dc) (hv : Value) (hh bb : Nat) (w : World) (v : Value) (b : List UInt8) (h : DV w p d hv hh bb) (hd : d.e ≠ 0) :
    Calls Tryd.prog 17 #[.pointer (some ⟨p, 0, none⟩), v] w (FeedPost w p d hv b) := by
  obtain ⟨⟨c0, c1, c2, c3⟩, f0, f1, f2, f3⟩ := h.dec.cells
  have hf : feed d b = ([], d) := by unfold feed; rw [if_neg hd]
  have g0 : (d.e != 0) = true := by simpa using hd
  have H := Lib.hid h; have HF := Lib.hid hf
  clear h hf hd
  go_enter Tryd.func17, Tryd.ntmps17
  go_wp2
  go_quiet (fail)
  go_wp2
  go_ret2
  refine ⟨.slice none 0 0, [], hv, hh, bb, ?_, ?_, ?_, Kept.drewN' _ _, fun k hk => .inl hk, ?_⟩
  · rw [HF.out]; rfl
  · rw [HF.out]; exact H.out.keep fun k _ => rfl
  · rw [HF.out]; exact RX.nil _ _
  · rintro g (e | ⟨i, hi, -⟩)
    · cases e
    · simp at hi

/-- the loop of Feed: k bytes are told. -/
structure FL (W : World) (p : Nat) (v3 : Value) (M : List UInt8) (k : Nat) (ls : List (List UInt8)) (us : List Value) (bv : Value) (hh bb : Nat) (wr : World) : Prop where
  dec : Dec wr p v3 hh bb 0
  known : Known (M.drop k) hh bb
  hk : k ≤ M.length
  kept : Kept (· = p) W wr
  rx : RX W.heap.size wr ls bv us
  cnt : ls.length ≤ k
  run : run M = (ls ++ (Frm.run (M.drop k)).1, (Frm.run (M.drop k)).2)
  keptk : k = 0 → ls = []
theorem feed_fin {w W wr w' : World} {p : Nat} {d d' : Dc} {hv v3 bv hv' : Value} {b M : List UInt8} {k h1 b1 h3 b3 : Nat} {ls : List (List UInt8)} {us : List Value} (hKW : Kept (FD p hv) w W) (hG : ∀ g, v3.ownBlock = some g → FD p hv g ∨ w.heap.size ≤ g)
    (hO : ∀ g, v3.ownBlock = some g → g < W.heap.size) (hp : p < W.heap.size) (hlow : 7 ≤ p) (hF : FL W p v3 M k ls us bv h1 b1 wr) (hK : Kept (· = p) wr w') (hfe : feed d b = (ls, d')) (hdec : Dec w' p hv' h3 b3 d'.e) (hown : Par.Own w' 7 5 hv' (byteCells d'.rest))
    (hsep : hv'.ownBlock ≠ some p) (hnew : ∀ g, hv'.ownBlock = some g → v3.ownBlock = some g ∨ wr.heap.size ≤ g) (hkn : d'.e = 0 → Known d'.rest h3 b3) (hmo : d'.e = 0 → msg d'.rest = .more) (hde : d'.e ≠ 0 → d'.rest = []) : FeedPost w p d hv b (.returned (.tuple #[bv, .int .i64 d'.e])) w' := by
  have hs := hF.kept.size
  have hs0 := hKW.size
  have hlt := hF.rx.lt
  refine ⟨bv, us, hv', h3, b3, by rw [hfe], ?_, ?_, ?_, ?_, ?_⟩
  · rw [hfe]; exact ⟨hdec, hown, hlow, hsep, hkn, hmo, hde⟩
  · rw [hfe]
    exact (hF.rx.base hs0).keep fun g hg => hK.block g (hlt g hg).2 (fun e => by have := (hlt g hg).1; omega)
  · exact hKW.trans' ((hF.kept.trans' hK).mono fun x _ e => .inl e)
  · rintro g (e | e)
    · exact .inl (.inl e)
    · rcases hnew g e with e2 | e2
      · exact hG g e2
      · right; omega
  · rintro g hg (e | e)
    · have := (hlt g hg).1; omega
    · have := hlt g hg
      rcases hnew g e with e2 | e2
      · have := hO g e2; omega
      · omega
theorem FL.next {W wr w1 w2 w3 : World} {p : Nat} {v3 bv u v' : Value} {M : List UInt8} {k h1 b1 n l : Nat} {ls : List (List UInt8)} {us : List Value} {o : Obj} (hF : FL W p v3 M k ls us bv h1 b1 wr) (hp : p < W.heap.size) (hm : msg (M.drop k) = .body n l)
    (hk1 : Kept (· = p) wr w1) (hD1 : Dec w1 p v3 n l 0) (hb : Below w1.heap.size w1 w2) (hu : Par.Own w2 w1.heap.size 5 u (byteCells ((M.drop (k + n)).take l))) (hown : Par.Own w3 W.heap.size 22 v' (us ++ [u])) (hg : (w2.alloc o).grownBy w3 bv.ownBlock) (hat : v'.ownBlock = bv.ownBlock ∨ v'.ownBlock = some (w2.heap.size + 1)) :
    FL W p v3 M (k + n + l) (ls ++ [(M.drop (k + n)).take l]) (us ++ [u]) v' 0 0 ((w3.setCell ⟨p, 1, none⟩ (.int .i64 0)).setCell ⟨p, 2, none⟩ (.int .i64 0)) := by
  obtain ⟨-, m2, -, m4, -⟩ := msg_body hm
  rw [List.length_drop] at m4
  have hz := hF.kept.size
  have hz1 := hk1.size
  have hz2 := hb.size
  have hlt := hF.rx.lt
  have hbv : ∀ g, bv.ownBlock = some g → W.heap.size ≤ g := fun g e => (hF.rx.own.lt g e).1
  have hD3 : Dec w3 p v3 n l 0 := hD1.keep (by
    rw [hg.block p (by simp; omega) (fun e => by have := hbv p e.symm; omega), Below.heap_alloc _ _ _ (by omega), hb.block p (by omega)])
  have hrx := (hF.rx.keep (w' := w1) fun g hg => hk1.block g (hlt g hg).2 (fun e => by have := (hlt g hg).1; omega)).next (by omega) hb hu o hown hg hat
  have hlt3 := hrx.lt
  have hk : k ≤ M.length := hF.hk
  refine ⟨(hD3.set.2.1 0).set.2.2.1 0, known_zero _ _, by omega, ?_, hrx.keep fun g hgx => ?_, ?_, ?_, fun h => by omega⟩
  · have k2 : Kept (· = p) W w2 := hF.kept.trans' (hk1.trans' (Kept.of_below hb))
    have k3 : Kept (· = p) W w3 := ⟨hg.os.trans k2.os, hg.tape.trans k2.tape, hg.output.trans k2.output, by have := hg.size; have := k2.size; simp at *; omega, fun x hx hn => by
      rw [hg.block x (by simp; omega) (fun e => by have := hbv x e.symm; omega), Below.heap_alloc _ _ _ (by omega), k2.block x hx hn]⟩
    exact kept_p (kept_p k3 1 _) 2 _
  · have := (hlt3 g hgx).1
    rw [setCell_block (by dsimp only; omega), setCell_block (by dsimp only; omega)]
  · have := hF.cnt; simp; omega
  · rw [hF.run, run_body hm, List.drop_drop, List.drop_drop, show k + (n + l) = k + n + l by omega]
    simp

set_option maxRecDepth 20000 in
set_option maxHeartbeats 1000000 in
theorem feed_alive (p : Nat) (d : Dc) (hv : Value) (hh bb : Nat) (w : World) (m : Int) (v : Value) (b : List UInt8) (h : DV w p d hv hh bb) (he : d.e = 0) (hs : Seg w w.heap.size v (byteCells b)) (hl : b.length ≤ 1000000000) (hT : Tabs w) (hm : w.cell? ⟨0, 0, none⟩ = some (.int .i64 m)) :
    Calls Tryd.prog 17 #[.pointer (some ⟨p, 0, none⟩), v] w (FeedPost w p d hv b) := by
  have hrl := h.len
  have h1 : (d.e != 0) = false := by simp [he]
  obtain ⟨⟨c0, c1, c2, c3⟩, f0, f1, f2, f3⟩ := h.dec.cells
  rw [he] at c3
  have hplt := h.dec.lt
  have hown := h.own
  have H := Lib.hid h; have HT := Lib.hid hT; have HM := Lib.hid hm
  clear h hT hm
  go_enter Tryd.func17, Tryd.ntmps17
  go_wp2_with (at_builtin; refine wpList_app _ rfl _ _ _ rfl 7 5 _ byteE _ _ rfl hown w.heap.size v _ rfl hs (one_bytes _) ?c1 ?c2 ?_)
  case c1 => rw [byteCells_length, byteCells_length]; omega
  case c2 => have := HT.out.size; omega
  intro v3 w3 hown3 hg3 hat3
  obtain ⟨M, hM⟩ : ∃ M, M = d.rest ++ b := ⟨_, rfl⟩
  rw [← byteCells_append, ← hM] at hown3
  have hMl : M.length = d.rest.length + b.length := by rw [hM, List.length_append]
  have hD3 : Dec w3 p hv hh bb 0 := by
    have := H.out.dec; rw [he] at this
    exact this.keep (hg3.block p hplt (fun e => H.out.sep e.symm))
  obtain ⟨⟨q0, q1, q2, q3⟩, k0, k1, k2, k3⟩ := hD3.cells
  obtain ⟨A3, c3', hv3⟩ := hown3.form
  rw [byteCells_length] at hv3
  have hg3' : ∀ g, v3.ownBlock = some g → FD p hv g ∨ w.heap.size ≤ g := fun g e => by
    rcases hat3 with e1 | e1
    · exact .inl (.inr (e1 ▸ e))
    · rw [e1] at e; injection e with e; right; omega
  have hsep3 : v3.ownBlock ≠ some p := fun e => by
    rcases hat3 with e1 | e1
    · exact H.out.sep (e1 ▸ e)
    · rw [e1] at e; injection e with e; omega
  have hK3 : Kept (FD p hv) w w3 := (Kept.refl _ w).grown hg3 (fun k e => .inl (.inr e))
  obtain ⟨W, hW⟩ : ∃ W, W = w3.setCell ⟨p, 0, none⟩ v3 := ⟨_, rfl⟩
  have hDW : Dec W p v3 hh bb 0 := by rw [hW]; exact hD3.set.1 v3
  have hKW : Kept (FD p hv) w W := by rw [hW]; exact hK3.setCell (.inl (.inl rfl)) v3
  have hOW : Par.Own W 7 5 v3 (byteCells M) := by rw [hW]; exact own_turn hown3 fun g e => setCell_block (fun e2 => hsep3 (by rw [e]; exact congrArg some e2))
  have hnil3 := fun hA => own_nil hown3 hv3 hA
  have HFL0 : Hid (FL W p v3 M 0 [] [] (.slice none 0 0) hh bb W) := Lib.hid ⟨hDW, by
      rw [List.drop_zero, hM]; exact known_app b (H.out.known he), by omega, Kept.refl _ _, RX.nil _ _, by simp, by simp, fun _ => rfl⟩
  have hFE : feed d b = ((run M).1, ⟨(run M).2.1, (run M).2.2⟩) := by unfold feed; rw [if_pos he, hM]
  have HOW := Lib.hid hOW; have HKW := Lib.hid hKW; have HG3 := Lib.hid hg3'; have HSEP := Lib.hid hsep3; have HNIL := Lib.hid hnil3; have HFE := Lib.hid hFE
  have hMb : M.length ≤ 1000066560 := by omega
  have hOc : M.length ≤ c3' := by
    obtain ⟨A', c', e', h'⟩ := HOW.out.seg
    rw [hv3] at e'
    injection e' with _ _ e'
    rw [byteCells_length] at h'
    omega
  clear hMl hD3 hg3' hsep3 hnil3 hFE hOW hKW hDW hK3 hown3 hg3 hat3 hown hs hM c0 c1 c2 c3 f0 f1 f2 f3
  subst hv3
  go_wp2
  rw [← hW]
  clear hW q0 q1 q2 q3 k0 k1 k2 k3
  go_loopw [6, 7, 8] (fun bv at_ _ wr => ∃ (k : Nat) (ls : List (List UInt8)) (us : List Value) (h1 b1 : Nat), at_ = .int .i64 k ∧ Hid (FL W p (.slice A3 M.length c3') M k ls us bv h1 b1 wr)) (fun _ at_ _ _ => M.length + 1 - (intOf at_).toNat)
  case atStart => exact ⟨0, [], [], hh, bb, rfl, HFL0⟩
  case round =>
    obtain ⟨k, ls, us, h2, b2, rfl, HF⟩ := hrel
    have hkM := HF.out.hk
    have hKr : Kept (FD p hv) w wr := HKW.out.trans' (HF.out.kept.mono fun x _ e => .inl e)
    have hOr : Par.Own wr 7 5 (.slice A3 M.length c3') (byteCells M) := own_turn HOW.out fun g e => HF.out.kept.block g (HOW.out.lt g e).2 (fun e2 => HSEP.out (by rw [e, e2]))
    have hsg : Seg wr wr.heap.size (.slice A3 M.length c3') (byteCells M) := hOr.seg
    obtain ⟨A2, e2, hsf, hnil2⟩ := seg_from (S := (· < wr.heap.size)) hsg rfl k hkM HNIL.out
    have hsl : ∀ X, (Instr.slice 22 (.slice A3 M.length c3') (some (.int .i64 (k : Int))) none none).run Tryd.prog X = .ok (.slice A2 (M.drop k).length (c3' - k)) X := fun X => by rw [slice_from A3 M.length c3' k X hkM, e2]
    have hTr := tabs_kept HT.out hKr H.out.ge
    have hMr := max_kept HM.out hKr H.out.ge
    have hwh := whole_any p _ h2 b2 A2 (c3' - k) (M.drop k) wr m HF.out.dec HF.out.known hsf hnil2 (by rw [List.length_drop]; omega) hTr hMr
    obtain ⟨⟨c0, c1, c2, c3⟩, f0, f1, f2, f3⟩ := HF.out.dec.cells
    obtain ⟨N, hN⟩ : ∃ N, N = (M.drop k).length := ⟨_, rfl⟩
    rw [← hN] at hsl hwh
    have HN := Lib.hid hN
    clear hN
    have HSF := Lib.hid hsf; have HKR := Lib.hid hKr; have HOR := Lib.hid hOr
    clear hsf hnil2 e2 hTr hMr hsg hKr hOr
    cases hmsg : msg (M.drop k) with
    | more =>
      have HWH : Hid (Calls Tryd.prog 26 #[.pointer (some ⟨p, 0, none⟩), .slice A2 N (c3' - k)] wr fun e w1 => e = .returned (.bool false) ∧ ∃ h3 b3, Hid (Kept (· = p) wr w1 ∧ Dec w1 p (.slice A3 M.length c3') h3 b3 0 ∧ Known (M.drop k) h3 b3) ∧ (w1.cell? ⟨p, 0, none⟩ = some (.slice A3 M.length c3') ∧ w1.cell? ⟨p, 1, none⟩ = some (.int .i64 (h3 : Nat)) ∧ w1.cell? ⟨p, 2, none⟩ = some (.int .i64 (b3 : Nat)) ∧ w1.cell? ⟨p, 3, none⟩ = some (.int .i64 0)) ∧ (w1.frozen? ⟨p, 0, none⟩ = false ∧ w1.frozen? ⟨p, 1, none⟩ = false ∧ w1.frozen? ⟨p, 2, none⟩ = false ∧ w1.frozen? ⟨p, 3, none⟩ = false)) := Lib.hid (by
        refine hwh.mono ?_
        rintro e w1 ⟨hk1, hp1⟩
        rw [hmsg] at hp1
        obtain ⟨rfl, h3, b3, hd3, hkn⟩ := hp1
        exact ⟨rfl, h3, b3, Lib.hid ⟨hk1, hd3, hkn⟩, hd3.cells.1, hd3.cells.2⟩)
      have hfe : feed d b = (ls, ⟨M.drop k, 0⟩) := by
        rw [HFE.out, HF.out.run, run_more hmsg]; simp
      have HFE2 := Lib.hid hfe; have HMSG := Lib.hid hmsg
      clear hwh hmsg hfe
      have hpW : p < W.heap.size := Nat.lt_of_lt_of_le hplt HKW.out.size
      by_cases hk0 : k = 0
      · have g1 : ¬ (0 : Int) < (k : Int) := by omega
        have HK0 := Lib.hid hk0
        clear hk0
        go_wp2_with (go_at_call 26; refine HWH.out.mono ?_; rintro e w1 ⟨rfl, h3, b3, HD1, ⟨q0, q1, q2, q3⟩, j0, j1, j2, j3⟩)
        go_ret2
        refine feed_fin HKW.out HG3.out (fun g e => (HOW.out.lt g e).2) hpW H.out.low HF.out HD1.out.1 HFE2.out (hv' := .slice A3 M.length c3') HD1.out.2.1 ?_ HSEP.out (fun g e => .inl e) (fun _ => HD1.out.2.2) (fun _ => HMSG.out) (fun h => absurd rfl h)
        rw [HK0.out, List.drop_zero]
        exact own_turn HOR.out fun g e => HD1.out.1.block g (HOR.out.lt g e).2 (fun e2 => HSEP.out (by rw [e, e2]))
      · have g1 : (0 : Int) < (k : Int) := by omega
        clear hk0
        have HCL : Hid (∀ X, Kept (· = p) wr X → (∃ h3 b3, Dec X p (.slice A3 M.length c3') h3 b3 0) → Calls Tryd.prog 27 #[.slice A2 N (c3' - k)] X fun e w2 => ∃ A6 n6 c6, e = .returned (.slice A6 n6 c6) ∧ Hid (Par.Own w2 X.heap.size 5 (.slice A6 n6 c6) (byteCells (M.drop k)) ∧ Below X.heap.size X w2) ∧ w2.cell? ⟨p, 0, none⟩ = some (.slice A3 M.length c3') ∧ w2.frozen? ⟨p, 0, none⟩ = false) := Lib.hid (fun X hX ⟨h3, b3, hd3⟩ => by
          have ho : Par.Own X 7 5 (.slice A3 M.length c3') (byteCells M) := own_turn HOR.out fun g e => hX.block g (HOR.out.lt g e).2 (fun e2 => HSEP.out (by rw [e, e2]))
          obtain ⟨A2', e2', hs2, -⟩ := seg_from (S := (· < X.heap.size)) ho.seg rfl k hkM HNIL.out
          have e3 := hsl X
          rw [slice_from A3 M.length c3' k X hkM, e2', HN.out] at e3
          injection e3 with e3
          injection e3 with e3
          rw [e3, ← HN.out] at hs2
          refine (clone_seg _ (M.drop k) X hs2 (by rw [List.length_drop]; omega)).mono ?_
          rintro e w2 ⟨u, rfl, hu, hb⟩
          obtain ⟨A6, c6, rfl⟩ := hu.form
          exact ⟨A6, _, c6, rfl, Lib.hid ⟨hu, hb⟩, (hd3.below hb).cells.1.1, (hd3.below hb).cells.2.1⟩)
        go_wp2_with (first
          | (go_at_call 26; refine HWH.out.mono ?_; rintro e w1 ⟨rfl, h3, b3, HD1, ⟨q0, q1, q2, q3⟩, j0, j1, j2, j3⟩)
          | (go_at_call 27; refine (HCL.out _ HD1.out.1 ⟨h3, b3, HD1.out.2.1⟩).mono ?_; rintro e w2 ⟨A6, n6, c6, rfl, HU, i0, i1⟩))
        go_ret2
        have hz1 := HD1.out.1.size
        have hp1 := HD1.out.2.1.lt
        have hul := HU.out.1.lt
        have hus : (Value.slice A6 n6 c6).ownBlock ≠ some p := fun e => by have := (hul p e).1; omega
        refine feed_fin HKW.out HG3.out (fun g e => (HOW.out.lt g e).2) hpW H.out.low HF.out (kept_p (HD1.out.1.trans' (Kept.of_below HU.out.2)) 0 _) HFE2.out (hv' := .slice A6 n6 c6) ((HD1.out.2.1.below HU.out.2).set.1 _) ?_ hus (fun g e => .inr (by have := (hul g e).1; omega)) (fun _ => HD1.out.2.2) (fun _ => HMSG.out) (fun h => absurd rfl h)
        exact own_turn (HU.out.1.base (by have := H.out.low; omega)) fun g e => setCell_block (fun e2 => hus (by rw [e]; exact congrArg some e2))
    | bad er =>
      have hpW : p < W.heap.size := Nat.lt_of_lt_of_le hplt HKW.out.size
      have HWH : Hid (Calls Tryd.prog 26 #[.pointer (some ⟨p, 0, none⟩), .slice A2 N (c3' - k)] wr fun e w1 => e = .returned (.bool false) ∧ ∃ h3 b3, Hid (Kept (· = p) wr w1 ∧ Dec w1 p (.slice A3 M.length c3') h3 b3 er) ∧ (w1.cell? ⟨p, 0, none⟩ = some (.slice A3 M.length c3') ∧ w1.cell? ⟨p, 1, none⟩ = some (.int .i64 (h3 : Nat)) ∧ w1.cell? ⟨p, 2, none⟩ = some (.int .i64 (b3 : Nat)) ∧ w1.cell? ⟨p, 3, none⟩ = some (.int .i64 er)) ∧ (w1.frozen? ⟨p, 0, none⟩ = false ∧ w1.frozen? ⟨p, 1, none⟩ = false ∧ w1.frozen? ⟨p, 2, none⟩ = false ∧ w1.frozen? ⟨p, 3, none⟩ = false)) := Lib.hid (by
        refine hwh.mono ?_
        rintro e w1 ⟨hk1, hp1⟩
        rw [hmsg] at hp1
        obtain ⟨rfl, h3, b3, hd3⟩ := hp1
        exact ⟨rfl, h3, b3, Lib.hid ⟨hk1, hd3⟩, hd3.cells.1, hd3.cells.2⟩)
      have hfe : feed d b = (ls, ⟨[], er⟩) := by
        rw [HFE.out, HF.out.run, run_bad hmsg]; simp
      have her : er ≠ 0 := by have := msg_bad hmsg; omega
      have g1 : (er != 0) = true := by simpa using her
      have HFE2 := Lib.hid hfe; have HER := Lib.hid her
      clear hwh hmsg hfe her
      go_wp2_with (go_at_call 26; refine HWH.out.mono ?_; rintro e w1 ⟨rfl, h3, b3, HD1, ⟨q0, q1, q2, q3⟩, j0, j1, j2, j3⟩)
      obtain ⟨X, hX⟩ : ∃ X, X = w1.setCell ⟨p, 0, none⟩ (.slice none 0 0) := ⟨_, rfl⟩
      have hDX : Dec X p (.slice none 0 0) h3 b3 er := by rw [hX]; exact HD1.out.2.set.1 _
      have hKX : Kept (· = p) wr X := by rw [hX]; exact kept_p HD1.out.1 0 _
      rw [← hX]
      clear hX q0 q1 q2 q3 j0 j1 j2 j3 c0 c1 c2 c3 f0 f1 f2 f3
      obtain ⟨⟨c0, c1, c2, c3⟩, f0, f1, f2, f3⟩ := hDX.cells
      have HDX := Lib.hid hDX; have HKX := Lib.hid hKX
      clear hDX hKX
      go_quiet (fail)
      go_wp2
      go_ret2
      exact feed_fin HKW.out HG3.out (fun g e => (HOW.out.lt g e).2) hpW H.out.low HF.out (HKX.out.trans' (Kept.drewN' _ _)) HFE2.out (hv' := .slice none 0 0) HDX.out (Par.Own.nil _ _ _) (fun e => by cases e) (fun g e => by cases e) (fun h => absurd h HER.out) (fun h => absurd h HER.out) (fun _ => rfl)
    | body n l =>
      have hpW : p < W.heap.size := Nat.lt_of_lt_of_le hplt HKW.out.size
      obtain ⟨-, m2, m3, m4, m5, -⟩ := msg_body hmsg
      rw [← HN.out] at m4
      have hNk : N = M.length - k := by rw [HN.out, List.length_drop]
      have m6 : k + n + l ≤ M.length := by omega
      clear hNk m4
      have HWH : Hid (Calls Tryd.prog 26 #[.pointer (some ⟨p, 0, none⟩), .slice A2 N (c3' - k)] wr fun e w1 => e = .returned (.bool true) ∧ Hid (Kept (· = p) wr w1 ∧ Dec w1 p (.slice A3 M.length c3') n l 0) ∧ (w1.cell? ⟨p, 0, none⟩ = some (.slice A3 M.length c3') ∧ w1.cell? ⟨p, 1, none⟩ = some (.int .i64 (n : Nat)) ∧ w1.cell? ⟨p, 2, none⟩ = some (.int .i64 (l : Nat)) ∧ w1.cell? ⟨p, 3, none⟩ = some (.int .i64 0)) ∧ (w1.frozen? ⟨p, 0, none⟩ = false ∧ w1.frozen? ⟨p, 1, none⟩ = false ∧ w1.frozen? ⟨p, 2, none⟩ = false ∧ w1.frozen? ⟨p, 3, none⟩ = false)) := Lib.hid (by
        refine hwh.mono ?_
        rintro e w1 ⟨hk1, hp1⟩
        rw [hmsg] at hp1
        obtain ⟨rfl, hd3⟩ := hp1
        exact ⟨rfl, Lib.hid ⟨hk1, hd3⟩, hd3.cells.1, hd3.cells.2⟩)
      have hc3 := hOc
      obtain ⟨A5, c5, e5⟩ : ∃ A5 c5, fromV A3 (k + n + l) c3' (k + n) = .slice A5 l c5 := ⟨_, _, by unfold fromV; rw [show k + n + l - (k + n) = l by omega]⟩
      have hsl2 : ∀ X, (Instr.slice 22 (.slice A3 M.length c3') (some (.int .i64 ((k : Int) + (n : Int)))) (some (.int .i64 ((k : Int) + (n : Int) + (l : Int)))) none).run Tryd.prog X = .ok (.slice A5 l c5) X := fun X => by
        have := slice_lh A3 M.length c3' (k + n) (k + n + l) X (by omega) (by omega)
        rwa [e5, show ((k + n : Nat) : Int) = (k : Int) + (n : Int) by omega, show ((k + n + l : Nat) : Int) = (k : Int) + (n : Int) + (l : Int) by omega] at this
      have HCL : Hid (∀ X, Kept (· = p) wr X → Dec X p (.slice A3 M.length c3') n l 0 → Calls Tryd.prog 27 #[.slice A5 l c5] X fun e w2 => ∃ A6 n6 c6, e = .returned (.slice A6 n6 c6) ∧ Hid (Par.Own w2 X.heap.size 5 (.slice A6 n6 c6) (byteCells ((M.drop (k + n)).take l)) ∧ Below X.heap.size X w2)) := Lib.hid (fun X hX hd3 => by
        have ho : Par.Own X 7 5 (.slice A3 M.length c3') (byteCells M) := own_turn HOR.out fun g e => hX.block g (HOR.out.lt g e).2 (fun e2 => HSEP.out (by rw [e, e2]))
        have hlt2 : (M.take (k + n + l)).length = k + n + l := by rw [List.length_take]; omega
        obtain ⟨-, hs1⟩ := seg_front (S := (· < X.heap.size)) ho.seg rfl (k + n + l) (by omega)
        obtain ⟨A2', e2', hs2, -⟩ := seg_from hs1 hlt2.symm (k + n) (by omega) HNIL.out
        have hdt : (M.take (k + n + l)).drop (k + n) = (M.drop (k + n)).take l := by rw [List.drop_take, show k + n + l - (k + n) = l by omega]
        rw [hdt] at e2' hs2
        rw [e5] at e2'
        rw [← e2'] at hs2
        refine (clone_seg _ ((M.drop (k + n)).take l) X hs2 (by rw [List.length_take]; omega)).mono ?_
        rintro e w2 ⟨u, rfl, hu, hb⟩
        obtain ⟨A6, c6, rfl⟩ := hu.form
        exact ⟨A6, _, c6, rfl, Lib.hid ⟨hu, hb⟩⟩)
      have HOB : Hid (∀ X Y, Kept (· = p) wr X → Below X.heap.size X Y → Par.Own Y W.heap.size 22 u6 us) := Lib.hid fun X Y hX hY => own_turn HF.out.rx.own fun g e => by
        have h1 := HF.out.rx.own.lt g e
        rw [hY.block g (by have := hX.size; omega), hX.block g h1.2 (by omega)]
      have hul : us.length ≤ k := by rw [HF.out.rx.len]; exact HF.out.cnt
      have HMSG := Lib.hid hmsg
      clear hwh hmsg e5
      go_wp2_with (first
        | (go_at_call 26; refine HWH.out.mono ?_; rintro e w1 ⟨rfl, HD1, ⟨q0, q1, q2, q3⟩, j0, j1, j2, j3⟩)
        | (go_at_call 27; refine (HCL.out _ HD1.out.1 HD1.out.2).mono ?_; rintro e w2 ⟨A6, n6, c6, rfl, HU⟩)
        | (at_builtin; refine wpList_app _ rfl _ _ _ rfl W.heap.size 22 _ rowE _ us rfl ((HOB.out _ _ HD1.out.1 HU.out.2).alloc _) (w2.heap.size + 1) _ [.slice A6 n6 c6] rfl (Seg.new w2 22 _ _ rfl (by simp [maxLen])) ?c0 ?c1 ?c2 ?_))
      case c0 => intro x hx; simp at hx; subst hx; rfl
      case c1 => simp only [List.length_cons, List.length_nil]; omega
      case c2 => have := HF.out.kept.size; have := HD1.out.1.size; have := HU.out.2.size; simp; omega
      intro v5 w5 hown5 hg5 hat5
      have hFL5 := HF.out.next hpW HMSG.out HD1.out.1 HD1.out.2 HU.out.2 HU.out.1 hown5 hg5 (by simpa using hat5)
      have hD5 : Dec w5 p (.slice A3 M.length c3') n l 0 := (HD1.out.2.below HU.out.2).keep (by
        have h1 := HD1.out.2.lt
        have h2 := HU.out.2.size
        rw [hg5.block p (by simp; omega) (fun e => by have := (HF.out.rx.own.lt p e.symm).1; omega), Below.heap_alloc _ _ _ (by omega)])
      obtain ⟨⟨r0, r1, r2, r3⟩, s0, s1, s2, s3⟩ := hD5.cells
      have HFL5 := Lib.hid hFL5
      clear hFL5 hD5 hown5 hg5 hat5
      go_wp2
      go_roundw
      case rel => exact ⟨k + n + l, _, _, 0, 0, by go_num, HFL5⟩
      case measure => simp [intOf]; omega
theorem feed_any (p : Nat) (d : Dc) (hv : Value) (hh bb : Nat) (w : World) (m : Int) (v : Value) (b : List UInt8) (h : DV w p d hv hh bb) (hs : Seg w w.heap.size v (byteCells b)) (hl : b.length ≤ 1000000000) (hT : Tabs w) (hm : w.cell? ⟨0, 0, none⟩ = some (.int .i64 m)) :
    Calls Tryd.prog 17 #[.pointer (some ⟨p, 0, none⟩), v] w (FeedPost w p d hv b) := by
  by_cases he : d.e = 0
  · exact feed_alive p d hv hh bb w m v b h he hs hl hT hm
  · exact feed_dead p d hv hh bb w v b h he
end Go.Proofs.YtffblcefnckacaaDoor
