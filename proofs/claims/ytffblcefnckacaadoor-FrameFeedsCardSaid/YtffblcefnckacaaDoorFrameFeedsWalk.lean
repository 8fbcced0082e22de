/- The walk of FrameFeeds. -/
import Derived.Test.YtffblcefnckacaaDoorLawW
import Derived.Deep.RegionHeld
namespace Go.Par
open Go Go.RowKit
section
variable {P : Program} {ops : Array Oper} {Q : Exit → Act → World → Prop}
theorem wpOp_of {i : Nat} {o : Oper} {K : Act → World → Prop} {a : Act} {w : World} (ho : ops[i]? = some o) (hw : Region.wanted o (yielded ops a.tmps) = true) (h : ∀ K' : Act → World → Prop, (∀ a w, K a w → K' a w) → o.wp P a w K' Q) : wpOp P ops Q i K a w := by
  unfold wpOp
  simp only [ho, hw, if_true]
  exact .inl (h _ fun _ _ h => h)
theorem takeD {S : World → Prop} {md : Region.Mode} {i s : Nat} {oi : Oper} {v : Value} {fuel : Nat} {listed : Array Bool} {a : Act} {w : World} (hi : ops[i]? = some oi) (hd : oi.dst = some s)
    (hs : Region.noSelect ops = true) (hf : Region.free md ops listed i = true) (hr : (Region.ready md ops listed).contains i = true)
    (hQ : ∀ c a w, Q (.panic c) (a.put oi.dst v) w → Q (.panic c) a w) (hy : YieldsIf P ops S oi v a) (hS : S w)
    (h : wpAnyH P md ops Q S fuel (listed.setIfInBounds i true) { tmps := a.tmps.setIfInBounds s v, defers := a.defers } w) : wpAnyH P md ops Q S (fuel + 1) listed a w :=
  wpAnyH_take hi hs hf hr hQ hy hS (by rw [hd]; exact h)
end
end Go.Par
namespace Go.Proofs.YtffblcefnckacaaDoor
open Go.RowKit Go.Lib Go.Vfs Go.Par Go.Frm Go.Shelf
set_option linter.unusedVariables false
set_option linter.unusedSimpArgs false

/-- what stands through region 16. -/
def SS (w15 : World) (mb : Nat) (A : Option Addr) (n c : Nat) (e : Int) (b o : Nat) (Ak : Option Addr) (N ck : Nat) (W : World) : Prop :=
  Below w15.heap.size w15 W ∧ W.cell? ⟨mb, 0, none⟩ = some (.slice A n c) ∧ W.cell? ⟨mb, 1, none⟩ = some (.int .i64 e) ∧ W.cell? ⟨b, o, none⟩ = some (.slice Ak N ck)
theorem SS.of {w15 : World} {mb : Nat} {A : Option Addr} {n c : Nat} {e : Int} {b o : Nat} {Ak : Option Addr} {N ck : Nat} {W : World} (h : (mb < w15.heap.size ∧ b < w15.heap.size) ∧ w15.cell? ⟨mb, 0, none⟩ = some (.slice A n c) ∧ w15.cell? ⟨mb, 1, none⟩ = some (.int .i64 e) ∧ w15.cell? ⟨b, o, none⟩ = some (.slice Ak N ck)) (hb : Below w15.heap.size w15 W) : SS w15 mb A n c e b o Ak N ck W :=
  ⟨hb, (hb.cell (p := ⟨mb, 0, none⟩) h.1.1).trans h.2.1, (hb.cell (p := ⟨mb, 1, none⟩) h.1.1).trans h.2.2.1, (hb.cell (p := ⟨b, o, none⟩) h.1.2).trans h.2.2.2⟩
theorem same_b (u v : Value) (xs : List UInt8) (w : World) (hu : Seg w w.heap.size u (byteCells xs)) (hv : Seg w w.heap.size v (byteCells xs)) : Calls Tryd.prog 14 #[u, v] w fun e w' => e = .returned (.bool true) ∧ ∃ n, w' = w.drewN n := by
  have := sameBytes_any u v xs xs _ w hu hv
  rwa [decide_eq_true rfl] at this
/-- the program's decoder at p and the reference's in the box mb. -/
structure FI (w : World) (p mb : Nat) (d : Dc) (hv : Value) (hh bb : Nat) (dm : Dc) (Am : Option Addr) (nm cm : Nat) (W : World) : Prop where
  dv : DV W p d hv hh bb
  out : ∀ k, FD p hv k → w.heap.size ≤ k
  ne : ∀ k, FD p hv k → k ≠ mb
  box : W.heap[mb]? = some (.cells #[.slice Am nm cm, .int .i64 dm.e] 46 (0, 0))
  seg : SegS (fun k => k < W.heap.size ∧ k ≠ mb ∧ ¬ FD p hv k ∧ w.heap.size ≤ k) W (.slice Am nm cm) (byteCells dm.rest)
  len : nm = dm.rest.length
  nil : Am = none → cm = 0
  mb : w.heap.size ≤ mb
  below : Below w.heap.size w W
section
variable {w W W' : World} {p mb : Nat} {d dm : Dc} {hv : Value} {hh bb : Nat} {Am : Option Addr} {nm cm : Nat}
theorem FI.lt (h : FI w p mb d hv hh bb dm Am nm cm W) : mb < W.heap.size := lt_of_block h.box
theorem FI.go (h : FI w p mb d hv hh bb dm Am nm cm W) (hb : Below W.heap.size W W') : FI w p mb d hv hh bb dm Am nm cm W' :=
  ⟨h.dv.keep fun k hk => hb.block k (h.dv.lt k hk), h.out, h.ne, (hb.block mb h.lt).trans h.box, h.seg.keep fun k hk => ⟨⟨by have := hb.size; omega, hk.2⟩, hb.block k hk.1⟩, h.len, h.nil, h.mb, h.below.trans (hb.mono h.below.size)⟩
theorem FI.cells (h : FI w p mb d hv hh bb dm Am nm cm W) : W.cell? ⟨mb, 0, none⟩ = some (.slice Am nm cm) ∧ W.cell? ⟨mb, 1, none⟩ = some (.int .i64 dm.e) ∧ W.frozen? ⟨mb, 0, none⟩ = false ∧ W.frozen? ⟨mb, 1, none⟩ = false := by
  have h0 := h.box
  simp [World.cell?, World.frozen?, h0]
theorem FI.feed (h : FI w p mb d hv hh bb dm Am nm cm W) {ls : List (List UInt8)} {d' : Dc} {rv : Value} {us : List Value} {hv' : Value} {hh' bb' : Nat} (hf : FeedR w.heap.size W p ls d' hv rv us hv' hh' bb' W') : FI w p mb d' hv' hh' bb' dm Am nm cm W' := by
  have hz := hf.kept.size
  refine ⟨hf.dv, hf.out, fun k hk e => ?_, (hf.kept.block mb h.lt fun hk => h.ne mb hk rfl).trans h.box, h.seg.keep fun k hk => ⟨⟨by omega, hk.2.1, fun hk2 => ?_, hk.2.2.2⟩, hf.kept.block k hk.1 hk.2.2.1⟩, h.len, h.nil, h.mb, h.below.trans hf.below⟩
  · rcases hf.grows k hk with h1 | h1
    · exact h.ne k h1 e
    · have := h.lt; omega
  · rcases hf.grows k hk2 with h1 | h1
    · exact hk.2.2.1 h1
    · have := hk.1; omega
theorem FI.set (h : FI w p mb d hv hh bb dm Am nm cm W) {d' : Dc} {A : Option Addr} {n c : Nat} (hs : SegS (fun k => k < W.heap.size ∧ k ≠ mb ∧ ¬ FD p hv k ∧ w.heap.size ≤ k) W (.slice A n c) (byteCells d'.rest)) (hn : n = d'.rest.length) (hnil : A = none → c = 0) :
    FI w p mb d hv hh bb d' A n c ((W.setCell ⟨mb, 0, none⟩ (.slice A n c)).setCell ⟨mb, 1, none⟩ (.int .i64 d'.e)) := by
  have hk : Kept (fun b => b = mb) W ((W.setCell ⟨mb, 0, none⟩ (.slice A n c)).setCell ⟨mb, 1, none⟩ (.int .i64 d'.e)) := ((Kept.refl (fun b => b = mb) W).setCell (p := ⟨mb, 0, none⟩) (.inl rfl) _).setCell (p := ⟨mb, 1, none⟩) (.inl rfl) _
  have hb : ((W.setCell ⟨mb, 0, none⟩ (.slice A n c)).setCell ⟨mb, 1, none⟩ (.int .i64 d'.e)).heap[mb]? = some (.cells #[.slice A n c, .int .i64 d'.e] 46 (0, 0)) := by
    have h2 := cells_set (cells_set h.box 0 (.slice A n c)) 1 (.int .i64 d'.e)
    simpa using h2
  refine ⟨h.dv.keep fun k hk2 => hk.block k (h.dv.lt k hk2) (h.ne k hk2), h.out, h.ne, hb, hs.keep fun k hk2 => ⟨⟨by have := hk.size; omega, hk2.2⟩, hk.block k hk2.1 hk2.2.1⟩, hn, hnil, h.mb, h.below.trans (hk.below h.below.size fun k e => by have := h.mb; omega)⟩
end
/-- behind the reference's Feed: its answer in the box bx. -/
structure R14 (wf : World) (bx : Nat) (A : Option Addr) (n c : Nat) (d2 : Dc) (rv : Value) (l2 : List (List UInt8)) (wx : World) : Prop where
  below : Below wf.heap.size wf wx
  box : wx.heap[bx]? = some (.cells #[.slice A n c, .int .i64 d2.e] 46 (0, 0))
  seg : SegS (fun k => wf.heap.size ≤ k ∧ k < wx.heap.size) wx (.slice A n c) (byteCells d2.rest)
  len : n = d2.rest.length
  nil : A = none → c = 0
  rows : RowsAt (fun k => wf.heap.size ≤ k ∧ k < wx.heap.size) wx rv l2
/-- what it answers. -/
def RFX (W : World) (A : Option Addr) (n c : Nat) (d2 : Dc) (rv : Value) (l2 : List (List UInt8)) (w' : World) : Prop :=
  n = d2.rest.length ∧ SegS (fun k => W.heap.size ≤ k ∧ k < w'.heap.size) w' (.slice A n c) (byteCells d2.rest) ∧ (A = none → c = 0) ∧ RowsAt (fun k => W.heap.size ≤ k ∧ k < w'.heap.size) w' rv l2 ∧ Below W.heap.size W w'
theorem R14.late {wf w5 : World} {A : Option Addr} {n c : Nat} {d2 : Dc} {rv : Value} {l2 : List (List UInt8)} (h : RFX wf.drew A n c d2 rv l2 w5) : R14 wf w5.heap.size A n c d2 rv l2 (w5.alloc (.cells #[.slice A n c, .int .i64 d2.e] 46)) := by
  obtain ⟨h1, h2, h3, h4, h5⟩ := h
  have hba : Below w5.heap.size w5 (w5.alloc (.cells #[.slice A n c, .int .i64 d2.e] 46)) := (Below.refl _ _).alloc (Nat.le_refl _) _
  have hz := hba.size
  have hb : Below wf.heap.size wf w5 := (Below.refl _ wf).drew.trans h5
  refine ⟨hb.trans (hba.mono hb.size), heap_alloc_new _ _, h2.keep fun k hk => ⟨⟨hk.1, by omega⟩, hba.block k hk.2⟩, h1, h3, h4.keep fun k hk => ⟨⟨hk.1, by omega⟩, hba.block k hk.2⟩⟩
theorem R14.early {wf w5 : World} {A : Option Addr} {n c : Nat} {d2 : Dc} {rv : Value} {l2 : List (List UInt8)} (h : RFX (wf.alloc (.cells #[.slice none 0 0, .int .i64 0] 46)).drew A n c d2 rv l2 w5) : R14 wf wf.heap.size A n c d2 rv l2 ((w5.setCell ⟨wf.heap.size, 0, none⟩ (.slice A n c)).setCell ⟨wf.heap.size, 1, none⟩ (.int .i64 d2.e)) := by
  obtain ⟨h1, h2, h3, h4, h5⟩ := h
  have hba : Below wf.heap.size wf (wf.alloc (.cells #[.slice none 0 0, .int .i64 0] 46)) := (Below.refl _ _).alloc (Nat.le_refl _) _
  have hsz : (wf.alloc (.cells #[.slice none 0 0, .int .i64 0] 46)).drew.heap.size = wf.heap.size + 1 := by show (wf.alloc (.cells #[.slice none 0 0, .int .i64 0] 46)).heap.size = _; simp
  have hz5 := h5.size
  have hb : Below wf.heap.size wf w5 := hba.drew.trans (h5.mono (by omega))
  have hbx : w5.heap[wf.heap.size]? = some (.cells #[.slice none 0 0, .int .i64 0] 46 (0, 0)) := (h5.block _ (by omega)).trans (heap_alloc_new wf _)
  have hk : Kept (fun b => b = wf.heap.size) w5 ((w5.setCell ⟨wf.heap.size, 0, none⟩ (.slice A n c)).setCell ⟨wf.heap.size, 1, none⟩ (.int .i64 d2.e)) := ((Kept.refl (fun b => b = wf.heap.size) w5).setCell (p := ⟨wf.heap.size, 0, none⟩) (.inl rfl) _).setCell (p := ⟨wf.heap.size, 1, none⟩) (.inl rfl) _
  have hks := hk.size
  refine ⟨hb.trans (hk.below hb.size fun k e => by omega), ?_, h2.keep fun k hk2 => ⟨by omega, hk.block k hk2.2 (by omega)⟩, h1, h3, h4.keep fun k hk2 => ⟨by omega, hk.block k hk2.2 (by omega)⟩⟩
  have h6 := cells_set (cells_set hbx 0 (.slice A n c)) 1 (.int .i64 d2.e)
  simpa using h6
theorem early_cells {wf w5 : World} (h5 : Below (wf.alloc (.cells #[.slice none 0 0, .int .i64 0] 46)).drew.heap.size (wf.alloc (.cells #[.slice none 0 0, .int .i64 0] 46)).drew w5) :
    (w5.cell? ⟨wf.heap.size, 0, none⟩ = some (.slice none 0 0) ∧ w5.cell? ⟨wf.heap.size, 1, none⟩ = some (.int .i64 0)) ∧ w5.frozen? ⟨wf.heap.size, 0, none⟩ = false ∧ w5.frozen? ⟨wf.heap.size, 1, none⟩ = false := by
  have hsz : (wf.alloc (.cells #[.slice none 0 0, .int .i64 0] 46)).drew.heap.size = wf.heap.size + 1 := by show (wf.alloc (.cells #[.slice none 0 0, .int .i64 0] 46)).heap.size = _; simp
  have hbx : w5.heap[wf.heap.size]? = some (.cells #[.slice none 0 0, .int .i64 0] 46 (0, 0)) := (h5.block _ (by omega)).trans (heap_alloc_new wf _)
  simp [World.cell?, World.frozen?, hbx]

set_option maxRecDepth 100000 in
set_option maxHeartbeats 2000000 in
theorem frameFeeds_walk (v0 : Value) (ls : List (List UInt8)) (b0 : ls.length ≤ 140737488351232 ∧ ∀ l ∈ ls, l.length ≤ 140737488351232) (w : World) (m : Int) (g0 : RowsAt (· < w.heap.size) w v0 ls) (hG : Gl w m) :
    Calls Tryd.prog 8 #[v0] w fun e w' => e = .returned (.bool true) ∧ Below w.heap.size w w' := by
  obtain ⟨A0, c0, rfl, hc0, hm0, HR0⟩ := g0.open_
  have HAL := Lib.hid (alive_s w m hG)
  have G0 := Lib.hid g0; have HG := Lib.hid hG
  have HGR : Hid (∀ wa, Below w.heap.size w wa → Calls Tryd.prog 20 #[.slice A0 ls.length c0] wa fun e w' => ∃ o, e = .returned (.bool o) ∧ w' = wa ∧ (o = false → totL ls ≤ 200000 ∧ ls.length ≤ 200)) := Lib.hid fun wa hb =>
    great_any _ ls wa (g0.keep fun b hbk => ⟨Nat.lt_of_lt_of_le hbk hb.size, hb.block b hbk⟩) b0.2
  clear g0 hG b0
  go_enter Tryd.func8, Tryd.ntmps8
  go_wp2_with (go_at_call 10; refine HAL.out.mono ?_; rintro e wa ⟨rfl, HBA⟩)
  refine (HGR.out wa HBA.out).mono ?_
  rintro e w2 ⟨o, rfl, rfl, ho⟩
  cases o
  case true =>
    go_wp2
    go_ret
    exact ⟨rfl, HBA.out⟩
  obtain ⟨hT, hlen⟩ := ho rfl
  have HP : Hid (∀ k, k < ls.length → (ls.getD k []).length ≤ 200000) := Lib.hid fun k hk => by
    have h1 := totL_mem (l := ls.getD k []) (ls := ls) (by rw [List.getD_eq_getElem?_getD, List.getElem?_eq_getElem hk]; exact List.getElem_mem hk)
    omega
  have hnw := new_s w2 (HG.out.below HBA.out).size
  have HNW := Lib.hid hnw
  clear hT ho hnw
  go_wp2_with fail
  refine HNW.out.mono ?_
  rintro e wn ⟨rfl, HN⟩
  have hbn := HBA.out.trans (HN.out.2.mono HBA.out.size)
  have hFI0 : FI w w2.heap.size wn.heap.size ⟨[], 0⟩ (.slice none 0 0) 0 0 ⟨[], 0⟩ none 0 0 (wn.alloc (.cells #[.slice none 0 0, .int .i64 0] 46)) := by
    have hba : Below wn.heap.size wn (wn.alloc (.cells #[.slice none 0 0, .int .i64 0] 46)) := (Below.refl _ _).alloc (Nat.le_refl _) _
    have hlt : ∀ k, FD w2.heap.size (.slice none 0 0) k → k = w2.heap.size := fun k hk => by rcases hk with h | e; exact h; cases e
    refine ⟨HN.out.1.keep fun k hk => hba.block k (HN.out.1.lt k hk), fun k hk => ?_, fun k hk => ?_, heap_alloc_new _ _, ⟨none, 0, rfl, Nat.le_refl _, by simp [maxLen], fun hp => absurd hp (by simp [byteCells])⟩, rfl, fun _ => rfl, hbn.size, hbn.trans (hba.mono hbn.size)⟩
    · rw [hlt k hk]; exact HBA.out.size
    · have := HN.out.1.lt k hk; omega
  have HF0 := Lib.hid hFI0
  clear hFI0 hbn
  obtain ⟨p, hp⟩ : ∃ p, p = w2.heap.size := ⟨_, rfl⟩
  rw [← hp] at HF0
  go_wp2
  rw [← hp]
  obtain ⟨mb, hmb⟩ : ∃ mb, mb = wn.heap.size := ⟨_, rfl⟩
  rw [← hmb] at HF0
  rw [← hmb]
  clear hp hmb HNW
  go_loopw [5, 6, 7, 8, 9, 10, 11] (fun iv _ _ _ _ _ _ W => ∃ (k : Nat) (d : Dc) (hv : Value) (hh bb : Nat) (Am : Option Addr) (nm cm : Nat), k ≤ ls.length ∧ iv = .int .i64 k ∧ Hid (FI w p mb d hv hh bb d Am nm cm W)) (fun iv _ _ _ _ _ _ _ => ls.length - (intOf iv).toNat)
  case atStart => exact ⟨0, _, _, _, _, _, _, _, by omega, rfl, HF0⟩
  case round =>
    obtain ⟨k, d, hv, hh, bb, Am, nm, cm, hk, rfl, HI⟩ := hrel
    by_cases hlt : k < ls.length
    · obtain ⟨b, off, Ak, ck, rfl, hb2, hcell, hsg⟩ := HR0.out wr HI.out.below k hlt
      have hPl := HP.out k hlt
      obtain ⟨P, hP⟩ : ∃ P, P = ls.getD k [] := ⟨_, rfl⟩
      rw [← hP] at hcell hsg hPl
      have hsp := spare_any _ P wr (hsg.more HI.out.below.size) (by omega)
      have HSP := Lib.hid hsp; have HSG := Lib.hid hsg
      clear hsp hP hsg
      go_wp2_with fail
      refine HSP.out.mono ?_
      rintro e ws ⟨Ao, co, rfl, HO⟩
      have hIs := HI.out.go HO.out.2
      have hco : P.length + 8 ≤ co := by
        obtain ⟨A', c', e', h'⟩ := HO.out.1.seg
        injection e' with _ _ e'
        rw [byteCells_length, List.length_append, marks_len] at h'
        omega
      have hsf : Seg ws ws.heap.size (.slice Ao P.length co) (byteCells P) := by
        have := (seg_front (S := (· < ws.heap.size)) (l := P ++ marks 8) HO.out.1.seg (by rw [List.length_append, marks_len]) P.length (by omega)).2
        rwa [List.take_left] at this
      obtain ⟨r2, hr2⟩ : ∃ r2, r2 = feed d P := ⟨_, rfl⟩
      obtain ⟨l2, d2⟩ := r2
      have hff := feed_s w.heap.size p d hv hh bb ws m _ P hIs.dv hIs.out hIs.below.size hsf (by omega) (HG.out.below hIs.below) hr2.symm
      have hsl := fun X => slice_to Ao (P.length + 8) co P.length X (by omega)
      have HIs := Lib.hid hIs; have HFF := Lib.hid hff; have HR2 := Lib.hid hr2
      have hcells : ws.cell? ⟨b, off + k, none⟩ = some (.slice Ak P.length ck) := (World.cell?_of_block (a := ⟨b, off + k, none⟩) (HO.out.2.block b (by have := HI.out.below.size; omega))).trans hcell
      clear hIs hff hr2 hsf hcell HSP
      obtain ⟨NL, hNL⟩ : ∃ NL, NL = l2.length := ⟨_, rfl⟩
      rw [← hNL] at HFF
      have HNL := Lib.hid hNL
      clear hNL
      go_wp2_with fail
      refine HFF.out.mono ?_
      rintro e wf ⟨Ar, cr, us, hv', hh', bb', rfl, HF⟩
      have hIf := HIs.out.feed HF.out
      have HIf := Lib.hid hIf
      have hzs := HIs.out.below.size
      have hcellf : wf.cell? ⟨b, off + k, none⟩ = some (.slice Ak P.length ck) := (HF.out.kept.cell (p := ⟨b, off + k, none⟩) (by show b < _; omega) (fun hf => by have := HIs.out.out b hf; omega)).trans hcells
      obtain ⟨y0, y1, y2, y3⟩ := hIf.cells
      clear hIf hcells
      have HRF : Hid (∀ W, Below wf.heap.size wf W → Calls Tryd.prog 22 #[.agg #[.slice Am nm cm, .int .i64 d.e], .slice Ak P.length ck] W fun e w' => ∃ A n c Arr cr2, e = .returned (.tuple #[.agg #[.slice A n c, .int .i64 d2.e], .slice Arr NL cr2, .int .i64 d2.e]) ∧ Hid (RFX W A n c d2 (.slice Arr NL cr2) l2 w')) := Lib.hid fun W hW => by
        have hI := HIf.out.go hW
        have hdl := HIs.out.dv.len
        refine (rfeed_any Am nm cm d (.slice Ak P.length ck) P W hI.len (hI.seg.seg fun k hk => hk.1) hI.nil ((HSG.out.below (((HO.out.2.mono HI.out.below.size).trans HF.out.below).trans (hW.mono HIf.out.below.size))).more hI.below.size) (by omega) HIs.out.dv.dead HR2.out.symm).mono ?_
        rintro e w' ⟨A, c, Arr, cr2, rfl, H⟩
        rw [← HNL.out] at H ⊢
        exact ⟨A, _, c, Arr, cr2, rfl, Lib.hid ⟨rfl, H.out⟩⟩
      have HD0 : Hid (Below wf.heap.size wf wf.drew) := Lib.hid (Below.refl _ _).drew
      have HT0 : Hid (Below wf.heap.size wf (wf.alloc (.cells #[.slice none 0 0, .int .i64 0] 46)).drew) := Lib.hid ((Below.refl _ _).alloc (Nat.le_refl _) _).drew
      have hzf := HIf.out.below.size
      have hbf : b < wf.heap.size := by omega
      have hmbf : mb < wf.heap.size := HIf.out.lt
      have hbf2 : ¬ b = wf.heap.size := by omega
      have hmbf2 : ¬ mb = wf.heap.size := by omega
      go_upto_region 14 with fail
      go_cut [9, 10, 11] (fun bv rv ev wx => ∃ (bx : Nat) (A : Option Addr) (n c : Nat) (Arr : Option Addr) (cr2 : Nat), bv = .pointer (some ⟨bx, 0, none⟩) ∧ rv = .slice Arr NL cr2 ∧ ev = .int .i64 d2.e ∧ Hid (R14 wf bx A n c d2 (.slice Arr NL cr2) l2 wx))
      case first =>
        go_region_with (first
          | (go_at_call 22; (with_reducible refine (HRF.out _ HT0.out).mono ?_); rintro e w5 ⟨A, n, c, Arr, cr2, rfl, HX⟩; obtain ⟨⟨z0, z1⟩, z2, z3⟩ := early_cells HX.out.2.2.2.2)
          | (go_at_call 22; (with_reducible refine (HRF.out _ HD0.out).mono ?_); rintro e w5 ⟨A, n, c, Arr, cr2, rfl, HX⟩))
        all_goals (
          go_wp2_with fail
          go_meet
          first
          | exact ⟨_, A, n, c, Arr, cr2, rfl, rfl, rfl, Lib.hid (R14.early HX.out)⟩
          | exact ⟨_, A, n, c, Arr, cr2, rfl, rfl, rfl, Lib.hid (R14.late HX.out)⟩)
      case rest =>
        obtain ⟨bx, A, n, c, Arr, cr2, rfl, rfl, rfl, HX⟩ := hcut
        have hI2 := HIf.out.go HX.out.below
        have hseg2 : SegS (fun k => k < wc.heap.size ∧ k ≠ mb ∧ ¬ FD p hv' k ∧ w.heap.size ≤ k) wc (.slice A n c) (byteCells d2.rest) := HX.out.seg.keep fun k hk => ⟨⟨hk.2, by omega, fun hf => by have := HIf.out.dv.lt k hf; omega, by omega⟩, rfl⟩
        have hI3 := hI2.set hseg2 HX.out.len HX.out.nil
        clear y0 y1 y2 y3
        obtain ⟨y0, y1, y2, y3⟩ := hI2.cells
        have hbx := HX.out.box
        obtain ⟨z0, z1⟩ : wc.cell? ⟨bx, 0, none⟩ = some (.slice A n c) ∧ wc.cell? ⟨bx, 1, none⟩ = some (.int .i64 d2.e) := by simp [World.cell?, hbx]
        have HI3 := Lib.hid hI3
        clear hI2 hseg2 hI3 hbx HRF HD0 HT0
        have hlts := HIs.out.below.size
        have hmbs : mb < ws.heap.size := HIs.out.lt
        go_upto_region 16 with fail
        obtain ⟨w15, hw15⟩ : ∃ w15, w15 = ((wc.setCell ⟨mb, 0, none⟩ (.slice A n c)).setCell ⟨mb, 1, none⟩ (.int .i64 d2.e)) := ⟨_, rfl⟩
        have hk15 : Kept (fun b => b = mb) wc w15 := by
          rw [hw15]
          exact ((Kept.refl (fun b => b = mb) wc).setCell (p := ⟨mb, 0, none⟩) (.inl rfl) _).setCell (p := ⟨mb, 1, none⟩) (.inl rfl) _
        have hI15 := HI3.out
        rw [← hw15] at hI15
        rw [← hw15]
        have hz15 := hk15.size
        have hzwc := HX.out.below.size
        have hra : RowsAt (· < w15.heap.size) w15 (.slice Ar NL cr) l2 := by
          refine HF.out.rx.rows.keep fun g hg => ?_
          have h1 := HF.out.rx.lt g hg
          exact ⟨by omega, (hk15.block g (by omega) (by omega)).trans (HX.out.below.block g h1.2)⟩
        have hrb : RowsAt (· < w15.heap.size) w15 (.slice Arr NL cr2) l2 := HX.out.rows.keep fun g hg => ⟨by omega, hk15.block g hg.2 (by omega)⟩
        have hcell15 : w15.cell? ⟨b, off + k, none⟩ = some (.slice Ak P.length ck) := (hk15.cell (p := ⟨b, off + k, none⟩) (by show b < _; omega) (by have := HI3.out.mb; show ¬ b = mb; omega)).trans ((HX.out.below.cell (p := ⟨b, off + k, none⟩) hbf).trans hcellf)
        have HSR : Hid (∀ W, Below w15.heap.size w15 W → Calls Tryd.prog 18 #[.slice Ar NL cr, .slice Arr NL cr2] W fun e w' => e = .returned (.bool true) ∧ Hid (Below w15.heap.size w15 w') ∧ w'.cell? ⟨mb, 0, none⟩ = some (.slice A n c) ∧ w'.cell? ⟨mb, 1, none⟩ = some (.int .i64 d2.e) ∧ w'.cell? ⟨b, off + k, none⟩ = some (.slice Ak P.length ck)) := Lib.hid fun W hW => by
          have h1 := sameRows_any _ _ _ _ W (hra.keep (S' := (· < W.heap.size)) fun g hg => ⟨Nat.lt_of_lt_of_le hg hW.size, hW.block g hg⟩) (hrb.keep (S' := (· < W.heap.size)) fun g hg => ⟨Nat.lt_of_lt_of_le hg hW.size, hW.block g hg⟩)
          rw [decide_eq_true rfl] at h1
          refine h1.mono ?_
          rintro e w' ⟨rfl, q, rfl⟩
          have hW2 := below_drewN hW q
          have hc := (hI15.go hW2).cells
          exact ⟨rfl, Lib.hid hW2, hc.1, hc.2.1, (hW2.cell (p := ⟨b, off + k, none⟩) (by show b < _; omega)).trans hcell15⟩
        have HDD : Hid (∀ W, Below w15.heap.size w15 W → Calls Tryd.prog 23 #[.pointer (some ⟨p, 0, none⟩)] W fun e w' => e = .returned (.bool (d2.e != 0)) ∧ w' = W) := Lib.hid fun W hW => dead_s W p _ _ _ _ (hI15.go hW).dv
        have HHH : Hid (∀ W, Below w15.heap.size w15 W → Calls Tryd.prog 24 #[.pointer (some ⟨p, 0, none⟩)] W fun e w' => e = .returned (.int .i64 (n : Nat)) ∧ w' = W) := Lib.hid fun W hW => by
          rw [HX.out.len]; exact held_any W p _ _ _ _ (hI15.go hW).dv
        have hown15 : Par.Own w15 wr.heap.size 5 (.slice Ao (P.length + 8) co) (byteCells (P ++ marks 8)) := by
          refine own_turn HO.out.1 fun g e => ?_
          have h1 := HO.out.1.lt g e
          have h2 := HF.out.kept.size
          rw [hk15.block g (by omega) (by have := HI.out.lt; omega), HX.out.below.block g (by omega), HF.out.kept.block g h1.2 (fun hf => by have := HI.out.dv.lt g hf; omega)]
        have HSP2 : Hid (∀ W, Below w15.heap.size w15 W → Calls Tryd.prog 11 #[.slice Ak P.length ck] W fun e w' => ∃ A c, e = .returned (.slice A (P.length + 8) c) ∧ Hid (Seg w' w'.heap.size (.slice A (P.length + 8) c) (byteCells (P ++ marks 8)) ∧ Below w15.heap.size w15 w')) := Lib.hid fun W hW => by
          have h1 := (hI15.go hW).below
          refine (spare_any _ P W ((HSG.out.below ((HO.out.2.mono HI.out.below.size).trans (HF.out.below.trans ((HX.out.below.mono (by omega)).trans ((hk15.below (B := w.heap.size) (by omega) (fun g e => by have := HI.out.mb; omega)).trans (hW.mono (by omega))))))).more h1.size) (by omega)).mono ?_
          rintro e w' ⟨A, c, rfl, H⟩
          exact ⟨A, c, rfl, Lib.hid ⟨H.out.1.seg, hW.trans (H.out.2.mono hW.size)⟩⟩
        have HSB : Hid (∀ W A9 c9, (Seg W W.heap.size (.slice A9 (P.length + 8) c9) (byteCells (P ++ marks 8)) ∧ Below w15.heap.size w15 W) → Calls Tryd.prog 14 #[.slice Ao (P.length + 8) co, .slice A9 (P.length + 8) c9] W fun e w' => e = .returned (.bool true) ∧ Hid (Below w15.heap.size w15 w')) := Lib.hid fun W A9 c9 h => by
          refine (same_b _ _ (P ++ marks 8) W ((hown15.seg.below h.2).more h.2.size) h.1).mono ?_
          rintro e w' ⟨rfl, q, rfl⟩
          exact ⟨rfl, Lib.hid (below_drewN h.2 q)⟩
        have HI15 := Lib.hid hI15
        have HCS : Hid (w15.drew.cell? ⟨mb, 0, none⟩ = some (.slice A n c) ∧ w15.drew.cell? ⟨mb, 1, none⟩ = some (.int .i64 d2.e) ∧ w15.drew.cell? ⟨b, off + k, none⟩ = some (.slice Ak P.length ck)) := Lib.hid ⟨hI15.cells.1, hI15.cells.2.1, hcell15⟩
        have hbz15 : b < w15.heap.size := by omega
        have HCC : Hid ((mb < w15.heap.size ∧ b < w15.heap.size) ∧ w15.cell? ⟨mb, 0, none⟩ = some (.slice A n c) ∧ w15.cell? ⟨mb, 1, none⟩ = some (.int .i64 d2.e) ∧ w15.cell? ⟨b, off + k, none⟩ = some (.slice Ak P.length ck)) := Lib.hid ⟨⟨hI15.lt, hbz15⟩, hI15.cells.1, hI15.cells.2.1, hcell15⟩
        have HB15 : Hid (Below w15.heap.size w15 w15.drew) := Lib.hid (Below.refl _ _).drew
        clear hw15 hk15 hI15 hra hrb hown15 y0 y1 y2 y3 z0 z1 hcellf hcell15
        obtain ⟨o, ho⟩ : ∃ o, o = (d2.e != 0) := ⟨_, rfl⟩
        rw [← ho] at HDD
        have g7 : (d2.e != 0) = o := ho.symm
        clear ho
        go_cut [88] (fun v wx => v = .bool false ∧ Hid (Below w15.heap.size w15 wx))
        case first =>
          have HS0 : Hid (SS w15 mb A n c d2.e b (off + k) Ak P.length ck w15.drew) := Lib.hid ⟨HB15.out, HCS.out⟩
          cases o
          all_goals
            refine wp_region_held (S := SS w15 mb A n c d2.e b (off + k) Ak P.length ck) (by kernel_rfl) ?_
            refine takeD (i := 0) (s := 54) (v := .slice Ar NL cr) rfl rfl (by kernel_rfl) (by kernel_rfl) (by kernel_rfl) (fun _ _ _ h => h) (Or.inl ⟨by rfl, fun w' hS => by obtain ⟨s9, s0, s1, s2⟩ := hS; go_simp⟩) HS0.out ?_
            try simp only [List.setIfInBounds_toArray, List.set_cons_zero, List.set_cons_succ]
            refine takeD (i := 1) (s := 55) (v := .slice Arr NL cr2) rfl rfl (by kernel_rfl) (by kernel_rfl) (by kernel_rfl) (fun _ _ _ h => h) (Or.inl ⟨by rfl, fun w' hS => by obtain ⟨s9, s0, s1, s2⟩ := hS; go_simp⟩) HS0.out ?_
            try simp only [List.setIfInBounds_toArray, List.set_cons_zero, List.set_cons_succ]
            refine wpAnyH_all (rs := [2]) (by kernel_rfl) (by simp) ?_
            intro i hi
            simp only [List.mem_cons, List.not_mem_nil, or_false] at hi
            subst hi
            refine wpOp_of rfl rfl (fun K hK => ?_)
            go_simp
            refine (HSR.out _ HS0.out.1).mono ?_
            rintro e w16 ⟨rfl, HB16, y0, y1, y4⟩
            have HS1 := Lib.hid (show SS w15 mb A n c d2.e b (off + k) Ak P.length ck w16 from ⟨HB16.out, y0, y1, y4⟩)
            refine hK _ _ ⟨HS1.out, ?_⟩
            clear hK K y0 y1 y4
            refine takeD (i := 3) (s := 57) (v := .bool false) rfl rfl (by kernel_rfl) (by kernel_rfl) (by kernel_rfl) (fun _ _ _ h => h) (Or.inl ⟨by rfl, fun w' hS => by obtain ⟨s9, s0, s1, s2⟩ := hS; go_simp⟩) HS1.out ?_
            try simp only [List.setIfInBounds_toArray, List.set_cons_zero, List.set_cons_succ]
            refine takeD (i := 4) (s := 58) (v := .bool false) rfl rfl (by kernel_rfl) (by kernel_rfl) (by kernel_rfl) (fun _ _ _ h => h) (Or.inl ⟨by rfl, fun w' hS => by obtain ⟨s9, s0, s1, s2⟩ := hS; go_simp⟩) HS1.out ?_
            try simp only [List.setIfInBounds_toArray, List.set_cons_zero, List.set_cons_succ]
            refine takeD (i := 5) (s := 59) (v := .int .i64 d2.e) rfl rfl (by kernel_rfl) (by kernel_rfl) (by kernel_rfl) (fun _ _ _ h => h) (Or.inl ⟨by rfl, fun w' hS => by obtain ⟨s9, s0, s1, s2⟩ := hS; go_simp⟩) HS1.out ?_
            try simp only [List.setIfInBounds_toArray, List.set_cons_zero, List.set_cons_succ]
            refine takeD (i := 6) (s := 60) (v := .int .i64 d2.e) rfl rfl (by kernel_rfl) (by kernel_rfl) (by kernel_rfl) (fun _ _ _ h => h) (Or.inl ⟨by rfl, fun w' hS => by obtain ⟨s9, s0, s1, s2⟩ := hS; go_simp⟩) HS1.out ?_
            try simp only [List.setIfInBounds_toArray, List.set_cons_zero, List.set_cons_succ]
            refine takeD (i := 7) (s := 61) (v := .bool false) rfl rfl (by kernel_rfl) (by kernel_rfl) (by kernel_rfl) (fun _ _ _ h => h) (Or.inl ⟨by rfl, fun w' hS => by obtain ⟨s9, s0, s1, s2⟩ := hS; go_simp⟩) HS1.out ?_
            try simp only [List.setIfInBounds_toArray, List.set_cons_zero, List.set_cons_succ]
            refine takeD (i := 8) (s := 62) (v := .bool false) rfl rfl (by kernel_rfl) (by kernel_rfl) (by kernel_rfl) (fun _ _ _ h => h) (Or.inl ⟨by rfl, fun w' hS => by obtain ⟨s9, s0, s1, s2⟩ := hS; go_simp⟩) HS1.out ?_
            try simp only [List.setIfInBounds_toArray, List.set_cons_zero, List.set_cons_succ]
            refine takeD (i := 9) (s := 63) (v := .bool false) rfl rfl (by kernel_rfl) (by kernel_rfl) (by kernel_rfl) (fun _ _ _ h => h) (Or.inl ⟨by rfl, fun w' hS => by obtain ⟨s9, s0, s1, s2⟩ := hS; go_simp⟩) HS1.out ?_
            try simp only [List.setIfInBounds_toArray, List.set_cons_zero, List.set_cons_succ]
            refine takeD (i := 10) (s := 64) (v := .pointer (some ⟨p, 0, none⟩)) rfl rfl (by kernel_rfl) (by kernel_rfl) (by kernel_rfl) (fun _ _ _ h => h) (Or.inl ⟨by rfl, fun w' hS => by obtain ⟨s9, s0, s1, s2⟩ := hS; go_simp⟩) HS1.out ?_
            try simp only [List.setIfInBounds_toArray, List.set_cons_zero, List.set_cons_succ]
            refine takeD (i := 12) (s := 66) (v := .pointer (some ⟨mb, 1, none⟩)) rfl rfl (by kernel_rfl) (by kernel_rfl) (by kernel_rfl) (fun _ _ _ h => h) (Or.inl ⟨by rfl, fun w' hS => by obtain ⟨s9, s0, s1, s2⟩ := hS; go_simp⟩) HS1.out ?_
            try simp only [List.setIfInBounds_toArray, List.set_cons_zero, List.set_cons_succ]
            refine takeD (i := 13) (s := 67) (v := .int .i64 d2.e) rfl rfl (by kernel_rfl) (by kernel_rfl) (by kernel_rfl) (fun _ _ _ h => h) (Or.inl ⟨by rfl, fun w' hS => by obtain ⟨s9, s0, s1, s2⟩ := hS; go_simp⟩) HS1.out ?_
            try simp only [List.setIfInBounds_toArray, List.set_cons_zero, List.set_cons_succ]
            refine takeD (i := 14) (s := 68) (v := .bool (d2.e != 0)) rfl rfl (by kernel_rfl) (by kernel_rfl) (by kernel_rfl) (fun _ _ _ h => h) (Or.inl ⟨by rfl, fun w' hS => by obtain ⟨s9, s0, s1, s2⟩ := hS; go_simp⟩) HS1.out ?_
            try simp only [List.setIfInBounds_toArray, List.set_cons_zero, List.set_cons_succ]
            refine wpAnyH_all (rs := [11]) (by kernel_rfl) (by simp) ?_
            intro i hi
            simp only [List.mem_cons, List.not_mem_nil, or_false] at hi
            subst hi
            refine wpOp_of rfl rfl (fun K hK => ?_)
            go_simp
            refine (HDD.out _ HS1.out.1).mono ?_
            rintro e w17 ⟨rfl, rfl⟩
            refine hK _ _ ⟨HS1.out, ?_⟩
            clear hK K
            refine takeD (i := 15) (s := 69) (v := .bool false) rfl rfl (by kernel_rfl) (by kernel_rfl) (by kernel_rfl) (fun _ _ _ h => h) (Or.inl ⟨by rfl, fun w' hS => by obtain ⟨s9, s0, s1, s2⟩ := hS; go_simp⟩) HS1.out ?_
            try simp only [List.setIfInBounds_toArray, List.set_cons_zero, List.set_cons_succ]
            refine takeD (i := 16) (s := 70) (v := .bool false) rfl rfl (by kernel_rfl) (by kernel_rfl) (by kernel_rfl) (fun _ _ _ h => h) (Or.inl ⟨by rfl, fun w' hS => by obtain ⟨s9, s0, s1, s2⟩ := hS; go_simp⟩) HS1.out ?_
            try simp only [List.setIfInBounds_toArray, List.set_cons_zero, List.set_cons_succ]
            refine takeD (i := 17) (s := 71) (v := .bool false) rfl rfl (by kernel_rfl) (by kernel_rfl) (by kernel_rfl) (fun _ _ _ h => h) (Or.inl ⟨by rfl, fun w' hS => by obtain ⟨s9, s0, s1, s2⟩ := hS; go_simp⟩) HS1.out ?_
            try simp only [List.setIfInBounds_toArray, List.set_cons_zero, List.set_cons_succ]
            refine takeD (i := 18) (s := 72) (v := .pointer (some ⟨p, 0, none⟩)) rfl rfl (by kernel_rfl) (by kernel_rfl) (by kernel_rfl) (fun _ _ _ h => h) (Or.inl ⟨by rfl, fun w' hS => by obtain ⟨s9, s0, s1, s2⟩ := hS; go_simp⟩) HS1.out ?_
            try simp only [List.setIfInBounds_toArray, List.set_cons_zero, List.set_cons_succ]
            refine takeD (i := 20) (s := 74) (v := .pointer (some ⟨mb, 0, none⟩)) rfl rfl (by kernel_rfl) (by kernel_rfl) (by kernel_rfl) (fun _ _ _ h => h) (Or.inl ⟨by rfl, fun w' hS => by obtain ⟨s9, s0, s1, s2⟩ := hS; go_simp⟩) HS1.out ?_
            try simp only [List.setIfInBounds_toArray, List.set_cons_zero, List.set_cons_succ]
            refine takeD (i := 21) (s := 75) (v := .slice A n c) rfl rfl (by kernel_rfl) (by kernel_rfl) (by kernel_rfl) (fun _ _ _ h => h) (Or.inl ⟨by rfl, fun w' hS => by obtain ⟨s9, s0, s1, s2⟩ := hS; go_simp⟩) HS1.out ?_
            try simp only [List.setIfInBounds_toArray, List.set_cons_zero, List.set_cons_succ]
            refine takeD (i := 22) (s := 76) (v := .int .i64 (n : Nat)) rfl rfl (by kernel_rfl) (by kernel_rfl) (by kernel_rfl) (fun _ _ _ h => h) (Or.inl ⟨by rfl, fun w' hS => by obtain ⟨s9, s0, s1, s2⟩ := hS; go_simp⟩) HS1.out ?_
            try simp only [List.setIfInBounds_toArray, List.set_cons_zero, List.set_cons_succ]
            refine wpAnyH_all (rs := [19]) (by kernel_rfl) (by simp) ?_
            intro i hi
            simp only [List.mem_cons, List.not_mem_nil, or_false] at hi
            subst hi
            refine wpOp_of rfl rfl (fun K hK => ?_)
            go_simp
            refine (HHH.out _ HS1.out.1).mono ?_
            rintro e w18 ⟨rfl, rfl⟩
            refine hK _ _ ⟨HS1.out, ?_⟩
            clear hK K
            refine takeD (i := 23) (s := 77) (v := .bool false) rfl rfl (by kernel_rfl) (by kernel_rfl) (by kernel_rfl) (fun _ _ _ h => h) (Or.inl ⟨by rfl, fun w' hS => by obtain ⟨s9, s0, s1, s2⟩ := hS; go_simp⟩) HS1.out ?_
            try simp only [List.setIfInBounds_toArray, List.set_cons_zero, List.set_cons_succ]
            refine takeD (i := 24) (s := 78) (v := .bool false) rfl rfl (by kernel_rfl) (by kernel_rfl) (by kernel_rfl) (fun _ _ _ h => h) (Or.inl ⟨by rfl, fun w' hS => by obtain ⟨s9, s0, s1, s2⟩ := hS; go_simp⟩) HS1.out ?_
            try simp only [List.setIfInBounds_toArray, List.set_cons_zero, List.set_cons_succ]
            refine takeD (i := 25) (s := 79) (v := .bool false) rfl rfl (by kernel_rfl) (by kernel_rfl) (by kernel_rfl) (fun _ _ _ h => h) (Or.inl ⟨by rfl, fun w' hS => by obtain ⟨s9, s0, s1, s2⟩ := hS; go_simp⟩) HS1.out ?_
            try simp only [List.setIfInBounds_toArray, List.set_cons_zero, List.set_cons_succ]
            refine takeD (i := 26) (s := 80) (v := .slice Ao (P.length + 8) co) rfl rfl (by kernel_rfl) (by kernel_rfl) (by kernel_rfl) (fun _ _ _ h => h) (Or.inl ⟨by rfl, fun w' hS => by obtain ⟨s9, s0, s1, s2⟩ := hS; go_simp⟩) HS1.out ?_
            try simp only [List.setIfInBounds_toArray, List.set_cons_zero, List.set_cons_succ]
            refine takeD (i := 27) (s := 81) (v := .slice (some ⟨b, off, none⟩) ls.length c0) rfl rfl (by kernel_rfl) (by kernel_rfl) (by kernel_rfl) (fun _ _ _ h => h) (Or.inl ⟨by rfl, fun w' hS => by obtain ⟨s9, s0, s1, s2⟩ := hS; go_simp⟩) HS1.out ?_
            try simp only [List.setIfInBounds_toArray, List.set_cons_zero, List.set_cons_succ]
            refine takeD (i := 28) (s := 82) (v := .int .i64 (k : Nat)) rfl rfl (by kernel_rfl) (by kernel_rfl) (by kernel_rfl) (fun _ _ _ h => h) (Or.inl ⟨by rfl, fun w' hS => by obtain ⟨s9, s0, s1, s2⟩ := hS; go_simp⟩) HS1.out ?_
            try simp only [List.setIfInBounds_toArray, List.set_cons_zero, List.set_cons_succ]
            refine takeD (i := 29) (s := 83) (v := .pointer (some ⟨b, off + k, none⟩)) rfl rfl (by kernel_rfl) (by kernel_rfl) (by kernel_rfl) (fun _ _ _ h => h) (Or.inl ⟨by rfl, fun w' hS => by obtain ⟨s9, s0, s1, s2⟩ := hS; go_simp⟩) HS1.out ?_
            try simp only [List.setIfInBounds_toArray, List.set_cons_zero, List.set_cons_succ]
            refine takeD (i := 30) (s := 84) (v := .slice Ak P.length ck) rfl rfl (by kernel_rfl) (by kernel_rfl) (by kernel_rfl) (fun _ _ _ h => h) (Or.inl ⟨by rfl, fun w' hS => by obtain ⟨s9, s0, s1, s2⟩ := hS; go_simp⟩) HS1.out ?_
            try simp only [List.setIfInBounds_toArray, List.set_cons_zero, List.set_cons_succ]
            refine wpAnyH_all (rs := [31]) (by kernel_rfl) (by simp) ?_
            intro i hi
            simp only [List.mem_cons, List.not_mem_nil, or_false] at hi
            subst hi
            refine wpOp_of rfl rfl (fun K hK => ?_)
            go_simp
            refine (HSP2.out _ HS1.out.1).mono ?_
            rintro e w19 ⟨A9, c9, rfl, H9⟩
            have HS2 := Lib.hid (SS.of HCC.out H9.out.2)
            refine hK _ _ ⟨HS2.out, ?_⟩
            clear hK K
            refine wpAnyH_all (rs := [32]) (by kernel_rfl) (by simp) ?_
            intro i hi
            simp only [List.mem_cons, List.not_mem_nil, or_false] at hi
            subst hi
            refine wpOp_of rfl rfl (fun K hK => ?_)
            go_simp
            refine (HSB.out _ A9 c9 H9.out).mono ?_
            rintro e w20 ⟨rfl, HB20⟩
            have HS3 := Lib.hid (SS.of HCC.out HB20.out)
            refine hK _ _ ⟨HS3.out, ?_⟩
            clear hK K
            refine takeD (i := 33) (s := 87) (v := .bool false) rfl rfl (by kernel_rfl) (by kernel_rfl) (by kernel_rfl) (fun _ _ _ h => h) (Or.inl ⟨by rfl, fun w' hS => by obtain ⟨s9, s0, s1, s2⟩ := hS; go_simp⟩) HS3.out ?_
            try simp only [List.setIfInBounds_toArray, List.set_cons_zero, List.set_cons_succ]
            refine takeD (i := 34) (s := 88) (v := .bool false) rfl rfl (by kernel_rfl) (by kernel_rfl) (by kernel_rfl) (fun _ _ _ h => h) (Or.inl ⟨by rfl, fun w' hS => by obtain ⟨s9, s0, s1, s2⟩ := hS; go_simp⟩) HS3.out ?_
            try simp only [List.setIfInBounds_toArray, List.set_cons_zero, List.set_cons_succ]
            refine wpAnyH_done (by kernel_rfl) ?_ _
            go_wp2_with fail
            go_meet
            exact ⟨rfl, HB20⟩
        case rest =>
          obtain ⟨rfl, HBC⟩ := hcut
          have HN := Lib.hid (HI15.out.go HBC.out)
          go_wp2
          go_roundw
          case rel => exact ⟨k + 1, d2, hv', hh', bb', A, n, c, by omega, by go_num, HN⟩
          case measure => simp [intOf]; omega
    · go_wp2
      go_ret
      exact ⟨rfl, HI.out.below⟩
end Go.Proofs.YtffblcefnckacaaDoor
