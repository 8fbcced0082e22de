/- FrameMemory: the decoder beside what is written into. -/
import Derived.Test.YtffblcefnckacaaDoorLawB
import Derived.HandedShaped
import Derived.Deep.DeepCutAuto
namespace Go.Proofs.YtffblcefnckacaaDoor
open Go.RowKit Go.Lib Go.Vfs Go.Par Go.Frm Go.Shelf
set_option linter.unusedVariables false
set_option linter.unusedSimpArgs false

/-- the bytes of a slice of one's own are written, one by one; nothing else is. -/
def Flip (w : World) (A : Option Addr) (n : Nat) (wr : World) : Prop :=
  Kept (fun k => A.map (·.block) = some k) w wr ∧ wr.heap.size = w.heap.size ∧ ∀ j, j < n → ∃ g m, A = some ⟨g, 0, none⟩ ∧ wr.cell? ⟨g, j, none⟩ = some (.int .u8 m) ∧ wr.frozen? ⟨g, j, none⟩ = false
theorem Flip.start {w : World} {base : Nat} {A : Option Addr} {c n : Nat} {l : List UInt8} (h : Par.Own w base 5 (.slice A n c) (byteCells l)) (hn : n = l.length) : Flip w A n w := by
  subst hn
  refine ⟨Kept.refl _ _, rfl, fun j hj => ?_⟩
  obtain ⟨_, ⟨e, h0⟩ | ⟨g, cap, cur, e, hb, hg, h1, h2, h3, h4⟩⟩ := h
  · rw [byteCells_length] at h0; omega
  · rw [byteCells_length] at e h4 h1
    injection e with e1 e2 e3
    subst e1
    have hc : cur.toList[j]? = (byteCells l)[j]? := by
      rw [← h4, List.getElem?_take_of_lt]
      omega
    refine ⟨g, (l[j].toNat : Int), rfl, ?_, ?_⟩
    · rw [Go.Joins.cell_of_block hg]
      rw [← Array.getElem?_toList, hc]
      simp [byteCells, hj]
    · exact Go.Joins.unfrozen_of_block hg j
theorem Flip.step {w wr : World} {g n : Nat} (h : Flip w (some ⟨g, 0, none⟩) n wr) (k : Nat) (x : Int) : Flip w (some ⟨g, 0, none⟩) n (wr.setCell ⟨g, k, none⟩ (.int .u8 x)) := by
  obtain ⟨h1, h2, h3⟩ := h
  refine ⟨h1.setCell (p := ⟨g, k, none⟩) (.inl rfl) _, by rw [← h2]; simp, fun j hj => ?_⟩
  obtain ⟨g', m, e, hc, hf⟩ := h3 j hj
  cases e
  obtain ⟨m', hm⟩ := someInt_setCell ⟨m, hc⟩ ⟨g, k, none⟩ x
  exact ⟨g, m', rfl, hm, by rw [World.frozen?_setCell]; exact hf⟩
theorem own_block (A : Option Addr) (n c : Nat) : (Value.slice A n c).ownBlock = A.map (·.block) := by cases A <;> rfl
theorem slice_to (A : Option Addr) (n c N : Nat) (w : World) (h : N ≤ c) : (Instr.slice 22 (.slice A n c) none (some (.int .i64 (N : Int))) none).run Tryd.prog w = .ok (.slice A N c) w := by
  have ht' : Tryd.prog.underlying 22 = some (.slice (Tryd.prog.elem 22)) := by simp [Program.elem, Tryd.underlying22]
  have he : Tryd.prog.elem 22 = 5 := by simp [Program.elem, Tryd.underlying22]
  rw [run_slice_h w 22 _ _ _ ht' .i64 _ (by omega) (by omega), he, Tryd.sizeOf5]
  simp only [Result.andThen, sliced]
  cases A <;> simp [Addr.add]
theorem feed_cut (l : List UInt8) (h : l.length ≤ 65536) (k : Nat) (hk : k < (enc l).length) : feed ⟨[], 0⟩ ((enc l).take k) = ([], ⟨(enc l).take k, 0⟩) := by
  unfold feed
  rw [if_pos rfl, List.nil_append, run_more (msg_cut h hk)]
theorem feed_rest (l : List UInt8) (h : l.length ≤ 65536) (k : Nat) : feed ⟨(enc l).take k, 0⟩ ((enc l).drop k) = ([l], ⟨[], 0⟩) := by
  unfold feed
  rw [if_pos rfl]
  show ((run ((enc l).take k ++ (enc l).drop k)).1, _) = _
  rw [List.take_append_drop]
  have := run_enc (b := l) [] h
  rw [List.append_nil] at this
  rw [this]; rfl
theorem feed_enc (l : List UInt8) (h : l.length ≤ 65536) : feed ⟨[], 0⟩ (enc l) = ([l], ⟨[], 0⟩) := by
  have := feed_rest l h 0
  rwa [List.take_zero, List.drop_zero] at this

/-- the decoder at we's first new block. -/
structure MV (we : World) (d : Dc) (hv : Value) (hh bb : Nat) (wr : World) : Prop where
  dv : DV wr we.heap.size d hv hh bb
  out : ∀ k, FD we.heap.size hv k → we.heap.size ≤ k
  below : Below we.heap.size we wr
theorem MV.turn {we wr wx : World} {d : Dc} {hv : Value} {hh bb n : Nat} {A : Option Addr} (h : MV we d hv hh bb wr) (hf : Flip wr A n wx) (hA : ∀ g, A.map (·.block) = some g → we.heap.size ≤ g ∧ ¬ FD we.heap.size hv g) : MV we d hv hh bb wx :=
  ⟨h.dv.keep fun k hk => hf.1.block k (h.dv.lt k hk) (fun e => (hA k e).2 hk), h.out, h.below.trans (hf.1.below h.below.size fun k e => (hA k e).1)⟩
theorem MV.go {we wr wx : World} {d : Dc} {hv : Value} {hh bb : Nat} (h : MV we d hv hh bb wr) (hb : Below wr.heap.size wr wx) : MV we d hv hh bb wx :=
  ⟨h.dv.keep fun k hk => hb.block k (h.dv.lt k hk), h.out, h.below.trans (hb.mono h.below.size)⟩
theorem MV.feed {we wr wc : World} {d : Dc} {hv : Value} {hh bb : Nat} {m : Int} (h : MV we d hv hh bb wr) {A : Option Addr} {n c : Nat} {L : List UInt8} (hn : n = L.length) (ho : Par.Own wc wr.heap.size 5 (.slice A n c) (byteCells L)) (hb : Below wr.heap.size wr wc)
    (hl : L.length ≤ 1000000000) (hG : Gl wc m) {ls : List (List UInt8)} {d' : Dc} (hfe : Frm.feed d L = (ls, d')) :
    Calls Tryd.prog 17 #[.pointer (some ⟨we.heap.size, 0, none⟩), .slice A n c] wc fun e w' => ∃ Ar cr us hv' hh' bb', e = .returned (.tuple #[.slice Ar ls.length cr, .int .i64 d'.e]) ∧ Flip w' A n w' ∧
      Hid (∀ wx, Flip w' A n wx → MV we d' hv' hh' bb' wx ∧ RX we.heap.size wx ls (.slice Ar ls.length cr) us ∧ ∀ g, InX (.slice Ar ls.length cr) us g → ¬ FD we.heap.size hv' g) := by
  have hc := h.go hb
  refine (feed_s we.heap.size _ _ _ _ _ wc m _ L hc.dv hc.out hc.below.size ho.seg hl hG hfe).mono ?_
  rintro e w' ⟨Ar, cr, us, hv', hh', bb', rfl, HF⟩
  have hblk : ∀ g, A.map (·.block) = some g → wr.heap.size ≤ g ∧ g < wc.heap.size ∧ ¬ FD we.heap.size hv g := fun g e => by
    have h1 := ho.lt g ((own_block A n c).trans e)
    exact ⟨h1.1, h1.2, fun hf => by have := h.dv.lt g hf; omega⟩
  have hdis : ∀ g, A.map (·.block) = some g → ¬ FD we.heap.size hv' g := fun g e hf => by
    have h1 := hblk g e
    rcases HF.out.grows g hf with h2 | h2
    · exact h1.2.2 h2
    · omega
  have how : Par.Own w' wr.heap.size 5 (.slice A n c) (byteCells L) := own_turn ho fun g e => HF.out.kept.block g (ho.lt g e).2 (hblk g ((own_block A n c).symm.trans e)).2.2
  have hmv : MV we d' hv' hh' bb' w' := ⟨HF.out.dv, HF.out.out, hc.below.trans HF.out.below⟩
  have hsz := h.below.size
  refine ⟨Ar, cr, us, hv', hh', bb', rfl, Flip.start how hn, Lib.hid fun wx hf => ⟨hmv.turn hf fun g e => ⟨by have := (hblk g e).1; omega, hdis g e⟩, ?_, HF.out.sep⟩⟩
  refine (HF.out.rx.keep fun g hg => hf.1.block g (HF.out.rx.lt g hg).2 fun e => ?_).base hc.below.size
  have h1 := (HF.out.rx.lt g hg).1
  have h2 := (hblk g e).2.1
  omega
theorem MV.row {we wx : World} {d : Dc} {hv rv : Value} {us : List Value} {hh bb : Nat} {l : List UInt8} (h : MV we d hv hh bb wx) (hx : RX we.heap.size wx [l] rv us) (hs : ∀ g, InX rv us g → ¬ FD we.heap.size hv g) :
    ∃ g Ax cx, (∃ c', rv = .slice (some ⟨g, 0, none⟩) 1 c') ∧ Hid (∀ (o : Obj) (q : Nat), ((wx.alloc o).drewN q).cell? ⟨g, 0, none⟩ = some (.slice Ax l.length cx) ∧ Flip ((wx.alloc o).drewN q) Ax l.length ((wx.alloc o).drewN q) ∧
      ∀ wz, Flip ((wx.alloc o).drewN q) Ax l.length wz → MV we d hv hh bb wz ∧ wz.cell? ⟨g, 0, none⟩ = some (.slice Ax l.length cx)) := by
  have hlen := hx.len
  have h0 : 0 < [l].length := Nat.one_pos
  have hown := hx.own
  have heach := hx.each 0 h0
  obtain ⟨Ax, cx, hu⟩ := heach.form
  rw [byteCells_length] at hu
  have hlt0 := hx.lt
  rcases hown.2 with ⟨-, h1⟩ | ⟨g, cap, cur, rfl, hrest⟩
  · rw [hlen] at h1; cases h1
  have hul : us.length = 1 := hlen
  refine ⟨g, Ax, cx, ⟨cap, by rw [hul]⟩, Lib.hid fun o q => ?_⟩
  have hbel : Below wx.heap.size wx ((wx.alloc o).drewN q) := below_drewN ((Below.refl _ _).alloc (Nat.le_refl _) o) q
  have hcell : wx.cell? ⟨g, 0, none⟩ = some (us.getD 0 (.bool false)) := by
    have hc := World.ownsRow.cells (g := g) hown rfl 0 (us.getD 0 (.bool false)) (by rw [List.getD_eq_getElem?_getD, List.getElem?_eq_getElem (by omega)]; rfl)
    exact hc
  rw [hu] at hcell
  have hg := hlt0 g (.inl rfl)
  have hcy : ((wx.alloc o).drewN q).cell? ⟨g, 0, none⟩ = some (.slice Ax l.length cx) := (World.cell?_of_block (a := ⟨g, 0, none⟩) (hbel.block g hg.2)).trans hcell
  have hin : ∀ k, Ax.map (·.block) = some k → (us.getD 0 (.bool false)).ownBlock = some k := fun k e => by rw [hu, own_block]; exact e
  have hoy := (heach.below hbel)
  rw [hu] at hoy
  have hy := h.go hbel
  refine ⟨hcy, Flip.start hoy rfl, fun wz hf => ⟨hy.turn hf fun k e => ⟨(hlt0 k (.inr ⟨0, by omega, hin k e⟩)).1, hs k (.inr ⟨0, by omega, hin k e⟩)⟩, ?_⟩⟩
  refine (World.cell?_of_block (a := ⟨g, 0, none⟩) (hf.1.block g (Nat.lt_of_lt_of_le hg.2 hbel.size) fun e => ?_)).trans hcy
  exact hx.vsep 0 h0 g (hin g e) rfl
theorem samerow_s (x v0 : Value) (l0 : List UInt8) (wr : World) (hx : RowsAt (· < wr.heap.size) wr x [l0]) (h0 : Seg wr wr.heap.size v0 (byteCells l0)) :
    Calls Tryd.prog 18 #[x, .slice (some ⟨wr.heap.size, 0, none⟩) 1 1] (wr.alloc (.cells #[v0] 22)) fun e w' => e = .returned (.bool true) ∧ ∃ q, w' = (wr.alloc (.cells #[v0] 22)).drewN q := by
  have hb : Below wr.heap.size wr (wr.alloc (.cells #[v0] 22)) := (Below.refl _ _).alloc (Nat.le_refl _) _
  have := sameRows_any _ _ _ _ _ (hx.keep (S' := (· < (wr.alloc (.cells #[v0] 22)).heap.size)) fun b hbk => ⟨Nat.lt_of_lt_of_le hbk hb.size, hb.block b hbk⟩) (rows_one wr v0 l0 h0)
  rwa [decide_eq_true rfl] at this
end Go.Proofs.YtffblcefnckacaaDoor
