/- Feed in slice form; alive. -/
import Derived.Test.YtffblcefnckacaaDoorFY
namespace Go.Proofs.YtffblcefnckacaaDoor
open Go.RowKit Go.Lib Go.Vfs Go.Par Go.Frm Go.Shelf
set_option linter.unusedVariables false
set_option linter.unusedSimpArgs false

/-- what Feed leaves. -/
structure FeedR (B : Nat) (w : World) (p : Nat) (ls : List (List UInt8)) (d' : Dc) (hv : Value) (rv : Value) (us : List Value) (hv' : Value) (hh' bb' : Nat) (w' : World) : Prop where
  dv : DV w' p d' hv' hh' bb'
  rx : RX w.heap.size w' ls rv us
  kept : Kept (FD p hv) w w'
  grows : Grows w (FD p hv) (FD p hv')
  sep : ∀ g, InX rv us g → ¬ FD p hv' g
  below : Below B w w'
  out : ∀ k, FD p hv' k → B ≤ k
theorem feed_s (B : Nat) (p : Nat) (d : Dc) (hv : Value) (hh bb : Nat) (w : World) (m : Int) (v : Value) (b : List UInt8) (h : DV w p d hv hh bb) (hB : ∀ k, FD p hv k → B ≤ k) (hBw : B ≤ w.heap.size) (hs : Seg w w.heap.size v (byteCells b)) (hl : b.length ≤ 1000000000) (hG : Gl w m)
    {ls : List (List UInt8)} {d' : Dc} (hfe : feed d b = (ls, d')) :
    Calls Tryd.prog 17 #[.pointer (some ⟨p, 0, none⟩), v] w fun e w' => ∃ Ar cr us hv' hh' bb', e = .returned (.tuple #[.slice Ar ls.length cr, .int .i64 d'.e]) ∧ Hid (FeedR B w p ls d' hv (.slice Ar ls.length cr) us hv' hh' bb' w') := by
  refine (feed_any p d hv hh bb w m v b h hs hl hG.tabs hG.max).mono ?_
  rintro e w' ⟨rv, us, hv', hh', bb', rfl, h1, h2, h3, h4, h5⟩
  rw [hfe] at h1 h2 ⊢
  obtain ⟨Ar, cr, rfl⟩ := h2.own.form
  rw [h2.len] at h2 h5 ⊢
  exact ⟨Ar, cr, us, hv', hh', bb', rfl, Lib.hid ⟨h1, h2, h3, h4, h5, h3.below hBw hB, fun k hk => by rcases h4 k hk with h | h; exact hB k h; omega⟩⟩
theorem encode_s (v : Value) (l : List UInt8) (w : World) (m : Int) (hs : Seg w w.heap.size v (byteCells l)) (hl : l.length ≤ 65536) (hG : Gl w m) :
    Calls Tryd.prog 12 #[v] w fun e w' => ∃ A c, e = .returned (.tuple #[.slice A (enc l).length c, .int .i64 0]) ∧ Hid (SegS (fun k => w.heap.size ≤ k ∧ k < w'.heap.size) w' (.slice A (enc l).length c) (byteCells (enc l)) ∧ Below w.heap.size w w') := by
  refine (encode_any v l w m hs hl hG).mono ?_
  rintro e w' ⟨u, rfl, h1, h2⟩
  obtain ⟨A, c, rfl, a1, a2, a3⟩ := h1
  rw [byteCells_length] at a1 a3 ⊢
  refine ⟨A, c, rfl, Lib.hid ⟨⟨A, c, by rw [byteCells_length], by rw [byteCells_length]; exact a1, a2, fun hp => ?_⟩, h2⟩⟩
  rw [byteCells_length] at hp ⊢
  obtain ⟨b, off, e1, e2, e3⟩ := a3 hp
  exact ⟨b, off, e1, ⟨e2, by have := e3 0 hp; have h := this.trans (List.getElem?_eq_getElem (by rw [byteCells_length]; exact hp)); exact World.block_lt_of_cell? _ _ h⟩, e3⟩

def L1 : List UInt8 := [99, 111, 110, 116, 101, 110, 116, 45, 76, 69, 78, 71, 84, 72, 58, 50, 32, 13, 10, 88, 58, 32, 121, 13, 10, 13, 10, 97]
theorem feed_L1 : feed ⟨[], 0⟩ L1 = ([], ⟨L1, 0⟩) := by kernel_rfl
theorem feed_L2 : feed ⟨L1, 0⟩ [98] = ([[97, 98]], ⟨[], 0⟩) := by kernel_rfl
theorem enc_ab : enc [97, 98] = [67, 111, 110, 116, 101, 110, 116, 45, 76, 101, 110, 103, 116, 104, 58, 32, 50, 13, 10, 13, 10, 97, 98] := by kernel_rfl

theorem lit_seg (W : World) (cs : Array Value) (l : List UInt8) (g : Nat × Nat) (hx : cs = (byteCells l).toArray) (hm : l.length ≤ 1000) : Seg (W.alloc (.cells cs 5 g)) (W.alloc (.cells cs 5 g)).heap.size (.slice (some ⟨W.heap.size, 0, none⟩) l.length l.length) (byteCells l) := by
  have := Seg.lit W 5 g cs (byteCells l) hx (by rw [byteCells_length]; unfold maxLen; omega)
  rw [byteCells_length] at this
  simpa using this

theorem rows_one (W : World) (vx : Value) (l : List UInt8) (h : Seg W W.heap.size vx (byteCells l)) : RowsAt (· < (W.alloc (.cells #[vx] 22)).heap.size) (W.alloc (.cells #[vx] 22)) (.slice (some ⟨W.heap.size, 0, none⟩) 1 1) [l] := by
  have hb : Below W.heap.size W (W.alloc (.cells #[vx] 22)) := (Below.refl _ _).alloc (Nat.le_refl _) _
  refine ⟨[vx], rfl, ?_, fun i hi => ?_⟩
  · have := Seg.new W 22 #[vx] [vx] rfl (by simp [maxLen])
    have e : (W.alloc (.cells #[vx] 22)).heap.size = W.heap.size + 1 := by simp
    rw [e]
    exact this.toS
  · have hi0 : i = 0 := by simpa using hi
    subst hi0
    exact (h.below hb).more hb.size

set_option maxRecDepth 100000 in
set_option maxHeartbeats 800000 in
theorem alive_any (w : World) (m : Int) (hG : Gl w m) : Calls Tryd.prog 10 #[] w fun e w' => e = .returned (.bool true) ∧ Below w.heap.size w w' := by
  have hcv1 := fun (W : World) => Lib.run_convert_bytes_const (P := Tryd.prog) W 22 5 #[Value.int IntKind.u8 99, Value.int IntKind.u8 111, Value.int IntKind.u8 110, Value.int IntKind.u8 116, Value.int IntKind.u8 101, Value.int IntKind.u8 110, Value.int IntKind.u8 116, Value.int IntKind.u8 45, Value.int IntKind.u8 76, Value.int IntKind.u8 69, Value.int IntKind.u8 78, Value.int IntKind.u8 71, Value.int IntKind.u8 84, Value.int IntKind.u8 72, Value.int IntKind.u8 58, Value.int IntKind.u8 50, Value.int IntKind.u8 32, Value.int IntKind.u8 13, Value.int IntKind.u8 10, Value.int IntKind.u8 88, Value.int IntKind.u8 58, Value.int IntKind.u8 32, Value.int IntKind.u8 121, Value.int IntKind.u8 13, Value.int IntKind.u8 10, Value.int IntKind.u8 13, Value.int IntKind.u8 10, Value.int IntKind.u8 97] 28 28 Tryd.underlying22 Tryd.underlying5
  have hcv2 := fun (W : World) => Lib.run_convert_bytes_const (P := Tryd.prog) W 22 5 #[Value.int IntKind.u8 98] 1 1 Tryd.underlying22 Tryd.underlying5
  have hcv3 := fun (W : World) => Lib.run_convert_bytes_const (P := Tryd.prog) W 22 5 #[Value.int IntKind.u8 97, Value.int IntKind.u8 98] 2 2 Tryd.underlying22 Tryd.underlying5
  have hz := hG.size
  have HN : Hid (Calls Tryd.prog 16 #[] w fun e w1 => e = .returned (.pointer (some ⟨w.heap.size, 0, none⟩)) ∧ Hid (DV w1 w.heap.size ⟨[], 0⟩ (.slice none 0 0) 0 0 ∧ Below w.heap.size w w1)) := Lib.hid ((new_any w hz).mono fun e w1 ⟨h1, h2, h3⟩ => ⟨h1, Lib.hid ⟨h2, h3⟩⟩)
  have HF1 : Hid (∀ W, DV W w.heap.size ⟨[], 0⟩ (.slice none 0 0) 0 0 ∧ Below w.heap.size w W → Calls Tryd.prog 17 #[.pointer (some ⟨w.heap.size, 0, none⟩), .slice (some ⟨W.heap.size, 0, none⟩) 28 28] (W.alloc (Obj.cells #[Value.int IntKind.u8 99, Value.int IntKind.u8 111, Value.int IntKind.u8 110, Value.int IntKind.u8 116, Value.int IntKind.u8 101, Value.int IntKind.u8 110, Value.int IntKind.u8 116, Value.int IntKind.u8 45, Value.int IntKind.u8 76, Value.int IntKind.u8 69, Value.int IntKind.u8 78, Value.int IntKind.u8 71, Value.int IntKind.u8 84, Value.int IntKind.u8 72, Value.int IntKind.u8 58, Value.int IntKind.u8 50, Value.int IntKind.u8 32, Value.int IntKind.u8 13, Value.int IntKind.u8 10, Value.int IntKind.u8 88, Value.int IntKind.u8 58, Value.int IntKind.u8 32, Value.int IntKind.u8 121, Value.int IntKind.u8 13, Value.int IntKind.u8 10, Value.int IntKind.u8 13, Value.int IntKind.u8 10, Value.int IntKind.u8 97] 5 (28, 29))) fun e w3 => ∃ Ar cr us hv hh bb, e = .returned (.tuple #[.slice Ar 0 cr, .int .i64 0]) ∧ Hid (DV w3 w.heap.size ⟨L1, 0⟩ hv hh bb ∧ (∀ k, FD w.heap.size hv k → w.heap.size ≤ k) ∧ Below w.heap.size w w3)) := Lib.hid (by
    rintro W ⟨hd, hb⟩
    have hbl := hb.alloc hb.size (Obj.cells #[Value.int IntKind.u8 99, Value.int IntKind.u8 111, Value.int IntKind.u8 110, Value.int IntKind.u8 116, Value.int IntKind.u8 101, Value.int IntKind.u8 110, Value.int IntKind.u8 116, Value.int IntKind.u8 45, Value.int IntKind.u8 76, Value.int IntKind.u8 69, Value.int IntKind.u8 78, Value.int IntKind.u8 71, Value.int IntKind.u8 84, Value.int IntKind.u8 72, Value.int IntKind.u8 58, Value.int IntKind.u8 50, Value.int IntKind.u8 32, Value.int IntKind.u8 13, Value.int IntKind.u8 10, Value.int IntKind.u8 88, Value.int IntKind.u8 58, Value.int IntKind.u8 32, Value.int IntKind.u8 121, Value.int IntKind.u8 13, Value.int IntKind.u8 10, Value.int IntKind.u8 13, Value.int IntKind.u8 10, Value.int IntKind.u8 97] 5 (28, 29))
    refine (feed_s w.heap.size w.heap.size _ _ 0 0 (W.alloc (Obj.cells #[Value.int IntKind.u8 99, Value.int IntKind.u8 111, Value.int IntKind.u8 110, Value.int IntKind.u8 116, Value.int IntKind.u8 101, Value.int IntKind.u8 110, Value.int IntKind.u8 116, Value.int IntKind.u8 45, Value.int IntKind.u8 76, Value.int IntKind.u8 69, Value.int IntKind.u8 78, Value.int IntKind.u8 71, Value.int IntKind.u8 84, Value.int IntKind.u8 72, Value.int IntKind.u8 58, Value.int IntKind.u8 50, Value.int IntKind.u8 32, Value.int IntKind.u8 13, Value.int IntKind.u8 10, Value.int IntKind.u8 88, Value.int IntKind.u8 58, Value.int IntKind.u8 32, Value.int IntKind.u8 121, Value.int IntKind.u8 13, Value.int IntKind.u8 10, Value.int IntKind.u8 13, Value.int IntKind.u8 10, Value.int IntKind.u8 97] 5 (28, 29))) m _ L1 (hd.keep fun k hk => Below.heap_alloc _ _ _ (hd.lt k hk)) (fun k hk => by rcases hk with rfl | e; exact Nat.le_refl _; cases e) hbl.size (lit_seg W _ L1 _ rfl (by decide)) (by decide) (hG.below hbl) feed_L1).mono ?_
    rintro e w3 ⟨Ar, cr, us, hv, hh, bb, rfl, HR⟩
    exact ⟨Ar, cr, us, hv, hh, bb, rfl, Lib.hid ⟨HR.out.dv, HR.out.out, hbl.trans HR.out.below⟩⟩)
  have HF2 : Hid (∀ W hv hh bb, DV W w.heap.size ⟨L1, 0⟩ hv hh bb ∧ (∀ k, FD w.heap.size hv k → w.heap.size ≤ k) ∧ Below w.heap.size w W → Calls Tryd.prog 17 #[.pointer (some ⟨w.heap.size, 0, none⟩), .slice (some ⟨W.heap.size, 0, none⟩) 1 1] (W.alloc (Obj.cells #[Value.int IntKind.u8 98] 5 (1, 2))) fun e w3 => ∃ Ar cr, e = .returned (.tuple #[.slice Ar 1 cr, .int .i64 0]) ∧ Hid (RowsAt (· < w3.heap.size) w3 (.slice Ar 1 cr) [[97, 98]] ∧ Below w.heap.size w w3)) := Lib.hid (by
    rintro W hv hh bb ⟨hd, ho, hb⟩
    have hbl := hb.alloc hb.size (Obj.cells #[Value.int IntKind.u8 98] 5 (1, 2))
    refine (feed_s w.heap.size w.heap.size _ _ hh bb (W.alloc (Obj.cells #[Value.int IntKind.u8 98] 5 (1, 2))) m _ [98] (hd.keep fun k hk => Below.heap_alloc _ _ _ (hd.lt k hk)) ho hbl.size (lit_seg W _ [98] _ rfl (by decide)) (by decide) (hG.below hbl) feed_L2).mono ?_
    rintro e w3 ⟨Ar, cr, us, hv, hh, bb, rfl, HR⟩
    exact ⟨Ar, cr, rfl, Lib.hid ⟨HR.out.rx.rows.sub fun b hb => (HR.out.rx.lt b hb).2, hbl.trans HR.out.below⟩⟩)
  have HEN : Hid (∀ W, Below w.heap.size w W → Calls Tryd.prog 12 #[.slice (some ⟨W.heap.size, 0, none⟩) 2 2] (W.alloc (Obj.cells #[Value.int IntKind.u8 97, Value.int IntKind.u8 98] 5 (2, 3))) fun e w3 => ∃ A c, e = .returned (.tuple #[.slice A 23 c, .int .i64 0]) ∧ Hid (Seg w3 w3.heap.size (.slice A 23 c) (byteCells [67, 111, 110, 116, 101, 110, 116, 45, 76, 101, 110, 103, 116, 104, 58, 32, 50, 13, 10, 13, 10, 97, 98]) ∧ Below W.heap.size W w3)) := Lib.hid (by
    intro W hb
    have hbl := hb.alloc hb.size (Obj.cells #[Value.int IntKind.u8 97, Value.int IntKind.u8 98] 5 (2, 3))
    refine (encode_s _ [97, 98] (W.alloc (Obj.cells #[Value.int IntKind.u8 97, Value.int IntKind.u8 98] 5 (2, 3))) m (lit_seg W _ [97, 98] _ rfl (by decide)) (by decide) (hG.below hbl)).mono ?_
    rintro e w3 ⟨A, c, rfl, HR⟩
    rw [enc_ab] at HR ⊢
    exact ⟨A, c, rfl, Lib.hid ⟨HR.out.1.seg fun k hk => hk.2, ((Below.refl _ _).alloc (Nat.le_refl _) (Obj.cells #[Value.int IntKind.u8 97, Value.int IntKind.u8 98] 5 (2, 3))).trans (HR.out.2.mono (by simp))⟩⟩)
  clear hG
  go_enter Tryd.func10, Tryd.ntmps10
  go_wp2_with (go_at_call 16; refine HN.out.mono ?_; rintro e w1 ⟨rfl, HD1⟩)
  refine (HF1.out w1 HD1.out).mono ?_
  rintro e w3 ⟨A1', c1', us1, hv1, hh1, bb1, rfl, HD3⟩
  go_wp2_with fail
  refine (HF2.out w3 _ _ _ HD3.out).mono ?_
  rintro e w5 ⟨A2', c2', rfl, HD5⟩
  go_wp2_with fail
  refine (HEN.out w5 HD5.out.2).mono ?_
  rintro e w7 ⟨A3', c3', rfl, HD7⟩
  have hcs : ∀ X, Below w7.heap.size w7 X → (convert 22 9 (.slice A3' 23 c3')).run Tryd.prog X = .ok (.string ⟨#[67, 111, 110, 116, 101, 110, 116, 45, 76, 101, 110, 103, 116, 104, 58, 32, 50, 13, 10, 13, 10, 97, 98]⟩) X := fun X hX => conv_seg (HD7.out.1.below hX)
  have HCS := Lib.hid hcs
  clear hcs
  go_wp2_with fail
  have hb8 : Below w7.heap.size w7 (w7.alloc (Obj.cells #[Value.int IntKind.u8 97, Value.int IntKind.u8 98] 5 (2, 3))) := (Below.refl _ _).alloc (Nat.le_refl _) _
  have hb9 : Below w7.heap.size w7 ((w7.alloc (Obj.cells #[Value.int IntKind.u8 97, Value.int IntKind.u8 98] 5 (2, 3))).alloc (Obj.cells #[Value.slice (some { block := w7.heap.size, off := 0 }) 2 2] 22)) := hb8.alloc hb8.size _
  have hr1 := (HD5.out.1).keep (S' := (· < ((w7.alloc (Obj.cells #[Value.int IntKind.u8 97, Value.int IntKind.u8 98] 5 (2, 3))).alloc (Obj.cells #[Value.slice (some { block := w7.heap.size, off := 0 }) 2 2] 22)).heap.size)) (fun b hb => ⟨Nat.lt_of_lt_of_le hb (HD7.out.2.trans (hb9.mono HD7.out.2.size)).size, (HD7.out.2.trans (hb9.mono HD7.out.2.size)).block b hb⟩)
  have hr2 := rows_one (w7.alloc (Obj.cells #[Value.int IntKind.u8 97, Value.int IntKind.u8 98] 5 (2, 3))) _ [97, 98] (lit_seg w7 _ [97, 98] _ rfl (by decide))
  have e8 : (w7.alloc (Obj.cells #[Value.int IntKind.u8 97, Value.int IntKind.u8 98] 5 (2, 3))).heap.size = w7.heap.size + 1 := by simp
  rw [e8] at hr2
  refine (sameRows_any _ _ _ _ _ hr1 hr2).mono ?_
  rintro e w9 ⟨rfl, q, rfl⟩
  have hcs := HCS.out _ (below_drewN hb9 q)
  have HB9 := Lib.hid (below_drewN hb9 q)
  rw [decide_eq_true rfl]
  clear hr1 hr2 hb8 hb9
  go_wp2
  go_ret
  exact ⟨rfl, HD5.out.2.trans ((HD7.out.2.trans (HB9.out.mono HD7.out.2.size)).mono HD5.out.2.size)⟩
end Go.Proofs.YtffblcefnckacaaDoor
