/- The reference: Feed, walked. -/
import Derived.Test.YtffblcefnckacaaDoorLawV
namespace Go.Proofs.YtffblcefnckacaaDoor
open Go.RowKit Go.Lib Go.Vfs Go.Par Go.Frm Go.Shelf
set_option linter.unusedVariables false
set_option linter.unusedSimpArgs false

/-- the length of what the box holds. -/
def restLen (w W : World) : Nat := lenV ((W.cell? ⟨w.heap.size, 0, none⟩).getD (.bool false))
theorem J2.restLen {w W : World} {rv : Value} {e : Int} (h : J2 w rv e W) : restLen w W = lenV rv := by
  unfold Proofs.YtffblcefnckacaaDoor.restLen; rw [h.cells.1]; rfl
theorem RF.more {w W : World} {T : Nat} {tot cur : List UInt8} {A : Option Addr} {n c : Nat} {outs : List (List UInt8)} {Ar : Option Addr} {N cr : Nat} {us : List Value}
    (h : RF w T tot cur A n c outs (.slice Ar N cr) us W) (hN : N = outs.length) (hm : msg cur = .more) {W2 : World} (hk : Kept (fun b => b = w.heap.size ∨ b = w.heap.size + 1) W W2) :
    RFPost w (Frm.run tot).1 ⟨(Frm.run tot).2.1, (Frm.run tot).2.2⟩ (.returned (.tuple #[.agg #[.slice A n c, .int .i64 0], .slice Ar N cr, .int .i64 0])) W2 := by
  have h1 := h.run
  rw [run_more hm, List.append_nil] at h1
  have h2 := h.fin (m := 0) hk hN (A' := A) (c' := c) (rest' := cur) (e' := 0) h1 (by rw [← h.len]; exact h.seg) h.nil
  rwa [← h.len] at h2
theorem RF.bad {w W : World} {T : Nat} {tot cur : List UInt8} {A : Option Addr} {n c : Nat} {outs : List (List UInt8)} {Ar : Option Addr} {N cr : Nat} {us : List Value} {er : Int}
    (h : RF w T tot cur A n c outs (.slice Ar N cr) us W) (hN : N = outs.length) (hm : msg cur = .bad er) {W2 : World} (hk : Kept (fun b => b = w.heap.size ∨ b = w.heap.size + 1) W W2) :
    RFPost w (Frm.run tot).1 ⟨(Frm.run tot).2.1, (Frm.run tot).2.2⟩ (.returned (.tuple #[.agg #[.slice none 0 0, .int .i64 er], .slice Ar N cr, .int .i64 er])) W2 := by
  have h1 := h.run
  rw [run_bad hm, List.append_nil] at h1
  exact h.fin (m := 0) hk hN (A' := none) (c' := 0) (rest' := []) (e' := er) h1 ⟨none, 0, rfl, Nat.le_refl _, by simp [maxLen], fun hp => absurd hp (by simp [byteCells])⟩ (fun _ => rfl)
theorem RF.go {w W W' : World} {T : Nat} {tot cur : List UInt8} {A : Option Addr} {n c : Nat} {outs : List (List UInt8)} {ov : Value} {us : List Value} (h : RF w T tot cur A n c outs ov us W) (hb : Below W.heap.size W W') : RF w T tot cur A n c outs ov us W' :=
  ⟨h.box.far h.box.size hb, h.seg.keep fun k hk => ⟨hk, hb.block k (by have := h.tz; omega)⟩, h.len, h.nil, h.rx.keep fun g hg => hb.block g (h.rx.lt g hg).2, ⟨h.tz.1, by have := h.tz; have := hb.size; omega⟩, h.run, h.few⟩
theorem RF.next {w W w10 w11 : World} {T : Nat} {tot cur : List UInt8} {A : Option Addr} {n c M l : Nat} {outs : List (List UInt8)} {Ar : Option Addr} {N cr : Nat} {us : List Value}
    (h : RF w T tot cur A n c outs (.slice Ar N cr) us W) (hm : msg cur = .body M l) (hb : Below W.heap.size W w10) {u : Value} (hu : Par.Own w10 W.heap.size 5 u (byteCells ((cur.drop M).take l)))
    {v' : Value} (o : Obj) (hown : Par.Own w11 T 22 v' (us ++ [u])) (hg : (w10.alloc o).grownBy w11 (Value.slice Ar N cr).ownBlock) (hat : v'.ownBlock = (Value.slice Ar N cr).ownBlock ∨ v'.ownBlock = some (w10.heap.size + 1))
    {A8 : Option Addr} {n8 c8 : Nat} (h8 : SegS (fun k => w.heap.size + 2 ≤ k ∧ k < T) W (.slice A8 n8 c8) (byteCells (cur.drop (M + l)))) (hn8 : n8 = (cur.drop (M + l)).length) (hnil : A8 = none → c8 = 0) :
    J2 w (.slice A n c) 0 w11 ∧ RF w T tot (cur.drop (M + l)) A8 n8 c8 (outs ++ [(cur.drop M).take l]) v' (us ++ [u]) (w11.setCell ⟨w.heap.size, 0, none⟩ (.slice A8 n8 c8)) := by
  have hz10 := hb.size
  have htz := h.tz
  have hrx := h.rx.next htz.2 hb hu o hown hg hat
  have hbT : Below T W w11 := below_app ((hb.mono htz.2).alloc (by omega) o) ((own_turn h.rx.own fun g e => hb.block g (h.rx.lt g (.inl e)).2).alloc o) hg (by simp; omega)
  have hz11 := hbT.size
  have hbox := h.box.far htz.1 hbT
  have hk := setK w w11 (.slice A8 n8 c8) 0
  have hks := hk.size
  obtain ⟨-, hm2, -, hm4, -⟩ := msg_body hm
  refine ⟨hbox, hbox.setV _, h8.keep fun k hk2 => ⟨hk2, (hk.block k (by omega) (by omega)).trans (hbT.block k hk2.2)⟩, hn8, hnil, hrx.keep fun g hg2 => ?_, ⟨htz.1, by omega⟩, ?_, ?_⟩
  · have := hrx.lt g hg2
    exact hk.block g this.2 (by omega)
  · rw [h.run, run_body hm]; simp
  · have := h.few
    rw [List.length_append, List.length_drop, List.length_singleton]; omega
theorem box_kept (w W : World) {W' : World} (h : Kept (fun b => b = w.heap.size ∨ b = w.heap.size + 1) W W') (i : Nat) (u : Value) : Kept (fun b => b = w.heap.size ∨ b = w.heap.size + 1) W (W'.setCell ⟨w.heap.size, i, none⟩ u) :=
  Kept.setCell (F := fun b => b = w.heap.size ∨ b = w.heap.size + 1) (p := ⟨w.heap.size, i, none⟩) h (.inl (.inl rfl)) u
theorem box_kept1 (w W : World) {W' : World} (h : Kept (fun b => b = w.heap.size ∨ b = w.heap.size + 1) W W') (i : Nat) (u : Value) : Kept (fun b => b = w.heap.size ∨ b = w.heap.size + 1) W (W'.setCell ⟨w.heap.size + 1, i, none⟩ u) :=
  Kept.setCell (F := fun b => b = w.heap.size ∨ b = w.heap.size + 1) (p := ⟨w.heap.size + 1, i, none⟩) h (.inl (.inr rfl)) u

set_option maxRecDepth 100000 in
set_option maxHeartbeats 4000000 in
theorem rfeed_any (A : Option Addr) (n c : Nat) (d : Dc) (vb : Value) (b : List UInt8) (w : World) (hn : n = d.rest.length) (hs : Seg w w.heap.size (.slice A n c) (byteCells d.rest)) (hnil : A = none → c = 0) (hb : Seg w w.heap.size vb (byteCells b)) (hl : d.rest.length + b.length ≤ 400000)
    (hd : d.e ≠ 0 → d.rest = []) {ls : List (List UInt8)} {d' : Dc} (hfe : feed d b = (ls, d')) :
    Calls Tryd.prog 22 #[.agg #[.slice A n c, .int .i64 d.e], vb] w (RFPost w ls d') := by
  obtain ⟨rest, er⟩ := d
  obtain ⟨Ab, cb, rfl, -, -, -⟩ := hb.open_bytes
  dsimp only at hn hs hl hd ⊢
  by_cases he : er = 0
  · subst he
    unfold feed at hfe
    rw [if_pos rfl] at hfe
    dsimp only at hfe
    obtain ⟨tot, htot⟩ : ∃ tot, tot = rest ++ b := ⟨_, rfl⟩
    rw [← htot] at hfe
    obtain rfl : ls = (run tot).1 := (Prod.mk.inj hfe).1.symm
    obtain rfl : d' = ⟨(run tot).2.1, (run tot).2.2⟩ := (Prod.mk.inj hfe).2.symm
    clear hfe hd
    have hj := J2.start w 0 (.slice A n c)
    have hcp := copy_s (.slice A n c) rest _ ((hs.below hj.below).more hj.below.size) (by omega)
    rw [← hn] at hcp
    obtain ⟨P, hP⟩ : ∃ P, P = RFPost w (run tot).1 ⟨(run tot).2.1, (run tot).2.2⟩ := ⟨_, rfl⟩
    rw [← hP]
    have HP := Lib.hid hP; have HJ := Lib.hid hj; have HCP := Lib.hid hcp; have HTOT := Lib.hid htot; have HB := Lib.hid hb; have HN := Lib.hid hn
    have hnl : n + b.length ≤ 400000 := by omega
    clear hP hj hcp htot hb hs hl hn hnil
    go_enter Tryd.func22, Tryd.ntmps22
    go_wp2_with fail
    refine HCP.out.mono ?_
    rintro e w3 ⟨A3, c3, rfl, HC⟩
    have hj3 := HJ.out.far (by simp) HC.out.2
    have hb3 := (HB.out.below hj3.below).more hj3.below.size
    have HJ3 := Lib.hid hj3; have HB3 := Lib.hid hb3
    obtain ⟨x0, x1, x2, x3, x4, x5, x6, x7⟩ := hj3.cells
    clear hj3 hb3
    go_wp2_with (at_builtin; refine wpList_app _ rfl _ _ _ rfl (w.heap.size + 2) 5 _ byteE _ _ rfl (HC.out.1.base (by simp)) w3.heap.size _ _ rfl HB3.out (one_bytes _) ?k1 ?k2 ?_)
    case k1 => rw [byteCells_length, byteCells_length, ← HN.out]; omega
    case k2 => have := HJ3.out.size; omega
    intro v5 w5 hown5 hg5 hat5
    obtain ⟨A5, c5, hv5⟩ := hown5.form
    rw [List.length_append, byteCells_length, byteCells_length, ← HN.out] at hv5
    have hbx : Below (w.heap.size + 2) w3 w5 := below_app (Below.refl _ _) (HC.out.1.base (by simp)) hg5 HJ3.out.size
    have hj5 := HJ3.out.far (Nat.le_refl _) hbx
    have hj6 := hj5.setV v5
    have hz6 : (w5.setCell ⟨w.heap.size, 0, none⟩ v5).heap.size = w5.heap.size := by simp
    have hown6 : Par.Own (w5.setCell ⟨w.heap.size, 0, none⟩ v5) (w.heap.size + 2) 5 v5 (byteCells tot) := by
      have h1 : Par.Own w5 (w.heap.size + 2) 5 v5 (byteCells tot) := by rw [HTOT.out, byteCells_append]; exact hown5
      refine own_turn h1 fun g e => ?_
      have := h1.lt g e
      exact (setK w w5 v5 0).block g this.2 (by omega)
    have hRF0 : RF w w5.heap.size tot tot A5 (n + b.length) c5 [] (.slice (some ⟨w5.heap.size, 0, none⟩) 0 0) [] ((w5.setCell ⟨w.heap.size, 0, none⟩ v5).alloc (.cells #[] 22)) := by
      have hba : Below (w5.setCell ⟨w.heap.size, 0, none⟩ v5).heap.size (w5.setCell ⟨w.heap.size, 0, none⟩ v5) ((w5.setCell ⟨w.heap.size, 0, none⟩ v5).alloc (.cells #[] 22)) := (Below.refl _ _).alloc (Nat.le_refl _) _
      have hnw := Par.Own.new (w5.setCell ⟨w.heap.size, 0, none⟩ v5) w5.heap.size 22 #[] [] rfl (by simp) (by simp)
      rw [hz6] at hnw
      have hsg := Par.Own.outS (F := fun k => k < w.heap.size + 2) hown6 (fun k hk => hk)
      refine ⟨by rw [← hv5]; exact hj6.far hj6.size hba, ?_, by rw [HTOT.out, List.length_append, ← HN.out], fun hA => own_nil hown6 hv5 hA, ⟨rfl, hnw, fun i hi => by simp at hi, fun i j _ hj => by simp at hj, fun i hi => by simp at hi⟩, ⟨hj5.size, by have := hba.size; omega⟩, by simp, by rw [HTOT.out, List.length_append, ← HN.out]; simp; omega⟩
      rw [← hv5]
      exact hsg.keep fun k hk => ⟨⟨by have := hk.2; omega, by have := hk.1; omega⟩, hba.block k hk.1⟩
    have HRF0 := Lib.hid hRF0
    obtain ⟨x0, x1, x2, x3, x4, x5, x6, x7⟩ := hj5.cells
    subst hv5
    clear hown5 hg5 hat5 hbx hj5 hj6 hz6 hown6 hRF0
    go_wp2
    go_loopw [8, 9, 10] (fun ov _ _ W => ∃ (cur : List UInt8) (A1 : Option Addr) (n1 c1 : Nat) (outs : List (List UInt8)) (us : List Value) (Ar : Option Addr) (N cr : Nat), ov = .slice Ar N cr ∧ N = outs.length ∧ n1 ≤ 400000 ∧ n1 ≤ c1 ∧ Hid (RF w w5.heap.size tot cur A1 n1 c1 outs (.slice Ar N cr) us W)) (fun _ _ _ W => restLen w W)
    case atStart => exact ⟨tot, A5, n + b.length, c5, [], [], _, 0, 0, rfl, rfl, hnl, (by
      obtain ⟨A', c', e', h', -⟩ := HRF0.out.seg
      injection e' with _ _ e'
      rw [byteCells_length, ← HRF0.out.len] at h'
      omega), HRF0⟩
    case round =>
      obtain ⟨cur, A1, n1, c1, outs, us, Ar, N, cr, rfl, hNo, hn1, hnc, HI⟩ := hrel
      obtain ⟨x0, x1, x2, x3, x4, x5, x6, x7⟩ := HI.out.box.cells
      obtain ⟨M, hM⟩ : ∃ M, M = hd cur := ⟨_, rfl⟩
      have hseg : Seg wr wr.heap.size (.slice A1 n1 c1) (byteCells cur) := HI.out.seg.seg fun k hk => by have := HI.out.tz; omega
      have hh := head_any A1 c1 cur wr (by rw [← HI.out.len]; exact hseg) HI.out.nil (by have := HI.out.len; omega)
      rw [← HI.out.len, ← hM] at hh
      have HM := Lib.hid hM; have HNo := Lib.hid hNo; have HSEG := Lib.hid hseg
      clear hM hNo hseg
      by_cases hc : 0 < M ∧ M ≤ 1024
      · rw [if_pos hc] at hh
        have HH := Lib.hid hh
        clear hh
        have hMn : M ≤ n1 := by rw [HM.out, HI.out.len]; exact hd_le cur
        have h0 : hd cur ≠ 0 := by rw [← HM.out]; omega
        have hge := hd_ge h0
        obtain ⟨hMc, hsM⟩ := seg_front HI.out.seg HI.out.len M hMn
        have hlM : (cur.take M).length = M := by rw [List.length_take, ← HI.out.len]; omega
        have hslM := fun X => slice_to A1 n1 c1 M X hMc
        have hlen := length_any A1 c1 (cur.take M) wr (by rw [hlM]; exact hsM.seg fun k hk => by have := HI.out.tz; omega) HI.out.nil (by omega) (by have := HM.out; omega) (by
          rw [HM.out, head_cut]; exact head_ends h0)
        rw [hlM] at hlen
        have HMS := msg_head h0 (by rw [← HM.out]; omega)
        rw [← HM.out] at HMS
        obtain ⟨LV, hLV⟩ : ∃ LV, LV = lengthV (cur.take M) := ⟨_, rfl⟩
        rw [← hLV] at hlen HMS
        have HMS2 := Lib.hid HMS
        clear HMS hLV hge h0 hsM hlM
        obtain ⟨hM0, hM1⟩ := hc
        cases LV with
        | none =>
          have HMSG : Hid (msg cur = .bad 30) := Lib.hid HMS2.out
          have HLE := Lib.hid (show Calls Tryd.prog 29 #[.slice A1 M c1] wr fun e w' => e = .returned (.int .i64 (-1)) ∧ Hid (Below wr.heap.size wr w') from hlen)
          clear hlen HMS2
          go_wp2_with (go_at_call 28; refine HH.out.mono ?_; rintro e w8 ⟨rfl, rfl⟩)
          refine HLE.out.mono ?_
          rintro e w9 ⟨rfl, HB9⟩
          have HI9 := Lib.hid (HI.out.go HB9.out)
          clear x0 x1 x2 x3 x4 x5 x6 x7
          obtain ⟨x0, x1, x2, x3, x4, x5, x6, x7⟩ := HI9.out.box.cells
          go_wp2
          go_region
          go_wp2
          refine bodyPost_ret (v := .tuple #[.agg #[.slice none 0 0, .int .i64 30], .slice Ar N cr, .int .i64 30]) (by simp [results, Tryd.results22, go_sem, x0, x1, x2, x3, x4, x5, x6, x7]) rfl ?_
          rw [HP.out]
          exact HI9.out.bad HNo.out HMSG.out (by first | exact (box_kept1 w _ (box_kept1 w _ (box_kept w _ (box_kept w _ (Kept.refl _ _) 1 _) 0 _) 0 _) 1 _) | exact Kept.drew (box_kept1 w _ (box_kept1 w _ (box_kept w _ (box_kept w _ (Kept.refl _ _) 1 _) 0 _) 0 _) 1 _))
        | some l =>
          have HLE := Lib.hid (show Calls Tryd.prog 29 #[.slice A1 M c1] wr fun e w' => e = .returned (.int .i64 (l : Nat)) ∧ Hid (Below wr.heap.size wr w') from hlen)
          clear hlen
          go_wp2_with (go_at_call 28; refine HH.out.mono ?_; rintro e w8 ⟨rfl, rfl⟩)
          refine HLE.out.mono ?_
          rintro e w9 ⟨rfl, HB9⟩
          have HI9 := Lib.hid (HI.out.go HB9.out)
          clear x0 x1 x2 x3 x4 x5 x6 x7
          obtain ⟨x0, x1, x2, x3, x4, x5, x6, x7⟩ := HI9.out.box.cells
          by_cases hl6 : 65536 < l
          · have HMSG : Hid (msg cur = .bad 31) := Lib.hid (by have h := HMS2.out; rwa [if_pos hl6] at h)
            have g6 : (65536 : Int) < (l : Int) := by omega
            clear HMS2 hl6
            go_wp2
            go_region
            go_wp2
            refine bodyPost_ret (v := .tuple #[.agg #[.slice none 0 0, .int .i64 31], .slice Ar N cr, .int .i64 31]) (by simp [results, Tryd.results22, go_sem, x0, x1, x2, x3, x4, x5, x6, x7]) rfl ?_
            rw [HP.out]
            exact HI9.out.bad HNo.out HMSG.out (by first | exact (box_kept1 w _ (box_kept1 w _ (box_kept w _ (box_kept w _ (Kept.refl _ _) 1 _) 0 _) 0 _) 1 _) | exact Kept.drew (box_kept1 w _ (box_kept1 w _ (box_kept w _ (box_kept w _ (Kept.refl _ _) 1 _) 0 _) 0 _) 1 _))
          · by_cases hl7 : n1 < M + l
            · have HMSG : Hid (msg cur = .more) := Lib.hid (by have h := HMS2.out; rwa [if_neg hl6, if_pos (by rw [← HI.out.len]; exact hl7)] at h)
              have g6 : ¬ (65536 : Int) < (l : Int) := by omega
              have g7 : (n1 : Int) < (M : Int) + (l : Int) := by omega
              clear HMS2 hl6 hl7
              go_wp2
              refine bodyPost_ret (v := .tuple #[.agg #[.slice A1 n1 c1, .int .i64 0], .slice Ar N cr, .int .i64 0]) (by simp [results, Tryd.results22, go_sem, x0, x1, x2, x3, x4, x5, x6, x7]) rfl ?_
              rw [HP.out]
              exact HI9.out.more HNo.out HMSG.out (box_kept1 w _ (box_kept1 w _ (Kept.refl _ _) 0 _) 1 _)
            · have HMSG : Hid (msg cur = .body M l) := Lib.hid (by have h := HMS2.out; rwa [if_neg hl6, if_neg (by rw [← HI.out.len]; exact hl7)] at h)
              have g6 : ¬ (65536 : Int) < (l : Int) := by omega
              have g7 : ¬ (n1 : Int) < (M : Int) + (l : Int) := by omega
              have hMl : M + l ≤ n1 := by omega
              obtain ⟨hMlc, hsB⟩ := seg_front HI9.out.seg HI9.out.len (M + l) hMl
              have hlB : (cur.take (M + l)).length = M + l := by rw [List.length_take, ← HI9.out.len]; omega
              obtain ⟨A6, e6, hs6, -⟩ := seg_from hsB hlB.symm M (by omega) HI9.out.nil
              have hdt : (cur.take (M + l)).drop M = (cur.drop M).take l := by rw [List.drop_take]; congr 1; omega
              rw [hdt] at e6 hs6
              have hl6' : ((cur.drop M).take l).length = l := by rw [List.length_take, List.length_drop, ← HI9.out.len]; omega
              rw [hl6'] at e6 hs6
              have hslB := fun X => slice_lh A1 n1 c1 M (M + l) X (by omega) hMlc
              simp only [e6] at hslB
              obtain ⟨A8, e8, hs8, hn8⟩ := seg_from HI9.out.seg HI9.out.len (M + l) hMl HI9.out.nil
              have hl8 : (cur.drop (M + l)).length = n1 - (M + l) := by rw [List.length_drop, ← HI9.out.len]
              rw [hl8] at e8 hs8
              obtain ⟨n8, hn8'⟩ : ∃ n8, n8 = n1 - (M + l) := ⟨_, rfl⟩
              obtain ⟨c8, hc8'⟩ : ∃ c8, c8 = c1 - (M + l) := ⟨_, rfl⟩
              obtain ⟨c6, hc6'⟩ : ∃ c6, c6 = c1 - M := ⟨_, rfl⟩
              rw [← hn8', ← hc8'] at e8 hs8
              rw [← hc8'] at hn8
              rw [← hn8'] at hl8
              rw [← hc6'] at hs6 hslB
              have hslR := fun X => slice_from A1 n1 c1 (M + l) X hMl
              simp only [e8] at hslR
              have ek : ((M + l : Nat) : Int) = (M : Int) + (l : Int) := by omega
              rw [ek] at hslB hslR
              have hn81 : n8 < n1 := by omega
              have hn8c : n8 ≤ c8 := by omega
              have hcp := copy_s (.slice A6 l c6) ((cur.drop M).take l) w9 (hs6.seg fun k hk => by have := HI9.out.tz; omega) (by rw [hl6']; omega)
              rw [hl6'] at hcp
              have HCP9 := Lib.hid hcp; have HS8 := Lib.hid hs8; have HN8 := Lib.hid hn8; have HL8 := Lib.hid hl8
              clear hsB hlB e6 hs6 hdt hl6' e8 hs8 hn8 hl8 hn8' hc8' hc6' ek hcp
              go_wp2_with fail
              refine HCP9.out.mono ?_
              rintro e w10 ⟨A7, c7, rfl, H10⟩
              have HOT : Hid (∀ o, Par.Own (w10.alloc o) w5.heap.size 22 (.slice Ar N cr) us) := Lib.hid fun o => (own_turn HI9.out.rx.own fun g e => H10.out.2.block g (HI9.out.rx.lt g (.inl e)).2).alloc o
              have hfew := HI9.out.few
              have hrl := HI9.out.rx.len
              have htz := HI9.out.tz
              have hz10 := H10.out.2.size
              go_wp2_with (at_builtin; refine wpList_app _ rfl _ _ _ rfl w5.heap.size 22 _ rowE _ us rfl (HOT.out _) (w10.heap.size + 1) _ [.slice A7 l c7] rfl (Seg.new w10 22 _ _ rfl (by simp [maxLen])) ?k0 ?k1 ?k2 ?_)
              case k0 => first | rfl | (intro x hx; simp at hx; subst hx; rfl)
              case k1 => first | omega | (simp only [List.length_cons, List.length_nil]; omega)
              case k2 => first | omega | (simp; omega)
              intro v11 w11 hown11 hg11 hat11
              obtain ⟨hj11, hRF⟩ := HI9.out.next HMSG.out H10.out.2 H10.out.1 _ hown11 hg11 (by simpa using hat11) HS8.out HL8.out.symm HN8.out
              obtain ⟨Ao, co, hvo⟩ := hown11.form
              have HRF := Lib.hid hRF; have HBL : Hid (restLen w w8 = n1) := Lib.hid HI.out.box.restLen
              clear x0 x1 x2 x3 x4 x5 x6 x7
              obtain ⟨x0, x1, x2, x3, x4, x5, x6, x7⟩ := hj11.cells
              have HBL2 : Hid (restLen w (w11.setCell ⟨w.heap.size, 0, none⟩ (.slice A8 n8 c8)) = n8) := Lib.hid hRF.box.restLen
              have HVO := Lib.hid hvo; have HRL := Lib.hid hrl
              clear hown11 hg11 hat11 hj11 hRF hvo hrl hfew
              go_wp2
              go_roundw
              case rel =>
                refine ⟨cur.drop (M + l), A8, n8, c8, outs ++ [(cur.drop M).take l], us ++ [.slice A7 l c7], Ao, _, co, HVO.out, ?_, by omega, hn8c, ?_⟩
                · simp [HRL.out]
                · have h := HRF.out
                  rw [HVO.out] at h
                  exact Lib.hid h
              case measure => rw [HBL2.out]; first | omega | (have := HBL.out; omega)
      · rw [if_neg hc] at hh
        by_cases h10 : 1024 ≤ n1
        · rw [if_pos h10] at hh
          have HMSG : Hid (msg cur = .bad 30) := Lib.hid (by
            unfold msg; rw [if_neg (by rw [← HM.out]; omega), if_pos (by rw [← HI.out.len]; exact h10)])
          have HH := Lib.hid hh
          clear hh hc h10
          go_wp2_with (go_at_call 28; refine HH.out.mono ?_; rintro e w8 ⟨rfl, rfl⟩)
          go_region
          go_wp2
          refine bodyPost_ret (v := .tuple #[.agg #[.slice none 0 0, .int .i64 30], .slice Ar N cr, .int .i64 30]) (by simp [results, Tryd.results22, go_sem, x0, x1, x2, x3, x4, x5, x6, x7]) rfl ?_
          rw [HP.out]
          exact HI.out.bad HNo.out HMSG.out (by first | exact (box_kept1 w _ (box_kept1 w _ (box_kept w _ (box_kept w _ (Kept.refl _ _) 1 _) 0 _) 0 _) 1 _) | exact Kept.drew (box_kept1 w _ (box_kept1 w _ (box_kept w _ (box_kept w _ (Kept.refl _ _) 1 _) 0 _) 0 _) 1 _))
          
        · rw [if_neg h10] at hh
          have HMSG : Hid (msg cur = .more) := Lib.hid (by
            unfold msg; rw [if_neg (by rw [← HM.out]; omega), if_neg (by rw [← HI.out.len]; exact h10)])
          have HH := Lib.hid hh
          clear hh hc h10
          go_wp2_with (go_at_call 28; refine HH.out.mono ?_; rintro e w8 ⟨rfl, rfl⟩)
          refine bodyPost_ret (v := .tuple #[.agg #[.slice A1 n1 c1, .int .i64 0], .slice Ar N cr, .int .i64 0]) (by simp [results, Tryd.results22, go_sem, x0, x1, x2, x3, x4, x5, x6, x7]) rfl ?_
          rw [HP.out]
          exact HI.out.more HNo.out HMSG.out (box_kept1 w _ (box_kept1 w _ (Kept.refl _ _) 0 _) 1 _)
          
  · have hr0 := hd he
    subst hr0
    have hls : ls = [] ∧ d' = ⟨[], er⟩ := by
      unfold feed at hfe
      rw [if_neg he] at hfe
      exact ⟨(Prod.mk.inj hfe).1.symm, (Prod.mk.inj hfe).2.symm⟩
    obtain ⟨rfl, rfl⟩ := hls
    have hn0 : n = 0 := hn
    subst hn0
    have g1 : (er != 0) = true := by simp; omega
    have hj := J2.start w er (.slice A 0 c)
    obtain ⟨x0, x1, x2, x3, x4, x5, x6, x7⟩ := hj.cells
    have HJ := Lib.hid hj; have HNIL := Lib.hid hnil; have HS := Lib.hid hs
    clear hj hfe hb hs hl hd he hnil hn
    go_enter Tryd.func22, Tryd.ntmps22
    go_wp2
    go_region
    go_wp2
    refine bodyPost_ret (v := .tuple #[.agg #[.slice A 0 c, .int .i64 er], .slice none 0 0, .int .i64 er]) (by simp [results, Tryd.results22, go_sem]) rfl ?_
    have hbz : Below w.heap.size w ((w.alloc (Obj.cells #[Value.slice A 0 c, Value.int IntKind.i64 er] 46)).alloc (Obj.cells #[Value.slice A 0 c, Value.int IntKind.i64 er] 46)).drew := (((Below.refl _ _).alloc (Nat.le_refl _) _).alloc (by simp) _).drew
    refine ⟨A, c, none, 0, rfl, Lib.hid ⟨?_, HNIL.out, (RX.nil w.heap.size _).rows.sub fun b hb => (RX.nil w.heap.size _).lt b hb, hbz⟩⟩
    obtain ⟨A', c', e', -, h3, -⟩ := HS.out
    injection e' with e1 e2 e3
    subst e1 e3
    exact ⟨A, c, rfl, Nat.zero_le _, h3, fun hp => absurd hp (by simp [byteCells])⟩
end Go.Proofs.YtffblcefnckacaaDoor
