/- The decoder's cells; whole. -/
import Derived.Test.YtffblcefnckacaaDoorFT
namespace Go.Proofs.YtffblcefnckacaaDoor
open Go.RowKit Go.Lib Go.Vfs Go.Par Go.Frm Go.Shelf
set_option linter.unusedVariables false
set_option linter.unusedSimpArgs false

/-- the decoder's cells. -/
def Dec (w : World) (p : Nat) (hv : Value) (hh bb : Nat) (er : Int) : Prop := w.heap[p]? = some (.cells #[hv, .int .i64 (hh : Nat), .int .i64 (bb : Nat), .int .i64 er] 51 (0, 0))
theorem Dec.cells {w : World} {p : Nat} {hv : Value} {hh bb : Nat} {er : Int} (h : Dec w p hv hh bb er) :
    (w.cell? ⟨p, 0, none⟩ = some hv ∧ w.cell? ⟨p, 1, none⟩ = some (.int .i64 (hh : Nat)) ∧ w.cell? ⟨p, 2, none⟩ = some (.int .i64 (bb : Nat)) ∧ w.cell? ⟨p, 3, none⟩ = some (.int .i64 er)) ∧ (w.frozen? ⟨p, 0, none⟩ = false ∧ w.frozen? ⟨p, 1, none⟩ = false ∧ w.frozen? ⟨p, 2, none⟩ = false ∧ w.frozen? ⟨p, 3, none⟩ = false) := by
  unfold Dec at h
  simp [World.cell?, World.frozen?, h]
theorem Dec.lt {w : World} {p : Nat} {hv : Value} {hh bb : Nat} {er : Int} (h : Dec w p hv hh bb er) : p < w.heap.size := lt_of_block h
theorem Dec.keep {w w' : World} {p : Nat} {hv : Value} {hh bb : Nat} {er : Int} (h : Dec w p hv hh bb er) (hk : w'.heap[p]? = w.heap[p]?) : Dec w' p hv hh bb er := hk.trans h
theorem Dec.below {w w' : World} {p : Nat} {hv : Value} {hh bb : Nat} {er : Int} (h : Dec w p hv hh bb er) (hb : Below w.heap.size w w') : Dec w' p hv hh bb er := h.keep (hb.block p h.lt)
theorem Dec.set {w : World} {p : Nat} {hv : Value} {hh bb : Nat} {er : Int} (h : Dec w p hv hh bb er) :
    (∀ v, Dec (w.setCell ⟨p, 0, none⟩ v) p v hh bb er) ∧ (∀ x : Nat, Dec (w.setCell ⟨p, 1, none⟩ (.int .i64 (x : Nat))) p hv x bb er) ∧ (∀ x : Nat, Dec (w.setCell ⟨p, 2, none⟩ (.int .i64 (x : Nat))) p hv hh x er) ∧ (∀ x : Int, Dec (w.setCell ⟨p, 3, none⟩ (.int .i64 x)) p hv hh bb x) := by
  have hlt := h.lt
  unfold Dec at h ⊢
  have h' : w.heap[p] = .cells #[hv, .int .i64 (hh : Nat), .int .i64 (bb : Nat), .int .i64 er] 51 (0, 0) := by simpa [Array.getElem?_eq_getElem hlt] using h
  have key : ∀ (i : Nat) (v : Value), (w.setCell ⟨p, i, none⟩ v).heap[p]? = some (.cells (#[hv, .int .i64 (hh : Nat), .int .i64 (bb : Nat), .int .i64 er].setIfInBounds i v) 51 (0, 0)) := fun i v => by
    show (w.heap.modify p _)[p]? = _
    rw [Array.getElem?_eq_getElem (by simpa using hlt), Array.getElem_modify_self, h']
    rfl
  exact ⟨fun v => key 0 v, fun x => key 1 _, fun x => key 2 _, fun x => key 3 _⟩

/-- what whole does. -/
def WPost (w : World) (p : Nat) (hv : Value) (l : List UInt8) (e : Ending) (w' : World) : Prop :=
  Kept (· = p) w w' ∧ match msg l with
  | .more => e = .returned (.bool false) ∧ ∃ hh bb, Dec w' p hv hh bb 0 ∧ Known l hh bb
  | .bad er => e = .returned (.bool false) ∧ ∃ hh bb, Dec w' p hv hh bb er
  | .body n k => e = .returned (.bool true) ∧ Dec w' p hv n k 0

theorem kept_p {w W : World} {p : Nat} (h : Kept (· = p) w W) (i : Nat) (u : Value) : Kept (· = p) w (W.setCell ⟨p, i, none⟩ u) := Kept.setCell (F := fun x => x = p) (p := ⟨p, i, none⟩) h (.inl rfl) u
theorem Kept.drewN' {F : Nat → Prop} (w : World) (q : Nat) : Kept F w (w.drewN q) := (Kept.refl F w).drewN q

set_option maxRecDepth 20000 in
set_option maxHeartbeats 1000000 in
theorem whole_known (p : Nat) (hv : Value) (hh bb : Nat) (A : Option Addr) (c : Nat) (l : List UInt8) (w : World) (hd : Dec w p hv hh bb 0) (h0 : hh ≠ 0) (hk : Known l hh bb) (hl : l.length ≤ 4000000000) :
    Calls Tryd.prog 26 #[.pointer (some ⟨p, 0, none⟩), .slice A l.length c] w (WPost w p hv l) := by
  obtain ⟨⟨c0, c1, c2, c3⟩, f0, f1, f2, f3⟩ := hd.cells
  have hm := known_msg hk h0
  obtain ⟨k1, k2, k3, k4⟩ := hk h0
  have g0 : ((hh : Int) == 0) = false := by simp; omega
  have HD := Lib.hid hd; have HK := Lib.hid hk; have HM := Lib.hid hm
  clear hd hk hm k1 k3
  go_enter Tryd.func26, Tryd.ntmps26
  go_wp2
  go_quiet (fail)
  go_wp2
  go_ret
  refine ⟨Kept.drewN' _ _, ?_⟩
  rw [HM.out]
  by_cases hb : l.length < hh + bb
  · rw [if_pos hb]
    exact ⟨ret_bool (decide_eq_false (by omega)), hh, bb, HD.out, HK.out⟩
  · rw [if_neg hb]
    exact ⟨ret_bool (decide_eq_true (by omega)), HD.out⟩

set_option maxRecDepth 20000 in
set_option maxHeartbeats 1000000 in
theorem whole_new (p : Nat) (hv : Value) (bb : Nat) (A : Option Addr) (c : Nat) (l : List UInt8) (w : World) (m : Int) (hd : Dec w p hv 0 bb 0) (h : Seg w w.heap.size (.slice A l.length c) (byteCells l)) (hnil : A = none → c = 0) (hl : l.length ≤ 4000000000) (hT : Tabs w) (hm : w.cell? ⟨0, 0, none⟩ = some (.int .i64 m)) :
    Calls Tryd.prog 26 #[.pointer (some ⟨p, 0, none⟩), .slice A l.length c] w (WPost w p hv l) := by
  obtain ⟨⟨c0, c1, c2, c3⟩, f0, f1, f2, f3⟩ := hd.cells
  have hz : 0 < w.heap.size := World.block_lt_of_cell? _ _ hm
  obtain ⟨M, hM⟩ : ∃ M, M = min l.length 1024 := ⟨_, rfl⟩
  have hMi : min (l.length : Int) 1024 = (M : Int) := by rw [hM]; omega
  obtain ⟨hMc, hsf⟩ := seg_front (S := (· < w.heap.size)) h rfl M (by omega)
  have htk : l.take M = l.take 1024 := by
    rw [hM]
    by_cases hle : l.length ≤ 1024
    · rw [Nat.min_eq_left hle, List.take_length, List.take_of_length_le hle]
    · rw [Nat.min_eq_right (by omega)]
  have hlM : (l.take 1024).length = M := by rw [← htk, List.length_take]; omega
  rw [htk] at hsf
  have hhe := headEnd_any A c (l.take 1024) w m (by rw [hlM]; exact hsf) hnil (by omega) hm hz
  rw [hlM] at hhe
  have HD := Lib.hid hd; have HSEG := Lib.hid h; have HT := Lib.hid hT; have HMX := Lib.hid hm
  obtain ⟨H, hH⟩ : ∃ H, H = Frm.hd (l.take 1024) := ⟨_, rfl⟩
  rw [← hH] at hhe
  have HHE : Hid (Calls Tryd.prog 31 #[.slice A M c] w fun e w1 => e = .returned (.int .i64 (H : Nat)) ∧ Hid (Below w.heap.size w w1) ∧ (w1.cell? ⟨p, 0, none⟩ = some hv ∧ w1.cell? ⟨p, 1, none⟩ = some (.int .i64 (0 : Nat)) ∧ w1.cell? ⟨p, 2, none⟩ = some (.int .i64 (bb : Nat)) ∧ w1.cell? ⟨p, 3, none⟩ = some (.int .i64 0)) ∧ (w1.frozen? ⟨p, 0, none⟩ = false ∧ w1.frozen? ⟨p, 1, none⟩ = false ∧ w1.frozen? ⟨p, 2, none⟩ = false ∧ w1.frozen? ⟨p, 3, none⟩ = false)) := Lib.hid (by
    refine hhe.mono ?_
    rintro e w1 ⟨rfl, hb⟩
    have := (hd.below hb).cells
    exact ⟨rfl, Lib.hid hb, this.1, this.2⟩)
  clear hhe hd h hT hm hsf htk hlM
  by_cases h0 : H = 0
  · have hmz := msg_zero (m := l) (by rw [← hH]; exact h0)
    rw [h0] at HHE
    have HMZ := Lib.hid hmz
    clear hmz hH h0 hM
    by_cases hlen : 1024 ≤ l.length
    · have g1 : (1024 : Int) ≤ (l.length : Int) := by omega
      go_enter Tryd.func26, Tryd.ntmps26
      go_wp2_with (go_at_call 31; refine HHE.out.mono ?_; rintro e w1 ⟨rfl, HB1, ⟨q0, q1, q2, q3⟩, k0, k1, k2, k3⟩)
      go_ret
      have hD1 := HD.out.below HB1.out
      refine ⟨kept_p (Kept.of_below HB1.out) 3 _, ?_⟩
      rw [HMZ.out, if_pos hlen]
      exact ⟨rfl, 0, bb, hD1.set.2.2.2 30⟩
    · have g1 : ¬ (1024 : Int) ≤ (l.length : Int) := by omega
      go_enter Tryd.func26, Tryd.ntmps26
      go_wp2_with (go_at_call 31; refine HHE.out.mono ?_; rintro e w1 ⟨rfl, HB1, ⟨q0, q1, q2, q3⟩, k0, k1, k2, k3⟩)
      go_ret
      refine ⟨Kept.of_below HB1.out, ?_⟩
      rw [HMZ.out, if_neg hlen]
      exact ⟨rfl, 0, bb, HD.out.below HB1.out, known_zero _ _⟩
  · obtain ⟨e1, e2, e3⟩ := hd_1024 (m := l) (by rw [← hH]; exact h0)
    rw [← hH] at e1
    have hmh := msg_head e3 e2
    have hge := hd_ge e3
    have hle := hd_le l
    have hend := head_ends e3
    rw [← head_cut] at hend
    rw [← e1] at hmh hge hle hend e2
    have g0 : ((H : Int) == 0) = false := by simp; omega
    obtain ⟨hHc, -⟩ := seg_front (S := (· < w.heap.size)) HSEG.out rfl H (by omega)
    have hlH : (l.take H).length = H := by rw [List.length_take]; omega
    have HBS : Hid (∀ X, Below w.heap.size w X → Calls Tryd.prog 32 #[.slice A H c] X fun e w1 => e = .returned (.tuple #[.int .i64 (sizeE (l.take H)).1, .int .i64 (sizeE (l.take H)).2]) ∧ Hid (Below w.heap.size w w1) ∧ (w1.cell? ⟨p, 0, none⟩ = some hv ∧ w1.cell? ⟨p, 1, none⟩ = some (.int .i64 (0 : Nat)) ∧ w1.cell? ⟨p, 2, none⟩ = some (.int .i64 (bb : Nat)) ∧ w1.cell? ⟨p, 3, none⟩ = some (.int .i64 0)) ∧ (w1.frozen? ⟨p, 0, none⟩ = false ∧ w1.frozen? ⟨p, 1, none⟩ = false ∧ w1.frozen? ⟨p, 2, none⟩ = false ∧ w1.frozen? ⟨p, 3, none⟩ = false)) := Lib.hid (fun X hX => by
      have hs2 := (seg_front (S := (· < X.heap.size)) ((HSEG.out.below hX).more hX.size) rfl H (by omega)).2
      have := bodySize_any A c (l.take H) X m (by rw [hlH]; exact hs2) hnil (by rw [hlH]; exact hge) (by rw [hlH]; exact e2) hend (HT.out.below hX) ((hX.cell (p := ⟨0, 0, none⟩) hz).trans HMX.out)
      rw [hlH] at this
      refine this.mono ?_
      rintro e w1 ⟨rfl, hb⟩
      have hb2 := hX.trans (hb.mono hX.size)
      have := (HD.out.below hb2).cells
      exact ⟨rfl, Lib.hid hb2, this.1, this.2⟩)
    have HMH := Lib.hid hmh
    clear hmh hend hlH hH h0 e3 hM
    cases hlv : lengthV (l.take H) with
    | none =>
      have hse : sizeE (l.take H) = (0, 30) := by unfold sizeE; rw [hlv]
      rw [hse] at HBS
      rw [hlv] at HMH
      clear hse hlv e1
      go_enter Tryd.func26, Tryd.ntmps26
      go_wp2_with (first
        | (go_at_call 31; refine HHE.out.mono ?_; rintro e w1 ⟨rfl, HB1, ⟨q0, q1, q2, q3⟩, k0, k1, k2, k3⟩)
        | (go_at_call 32; refine (HBS.out _ HB1.out).mono ?_; rintro e w2 ⟨rfl, HB2, ⟨r0, r1, r2, r3⟩, j0, j1, j2, j3⟩))
      go_ret
      refine ⟨kept_p (Kept.of_below HB2.out) 3 _, ?_⟩
      rw [HMH.out]
      exact ⟨rfl, 0, bb, (HD.out.below HB2.out).set.2.2.2 30⟩
    | some k =>
      rw [hlv] at HMH
      by_cases h6 : 65536 < k
      · have hse : sizeE (l.take H) = (0, 31) := by unfold sizeE; rw [hlv]; exact if_pos h6
        rw [hse] at HBS
        have HM2 : Hid (msg l = .bad 31) := Lib.hid (HMH.out.trans (if_pos h6))
        clear hse hlv h6 e1
        go_enter Tryd.func26, Tryd.ntmps26
        go_wp2_with (first
          | (go_at_call 31; refine HHE.out.mono ?_; rintro e w1 ⟨rfl, HB1, ⟨q0, q1, q2, q3⟩, k0, k1, k2, k3⟩)
          | (go_at_call 32; refine (HBS.out _ HB1.out).mono ?_; rintro e w2 ⟨rfl, HB2, ⟨r0, r1, r2, r3⟩, j0, j1, j2, j3⟩))
        go_ret
        refine ⟨kept_p (Kept.of_below HB2.out) 3 _, ?_⟩
        rw [HM2.out]
        exact ⟨rfl, 0, bb, (HD.out.below HB2.out).set.2.2.2 31⟩
      · have hse : sizeE (l.take H) = (((k : Nat) : Int), 0) := by unfold sizeE; rw [hlv]; exact if_neg h6
        rw [hse] at HBS
        have HM2 : Hid (msg l = if l.length < H + k then .more else .body H k) := Lib.hid (HMH.out.trans (if_neg h6))
        have HKN : Hid (Known l H k) := Lib.hid (fun _ => ⟨e1.symm, e2, hlv, by omega⟩)
        clear hse hlv e1
        go_enter Tryd.func26, Tryd.ntmps26
        go_wp2_with (first
          | (go_at_call 31; refine HHE.out.mono ?_; rintro e w1 ⟨rfl, HB1, ⟨q0, q1, q2, q3⟩, k0, k1, k2, k3⟩)
          | (go_at_call 32; refine (HBS.out _ HB1.out).mono ?_; rintro e w2 ⟨rfl, HB2, ⟨r0, r1, r2, r3⟩, j0, j1, j2, j3⟩))
        obtain ⟨W3, hW3⟩ : ∃ W3, W3 = (w2.setCell ⟨p, 1, none⟩ (.int .i64 (H : Nat))).setCell ⟨p, 2, none⟩ (.int .i64 (k : Nat)) := ⟨_, rfl⟩
        have hD3 : Dec W3 p hv H k 0 := by rw [hW3]; exact ((HD.out.below HB2.out).set.2.1 H).set.2.2.1 k
        have hK3 : Kept (· = p) w W3 := by rw [hW3]; exact kept_p (kept_p (Kept.of_below HB2.out) 1 _) 2 _
        rw [← hW3]
        clear hW3 q0 q1 q2 q3 k0 k1 k2 k3 r0 r1 r2 r3 j0 j1 j2 j3
        obtain ⟨⟨c0, c1, c2, c3⟩, f0, f1, f2, f3⟩ := hD3.cells
        have HD3 := Lib.hid hD3; have HK3 := Lib.hid hK3
        clear hD3 hK3
        go_quiet (fail)
        go_wp2
        go_ret
        refine ⟨HK3.out.trans' (Kept.drewN' _ _), ?_⟩
        rw [HM2.out]
        by_cases hb : l.length < H + k
        · rw [if_pos hb]
          exact ⟨ret_bool (decide_eq_false (by omega)), H, k, HD3.out, HKN.out⟩
        · rw [if_neg hb]
          exact ⟨ret_bool (decide_eq_true (by omega)), HD3.out⟩
theorem whole_any (p : Nat) (hv : Value) (hh bb : Nat) (A : Option Addr) (c : Nat) (l : List UInt8) (w : World) (m : Int) (hd : Dec w p hv hh bb 0) (hk : Known l hh bb) (h : Seg w w.heap.size (.slice A l.length c) (byteCells l)) (hnil : A = none → c = 0) (hl : l.length ≤ 4000000000) (hT : Tabs w) (hm : w.cell? ⟨0, 0, none⟩ = some (.int .i64 m)) :
    Calls Tryd.prog 26 #[.pointer (some ⟨p, 0, none⟩), .slice A l.length c] w (WPost w p hv l) := by
  by_cases h0 : hh = 0
  · subst h0
    exact whole_new p hv bb A c l w m hd h hnil hl hT hm
  · exact whole_known p hv hh bb A c l w hd h0 hk hl
end Go.Proofs.YtffblcefnckacaaDoor
