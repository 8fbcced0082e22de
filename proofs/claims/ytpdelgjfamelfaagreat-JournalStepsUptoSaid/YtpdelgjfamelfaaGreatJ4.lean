/- Contains, has, copies, SameRows. -/
import Derived.Test.YtpdelgjfamelfaaGreatJ3
namespace Go.Proofs.YtpdelgjfamelfaaGreat
open Go.RowKit Go.Lib Go.Vfs Go.Par
set_option linter.unusedVariables false
set_option linter.unusedSimpArgs false

def IdxPost (w : World) (xs : List (List UInt8)) (s : List UInt8) (e : Ending) (w' : World) : Prop := ∃ (i : Int) (n : Nat), e = .returned (.int .i64 i) ∧ decide (0 ≤ i) = decide (s ∈ xs) ∧ w' = w.drewN n
set_option maxRecDepth 20000 in
set_option maxHeartbeats 1000000 in
theorem index_any (v : Value) (xs : List (List UInt8)) (B : Nat) (w : World) (h : Seg w B v (strs xs)) (s : List UInt8) :
    Calls Tryz.prog 90 #[v, .string ⟨s.toArray⟩] w (IdxPost w xs s) := by
  obtain ⟨A, c, rfl, hc, hm, ha⟩ := Seg.open_strs h
  have HA := Lib.hid ha; clear ha h
  go_enter Tryz.func90, Tryz.ntmps90
  go_wp2
  go_loopw [8] (fun i wr => ∃ k n : Nat, k ≤ xs.length ∧ i = .int .i64 k ∧ Hid (∀ j, j < k → xs.getD j [] ≠ s) ∧ wr = w.drewN n) (fun i _ => xs.length - (intOf i).toNat)
  case atStart => exact ⟨0, 0, by omega, rfl, Lib.hid (fun j hj => by omega), rfl⟩
  case round =>
    obtain ⟨k, n, hk, rfl, HN, rfl⟩ := hrel
    by_cases hlt : k < xs.length
    · obtain ⟨b, off, x, rfl, hb, hc1, Hx⟩ := At.str HA.out hlt
      by_cases he : s = x
      · subst he
        go_wp2
        go_ret
        refine ⟨k, n, rfl, ?_, rfl⟩
        rw [decide_eq_true (by omega), decide_eq_true]
        rw [← Hx.out, List.getD_eq_getElem?_getD, List.getElem?_eq_getElem hlt]
        exact List.getElem_mem hlt
      · have hbe : (s == x) = false := beq_eq_false_iff_ne.2 he
        have He := Lib.hid he; clear he
        go_wp2
        go_roundw
        case rel => exact ⟨k + 1, n, by omega, by go_num, Lib.hid (fun j hj => by
          by_cases hjk : j < k
          · exact HN.out j hjk
          · have : j = k := by omega
            subst this
            rw [Hx.out]; exact fun e => He.out e.symm), by first | rfl | trivial⟩
        case measure => simp [intOf]; omega
    · go_wp2
      go_ret
      refine ⟨-1, n, rfl, ?_, rfl⟩
      rw [decide_eq_false (by omega), decide_eq_false]
      intro hs
      obtain ⟨j, hj, e⟩ := List.getElem_of_mem hs
      exact HN.out j (by omega) (by rw [List.getD_eq_getElem?_getD, List.getElem?_eq_getElem hj]; exact e)
set_option maxRecDepth 20000 in
theorem contains_any (v : Value) (xs : List (List UInt8)) (B : Nat) (w : World) (h : Seg w B v (strs xs)) (s : List UInt8) :
    Calls Tryz.prog 73 #[v, .string ⟨s.toArray⟩] w fun e w' => e = .returned (.bool (decide (s ∈ xs))) ∧ ∃ n, w' = w.drewN n := by
  have hi := index_any v xs B w h s
  obtain ⟨A, c, rfl, hc, hm, ha⟩ := Seg.open_strs h
  have HI := Lib.hid hi; clear hi ha h
  go_enter Tryz.func73, Tryz.ntmps73
  go_wp2_with fail
  refine HI.out.mono ?_
  rintro e w2 ⟨i, n, rfl, hd, rfl⟩
  have HD := Lib.hid hd; clear hd
  go_wp2
  go_ret
  exact ⟨by rw [← HD.out]; rfl, n, rfl⟩
/-- is there a file? -/
def hasF (fs : List File) (s : List UInt8) : Bool := decide (s ∈ fs.map File.name)
theorem hasF_find (fs : List File) (s : List UInt8) : hasF fs s = (findL File.name s fs).isSome := by
  unfold hasF
  cases hf : findL File.name s fs with
  | none =>
    have := findL_none hf
    simp
    exact fun x hx e => this x hx e
  | some f =>
    obtain ⟨h1, h2⟩ := findL_some hf
    simp
    exact ⟨f, h1, h2⟩
set_option maxRecDepth 20000 in
set_option maxHeartbeats 1000000 in
theorem has_any (w : World) (p : Nat) (st : St) (F : Nat → Prop) (h : Fsy w p st F) (hfl : st.files.length ≤ 100000) (hnl : ∀ f ∈ st.files, f.name.length ≤ 100000) (s : List UInt8) :
    Calls Tryz.prog 45 #[.pointer (some ⟨p, 0, none⟩), .string ⟨s.toArray⟩] w fun e w' => e = .returned (.bool (hasF st.files s)) ∧ Below w.heap.size w w' := by
  have hn := names_any w p st F h hfl hnl
  have HN := Lib.hid hn; clear hn h
  go_enter Tryz.func45, Tryz.ntmps45
  go_wp2_with fail
  refine HN.out.mono ?_
  rintro e w2 ⟨v2, rfl, hv2, hb2⟩
  have hct := contains_any v2 _ _ w2 (Own.seg hv2) s
  rw [show decide (s ∈ st.files.map File.name) = hasF st.files s from rfl] at hct
  obtain ⟨r, hr⟩ : ∃ r, r = hasF st.files s := ⟨_, rfl⟩
  rw [← hr] at hct
  have HRR := Lib.hid hr; clear hr
  obtain ⟨A2, c2, hf2⟩ := hv2.form
  have HC := Lib.hid hct; have HB := Lib.hid hb2
  clear hct hb2 hv2
  subst hf2
  go_wp2_with fail
  refine HC.out.mono ?_
  rintro e w3 ⟨rfl, n3, rfl⟩
  go_wp2
  go_ret
  exact ⟨by rw [← HRR.out]; rfl, below_drewN HB.out n3⟩

set_option maxRecDepth 20000 in
set_option maxHeartbeats 400000 in
theorem clone_none (c : Nat) (w : World) : Calls Tryz.prog 44 #[.slice none 0 c] w fun e w' => e = .returned (.slice none 0 0) ∧ w = w' := by
  have hnil := fun (W : World) => Lib.run_eql_slice_nil (P := Tryz.prog) W 22 5 none 0 c 0 0 Tryz.underlying22
  go_enter Tryz.func44, Tryz.ntmps44
  go_wp2
  go_ret
  exact ⟨rfl, rfl⟩
/-- of any slice. -/
theorem clone_seg (v : Value) (l : List UInt8) (w : World) (h : Seg w w.heap.size v (byteCells l)) (hl : l.length ≤ 2147483648) :
    Calls Tryz.prog 44 #[v] w fun e w' => ∃ u, e = .returned u ∧ Par.Own w' w.heap.size 5 u (byteCells l) ∧ Below w.heap.size w w' := by
  obtain ⟨A, c, rfl, hc, hm, ha⟩ := h.open_bytes
  cases A with
  | none =>
    have h0 : l = [] := by
      cases l with
      | nil => rfl
      | cons x l => obtain ⟨b, off, e, -⟩ := ha 0 (by simp); cases e
    subst h0
    refine (clone_none c w).mono ?_
    rintro e w' ⟨rfl, rfl⟩
    exact ⟨_, rfl, Par.Own.nil _ _ _, Below.refl _ _⟩
  | some a => exact clone_some a _ c l _ w h (Nat.le_refl _) hl

theorem Rowed.rows {w : World} {ls : List (List UInt8)} {v : Value} {us : List Value} {wr : World} (h : Rowed w ls ls.length v us wr) : RowsAt (fun b => w.heap.size ≤ b ∧ b < wr.heap.size) wr v ls := by
  refine ⟨us, h.len, ?_, fun i hi => (h.cells i hi).keep fun b hb => ⟨⟨hb.1, hb.2.1⟩, rfl⟩⟩
  have := Own.outS h.own (F := fun k => k < w.heap.size) (fun k hk => hk)
  exact this.keep fun b hb => ⟨⟨by have := hb.2; omega, hb.1⟩, rfl⟩

set_option maxRecDepth 20000 in
set_option maxHeartbeats 2000000 in
theorem copies_any (v : Value) (ls : List (List UInt8)) (w : World) (hsg : RowsAt (· < w.heap.size) w v ls) (hl : ls.length ≤ 1048576) (hll : ∀ l ∈ ls, l.length ≤ 1000000) :
    Calls Tryz.prog 61 #[v] w fun e w' => ∃ u us, e = .returned u ∧ Rowed w ls ls.length u us w' := by
  obtain ⟨A, c, rfl, hc, hm, HR⟩ := hsg.open_
  have HLL := Lib.hid hll; clear hll hsg
  have H0 : Hid (Rowed w ls 0 (.slice none 0 0) [] w) := Lib.hid ⟨Below.refl _ _, rfl, Par.Own.nil _ _ _, fun i hi => by omega⟩
  go_enter Tryz.func61, Tryz.ntmps61
  go_wp2
  go_loopw [3, 8] (fun s i wr => ∃ (k : Nat) (us : List Value), k ≤ ls.length ∧ i = .int .i64 k ∧ Hid (Rowed w ls k s us wr)) (fun _ i _ => ls.length - (intOf i).toNat)
  case atStart => exact ⟨0, [], by omega, rfl, H0⟩
  case round =>
    obtain ⟨k, us, hk, rfl, HRk⟩ := hrel
    obtain ⟨As, cs, hform⟩ := HRk.out.own.form
    rw [HRk.out.len] at hform
    subst hform
    have hz := HRk.out.below.size
    by_cases hlt : k < ls.length
    · obtain ⟨b, off, Au, cu, rfl, hb, hck, hsk⟩ := HR.out wr HRk.out.below k hlt
      have hL : (ls.getD k []).length ≤ 1000000 := by
        rw [List.getD_eq_getElem?_getD, List.getElem?_eq_getElem hlt]
        exact HLL.out _ (List.getElem_mem hlt)
      generalize hLe : ls.getD k [] = L at *
      have HLe := Lib.hid hLe
      have HSK := Lib.hid (hsk.more hz)
      clear hsk hLe
      go_wp2_with fail
      refine (clone_seg _ L wr HSK.out (by omega)).mono ?_
      rintro e w2 ⟨u2, rfl, hu2, hb2⟩
      have hown2 := (HRk.out.own.below hb2).alloc (.cells #[u2] 22)
      have hone := one_slices (Own.outS hu2 (F := fun _ => False) (fun _ h => h.elim))
      have hsg2 := Seg.new w2 22 #[u2] [u2] rfl (by simp [maxLen])
      obtain ⟨A2, c2, hform2⟩ := hu2.form
      have HU2 := Lib.hid hu2; have HB2 := Lib.hid hb2
      have hz2 := hb2.size
      have hlen := HRk.out.len
      clear hu2 hb2 HSK
      subst hform2
      go_wp2_with (at_builtin; refine wpList_app _ rfl _ _ _ rfl w.heap.size 22 _ rowE _ _ rfl hown2 _ _ _ rfl hsg2 (fun x hx => by simp at hx; subst hx; exact hone) ?c1 ?c2 ?_)
      case c1 => simp; omega
      case c2 => simp; omega
      intro v3 w3 hown4 hg3 hat3
      have HN := Lib.hid (HRk.out.next HB2.out (by rw [HLe.out]; exact HU2.out) _ hown4 hg3 hat3)
      clear hown4 hg3 hat3 hlen
      obtain ⟨A3, c3, hform3⟩ := HN.out.own.form
      subst hform3
      clear HU2 HB2 hown2 hone hsg2 hck
      go_wp2
      go_roundw
      case rel => exact ⟨k + 1, _, by omega, by go_num, HN⟩
      case measure => simp [intOf]; omega
    · have hkl : k = ls.length := by omega
      have HKL := Lib.hid hkl; clear hkl
      go_wp2
      go_ret
      refine ⟨_, us, rfl, ?_⟩
      rw [← HKL.out]
      exact HKL.out ▸ HRk.out

set_option maxRecDepth 20000 in
set_option maxHeartbeats 2000000 in
theorem sameRows_any (u v : Value) (xs ys : List (List UInt8)) (w : World) (hu : RowsAt (· < w.heap.size) w u xs) (hv : RowsAt (· < w.heap.size) w v ys) :
    Calls Tryz.prog 17 #[u, v] w fun e w' => e = .returned (.bool (decide (xs = ys))) ∧ ∃ n, w' = w.drewN n := by
  obtain ⟨A, c, rfl, hc, hm, HA⟩ := hu.open_
  obtain ⟨A', c', rfl, hc', hm', HA'⟩ := hv.open_
  clear hu hv
  by_cases hl : xs.length = ys.length
  · have hne : ((xs.length : Int) != (ys.length : Int)) = false := by simp [hl]
    have Hl := Lib.hid hl
    clear hl
    go_enter Tryz.func17, Tryz.ntmps17
    go_wp2
    go_loopw [5] (fun i wr => ∃ k n : Nat, k ≤ xs.length ∧ i = .int .i64 k ∧ Agree k xs ys ∧ wr = w.drewN n) (fun i _ => xs.length - (intOf i).toNat)
    case atStart => exact ⟨0, 0, by omega, rfl, Agree.zero _ _, rfl⟩
    case round =>
      obtain ⟨k, n, hk, rfl, hal, hw⟩ := hrel
      have HAL := Lib.hid hal; clear hal
      have hbw : Below w.heap.size w wr := by rw [hw]; exact below_drewN (Below.refl _ w) n
      have HW := Lib.hid hw; clear hw
      by_cases hlt : k < xs.length
      · have hlt' : k < ys.length := by have := Hl.out; omega
        obtain ⟨b, off, A1, c1, rfl, hb, hc1, hs1⟩ := HA.out wr hbw k hlt
        obtain ⟨b', off', A2, c2, rfl, hb', hc2, hs2⟩ := HA'.out wr hbw k hlt'
        have hsb : ∀ m, Calls Tryz.prog 60 #[.slice A1 (xs.getD k []).length c1, .slice A2 (ys.getD k []).length c2] (wr.drewN m) fun e w' => e = .returned (.bool (decide (xs.getD k [] = ys.getD k []))) ∧ ∃ m', w' = (wr.drewN m).drewN m' := fun m => sameBytes_any _ _ _ _ _ (wr.drewN m) hs1 hs2
        have HE : Hid (∀ h : xs.getD k [] = ys.getD k [], Agree (k + 1) xs ys) := Lib.hid fun h => HAL.out.step hlt hlt' [] h
        have HNE : Hid (xs.getD k [] ≠ ys.getD k [] → xs ≠ ys) := Lib.hid fun h e => h (by rw [e])
        clear hs1 hs2 hbw
        generalize xs.getD k [] = X at *
        generalize ys.getD k [] = Y at *
        by_cases he : X = Y
        · rw [decide_eq_true he] at hsb
          have HSB := Lib.hid hsb
          have He := Lib.hid he
          clear hsb he
          go_wp2
          go_quiet ((go_at_call 60; exact Calls.quiet_of (HSB.out _)))
          go_wp2
          go_roundw
          case rel => exact ⟨k + 1, _, by omega, by go_num, HE.out He.out, by rw [HW.out]; exact World.drewN_drewN _ _ _⟩
          case measure => simp [intOf]; omega
        · rw [decide_eq_false he] at hsb
          have HSB := Lib.hid hsb
          have HR : Hid (decide (xs = ys) = false) := Lib.hid (decide_eq_false (HNE.out he))
          clear hsb he
          go_wp2
          go_quiet ((go_at_call 60; exact Calls.quiet_of (HSB.out _)))
          go_wp2
          go_ret
          exact ⟨by rw [HR.out]; rfl, _, by rw [HW.out]; exact World.drewN_drewN _ _ _⟩
      · have hkl : k = xs.length := by omega
        have HR : Hid (decide (xs = ys) = true) := Lib.hid (decide_eq_true (by have h := HAL.out; rw [hkl] at h; exact h.whole Hl.out))
        clear hkl
        go_wp2
        go_ret
        exact ⟨by rw [HR.out]; rfl, n, HW.out⟩
  · have hne : ((xs.length : Int) != (ys.length : Int)) = true := by simp; omega
    have HR : Hid (decide (xs = ys) = false) := Lib.hid (decide_eq_false (fun e => hl (by rw [e])))
    rw [HR.out]
    clear hl
    go_enter Tryz.func17, Tryz.ntmps17
    go_wp2
    go_ret
    exact ⟨rfl, 0, rfl⟩
end Go.Proofs.YtpdelgjfamelfaaGreat
