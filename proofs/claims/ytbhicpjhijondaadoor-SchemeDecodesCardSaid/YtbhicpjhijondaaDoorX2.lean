/- scheme.rising, scheme.Closed, scheme.short. -/
import Derived.Test.YtbhicpjhijondaaDoorX1
namespace Go.Proofs.YtbhicpjhijondaaDoor
open Go.RowKit Go.Lib Go.Vfs Go.Par Go.Typ Go.Shelf
set_option linter.unusedVariables false
set_option linter.unusedSimpArgs false

set_option maxRecDepth 20000 in
set_option maxHeartbeats 2000000 in
theorem rising_any (q : Nat) (T : Ty) : ∀ (m : Int) (v : Value) (w : World), CellI w q 3 m → TyAt (fun g => g < w.heap.size ∧ g ≠ q) w v T → 0 ≤ m → m + T.parts ≤ 1099511627776 →
    Calls Tryd.prog 67 #[v, .pointer (some ⟨q, 0, none⟩)] w fun e w' => e = .returned (.bool (risT T m).1) ∧ CellI w' q 3 (risT T m).2 ∧ Kept (· = q) w w' := by
  induction T using Ty.ind with
  | h T ih =>
    intro m v w hq hT h0 hp
    have IH := Lib.hid ih
    clear ih
    obtain ⟨A, c, rfl, hc, hm, hn⟩ := hT.form
    have hql := hq.lt
    have hla : T.args.length ≤ 1099511627776 := by have := length_parts T.args; have := T.parts_eq; omega
    obtain ⟨W1, hW1⟩ : ∃ W1, W1 = w.alloc (.cells #[.int .i64 T.kind, .int .i64 T.num, .string T.name, .slice A T.args.length c] 24) := ⟨_, rfl⟩
    have hb1 : Below w.heap.size w W1 := by rw [hW1]; exact (Below.refl _ _).alloc (Nat.le_refl _) _
    have hbx : W1.heap[w.heap.size]? = some (.cells #[.int .i64 T.kind, .int .i64 T.num, .string T.name, .slice A T.args.length c] 24 (0, 0)) := by rw [hW1]; exact heap_alloc_new _ _
    have hz1 : W1.heap.size = w.heap.size + 1 := by rw [hW1]; simp
    have hq1 := hq.keep (hb1.block q hql)
    have hT1 : TyAt (fun g => g < w.heap.size ∧ g ≠ q) W1 (tyV T.kind T.num T.name A T.args.length c) T := hT.keep fun g hg => ⟨hg, hb1.block g hg.1⟩
    have HBX := Lib.hid hbx; have HP := Lib.hid hp; have HZ1 := Lib.hid hz1; have HT1 := Lib.hid hT1; have HB1 := Lib.hid hb1; have HQ1 := Lib.hid hq1; have HQL := Lib.hid hql
    obtain ⟨y0, y1, y2, y3⟩ := box4 hbx
    have c0 := hq1.cell
    have f0 := hq1.free
    have hpp := T.parts_pos
    have hmb : m ≤ 1099511627776 := by omega
    clear hT hq hbx hp hT1 hq1 hb1 hz1 hql hc hm hn hpp
    unfold tyV
    by_cases k1 : T.kind = 1
    · have h1 : (T.kind == 1) = true := by simp [k1]
      have K1 := Lib.hid k1
      rw [k1] at h1 hW1 y0 ⊢
      rw [hW1] at y0 y1 y2 y3 c0 f0
      by_cases e : T.num = m
      · have hr : risT T m = (true, m + 1) := by rw [risT_eq, if_pos k1, if_pos e]
        have h2 : (T.num == m) = true := by simp [e]
        have hlt : T.num < m + 1 := by omega
        rw [hr]
        clear hr k1 e
        go_enter Tryd.func67, Tryd.ntmps67
        go_wp2_with fail
        go_quiet (fail)
        rw [← hW1]
        clear hW1 y0 y1 y2 y3 c0 f0
        obtain ⟨W2, hW2⟩ : ∃ W2, W2 = W1.drewN nq := ⟨_, rfl⟩
        have hh : W2.heap = W1.heap := by rw [hW2]; rfl
        rw [← hW2]
        have hq2 : CellI W2 q 3 m := HQ1.out.keep (by rw [hh])
        obtain ⟨W3, hW3⟩ : ∃ W3, W3 = W2.setCell ⟨q, 0, none⟩ (.int .i64 (m + 1)) := ⟨_, rfl⟩
        have hq3 : CellI W3 q 3 (m + 1) := by rw [hW3]; exact hq2.put _
        have hk3 : Kept (· = q) w W3 := by
          rw [hW3]
          refine Kept.setCell (F := (· = q)) (p := ⟨q, 0, none⟩) ?_ (.inl rfl) _
          rw [hW2]
          exact (Kept.of_below HB1.out).drewN _
        have hb3 : W3.heap[w.heap.size]? = some (.cells #[.int .i64 T.kind, .int .i64 T.num, .string T.name, .slice A T.args.length c] 24 (0, 0)) := by
          rw [hW3, Below.heap_setCell _ _ _ _ (by have := HQL.out; show w.heap.size ≠ q; omega), hh]
          exact HBX.out
        obtain ⟨x0, x1, x2, x3⟩ := box4 hb3
        have c2 := hq2.cell
        have f2 := hq2.free
        have c3 := hq3.cell
        rw [hW3] at x0 x1 x2 x3 c3
        have HE : Hid (CellI W3 q 3 (m + 1) ∧ Kept (· = q) w W3) := Lib.hid ⟨hq3, hk3⟩
        clear hq2 hq3 hk3 hb3 hh hW2
        go_wp2_with fail
        go_quiet (fail)
        rw [← hW3]
        go_wp2
        go_ret
        exact ⟨rfl, HE.out.1, HE.out.2.drewN _⟩
      · have hr : risT T m = (decide (T.num < m), m) := by rw [risT_eq, if_pos k1, if_neg e]
        have h2 : (T.num == m) = false := by simp [e]
        rw [hr]
        clear hr k1 e
        go_enter Tryd.func67, Tryd.ntmps67
        go_wp2_with fail
        go_quiet (fail)
        rw [← hW1]
        clear hW1 y0 y1 y2 y3 c0 f0
        obtain ⟨W2, hW2⟩ : ∃ W2, W2 = W1.drewN nq := ⟨_, rfl⟩
        have hh : W2.heap = W1.heap := by rw [hW2]; rfl
        rw [← hW2]
        have hq2 : CellI W2 q 3 m := HQ1.out.keep (by rw [hh])
        have hb2 : W2.heap[w.heap.size]? = some (.cells #[.int .i64 T.kind, .int .i64 T.num, .string T.name, .slice A T.args.length c] 24 (0, 0)) := by
          rw [hh]; exact HBX.out
        obtain ⟨x0, x1, x2, x3⟩ := box4 hb2
        have c2 := hq2.cell
        have HE : Hid (CellI W2 q 3 m ∧ Kept (· = q) w W2) := Lib.hid ⟨hq2, by rw [hW2]; exact (Kept.of_below HB1.out).drewN _⟩
        clear hq2 hb2 hh hW2
        go_wp2_with fail
        go_quiet (fail)
        go_wp2
        go_ret
        exact ⟨rfl, HE.out.1, HE.out.2.drewN _⟩
    · have h1 : (T.kind == 1) = false := by simp [k1]
      have hr : risT T m = risL T.args m := by rw [risT_eq, if_neg k1]
      rw [hr]
      rw [hW1] at y0 y1 y2 y3 c0 f0
      clear hr k1
      go_enter Tryd.func67, Tryd.ntmps67
      go_wp2
      rw [← hW1]
      clear hW1 y0 y1 y2 y3 c0 f0 h1
      go_loopw [30] (fun iv W => ∃ (k : Nat) (mt : Int), k ≤ T.args.length ∧ iv = .int .i64 k ∧ Hid (CellI W q 3 mt) ∧ Hid (risL (T.args.drop k) mt = risL T.args m) ∧ Hid (0 ≤ mt ∧ mt + partsL (T.args.drop k) ≤ m + partsL T.args) ∧ Hid (Kept (· = q) W1 W)) (fun iv _ => T.args.length - (RowKit.intOf iv).toNat)
      case atStart => exact ⟨0, m, by omega, rfl, HQ1, Lib.hid (by rw [List.drop_zero]), Lib.hid ⟨h0, by rw [List.drop_zero]; exact Int.le_refl _⟩, Lib.hid (Kept.refl _ _)⟩
      case round =>
        obtain ⟨k, mt, hk, rfl, HQ, HST, HLE, HKR⟩ := hrel
        have hz1 := HZ1.out
        have hql := HQL.out
        have hzr := HKR.out.size
        by_cases hlt : k < T.args.length
        · have hTr := HT1.out.keep (S' := fun g => g < w.heap.size ∧ g ≠ q) (W' := wr) fun g hg => ⟨hg, HKR.out.block g (by omega) hg.2⟩
          obtain ⟨b, off, A', c', rfl, hb, ht, x0, x1, x2, x3⟩ := hTr.arg hlt
          have hst := HST.out
          rw [risL_step hlt] at hst
          have hps := partsL_step hlt
          have hrl := risT_le T.args[k] mt
          obtain ⟨W2, hW2⟩ : ∃ W2, W2 = wr.alloc (.cells #[.int .i64 T.args[k].kind, .int .i64 T.args[k].num, .string T.args[k].name, .slice A' T.args[k].args.length c'] 24) := ⟨_, rfl⟩
          have hb2 : Below wr.heap.size wr W2 := by rw [hW2]; exact (Below.refl _ _).alloc (Nat.le_refl _) _
          have hz2 := hb2.size
          have hle := HLE.out
          have hca := IH.out k hlt mt _ W2 (HQ.out.keep (hb2.block q (by omega))) (ht.keep fun g hg => ⟨⟨by omega, hg.2⟩, hb2.block g (by omega)⟩) hle.1 (by have := HP.out; have := T.parts_eq; omega)
          obtain ⟨z0, z1, z2, z3⟩ := box4 (show W2.heap[wr.heap.size]? = some (.cells #[.int .i64 T.args[k].kind, .int .i64 T.args[k].num, .string T.args[k].name, .slice A' T.args[k].args.length c'] 24 (0, 0)) by rw [hW2]; exact heap_alloc_new _ _)
          have HNX : Hid ((risT T.args[k] mt).1 = true → risL (T.args.drop (k + 1)) (risT T.args[k] mt).2 = risL T.args m) := Lib.hid fun h => by rw [if_pos h] at hst; exact hst
          have HNF : Hid ((risT T.args[k] mt).1 = false → (false, (risT T.args[k] mt).2) = risL T.args m) := Lib.hid fun h => by rw [if_neg (by rw [h]; decide)] at hst; exact hst
          have HLX : Hid (0 ≤ (risT T.args[k] mt).2 ∧ (risT T.args[k] mt).2 + partsL (T.args.drop (k + 1)) ≤ m + partsL T.args) := Lib.hid (by omega)
          have HK2 : Hid (Kept (· = q) W1 W2) := Lib.hid (HKR.out.trans' (Kept.of_below hb2))
          clear ht hTr hst hps hrl hle
          generalize risT T.args[k] mt = U at *
          generalize T.args[k] = V at *
          obtain ⟨r, mt2⟩ := U
          simp only at hca HNX HNF HLX
          unfold tyV at hca
          have HCA := Lib.hid hca
          rw [hW2] at z0 z1 z2 z3
          clear hca hb2 hz2
          go_wp2_with fail
          rw [← hW2]
          clear hW2 z0 z1 z2 z3
          refine HCA.out.mono ?_
          rintro e w3 ⟨rfl, hq3, hk3⟩
          have HQ3 := Lib.hid hq3
          have HK3 := Lib.hid (HK2.out.trans' hk3)
          clear hq3 hk3
          cases r with
          | false =>
            have HN := Lib.hid (HNF.out rfl)
            clear HNF HNX
            go_wp2
            go_ret
            rw [← HN.out]
            exact ⟨rfl, HQ3.out, (Kept.of_below HB1.out).trans' HK3.out⟩
          | true =>
            have HN := Lib.hid (HNX.out rfl)
            clear HNF HNX
            go_wp2
            go_roundw
            case rel => exact ⟨k + 1, mt2, by omega, by go_num, HQ3, HN, HLX, HK3⟩
            case measure => simp [RowKit.intOf]; omega
        · have hkl : k = T.args.length := by omega
          have hst := HST.out
          rw [hkl, List.drop_length, risL] at hst
          have HE := Lib.hid hst
          clear hst
          go_wp2
          go_ret
          rw [← HE.out]
          exact ⟨rfl, HQ.out, (Kept.of_below HB1.out).trans' HKR.out⟩

/-- is it a closed type? -/
def closedT (T : Ty) : Bool := rightT T && (risT T 0).1

set_option maxRecDepth 20000 in
set_option maxHeartbeats 1000000 in
theorem closed_any (T : Ty) (v : Value) (w : World) (hT : TyAt (· < w.heap.size) w v T) : Calls Tryd.prog 35 #[v] w fun e w' => e = .returned (.bool (closedT T)) ∧ Below w.heap.size w w' := by
  obtain ⟨A, c, rfl, hc, hm, hn⟩ := hT.form
  obtain ⟨W1, hW1⟩ : ∃ W1, W1 = w.alloc (.cells #[.int .i64 T.kind, .int .i64 T.num, .string T.name, .slice A T.args.length c] 24) := ⟨_, rfl⟩
  have hb1 : Below w.heap.size w W1 := by rw [hW1]; exact (Below.refl _ _).alloc (Nat.le_refl _) _
  have hbx : W1.heap[w.heap.size]? = some (.cells #[.int .i64 T.kind, .int .i64 T.num, .string T.name, .slice A T.args.length c] 24 (0, 0)) := by rw [hW1]; exact heap_alloc_new _ _
  have hT1 := hT.blw hb1
  have HRI := Lib.hid (right_any T _ W1 hT1)
  have HBX := Lib.hid hbx; have HT1 := Lib.hid hT1; have HB1 := Lib.hid hb1
  obtain ⟨y0, y1, y2, y3⟩ := box4 hbx
  rw [hW1] at y0 y1 y2 y3
  clear hT hT1 hbx hb1 hc hm hn
  unfold tyV at HRI ⊢
  go_enter Tryd.func35, Tryd.ntmps35
  go_wp2_with fail
  rw [← hW1]
  clear hW1 y0 y1 y2 y3
  refine HRI.out.mono ?_
  rintro e w2 ⟨rfl, hb2⟩
  have HB2 : Hid (Below w.heap.size w w2) := Lib.hid (HB1.out.trans (hb2.mono HB1.out.size))
  cases hr : rightT T with
  | false =>
    have HR : Hid (closedT T = false) := Lib.hid (by unfold closedT; rw [hr]; rfl)
    clear hr hb2
    go_wp2
    go_ret
    rw [HR.out]
    exact ⟨rfl, HB2.out⟩
  | true =>
    have HR : Hid (closedT T = (risT T 0).1) := Lib.hid (by unfold closedT; rw [hr]; rfl)
    obtain ⟨W3, hW3⟩ : ∃ W3, W3 = w2.alloc (.cells #[.int .i64 0] 3) := ⟨_, rfl⟩
    have hb3 : Below w2.heap.size w2 W3 := by rw [hW3]; exact (Below.refl _ _).alloc (Nat.le_refl _) _
    have hz3 : W3.heap.size = w2.heap.size + 1 := by rw [hW3]; simp
    have hq3 : CellI W3 w2.heap.size 3 0 := by rw [hW3]; exact heap_alloc_new _ _
    have hca := rising_any w2.heap.size T 0 _ W3 hq3 ((HT1.out.blw hb2).keep fun g (hg : g < w2.heap.size) => ⟨⟨by omega, by omega⟩, hb3.block g hg⟩) (Int.le_refl _) (by have := (rightT_iff.1 hr).1; omega)
    have hlb := hb2.block _ (lt_blk HBX.out)
    have HB3 : Hid (Below w.heap.size w W3) := Lib.hid (HB2.out.trans (hb3.mono HB2.out.size))
    obtain ⟨y0, y1, y2, y3⟩ := box4 ((hb3.block _ (by have := hb2.size; have := lt_blk HBX.out; omega)).trans (hlb.trans HBX.out))
    rw [hW3] at y0 y1 y2 y3
    have HZ2 : Hid (w.heap.size ≤ w2.heap.size ∧ w2.heap.size ≤ W3.heap.size) := Lib.hid ⟨HB2.out.size, by omega⟩
    unfold tyV at hca
    have HCA := Lib.hid hca
    clear hr hb2 hb3 hz3 hq3 hca hlb
    go_wp2_with fail
    rw [← hW3]
    clear hW3 y0 y1 y2 y3
    refine HCA.out.mono ?_
    rintro e w4 ⟨rfl, hq4, hk4⟩
    have HB4 : Hid (Below w.heap.size w w4) := Lib.hid (HB3.out.trans (below_of_kept hk4 HZ2.out.1 (by have := HZ2.out; omega)))
    clear hq4 hk4
    go_wp2
    go_ret
    rw [HR.out]
    exact ⟨rfl, HB4.out⟩

set_option maxRecDepth 20000 in
set_option maxHeartbeats 1000000 in
theorem short_any (T : Ty) : ∀ (v : Value) (w : World), TyAt (· < w.heap.size) w v T → Calls Tryd.prog 72 #[v] w fun e w' => e = .returned (.bool (shortT T)) ∧ Below w.heap.size w w' := by
  induction T using Ty.ind with
  | h T ih =>
    intro v w hT
    have IH := Lib.hid ih
    clear ih
    obtain ⟨A, c, rfl, hc, hm, hn⟩ := hT.form
    obtain ⟨W1, hW1⟩ : ∃ W1, W1 = w.alloc (.cells #[.int .i64 T.kind, .int .i64 T.num, .string T.name, .slice A T.args.length c] 24) := ⟨_, rfl⟩
    have hb1 : Below w.heap.size w W1 := by rw [hW1]; exact (Below.refl _ _).alloc (Nat.le_refl _) _
    have hbx : W1.heap[w.heap.size]? = some (.cells #[.int .i64 T.kind, .int .i64 T.num, .string T.name, .slice A T.args.length c] 24 (0, 0)) := by rw [hW1]; exact heap_alloc_new _ _
    have HT1 := Lib.hid (hT.blw hb1); have HB1 := Lib.hid hb1
    obtain ⟨y0, y1, y2, y3⟩ := box4 hbx
    rw [hW1] at y0 y1 y2 y3
    have hln : T.name.size ≤ 9223372036854775807 := hn
    clear hT hbx hb1 hc hm hn
    unfold tyV
    by_cases h1 : T.name.size ≤ 255
    · by_cases h2 : T.args.length ≤ 255
      · have HR : Hid (shortT T = shortL T.args) := Lib.hid (by rw [shortT_eq, decide_eq_true h1, decide_eq_true h2]; rfl)
        have g1 : ¬ (255 : Int) < (T.name.size : Int) := by omega
        have g2 : ¬ (255 : Int) < (T.args.length : Int) := by omega
        go_enter Tryd.func72, Tryd.ntmps72
        go_wp2
        rw [← hW1]
        clear hW1 y0 y1 y2 y3 g1 g2
        go_loopw [18] (fun iv W => ∃ (k : Nat), k ≤ T.args.length ∧ iv = .int .i64 k ∧ Hid (shortL (T.args.drop k) = shortL T.args) ∧ Hid (Below W1.heap.size W1 W)) (fun iv _ => T.args.length - (RowKit.intOf iv).toNat)
        case atStart => exact ⟨0, by omega, rfl, Lib.hid (by rw [List.drop_zero]), Lib.hid (Below.refl _ _)⟩
        case round =>
          obtain ⟨k, hk, rfl, HST, HB⟩ := hrel
          by_cases hlt : k < T.args.length
          · obtain ⟨b, off, A', c', rfl, hb, ht, x0, x1, x2, x3⟩ := (HT1.out.blw HB.out).arg hlt
            have hst := HST.out
            rw [shortL_step hlt] at hst
            obtain ⟨W2, hW2⟩ : ∃ W2, W2 = wr.alloc (.cells #[.int .i64 T.args[k].kind, .int .i64 T.args[k].num, .string T.args[k].name, .slice A' T.args[k].args.length c'] 24) := ⟨_, rfl⟩
            have hb2 : Below wr.heap.size wr W2 := by rw [hW2]; exact (Below.refl _ _).alloc (Nat.le_refl _) _
            have hca := IH.out k hlt _ W2 (ht.blw hb2)
            obtain ⟨z0, z1, z2, z3⟩ := box4 (show W2.heap[wr.heap.size]? = some (.cells #[.int .i64 T.args[k].kind, .int .i64 T.args[k].num, .string T.args[k].name, .slice A' T.args[k].args.length c'] 24 (0, 0)) by rw [hW2]; exact heap_alloc_new _ _)
            have HB2 : Hid (Below W1.heap.size W1 W2) := Lib.hid (HB.out.trans (hb2.mono HB.out.size))
            have HZ2 : Hid (W1.heap.size ≤ W2.heap.size) := Lib.hid HB2.out.size
            clear ht
            generalize T.args[k] = V at *
            unfold tyV at hca
            obtain ⟨r, hr⟩ : ∃ r, r = shortT V := ⟨_, rfl⟩
            rw [← hr] at hca hst
            have HST2 := Lib.hid hst
            have HCA := Lib.hid hca
            rw [hW2] at z0 z1 z2 z3
            clear hca hb2 hst hr
            go_wp2_with fail
            rw [← hW2]
            clear hW2 z0 z1 z2 z3
            refine HCA.out.mono ?_
            rintro e w3 ⟨rfl, hb3⟩
            have HB3 : Hid (Below W1.heap.size W1 w3) := Lib.hid (HB2.out.trans (hb3.mono HZ2.out))
            clear hb3
            cases r with
            | false =>
              have HN : Hid (shortL T.args = false) := Lib.hid (by rw [← HST2.out]; rfl)
              clear HST2
              go_wp2
              go_ret
              rw [HR.out, HN.out]
              exact ⟨rfl, HB1.out.trans (HB3.out.mono HB1.out.size)⟩
            | true =>
              have HN : Hid (shortL (T.args.drop (k + 1)) = shortL T.args) := Lib.hid (by rw [← HST2.out]; rfl)
              clear HST2
              go_wp2
              go_roundw
              case rel => exact ⟨k + 1, by omega, by go_num, HN, HB3⟩
              case measure => simp [RowKit.intOf]; omega
          · have hkl : k = T.args.length := by omega
            have hst := HST.out
            rw [hkl, List.drop_length, shortL] at hst
            have HE := Lib.hid hst
            clear hst
            go_wp2
            go_ret
            rw [HR.out, ← HE.out]
            exact ⟨rfl, HB1.out.trans (HB.out.mono HB1.out.size)⟩
      · have HR : Hid (shortT T = false) := Lib.hid (by rw [shortT_eq, decide_eq_false h2, Bool.false_and, Bool.and_false])
        have g1 : ¬ (255 : Int) < (T.name.size : Int) := by omega
        have g2 : (255 : Int) < (T.args.length : Int) := by omega
        go_enter Tryd.func72, Tryd.ntmps72
        go_wp2
        go_ret
        rw [HR.out, ← hW1]
        exact ⟨rfl, HB1.out⟩
    · have HR : Hid (shortT T = false) := Lib.hid (by rw [shortT_eq, decide_eq_false h1, Bool.false_and])
      have g1 : (255 : Int) < (T.name.size : Int) := by omega
      go_enter Tryd.func72, Tryd.ntmps72
      go_wp2
      go_ret
      rw [HR.out, ← hW1]
      exact ⟨rfl, HB1.out⟩
end Go.Proofs.YtbhicpjhijondaaDoor
