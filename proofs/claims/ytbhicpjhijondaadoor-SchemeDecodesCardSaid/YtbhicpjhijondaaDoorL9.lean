/- The reference's count and right. -/
import Derived.Test.YtbhicpjhijondaaDoorL8
import Derived.Test.YtbhicpjhijondaaDoorTC
namespace Go.Typ
mutual
/-- how many parts, counted up to some more than 300. -/
def countT : Ty → Int
  | .mk _ _ _ ts => countL ts 1
def countL : List Ty → Int → Int
  | [], n => n
  | a :: ts, n => if n ≤ 300 then countL ts (n + countT a) else n
end
theorem countT_eq (T : Ty) : countT T = countL T.args 1 := by cases T; rfl
theorem countL_stop {ts : List Ty} {n : Int} (h : ¬ n ≤ 300) : countL ts n = n := by
  cases ts with
  | nil => rfl
  | cons a ts => simp only [countL, if_neg h]
theorem countL_step {ts : List Ty} {k : Nat} {n : Int} (hk : k < ts.length) (h : n ≤ 300) : countL (ts.drop k) n = countL (ts.drop (k + 1)) (n + countT ts[k]) := by
  rw [List.drop_eq_getElem_cons hk, countL, if_pos h]
theorem countL_end {ts : List Ty} {k : Nat} {n : Int} (hk : ts.length ≤ k) : countL (ts.drop k) n = n := by
  rw [List.drop_of_length_le hk, countL]
/-- a count: right up to 300. -/
def CntOk (p : Nat) (c : Int) : Prop := 1 ≤ c ∧ c ≤ p ∧ (c = p ∨ 300 < c)
theorem countL_ok {ts : List Ty} (ih : ∀ a ∈ ts, CntOk a.parts (countT a)) : ∀ (n : Int) (p : Nat), CntOk p n → CntOk (p + partsL ts) (countL ts n) := by
  induction ts with
  | nil => intro n p h; simpa [partsL, countL] using h
  | cons a ts ih2 =>
    intro n p h
    obtain ⟨h1, h2, h3⟩ := h
    have ha := ih a (by simp)
    obtain ⟨a1, a2, a3⟩ := ha
    simp only [countL, partsL]
    split
    · have := ih2 (fun b hb => ih b (by simp [hb])) (n + countT a) (p + a.parts) ⟨by omega, by omega, by omega⟩
      rw [← Nat.add_assoc]; exact this
    · exact ⟨h1, by omega, by omega⟩
theorem countT_ok (T : Ty) : CntOk T.parts (countT T) := by
  induction T using Ty.ind with
  | h T ih =>
    rw [countT_eq, T.parts_eq]
    refine countL_ok (fun a ha => ?_) 1 1 ⟨by omega, by omega, by omega⟩
    obtain ⟨i, hi, rfl⟩ := List.getElem_of_mem ha
    exact ih i hi
/-- do all parts fit? -/
def fitsA (T : Ty) : Bool := T.list.all fitsT
theorem listL_all {p : Ty → Bool} : ∀ ts : List Ty, (listL ts).all p = ts.all fun a => a.list.all p
  | [] => rfl
  | a :: ts => by rw [listL, List.all_append, listL_all ts, List.all_cons]
theorem fitsA_eq (T : Ty) : fitsA T = (fitsT T && T.args.all fitsA) := by
  unfold fitsA
  rw [T.list_eq, List.all_cons, listL_all]
end Go.Typ
namespace Go.Proofs.YtbhicpjhijondaaDoor
open Go.RowKit Go.Lib Go.Vfs Go.Par Go.Typ
set_option linter.unusedVariables false
set_option linter.unusedSimpArgs false

set_option maxRecDepth 20000 in
set_option maxHeartbeats 400000 in
theorem count_any (T : Ty) : ∀ (v : Value) (w : World), TyAt (· < w.heap.size) w v T → T.parts ≤ 1099511627776 →
    Calls Tryd.prog 64 #[v] w fun e w' => e = .returned (.int .i64 (countT T)) ∧ Below w.heap.size w w' := by
  induction T using Ty.ind with
  | h T ih =>
    intro v w hT hp
    have IH := Lib.hid ih
    clear ih
    obtain ⟨A, c, rfl, hc, hm, hn⟩ := hT.form
    have HT := Lib.hid hT
    have HP := Lib.hid hp
    have hla : T.args.length ≤ 1099511627776 := by have := length_parts T.args; rw [T.parts_eq] at hp; omega
    clear hT hp
    unfold tyV
    obtain ⟨W1, hW1⟩ : ∃ W1, W1 = w.alloc (.cells #[.int .i64 T.kind, .int .i64 T.num, .string T.name, .slice A T.args.length c] 24) := ⟨_, rfl⟩
    have hbox : W1.heap[w.heap.size]? = some (.cells #[.int .i64 T.kind, .int .i64 T.num, .string T.name, .slice A T.args.length c] 24 (0, 0)) := by rw [hW1]; exact heap_alloc_new _ _
    have HB1 : Hid (Below w.heap.size w W1) := Lib.hid (by rw [hW1]; exact (Below.refl _ _).alloc (Nat.le_refl _) _)
    have HZ1 : Hid (W1.heap.size = w.heap.size + 1) := Lib.hid (by rw [hW1]; simp)
    have HBX := Lib.hid hbox
    clear hbox
    have hst : countL (T.args.drop 0) 1 = countT T := by rw [List.drop_zero, countT_eq]
    have HST := Lib.hid hst
    clear hst
    go_enter Tryd.func64, Tryd.ntmps64
    go_wp2
    rw [← hW1]
    go_loopw [3, 4] (fun nv iv W => ∃ (k : Nat) (n : Int), k ≤ T.args.length ∧ nv = .int .i64 n ∧ iv = .int .i64 k ∧ Hid (countL (T.args.drop k) n = countT T) ∧ (1 ≤ n ∧ n ≤ 2199023255552) ∧ Hid (n ≤ 300 → (n : Int) ≤ 300) ∧ Hid (Below W1.heap.size W1 W)) (fun nv iv _ => T.args.length - (RowKit.intOf iv).toNat)
    case atStart => exact ⟨0, _, by omega, rfl, rfl, HST, by omega, Lib.hid (fun h => h), Lib.hid (Below.refl _ _)⟩
    case round =>
      obtain ⟨k, n, hk, rfl, rfl, HW, hn1, -, HB⟩ := hrel
      have hbox : wr.heap[w.heap.size]? = some (.cells #[.int .i64 T.kind, .int .i64 T.num, .string T.name, .slice A T.args.length c] 24 (0, 0)) := by
        rw [HB.out.block _ (by have := HZ1.out; omega)]; exact HBX.out
      obtain ⟨y0, y1, y2, y3⟩ := box4 hbox
      by_cases hlt : k < T.args.length
      · by_cases hnm : n ≤ 300
        · obtain ⟨b, off, A', c', rfl, hb, ht, z0, z1, z2, z3⟩ := HT.out.arg hlt
          have hbw : Below w.heap.size w wr := HB1.out.trans (HB.out.mono HB1.out.size)
          have x0 := (hbw.cell (p := ⟨b, off + k * 4, none⟩) hb).trans z0
          have x1 := (hbw.cell (p := ⟨b, off + k * 4 + 1, none⟩) hb).trans z1
          have x2 := (hbw.cell (p := ⟨b, off + k * 4 + 2, none⟩) hb).trans z2
          have x3 := (hbw.cell (p := ⟨b, off + k * 4 + 3, none⟩) hb).trans z3
          have hpa := Ty.parts_arg hlt
          have hpl := HP.out
          have hca := IH.out k hlt _ wr (ht.keep fun g hg => ⟨Nat.lt_of_lt_of_le hg hbw.size, hbw.block g hg⟩) (by omega)
          have hbd := countT_ok T.args[k]
          have hbd2 : 1 ≤ countT T.args[k] ∧ countT T.args[k] ≤ 1099511627776 := ⟨hbd.1, by have := hbd.2.1; omega⟩
          have HS := Lib.hid (countL_step (ts := T.args) hlt hnm)
          clear z0 z1 z2 z3 ht hbox hpa hpl hbd
          generalize T.args[k] = U at *
          obtain ⟨q, hq⟩ : ∃ q, q = countT U := ⟨_, rfl⟩
          rw [← hq] at hbd2 hca HS
          unfold tyV at hca
          have HCA := Lib.hid hca
          clear hca hq
          go_wp2_with (go_at_call 64; refine HCA.out.mono ?_; rintro e w2 ⟨rfl, HB2⟩)
          go_roundw
          case rel => exact ⟨k + 1, n + q, by omega, by go_num, by go_num, Lib.hid (HS.out.symm.trans HW.out), ⟨by omega, by omega⟩, Lib.hid (fun h => h), Lib.hid (HB.out.trans (HB2.mono HB.out.size))⟩
          case measure => simp [RowKit.intOf]; omega
        · have hres := HW.out
          rw [countL_stop hnm] at hres
          have HRES := Lib.hid hres
          clear hres
          go_wp2
          go_ret
          exact ⟨by rw [← HRES.out]; rfl, HB1.out.trans (HB.out.mono HB1.out.size)⟩
      · have hres := HW.out
        rw [countL_end (by omega)] at hres
        have HRES := Lib.hid hres
        clear hres
        go_wp2
        go_ret
        exact ⟨by rw [← HRES.out]; rfl, HB1.out.trans (HB.out.mono HB1.out.size)⟩
end Go.Proofs.YtbhicpjhijondaaDoor
