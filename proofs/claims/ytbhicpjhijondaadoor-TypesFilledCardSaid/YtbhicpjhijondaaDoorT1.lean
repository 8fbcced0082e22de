/- A type's weight. -/
import Derived.Test.YtbhicpjhijondaaDoorT0
import Derived.WalkKit
import Derived.WalkSmall
import Derived.Lib.Hide
import Derived.Lib.UnsafeStr
import Derived.Deep.Draws
import Derived.Maps.Own
import Derived.Test.YtbhicpjhijondaaDoorProg
import Derived.Maps.OwnOps
import Derived.Maps.OwnSet
import Derived.KernelRfl
import Derived.Maps.AppendAt
import Derived.RegionTactic
import Derived.OwnWalk
import Derived.WalkLawsBesides
import Derived.WalkSpells
import Derived.Outline
import Derived.BigQuiet
import Derived.IntWalk
import Derived.Lib.Strings
import Derived.Deep.QuietTactic
import Derived.Deep.DeepCutAuto
import Derived.Deep.RegionHeld
import Derived.StillTailTactics
import Derived.Lib.SliceRun
namespace Go.Typ
mutual
/-- a type's weight. -/
def weightT : Ty → Int → Int
  | .mk _ _ s ts, most => weightL ts most (1 + (s.size : Int) / 16)
def weightL : List Ty → Int → Int → Int
  | [], _, n => n
  | a :: ts, most, n => if n ≤ most then weightL ts most (n + weightT a (most - n)) else n
end
theorem weightT_eq (T : Ty) (most : Int) : weightT T most = weightL T.args most (1 + (T.name.size : Int) / 16) := by cases T; rfl
theorem weightL_stop {ts : List Ty} {most n : Int} (h : ¬ n ≤ most) : weightL ts most n = n := by
  cases ts with
  | nil => rfl
  | cons a ts => simp only [weightL, if_neg h]
theorem weightL_step {ts : List Ty} {k : Nat} {most n : Int} (hk : k < ts.length) (h : n ≤ most) : weightL (ts.drop k) most n = weightL (ts.drop (k + 1)) most (n + weightT ts[k] (most - n)) := by
  rw [List.drop_eq_getElem_cons hk, weightL, if_pos h]
theorem weightL_end {ts : List Ty} {k : Nat} {most n : Int} (hk : ts.length ≤ k) : weightL (ts.drop k) most n = n := by
  rw [List.drop_of_length_le hk, weightL]
/-- names that aren't too long. -/
inductive Fit : Ty → Prop
  | mk (k num : Int) (s : ByteArray) (ts : List Ty) (h : s.size ≤ 9223372036854775807) (hs : ∀ a ∈ ts, Fit a) : Fit (.mk k num s ts)
theorem Fit.name {T : Ty} (h : Fit T) : T.name.size ≤ 9223372036854775807 := by cases h; assumption
theorem Fit.arg {T : Ty} (h : Fit T) {i : Nat} (hi : i < T.args.length) : Fit T.args[i] := by
  cases h with
  | mk k num s ts h hs => exact hs _ (List.getElem_mem hi)
theorem weightL_bound {ts : List Ty} (ih : ∀ a ∈ ts, ∀ most : Int, 0 ≤ most → 1 ≤ weightT a most ∧ weightT a most ≤ most + 576460752303423489) :
    ∀ most n : Int, 0 ≤ most → 1 ≤ n → n ≤ most + 576460752303423489 → 1 ≤ weightL ts most n ∧ weightL ts most n ≤ most + 576460752303423489 := by
  induction ts with
  | nil => intro most n h0 h1 h2; exact ⟨h1, h2⟩
  | cons a ts ih2 =>
    intro most n h0 h1 h2
    simp only [weightL]
    split
    · have h3 := ih a (by simp) (most - n) (by omega)
      exact ih2 (fun b hb => ih b (by simp [hb])) most _ h0 (by omega) (by omega)
    · exact ⟨h1, h2⟩
theorem weightT_bound {T : Ty} (h : Fit T) : ∀ most : Int, 0 ≤ most → 1 ≤ weightT T most ∧ weightT T most ≤ most + 576460752303423489 := by
  induction h with
  | mk k num s ts hs _ ih =>
    intro most h0
    rw [weightT]
    refine weightL_bound (fun a ha => ih a ha) most _ h0 (by omega) ?_
    omega
theorem TyAt.fit {S : Nat → Prop} {W : World} {v : Value} {T : Ty} (h : TyAt S W v T) : Fit T := by
  induction h with
  | mk k num name ts A c vs hc hm hn hcell hsub ih =>
    refine .mk k num name ts hn fun a ha => ?_
    obtain ⟨i, hi, rfl⟩ := List.getElem_of_mem ha
    exact ih i hi
end Go.Typ
namespace Go.Proofs.YtbhicpjhijondaaDoor
open Go.RowKit Go.Lib Go.Vfs Go.Par Go.Typ
set_option linter.unusedVariables false
set_option linter.unusedSimpArgs false

/-- a type in a box. -/
theorem box4 {W : World} {b : Nat} {v0 v1 v2 v3 : Value} {t : TypeId} (h : W.heap[b]? = some (.cells #[v0, v1, v2, v3] t (0, 0))) :
    (W.cell? ⟨b, 0, none⟩ = some v0 ∧ W.cell? ⟨b, 1, none⟩ = some v1 ∧ W.cell? ⟨b, 2, none⟩ = some v2 ∧ W.cell? ⟨b, 3, none⟩ = some v3) := by
  simp [World.cell?, h]
theorem box4_frozen {W : World} {b : Nat} {v0 v1 v2 v3 : Value} {t : TypeId} (h : W.heap[b]? = some (.cells #[v0, v1, v2, v3] t (0, 0))) :
    (W.frozen? ⟨b, 0, none⟩ = false ∧ W.frozen? ⟨b, 1, none⟩ = false ∧ W.frozen? ⟨b, 2, none⟩ = false ∧ W.frozen? ⟨b, 3, none⟩ = false) := by
  simp [World.frozen?, h]

set_option maxRecDepth 20000 in
set_option maxHeartbeats 400000 in
theorem weight_any (T : Ty) : ∀ (v : Value) (most : Int) (w : World), TyAt (· < w.heap.size) w v T → 0 ≤ most → most ≤ 1000 →
    Calls Tryd.prog 25 #[v, .int .i64 most] w fun e w' => e = .returned (.int .i64 (weightT T most)) ∧ Below w.heap.size w w' := by
  induction T using Ty.ind with
  | h T ih =>
    intro v most w hT h0 h1
    have IH := Lib.hid ih
    have hfit := hT.fit
    have HF := Lib.hid hfit
    clear ih hfit
    obtain ⟨A, c, rfl, hc, hm, hn⟩ := hT.form
    have HT := Lib.hid hT
    have hla : T.args.length ≤ 9223372036854775807 := by simp only [maxLen] at hm; omega
    clear hT
    unfold tyV
    obtain ⟨W1, hW1⟩ : ∃ W1, W1 = w.alloc (.cells #[.int .i64 T.kind, .int .i64 T.num, .string T.name, .slice A T.args.length c] 24) := ⟨_, rfl⟩
    have hbox : W1.heap[w.heap.size]? = some (.cells #[.int .i64 T.kind, .int .i64 T.num, .string T.name, .slice A T.args.length c] 24 (0, 0)) := by rw [hW1]; exact heap_alloc_new _ _
    have HB1 : Hid (Below w.heap.size w W1) := Lib.hid (by rw [hW1]; exact (Below.refl _ _).alloc (Nat.le_refl _) _)
    have HZ1 : Hid (W1.heap.size = w.heap.size + 1) := Lib.hid (by rw [hW1]; simp)
    have HBX := Lib.hid hbox
    clear hbox
    have hst : weightL (T.args.drop 0) most (1 + (T.name.size : Int) / 16) = weightT T most := by rw [List.drop_zero, weightT_eq]
    have HST := Lib.hid hst
    clear hst
    have hrg : 1 ≤ 1 + (T.name.size : Int) / 16 ∧ 1 + (T.name.size : Int) / 16 ≤ most + 576460752303423489 := by omega
    have HRG := Lib.hid hrg
    clear hrg
    go_enter Tryd.func25, Tryd.ntmps25
    go_wp2
    rw [← hW1]
    go_loopw [5, 6] (fun nv iv W => ∃ (k : Nat) (n : Int), k ≤ T.args.length ∧ nv = .int .i64 n ∧ iv = .int .i64 k ∧ Hid (weightL (T.args.drop k) most n = weightT T most) ∧ (1 ≤ n ∧ n ≤ most + 576460752303423489) ∧ Hid (Below W1.heap.size W1 W)) (fun nv iv _ => T.args.length - (intOf iv).toNat)
    case atStart => exact ⟨0, _, by omega, rfl, rfl, HST, HRG.out, Lib.hid (Below.refl _ _)⟩
    case round =>
      obtain ⟨k, n, hk, rfl, rfl, HW, hn1, HB⟩ := hrel
      have hbox : wr.heap[w.heap.size]? = some (.cells #[.int .i64 T.kind, .int .i64 T.num, .string T.name, .slice A T.args.length c] 24 (0, 0)) := by
        rw [HB.out.block _ (by have := HZ1.out; omega)]; exact HBX.out
      obtain ⟨y0, y1, y2, y3⟩ := box4 hbox
      by_cases hlt : k < T.args.length
      · by_cases hnm : n ≤ most
        · obtain ⟨b, off, A', c', rfl, hb, ht, z0, z1, z2, z3⟩ := HT.out.arg hlt
          have hbw : Below w.heap.size w wr := HB1.out.trans (HB.out.mono HB1.out.size)
          have x0 := (hbw.cell (p := ⟨b, off + k * 4, none⟩) hb).trans z0
          have x1 := (hbw.cell (p := ⟨b, off + k * 4 + 1, none⟩) hb).trans z1
          have x2 := (hbw.cell (p := ⟨b, off + k * 4 + 2, none⟩) hb).trans z2
          have x3 := (hbw.cell (p := ⟨b, off + k * 4 + 3, none⟩) hb).trans z3
          have hca := IH.out k hlt _ (most - n) wr (ht.keep fun g hg => ⟨Nat.lt_of_lt_of_le hg hbw.size, hbw.block g hg⟩) (by omega) (by omega)
          have hbd := weightT_bound (HF.out.arg hlt) (most - n) (by omega)
          have HS := Lib.hid (weightL_step (ts := T.args) hlt hnm)
          clear z0 z1 z2 z3 ht hbox
          generalize T.args[k] = U at *
          obtain ⟨q, hq⟩ : ∃ q, q = weightT U (most - n) := ⟨_, rfl⟩
          rw [← hq] at hbd hca HS
          unfold tyV at hca
          have HCA := Lib.hid hca
          clear hca hq
          go_wp2_with (go_at_call 25; refine HCA.out.mono ?_; rintro e w2 ⟨rfl, HB2⟩)
          go_roundw
          case rel => exact ⟨k + 1, n + q, by omega, by go_num, by go_num, Lib.hid (HS.out.symm.trans HW.out), ⟨by omega, by omega⟩, Lib.hid (HB.out.trans (HB2.mono HB.out.size))⟩
          case measure => simp [intOf]; omega
        · have hres := HW.out
          rw [weightL_stop hnm] at hres
          have HRES := Lib.hid hres
          clear hres
          go_wp2
          go_ret
          exact ⟨by rw [← HRES.out]; rfl, HB1.out.trans (HB.out.mono HB1.out.size)⟩
      · have hres := HW.out
        rw [weightL_end (by omega)] at hres
        have HRES := Lib.hid hres
        clear hres
        go_wp2
        go_ret
        exact ⟨by rw [← HRES.out]; rfl, HB1.out.trans (HB.out.mono HB1.out.size)⟩
end Go.Proofs.YtbhicpjhijondaaDoor
