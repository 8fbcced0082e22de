/- The library's contracts in the words of this seat: HasPrefix, Index. -/
import Derived.Test.YtffblcefnckacaaDoorFK
import Derived.Test.YtffblcefnckacaaDoorShelf
import Derived.Test.YtffblcefnckacaaDoorFE
import Derived.Lib.SlFresh
namespace Go.Proofs.YtffblcefnckacaaDoor
open Go.RowKit Go.Lib Go.Vfs Go.Par Go.Frm
set_option linter.unusedVariables false
set_option linter.unusedSimpArgs false

theorem numsL_getD (l : List UInt8) (i : Nat) (hi : i < l.length) : (numsL l).getD i 0 = ((l.getD i 0).toNat : Int) := by
  unfold numsL
  simp [List.getD_eq_getElem?_getD, List.getElem?_eq_getElem hi]
/-- cells of bytes, from an address on. -/
theorem at_cells {w : World} {B : Nat} {A : Option Addr} {l : List UInt8} (h : At w B A l.length (fun i => .int .u8 (l.getD i 0).toNat)) (a : Addr) (ha : A = some a) : ∀ i, i < l.length → w.cell? (a.add i) = some (.int .u8 ((numsL l).getD i 0)) := by
  intro i hi
  obtain ⟨b, off, e, hb, hc⟩ := h i hi
  rw [ha] at e
  cases e
  rw [add_addr, hc, numsL_getD l i hi]
theorem at_none {w : World} {B : Nat} {A : Option Addr} {l : List UInt8} (h : At w B A l.length (fun i => .int .u8 (l.getD i 0).toNat)) (ha : A = none) : l = [] := by
  cases l with
  | nil => rfl
  | cons x l =>
    obtain ⟨b, off, e, -⟩ := h 0 (by simp)
    rw [ha] at e; cases e
/-- bytes.Index, of a slice that is empty where it is nil. -/
theorem index_seg (u v : Value) (xs ys : List UInt8) (B : Nat) (w : World) (m : Int) (hu : Seg w B u (Lib.byteCells xs)) (hv : Seg w B v (Lib.byteCells ys)) (hnil : ∀ n c, u = .slice none n c → c = 0) (hy : 2 ≤ ys.length) (hs : xs.length < 4294967281) (hm : w.cell? ⟨0, 0, none⟩ = some (.int .i64 m)) :
    Calls Tryd.prog 37 #[u, v] w fun e w' => e = .returned (.int .i64 (Lib.index xs ys)) ∧ ∃ q, w' = w.drewN q := by
  obtain ⟨A, c, rfl, hc, hcm, ha⟩ := hu.open_bytes
  obtain ⟨A', c', rfl, hc', hcm', ha'⟩ := hv.open_bytes
  cases A' with
  | none => have := at_none ha' rfl; subst this; simp at hy
  | some a' =>
    cases A with
    | none =>
      have := at_none ha rfl; subst this
      have hc0 := hnil _ _ rfl; subst hc0
      refine (Tryd.bytes_Index_nil (some a') ys.length c' w (by omega) (by omega)).mono ?_
      rintro e w' ⟨rfl, rfl⟩
      refine ⟨?_, 0, rfl⟩
      rw [if_neg (by omega)]
      cases ys with
      | nil => simp at hy
      | cons y ys => rfl
    | some a =>
      have := Tryd.bytes_Index_at a a' xs.length c ys.length c' (numsL xs) (numsL ys) m w (numsL_length _) (numsL_length _) (numsL_range _) (numsL_range _) (at_cells ha a rfl) (at_cells ha' a' rfl) hc hs (by omega) hm
      rwa [bytesOf_numsL, bytesOf_numsL] at this
theorem in_bytes {w : World} {B : Nat} {A : Option Addr} {l : List UInt8} (h : At w B A l.length (fun i => .int .u8 (l.getD i 0).toNat)) : Lib.BytesIn w A l.length (numsL l) := by
  intro hn
  obtain ⟨b, off, e, hb, -⟩ := h 0 hn
  refine ⟨b, off, e, fun i hi => ?_⟩
  obtain ⟨b', off', e', -, hc⟩ := h i hi
  rw [e] at e'; cases e'
  rw [hc, numsL_getD l i hi]
/-- bytes.HasPrefix. -/
theorem prefix_seg (u v : Value) (xs ys : List UInt8) (B : Nat) (w : World) (hu : Seg w B u (Lib.byteCells xs)) (hv : Seg w B v (Lib.byteCells ys)) :
    Calls Tryd.prog 36 #[u, v] w fun e w' => e = .returned (.bool (ys.isPrefixOf xs)) ∧ w' = w := by
  obtain ⟨A, c, rfl, hc, hcm, ha⟩ := hu.open_bytes
  obtain ⟨A', c', rfl, hc', hcm', ha'⟩ := hv.open_bytes
  have := Tryd.bytes_HasPrefix_all A A' xs.length c ys.length c' (numsL xs) (numsL ys) w (numsL_length _) (numsL_length _) hc (in_bytes ha) (in_bytes ha')
  rwa [bytesOf_numsL, bytesOf_numsL] at this
/-- bytes.Cut, of a slice that is empty where it is nil. -/
theorem cut_seg (A A' : Option Addr) (c c' : Nat) (xs ys : List UInt8) (B : Nat) (w : World) (m : Int) (hu : Seg w B (.slice A xs.length c) (Lib.byteCells xs)) (hv : Seg w B (.slice A' ys.length c') (Lib.byteCells ys)) (hnil : A = none → c = 0) (hs : xs.length < 4294967281) (hm : w.cell? ⟨0, 0, none⟩ = some (.int .i64 m)) :
    Calls Tryd.prog 39 #[.slice A xs.length c, .slice A' ys.length c'] w fun e w' => e = .returned (Lib.cutV A xs.length c ys.length (Lib.index xs ys)) ∧ ∃ q, w' = w.drewN q := by
  obtain ⟨A1, c1, e1, hc, hcm, ha⟩ := hu.open_bytes
  obtain ⟨A2, c2, e2, hc', hcm', ha'⟩ := hv.open_bytes
  cases e1; cases e2
  have := Tryd.bytes_Cut_all A A' xs.length c ys.length c' (numsL xs) (numsL ys) m w (numsL_length _) (numsL_length _) (numsL_range _) (numsL_range _) (in_bytes ha) (in_bytes ha') hnil hc hs (by omega) hm
  rwa [bytesOf_numsL, bytesOf_numsL] at this
/-- bytes.Trim. -/
theorem trim_seg (A : Option Addr) (c : Nat) (xs : List UInt8) (B : Nat) (w : World) (hu : Seg w B (.slice A xs.length c) (Lib.byteCells xs)) :
    Calls Tryd.prog 44 #[.slice A xs.length c, .string ⟨#[32, 9]⟩] w fun e w' => e = .returned (Lib.leftV A (Lib.trimRightS xs [32, 9]).length c ((Lib.trimRightS xs [32, 9]).length - (Frm.trimB xs).length)) ∧ Below w.heap.size w w' := by
  obtain ⟨A1, c1, e1, hc, hcm, ha⟩ := hu.open_bytes
  cases e1
  have := Tryd.bytes_Trim_laid A xs.length c (numsL xs) ⟨#[32, 9]⟩ w (numsL_length _) hc hcm (in_bytes ha) (numsL_range _) (by decide) (by
    intro j b h
    match j with
    | 0 => cases h; decide
    | 1 => cases h; decide
    | k + 2 => cases h)
  rw [bytesOf_numsL] at this
  rw [← trimS_eq]
  exact this
end Go.Proofs.YtffblcefnckacaaDoor
