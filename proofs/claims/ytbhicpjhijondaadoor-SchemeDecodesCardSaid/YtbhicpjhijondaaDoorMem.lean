/- Words for memory: a slice value that holds a list of one-cell values, below a block. No function of the program in sight. -/
import Derived.Test.YtbhicpjhijondaaDoorV0
import Derived.WalkKit
import Derived.WalkSmall
import Derived.Lib.Hide
import Derived.Lib.UnsafeStr
import Derived.Deep.Draws
namespace Go.Par
open Go.RowKit Go.Lib

/-- v is a slice of the values xs, a cell each, in a block below B (whatever it is where it is empty). -/
def Seg (w : World) (B : Nat) (v : Value) (xs : List Value) : Prop :=
  ∃ A c, v = .slice A xs.length c ∧ xs.length ≤ c ∧ c ≤ maxLen ∧ (0 < xs.length → ∃ b off, A = some ⟨b, off, none⟩ ∧ b < B ∧ ∀ i, i < xs.length → w.cell? ⟨b, off + i, none⟩ = xs[i]?)

def ints (zs : List Int) : List Value := zs.map (Value.int .i64)
theorem ints_length (zs : List Int) : (ints zs).length = zs.length := by simp [ints]
theorem ints_append (a b : List Int) : ints (a ++ b) = ints a ++ ints b := by simp [ints]

section
variable {w w' : World} {B B' : Nat} {v : Value} {xs : List Value}
theorem Seg.keep (h : Seg w B v xs) (hk : ∀ b o, b < B → w'.cell? ⟨b, o, none⟩ = w.cell? ⟨b, o, none⟩) : Seg w' B v xs := by
  obtain ⟨A, c, h1, h2, h3, h4⟩ := h
  exact ⟨A, c, h1, h2, h3, fun hn => by
    obtain ⟨b, off, e, hb, hc⟩ := h4 hn
    exact ⟨b, off, e, hb, fun i hi => (hk b _ hb).trans (hc i hi)⟩⟩
theorem Seg.below (h : Seg w B v xs) (hb : Below B w w') : Seg w' B v xs := h.keep fun b o hp => hb.cell (p := ⟨b, o, none⟩) hp
theorem Seg.drewN (h : Seg w B v xs) (n : Nat) : Seg (w.drewN n) B v xs := h
theorem Seg.more (h : Seg w B v xs) (hB : B ≤ B') : Seg w B' v xs := by
  obtain ⟨A, c, h1, h2, h3, h4⟩ := h
  exact ⟨A, c, h1, h2, h3, fun hn => by
    obtain ⟨b, off, e, hb, hc⟩ := h4 hn
    exact ⟨b, off, e, by omega, hc⟩⟩
theorem Seg.nil (w : World) (B : Nat) : Seg w B (.slice none 0 0) [] := ⟨none, 0, rfl, by simp, by simp [maxLen], fun h => by simp at h⟩
end

/-- the cell of each element. -/
def At (w : World) (B : Nat) (A : Option Addr) (n : Nat) (f : Nat → Value) : Prop :=
  ∀ i, i < n → ∃ b off, A = some ⟨b, off, none⟩ ∧ b < B ∧ w.cell? ⟨b, off + i, none⟩ = some (f i)
theorem At.drewN {w : World} {B n : Nat} {A : Option Addr} {f : Nat → Value} (h : At w B A n f) (k : Nat) : At (w.drewN k) B A n f := h
theorem At.keep {w w' : World} {B n : Nat} {A : Option Addr} {f : Nat → Value} (h : At w B A n f) (hk : ∀ b o, b < B → w'.cell? ⟨b, o, none⟩ = w.cell? ⟨b, o, none⟩) : At w' B A n f := fun i hi => by
  obtain ⟨b, off, e, hb, hc⟩ := h i hi
  exact ⟨b, off, e, hb, (hk b _ hb).trans hc⟩
theorem At.below {w w' : World} {B n : Nat} {A : Option Addr} {f : Nat → Value} (h : At w B A n f) (hb : Below B w w') : At w' B A n f := h.keep fun b o hp => hb.cell (p := ⟨b, o, none⟩) hp

theorem Seg.open_ints {w : World} {B : Nat} {v : Value} {zs : List Int} (h : Seg w B v (ints zs)) :
    ∃ A c, v = .slice A zs.length c ∧ zs.length ≤ c ∧ c ≤ 9223372036854775807 ∧ At w B A zs.length (fun i => .int .i64 (zs.getD i 0)) := by
  obtain ⟨A, c, rfl, h2, h3, h4⟩ := h
  rw [ints_length] at h2 h4
  refine ⟨A, c, by rw [ints_length], h2, by simpa [maxLen] using h3, fun i hi => ?_⟩
  obtain ⟨b, off, e, hb, hc⟩ := h4 (by omega)
  refine ⟨b, off, e, hb, (hc i hi).trans ?_⟩
  simp [ints, hi, List.getD_eq_getElem?_getD]

theorem Seg.open_bytes {w : World} {B : Nat} {v : Value} {l : List UInt8} (h : Seg w B v (byteCells l)) :
    ∃ A c, v = .slice A l.length c ∧ l.length ≤ c ∧ c ≤ 9223372036854775807 ∧ At w B A l.length (fun i => .int .u8 (l.getD i 0).toNat) := by
  obtain ⟨A, c, rfl, h2, h3, h4⟩ := h
  rw [byteCells_length] at h2 h4
  refine ⟨A, c, by rw [byteCells_length], h2, by simpa [maxLen] using h3, fun i hi => ?_⟩
  obtain ⟨b, off, e, hb, hc⟩ := h4 (by omega)
  refine ⟨b, off, e, hb, (hc i hi).trans ?_⟩
  simp [byteCells, hi, List.getD_eq_getElem?_getD]

theorem At.int {w : World} {B n k : Nat} {A : Option Addr} {zs : List Int} (h : At w B A n (fun i => .int .i64 (zs.getD i 0))) (hk : k < n) :
    ∃ b off x, A = some ⟨b, off, none⟩ ∧ b < B ∧ w.cell? ⟨b, off + k, none⟩ = some (.int .i64 x) ∧ Hid (zs.getD k 0 = x) := by
  obtain ⟨b, off, e, hb, hc⟩ := h k hk
  exact ⟨b, off, _, e, hb, hc, Lib.hid rfl⟩
theorem At.byte {w : World} {B n k : Nat} {A : Option Addr} {l : List UInt8} (h : At w B A n (fun i => .int .u8 (l.getD i 0).toNat)) (hk : k < n) :
    ∃ b off x, A = some ⟨b, off, none⟩ ∧ b < B ∧ w.cell? ⟨b, off + k, none⟩ = some (.int .u8 (x : Nat)) ∧ x < 256 ∧ Hid ((l.getD k 0).toNat = x) := by
  obtain ⟨b, off, e, hb, hc⟩ := h k hk
  exact ⟨b, off, _, e, hb, hc, (l.getD k 0).toNat_lt, Lib.hid rfl⟩

/-- the first k are the same. -/
def Agree {α : Type} (k : Nat) (xs ys : List α) : Prop := xs.take k = ys.take k
theorem Agree.zero {α : Type} (xs ys : List α) : Agree 0 xs ys := rfl
theorem Agree.step {α : Type} {k : Nat} {xs ys : List α} (h : Agree k xs ys) (h1 : k < xs.length) (h2 : k < ys.length) (d : α) (he : xs.getD k d = ys.getD k d) : Agree (k + 1) xs ys := by
  unfold Agree at *
  simp [List.getD_eq_getElem?_getD, h1, h2] at he
  rw [List.take_succ_eq_append_getElem h1, List.take_succ_eq_append_getElem h2, h, he]
theorem Agree.whole {α : Type} {xs ys : List α} (h : Agree xs.length xs ys) (hl : xs.length = ys.length) : xs = ys := by
  unfold Agree at h
  rw [List.take_of_length_le (Nat.le_refl _), List.take_of_length_le (by omega)] at h
  exact h

theorem below_of {B : Nat} {w w' : World} (h : Below w.heap.size w w') (hB : B ≤ w.heap.size) : Below B w w' := h.mono hB
end Go.Par
