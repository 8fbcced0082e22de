/- Plain: what a call leaves of memory (Kept); files by rising names. No function of the program in sight. -/
import Derived.WalkKit
import Derived.WalkSmall
import Derived.Lib.Hide
import Derived.Lib.UnsafeStr
import Derived.Deep.Draws
import Derived.Maps.Own
namespace Go.Vfs
open Go.RowKit Go.Lib
set_option linter.unusedVariables false

/-- but for the blocks of F, what lay lies as it lay. -/
structure Kept (F : Nat → Prop) (w w' : World) : Prop where
  os : w'.os = w.os
  tape : w'.tape = w.tape
  output : w'.output = w.output
  size : w.heap.size ≤ w'.heap.size
  block : ∀ k, k < w.heap.size → ¬ F k → w'.heap[k]? = w.heap[k]?

/-- F' is of F, or new since w. -/
def Grows (w : World) (F F' : Nat → Prop) : Prop := ∀ k, F' k → F k ∨ w.heap.size ≤ k

theorem Kept.refl (F : Nat → Prop) (w : World) : Kept F w w := ⟨rfl, rfl, rfl, Nat.le_refl _, fun _ _ _ => rfl⟩
theorem Kept.trans {F F' : Nat → Prop} {a b c : World} (h : Kept F a b) (k : Kept F' b c) (hF : Grows a F F') : Kept F a c :=
  ⟨k.os.trans h.os, k.tape.trans h.tape, k.output.trans h.output, Nat.le_trans h.size k.size, fun i hi hn =>
    (k.block i (Nat.lt_of_lt_of_le hi h.size) (fun hf => by rcases hF i hf with h1 | h1; exact hn h1; omega)).trans (h.block i hi hn)⟩
theorem Kept.trans' {F : Nat → Prop} {a b c : World} (h : Kept F a b) (k : Kept F b c) : Kept F a c := h.trans k (fun _ h => .inl h)
theorem Kept.mono {F F' : Nat → Prop} {a b : World} (h : Kept F a b) (hF : ∀ k, k < a.heap.size → F k → F' k) : Kept F' a b :=
  ⟨h.os, h.tape, h.output, h.size, fun i hi hn => h.block i hi (fun hf => hn (hF i hi hf))⟩
theorem Kept.drew {F : Nat → Prop} {a b : World} (h : Kept F a b) : Kept F a b.drew := ⟨h.os, h.tape, h.output, h.size, h.block⟩
theorem Kept.drewN {F : Nat → Prop} {a b : World} (h : Kept F a b) (n : Nat) : Kept F a (b.drewN n) := ⟨h.os, h.tape, h.output, h.size, h.block⟩
theorem Kept.alloc {F : Nat → Prop} {a b : World} (h : Kept F a b) (o : Obj) : Kept F a (b.alloc o) :=
  h.trans' ⟨rfl, rfl, rfl, by simp, fun k hk _ => Below.heap_alloc _ _ _ hk⟩
theorem Kept.setCell {F : Nat → Prop} {a b : World} (h : Kept F a b) {p : Addr} (hp : F p.block ∨ a.heap.size ≤ p.block) (u : Value) : Kept F a (b.setCell p u) :=
  ⟨h.os, h.tape, h.output, by have := h.size; simpa [World.setCell] using this, fun i hi hn => by
    rw [Below.heap_setCell _ _ _ _ (fun e => by subst e; rcases hp with h1 | h1; exact hn h1; omega)]
    exact h.block i hi hn⟩
theorem Kept.grown {F : Nat → Prop} {a b c : World} {row : Option Nat} (h : Kept F a b) (hg : b.grownBy c row) (hr : ∀ k, row = some k → F k ∨ a.heap.size ≤ k) : Kept F a c :=
  ⟨hg.os.trans h.os, hg.tape.trans h.tape, hg.output.trans h.output, Nat.le_trans h.size hg.size, fun i hi hn =>
    (hg.block i (Nat.lt_of_lt_of_le hi h.size) (fun e => by rcases hr i e.symm with h1 | h1; exact hn h1; omega)).trans (h.block i hi hn)⟩
theorem Kept.of_below {F : Nat → Prop} {a b : World} (h : Below a.heap.size a b) : Kept F a b := ⟨h.os, h.tape, h.output, h.size, fun i hi _ => h.block i hi⟩
theorem Kept.below {F : Nat → Prop} {a b : World} (h : Kept F a b) {B : Nat} (hB : B ≤ a.heap.size) (hF : ∀ k, F k → B ≤ k) : Below B a b :=
  ⟨h.os, h.tape, h.output, h.size, fun i hi => h.block i (by omega) (fun hf => by have := hF i hf; omega)⟩
theorem Kept.cell {F : Nat → Prop} {a b : World} (h : Kept F a b) {p : Addr} (hp : p.block < a.heap.size) (hn : ¬ F p.block) : b.cell? p = a.cell? p := World.cell?_of_block (w := a) (h.block p.block hp hn)
theorem Kept.frozen {F : Nat → Prop} {a b : World} (h : Kept F a b) {p : Addr} (hp : p.block < a.heap.size) (hn : ¬ F p.block) : b.frozen? p = a.frozen? p := World.frozen?_of_block (w := a) (h.block p.block hp hn)

/- rows of cells. -/
theorem ownsRow_block {w w' : World} {base : Nat} {e : TypeId} {size : Nat} {v : Value} {n : Nat} {xs : List Value} (h : w.ownsRow base e size v n xs) (hb : ∀ g, v.ownBlock = some g → w'.heap[g]? = w.heap[g]?) : w'.ownsRow base e size v n xs := by
  refine ⟨h.1, ?_⟩
  rcases h.2 with hn | ⟨g, cap, cur, rfl, hg, hh, r⟩
  · exact .inl hn
  · exact .inr ⟨g, cap, cur, rfl, hg, by rw [hb g rfl]; exact hh, r⟩
theorem ownsRow_base0 {w : World} {base : Nat} {e : TypeId} {size : Nat} {v : Value} {n : Nat} {xs : List Value} (h : w.ownsRow base e size v n xs) : w.ownsRow 0 e size v n xs := by
  refine ⟨h.1, ?_⟩
  rcases h.2 with hn | ⟨g, cap, cur, rfl, hg, r⟩
  · exact .inl hn
  · exact .inr ⟨g, cap, cur, rfl, Nat.zero_le _, r⟩
theorem ownsMap_block {H : Type} {P : Program} {k : TypeId} {R : Value → Option (DataW H × List MemPlace)} {w w' : World} {b n : Nat} {D : DataW H} (h : w.ownsMap P k R b n D) (hb : w'.heap[b]? = w.heap[b]?) : w'.ownsMap P k R b n D := by
  obtain ⟨es, clock, h1, h2⟩ := h
  exact ⟨es, clock, hb.trans h1, h2⟩

/- a file: its name, its bytes, how many are safe. -/
structure File where
  name : List UInt8
  data : List UInt8
  safe : Nat
deriving Inhabited

/- lists of files by rising names; x.name may be any key function. -/
def putL {α : Type} (key : α → List UInt8) (x : α) : List α → List α
  | [] => [x]
  | y :: r => if bytesBefore (key x) (key y) then x :: y :: r else y :: putL key x r
def dropL {α : Type} (key : α → List UInt8) (s : List UInt8) (l : List α) : List α := l.filter fun y => !(key y == s)
def withL {α : Type} (key : α → List UInt8) (x : α) (l : List α) : List α := putL key x (dropL key (key x) l)
def findL {α : Type} (key : α → List UInt8) (s : List UInt8) (l : List α) : Option α := l.find? fun y => key y == s

theorem mem_putL {α : Type} {key : α → List UInt8} {x y : α} : ∀ {l : List α}, y ∈ putL key x l ↔ y = x ∨ y ∈ l
  | [] => by simp [putL]
  | z :: l => by
    unfold putL
    split
    · simp
    · simp only [List.mem_cons, mem_putL (l := l)]
      constructor
      · rintro (h | h | h)
        · exact .inr (.inl h)
        · exact .inl h
        · exact .inr (.inr h)
      · rintro (h | h | h)
        · exact .inr (.inl h)
        · exact .inl h
        · exact .inr (.inr h)
theorem mem_dropL {α : Type} {key : α → List UInt8} {s : List UInt8} {y : α} {l : List α} : y ∈ dropL key s l ↔ y ∈ l ∧ key y ≠ s := by simp [dropL]
theorem mem_withL {α : Type} {key : α → List UInt8} {x y : α} {l : List α} : y ∈ withL key x l ↔ y = x ∨ (y ∈ l ∧ key y ≠ key x) := by
  unfold withL; rw [mem_putL, mem_dropL]
theorem map_putL {α β : Type} {key : α → List UInt8} {key' : β → List UInt8} (f : α → β) (hk : ∀ x, key' (f x) = key x) (x : α) : ∀ l : List α, (putL key x l).map f = putL key' (f x) (l.map f)
  | [] => rfl
  | y :: l => by
    unfold putL
    rw [List.map_cons]
    simp only [hk]
    split
    · rfl
    · rw [List.map_cons, map_putL f hk x l]
theorem map_dropL {α β : Type} {key : α → List UInt8} {key' : β → List UInt8} (f : α → β) (hk : ∀ x, key' (f x) = key x) (s : List UInt8) (l : List α) : (dropL key s l).map f = dropL key' s (l.map f) := by
  unfold dropL
  rw [List.filter_map]
  congr 1
  apply List.filter_congr
  intro x _
  simp [hk]
theorem map_withL {α β : Type} {key : α → List UInt8} {key' : β → List UInt8} (f : α → β) (hk : ∀ x, key' (f x) = key x) (x : α) (l : List α) : (withL key x l).map f = withL key' (f x) (l.map f) := by
  unfold withL
  rw [map_putL f hk, map_dropL f hk, hk]
theorem map_findL {α β : Type} {key : α → List UInt8} {key' : β → List UInt8} (f : α → β) (hk : ∀ x, key' (f x) = key x) (s : List UInt8) : ∀ l : List α, findL key' s (l.map f) = (findL key s l).map f := by
  intro l
  unfold findL
  rw [List.find?_map]
  congr 1
  congr 1
  funext x
  simp [hk]

/- the order of names. -/
theorem before_irrefl : ∀ a : List UInt8, bytesBefore a a = false
  | [] => rfl
  | a :: r => by simp [bytesBefore, before_irrefl r]
theorem before_trans : ∀ {a b c : List UInt8}, bytesBefore a b = true → bytesBefore b c = true → bytesBefore a c = true
  | [], _, c, h1, h2 => by
    cases c with
    | nil => cases ‹List UInt8› <;> simp_all [bytesBefore]
    | cons _ _ => rfl
  | a :: r, [], _, h1, _ => by simp [bytesBefore] at h1
  | a :: r, b :: s, [], _, h2 => by simp [bytesBefore] at h2
  | a :: r, b :: s, c :: t, h1, h2 => by
    simp only [bytesBefore, Bool.or_eq_true, Bool.and_eq_true, decide_eq_true_eq, beq_iff_eq] at h1 h2 ⊢
    rcases h1 with h1 | ⟨rfl, h1⟩
    · rcases h2 with h2 | ⟨rfl, h2⟩
      · left; exact UInt8.lt_trans h1 h2
      · left; exact h1
    · rcases h2 with h2 | ⟨rfl, h2⟩
      · left; exact h2
      · right; exact ⟨rfl, before_trans h1 h2⟩
theorem before_total : ∀ {a b : List UInt8}, bytesBefore a b = false → a ≠ b → bytesBefore b a = true
  | [], [], _, h => absurd rfl h
  | [], _ :: _, h, _ => by simp [bytesBefore] at h
  | _ :: _, [], _, _ => rfl
  | a :: r, b :: s, h1, h2 => by
    simp only [bytesBefore, Bool.or_eq_false_iff, Bool.and_eq_false_iff, decide_eq_false_iff_not, beq_eq_false_iff_ne, ne_eq] at h1
    simp only [bytesBefore, Bool.or_eq_true, Bool.and_eq_true, decide_eq_true_eq, beq_iff_eq]
    by_cases e : a = b
    · subst e
      right
      refine ⟨rfl, before_total ?_ (fun h => h2 (by rw [h]))⟩
      rcases h1.2 with h | h
      · exact absurd rfl h
      · exact h
    · left
      have h3 := h1.1
      rw [UInt8.lt_iff_toNat_lt] at h3 ⊢
      have h4 : a.toNat ≠ b.toNat := fun h => e (UInt8.toNat.inj h)
      omega

def Rising {α : Type} (key : α → List UInt8) (l : List α) : Prop := l.Pairwise fun x y => bytesBefore (key x) (key y) = true
theorem Rising.dropL {α : Type} {key : α → List UInt8} {l : List α} (h : Rising key l) (s : List UInt8) : Rising key (dropL key s l) := List.Pairwise.filter _ h
theorem Rising.putL {α : Type} {key : α → List UInt8} {x : α} : ∀ {l : List α}, Rising key l → (∀ y ∈ l, key y ≠ key x) → Rising key (putL key x l)
  | [], _, _ => by simp [Rising, Vfs.putL]
  | y :: l, h, hn => by
    have h' := List.pairwise_cons.1 h
    unfold Vfs.putL
    split
    · rename_i hb
      refine List.pairwise_cons.2 ⟨fun z hz => ?_, h⟩
      rcases List.mem_cons.1 hz with rfl | hz
      · exact hb
      · exact before_trans hb (h'.1 z hz)
    · rename_i hb
      refine List.pairwise_cons.2 ⟨fun z hz => ?_, Rising.putL h'.2 (fun z hz => hn z (by simp [hz]))⟩
      rcases mem_putL.1 hz with rfl | hz
      · exact before_total (by simpa using hb) (fun e => hn y (by simp) e.symm)
      · exact h'.1 z hz
theorem Rising.withL {α : Type} {key : α → List UInt8} {x : α} {l : List α} (h : Rising key l) : Rising key (withL key x l) :=
  Rising.putL (h.dropL _) (fun y hy => (mem_dropL.1 hy).2)
theorem Rising.uniq {α : Type} {key : α → List UInt8} {l : List α} (h : Rising key l) {x y : α} (hx : x ∈ l) (hy : y ∈ l) (e : key x = key y) : x = y := by
  induction l with
  | nil => cases hx
  | cons z l ih =>
    have h' := List.pairwise_cons.1 h
    rcases List.mem_cons.1 hx with hx1 | hx1
    · rcases List.mem_cons.1 hy with hy1 | hy1
      · rw [hx1, hy1]
      · have := h'.1 y hy1; rw [← hx1, e, before_irrefl] at this; cases this
    · rcases List.mem_cons.1 hy with hy1 | hy1
      · have := h'.1 x hx1; rw [← hy1, e, before_irrefl] at this; cases this
      · exact ih h'.2 hx1 hy1
theorem findL_some {α : Type} {key : α → List UInt8} {s : List UInt8} {l : List α} {x : α} (h : findL key s l = some x) : x ∈ l ∧ key x = s :=
  ⟨List.mem_of_find?_eq_some h, by simpa using List.find?_some h⟩
theorem findL_none {α : Type} {key : α → List UInt8} {s : List UInt8} {l : List α} (h : findL key s l = none) : ∀ x ∈ l, key x ≠ s := by
  intro x hx
  simpa using List.find?_eq_none.1 h x hx
theorem Rising.findL {α : Type} {key : α → List UInt8} {l : List α} (h : Rising key l) {x : α} (hx : x ∈ l) : findL key (key x) l = some x := by
  cases hf : Vfs.findL key (key x) l with
  | none => exact absurd rfl (findL_none hf x hx)
  | some y =>
    obtain ⟨h1, h2⟩ := findL_some hf
    rw [h.uniq h1 hx h2]
end Go.Vfs
