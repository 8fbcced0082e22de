/- Merged of V0 V1 Mem App MemS V2 V3 V4 V5 V6 V7 V8 V9 V10 V11 V12. -/
import Derived.WalkKit
import Derived.WalkSmall
import Derived.Lib.Hide
import Derived.Lib.UnsafeStr
import Derived.Deep.Draws
import Derived.Maps.Own
import Derived.Test.YtpdelgjfamelfaaGreatProg
import Derived.Maps.OwnOps
import Derived.Maps.OwnSet
import Derived.KernelRfl
import Derived.Maps.AppendAt
import Derived.RegionTactic
import Derived.OwnWalk
import Derived.WalkLawsBesides
import Derived.WalkSpells
import Derived.Outline
import Derived.BigQuiet
import Derived.IntWalk
import Derived.Lib.Strings
import Derived.Deep.QuietTactic
import Derived.Deep.DeepCutAuto
import Derived.StillTailTactics
import Derived.Lib.SliceRun
/- V0 -/
/- Plain: what a call leaves of memory (Kept); files by rising names. No function of the program in sight. -/
namespace Go.Vfs
open Go.RowKit Go.Lib
set_option linter.unusedVariables false

/-- but for the blocks of F, what lay lies as it lay. -/
structure Kept (F : Nat → Prop) (w w' : World) : Prop where
  os : w'.os = w.os
  tape : w'.tape = w.tape
  output : w'.output = w.output
  size : w.heap.size ≤ w'.heap.size
  block : ∀ k, k < w.heap.size → ¬ F k → w'.heap[k]? = w.heap[k]?

/-- F' is of F, or new since w. -/
def Grows (w : World) (F F' : Nat → Prop) : Prop := ∀ k, F' k → F k ∨ w.heap.size ≤ k

theorem Kept.refl (F : Nat → Prop) (w : World) : Kept F w w := ⟨rfl, rfl, rfl, Nat.le_refl _, fun _ _ _ => rfl⟩
theorem Kept.trans {F F' : Nat → Prop} {a b c : World} (h : Kept F a b) (k : Kept F' b c) (hF : Grows a F F') : Kept F a c :=
  ⟨k.os.trans h.os, k.tape.trans h.tape, k.output.trans h.output, Nat.le_trans h.size k.size, fun i hi hn =>
    (k.block i (Nat.lt_of_lt_of_le hi h.size) (fun hf => by rcases hF i hf with h1 | h1; exact hn h1; omega)).trans (h.block i hi hn)⟩
theorem Kept.trans' {F : Nat → Prop} {a b c : World} (h : Kept F a b) (k : Kept F b c) : Kept F a c := h.trans k (fun _ h => .inl h)
theorem Kept.mono {F F' : Nat → Prop} {a b : World} (h : Kept F a b) (hF : ∀ k, k < a.heap.size → F k → F' k) : Kept F' a b :=
  ⟨h.os, h.tape, h.output, h.size, fun i hi hn => h.block i hi (fun hf => hn (hF i hi hf))⟩
theorem Kept.drew {F : Nat → Prop} {a b : World} (h : Kept F a b) : Kept F a b.drew := ⟨h.os, h.tape, h.output, h.size, h.block⟩
theorem Kept.drewN {F : Nat → Prop} {a b : World} (h : Kept F a b) (n : Nat) : Kept F a (b.drewN n) := ⟨h.os, h.tape, h.output, h.size, h.block⟩
theorem Kept.alloc {F : Nat → Prop} {a b : World} (h : Kept F a b) (o : Obj) : Kept F a (b.alloc o) :=
  h.trans' ⟨rfl, rfl, rfl, by simp, fun k hk _ => Below.heap_alloc _ _ _ hk⟩
theorem Kept.setCell {F : Nat → Prop} {a b : World} (h : Kept F a b) {p : Addr} (hp : F p.block ∨ a.heap.size ≤ p.block) (u : Value) : Kept F a (b.setCell p u) :=
  ⟨h.os, h.tape, h.output, by have := h.size; simpa [World.setCell] using this, fun i hi hn => by
    rw [Below.heap_setCell _ _ _ _ (fun e => by subst e; rcases hp with h1 | h1; exact hn h1; omega)]
    exact h.block i hi hn⟩
theorem Kept.grown {F : Nat → Prop} {a b c : World} {row : Option Nat} (h : Kept F a b) (hg : b.grownBy c row) (hr : ∀ k, row = some k → F k ∨ a.heap.size ≤ k) : Kept F a c :=
  ⟨hg.os.trans h.os, hg.tape.trans h.tape, hg.output.trans h.output, Nat.le_trans h.size hg.size, fun i hi hn =>
    (hg.block i (Nat.lt_of_lt_of_le hi h.size) (fun e => by rcases hr i e.symm with h1 | h1; exact hn h1; omega)).trans (h.block i hi hn)⟩
theorem Kept.of_below {F : Nat → Prop} {a b : World} (h : Below a.heap.size a b) : Kept F a b := ⟨h.os, h.tape, h.output, h.size, fun i hi _ => h.block i hi⟩
theorem Kept.below {F : Nat → Prop} {a b : World} (h : Kept F a b) {B : Nat} (hB : B ≤ a.heap.size) (hF : ∀ k, F k → B ≤ k) : Below B a b :=
  ⟨h.os, h.tape, h.output, h.size, fun i hi => h.block i (by omega) (fun hf => by have := hF i hf; omega)⟩
theorem Kept.cell {F : Nat → Prop} {a b : World} (h : Kept F a b) {p : Addr} (hp : p.block < a.heap.size) (hn : ¬ F p.block) : b.cell? p = a.cell? p := World.cell?_of_block (w := a) (h.block p.block hp hn)
theorem Kept.frozen {F : Nat → Prop} {a b : World} (h : Kept F a b) {p : Addr} (hp : p.block < a.heap.size) (hn : ¬ F p.block) : b.frozen? p = a.frozen? p := World.frozen?_of_block (w := a) (h.block p.block hp hn)

/- rows of cells. -/
theorem ownsRow_block {w w' : World} {base : Nat} {e : TypeId} {size : Nat} {v : Value} {n : Nat} {xs : List Value} (h : w.ownsRow base e size v n xs) (hb : ∀ g, v.ownBlock = some g → w'.heap[g]? = w.heap[g]?) : w'.ownsRow base e size v n xs := by
  refine ⟨h.1, ?_⟩
  rcases h.2 with hn | ⟨g, cap, cur, rfl, hg, hh, r⟩
  · exact .inl hn
  · exact .inr ⟨g, cap, cur, rfl, hg, by rw [hb g rfl]; exact hh, r⟩
theorem ownsRow_base0 {w : World} {base : Nat} {e : TypeId} {size : Nat} {v : Value} {n : Nat} {xs : List Value} (h : w.ownsRow base e size v n xs) : w.ownsRow 0 e size v n xs := by
  refine ⟨h.1, ?_⟩
  rcases h.2 with hn | ⟨g, cap, cur, rfl, hg, r⟩
  · exact .inl hn
  · exact .inr ⟨g, cap, cur, rfl, Nat.zero_le _, r⟩
theorem ownsMap_block {H : Type} {P : Program} {k : TypeId} {R : Value → Option (DataW H × List MemPlace)} {w w' : World} {b n : Nat} {D : DataW H} (h : w.ownsMap P k R b n D) (hb : w'.heap[b]? = w.heap[b]?) : w'.ownsMap P k R b n D := by
  obtain ⟨es, clock, h1, h2⟩ := h
  exact ⟨es, clock, hb.trans h1, h2⟩

/- a file: its name, its bytes, how many are safe. -/
structure File where
  name : List UInt8
  data : List UInt8
  safe : Nat
deriving Inhabited

/- lists of files by rising names; x.name may be any key function. -/
def putL {α : Type} (key : α → List UInt8) (x : α) : List α → List α
  | [] => [x]
  | y :: r => if bytesBefore (key x) (key y) then x :: y :: r else y :: putL key x r
def dropL {α : Type} (key : α → List UInt8) (s : List UInt8) (l : List α) : List α := l.filter fun y => !(key y == s)
def withL {α : Type} (key : α → List UInt8) (x : α) (l : List α) : List α := putL key x (dropL key (key x) l)
def findL {α : Type} (key : α → List UInt8) (s : List UInt8) (l : List α) : Option α := l.find? fun y => key y == s

theorem mem_putL {α : Type} {key : α → List UInt8} {x y : α} : ∀ {l : List α}, y ∈ putL key x l ↔ y = x ∨ y ∈ l
  | [] => by simp [putL]
  | z :: l => by
    unfold putL
    split
    · simp
    · simp only [List.mem_cons, mem_putL (l := l)]
      constructor
      · rintro (h | h | h)
        · exact .inr (.inl h)
        · exact .inl h
        · exact .inr (.inr h)
      · rintro (h | h | h)
        · exact .inr (.inl h)
        · exact .inl h
        · exact .inr (.inr h)
theorem mem_dropL {α : Type} {key : α → List UInt8} {s : List UInt8} {y : α} {l : List α} : y ∈ dropL key s l ↔ y ∈ l ∧ key y ≠ s := by simp [dropL]
theorem mem_withL {α : Type} {key : α → List UInt8} {x y : α} {l : List α} : y ∈ withL key x l ↔ y = x ∨ (y ∈ l ∧ key y ≠ key x) := by
  unfold withL; rw [mem_putL, mem_dropL]
theorem map_putL {α β : Type} {key : α → List UInt8} {key' : β → List UInt8} (f : α → β) (hk : ∀ x, key' (f x) = key x) (x : α) : ∀ l : List α, (putL key x l).map f = putL key' (f x) (l.map f)
  | [] => rfl
  | y :: l => by
    unfold putL
    rw [List.map_cons]
    simp only [hk]
    split
    · rfl
    · rw [List.map_cons, map_putL f hk x l]
theorem map_dropL {α β : Type} {key : α → List UInt8} {key' : β → List UInt8} (f : α → β) (hk : ∀ x, key' (f x) = key x) (s : List UInt8) (l : List α) : (dropL key s l).map f = dropL key' s (l.map f) := by
  unfold dropL
  rw [List.filter_map]
  congr 1
  apply List.filter_congr
  intro x _
  simp [hk]
theorem map_withL {α β : Type} {key : α → List UInt8} {key' : β → List UInt8} (f : α → β) (hk : ∀ x, key' (f x) = key x) (x : α) (l : List α) : (withL key x l).map f = withL key' (f x) (l.map f) := by
  unfold withL
  rw [map_putL f hk, map_dropL f hk, hk]
theorem map_findL {α β : Type} {key : α → List UInt8} {key' : β → List UInt8} (f : α → β) (hk : ∀ x, key' (f x) = key x) (s : List UInt8) : ∀ l : List α, findL key' s (l.map f) = (findL key s l).map f := by
  intro l
  unfold findL
  rw [List.find?_map]
  congr 1
  congr 1
  funext x
  simp [hk]

/- the order of names. -/
theorem before_irrefl : ∀ a : List UInt8, bytesBefore a a = false
  | [] => rfl
  | a :: r => by simp [bytesBefore, before_irrefl r]
theorem before_trans : ∀ {a b c : List UInt8}, bytesBefore a b = true → bytesBefore b c = true → bytesBefore a c = true
  | [], _, c, h1, h2 => by
    cases c with
    | nil => cases ‹List UInt8› <;> simp_all [bytesBefore]
    | cons _ _ => rfl
  | a :: r, [], _, h1, _ => by simp [bytesBefore] at h1
  | a :: r, b :: s, [], _, h2 => by simp [bytesBefore] at h2
  | a :: r, b :: s, c :: t, h1, h2 => by
    simp only [bytesBefore, Bool.or_eq_true, Bool.and_eq_true, decide_eq_true_eq, beq_iff_eq] at h1 h2 ⊢
    rcases h1 with h1 | ⟨rfl, h1⟩
    · rcases h2 with h2 | ⟨rfl, h2⟩
      · left; exact UInt8.lt_trans h1 h2
      · left; exact h1
    · rcases h2 with h2 | ⟨rfl, h2⟩
      · left; exact h2
      · right; exact ⟨rfl, before_trans h1 h2⟩
theorem before_total : ∀ {a b : List UInt8}, bytesBefore a b = false → a ≠ b → bytesBefore b a = true
  | [], [], _, h => absurd rfl h
  | [], _ :: _, h, _ => by simp [bytesBefore] at h
  | _ :: _, [], _, _ => rfl
  | a :: r, b :: s, h1, h2 => by
    simp only [bytesBefore, Bool.or_eq_false_iff, Bool.and_eq_false_iff, decide_eq_false_iff_not, beq_eq_false_iff_ne, ne_eq] at h1
    simp only [bytesBefore, Bool.or_eq_true, Bool.and_eq_true, decide_eq_true_eq, beq_iff_eq]
    by_cases e : a = b
    · subst e
      right
      refine ⟨rfl, before_total ?_ (fun h => h2 (by rw [h]))⟩
      rcases h1.2 with h | h
      · exact absurd rfl h
      · exact h
    · left
      have h3 := h1.1
      rw [UInt8.lt_iff_toNat_lt] at h3 ⊢
      have h4 : a.toNat ≠ b.toNat := fun h => e (UInt8.toNat.inj h)
      omega

def Rising {α : Type} (key : α → List UInt8) (l : List α) : Prop := l.Pairwise fun x y => bytesBefore (key x) (key y) = true
theorem Rising.dropL {α : Type} {key : α → List UInt8} {l : List α} (h : Rising key l) (s : List UInt8) : Rising key (dropL key s l) := List.Pairwise.filter _ h
theorem Rising.putL {α : Type} {key : α → List UInt8} {x : α} : ∀ {l : List α}, Rising key l → (∀ y ∈ l, key y ≠ key x) → Rising key (putL key x l)
  | [], _, _ => by simp [Rising, Vfs.putL]
  | y :: l, h, hn => by
    have h' := List.pairwise_cons.1 h
    unfold Vfs.putL
    split
    · rename_i hb
      refine List.pairwise_cons.2 ⟨fun z hz => ?_, h⟩
      rcases List.mem_cons.1 hz with rfl | hz
      · exact hb
      · exact before_trans hb (h'.1 z hz)
    · rename_i hb
      refine List.pairwise_cons.2 ⟨fun z hz => ?_, Rising.putL h'.2 (fun z hz => hn z (by simp [hz]))⟩
      rcases mem_putL.1 hz with rfl | hz
      · exact before_total (by simpa using hb) (fun e => hn y (by simp) e.symm)
      · exact h'.1 z hz
theorem Rising.withL {α : Type} {key : α → List UInt8} {x : α} {l : List α} (h : Rising key l) : Rising key (withL key x l) :=
  Rising.putL (h.dropL _) (fun y hy => (mem_dropL.1 hy).2)
theorem Rising.uniq {α : Type} {key : α → List UInt8} {l : List α} (h : Rising key l) {x y : α} (hx : x ∈ l) (hy : y ∈ l) (e : key x = key y) : x = y := by
  induction l with
  | nil => cases hx
  | cons z l ih =>
    have h' := List.pairwise_cons.1 h
    rcases List.mem_cons.1 hx with hx1 | hx1
    · rcases List.mem_cons.1 hy with hy1 | hy1
      · rw [hx1, hy1]
      · have := h'.1 y hy1; rw [← hx1, e, before_irrefl] at this; cases this
    · rcases List.mem_cons.1 hy with hy1 | hy1
      · have := h'.1 x hx1; rw [← hy1, e, before_irrefl] at this; cases this
      · exact ih h'.2 hx1 hy1
theorem findL_some {α : Type} {key : α → List UInt8} {s : List UInt8} {l : List α} {x : α} (h : findL key s l = some x) : x ∈ l ∧ key x = s :=
  ⟨List.mem_of_find?_eq_some h, by simpa using List.find?_some h⟩
theorem findL_none {α : Type} {key : α → List UInt8} {s : List UInt8} {l : List α} (h : findL key s l = none) : ∀ x ∈ l, key x ≠ s := by
  intro x hx
  simpa using List.find?_eq_none.1 h x hx
theorem Rising.findL {α : Type} {key : α → List UInt8} {l : List α} (h : Rising key l) {x : α} (hx : x ∈ l) : findL key (key x) l = some x := by
  cases hf : Vfs.findL key (key x) l with
  | none => exact absurd rfl (findL_none hf x hx)
  | some y =>
    obtain ⟨h1, h2⟩ := findL_some hf
    rw [h.uniq h1 hx h2]
end Go.Vfs
/- V1 -/
/- The file system of package vfs as it lies in memory. -/
namespace Go.Proofs.YtpdelgjfamelfaaGreat
open Go.RowKit Go.Lib Go.Vfs
set_option linter.unusedVariables false

/-- how a pointer in the map of files reads. -/
def ptrElem (v : Value) : Option (DataW Nat × List MemPlace) := match v with
  | .pointer none => some (.nil, [])
  | .pointer (some ⟨b, 0, none⟩) => some (.lit (.int .i64 b), [])
  | _ => none
theorem ptrElem_nil {v : Value} {ps : List MemPlace} (h : ptrElem v = some (.nil, ps)) : v = .pointer none := by
  unfold ptrElem at h
  split at h
  · rfl
  · cases h
  · cases h
theorem ptrElem_at {v : Value} {b : Nat} {ps : List MemPlace} (h : ptrElem v = some (.lit (.int .i64 b), ps)) : v = .pointer (some ⟨b, 0, none⟩) := by
  unfold ptrElem at h
  split at h
  · cases h
  · simp only [Option.some.injEq, Prod.mk.injEq, DataW.lit.injEq, Lit.int.injEq] at h
    have : (_ : Int) = _ := h.1.2
    have h2 := Int.ofNat.inj this
    rw [h2]
  · cases h

/-- a file in memory: what it is, its block, its bytes' slice. -/
structure FileR where
  f : File
  q : Nat
  v : Value
def keyR (x : FileR) : List UInt8 := x.f.name
def blocksR (x : FileR) : List Nat := x.q :: x.v.ownBlock.toList
def dat (xs : List FileR) : DataW Nat := .map (xs.map fun x => (.string x.f.name, .lit (.int .i64 x.q)))

theorem insert_map (x : FileR) : ∀ xs : List FileR, DataW.insert (H := Nat) (.string x.f.name, .lit (.int .i64 x.q)) (xs.map fun x => (.string x.f.name, .lit (.int .i64 x.q))) = (putL keyR x xs).map fun x => (.string x.f.name, .lit (.int .i64 x.q))
  | [] => rfl
  | y :: xs => by
    cases h : bytesBefore (keyR x) (keyR y) with
    | true =>
      have h' : (Lit.string x.f.name).before (Lit.string y.f.name) = true := h
      simp [DataW.insert, putL, h, h']
    | false =>
      have h' : (Lit.string x.f.name).before (Lit.string y.f.name) = false := h
      simp [DataW.insert, putL, h, h', insert_map x xs]
theorem dat_put (x : FileR) (xs : List FileR) : (dat xs).put (.string x.f.name) (.lit (.int .i64 x.q)) = dat (withL keyR x xs) := by
  unfold dat DataW.put withL dropL
  simp only []
  rw [List.filter_map, insert_map]
  congr 3
theorem dat_del (s : List UInt8) (xs : List FileR) : (dat xs).del (.string s) = dat (dropL keyR s xs) := by
  unfold dat DataW.del dropL
  simp only []
  rw [List.filter_map]
  congr 2
theorem dat_at (s : List UInt8) (xs : List FileR) : (dat xs).atKey (.string s) .nil = match findL keyR s xs with | some x => .lit (.int .i64 x.q) | none => .nil := by
  unfold dat DataW.atKey findL
  simp only []
  rw [List.find?_map]
  have : ((fun p : Lit × DataW Nat => p.1.sameKey (.string s)) ∘ fun x : FileR => (Lit.string x.f.name, DataW.lit (.int .i64 x.q))) = fun y => keyR y == s := by
    funext y; rfl
  rw [this]
  cases List.find? (fun y => keyR y == s) xs <;> rfl

/-- a file's block and its bytes. -/
structure FileAt (w : World) (x : FileR) : Prop where
  head : w.heap[x.q]? = some (.cells #[x.v, .int .i64 x.f.safe] 79 (0, 0))
  row : w.ownsRow 0 5 1 x.v x.f.data.length (byteCells x.f.data)
  safe : x.f.safe ≤ x.f.data.length
structure FSAt (w : World) (p : Nat) (pow : Int) (xs : List FileR) (mb : Nat) : Prop where
  head : w.heap[p]? = some (.cells #[.map (some mb), .int .i64 pow] 74 (0, 0))
  map : w.ownsMap Tryz.prog 9 ptrElem mb xs.length (dat xs)
  files : ∀ x ∈ xs, FileAt w x
  rising : Rising keyR xs
  pm : p ≠ mb
  pf : ∀ x ∈ xs, p ∉ blocksR x ∧ mb ∉ blocksR x ∧ x.v.ownBlock ≠ some x.q
  apart : ∀ x ∈ xs, ∀ y ∈ xs, keyR x ≠ keyR y → ∀ k ∈ blocksR x, k ∉ blocksR y
/-- the blocks of a file system. -/
def OwnF (p mb : Nat) (xs : List FileR) (k : Nat) : Prop := k = p ∨ k = mb ∨ ∃ x ∈ xs, k ∈ blocksR x

/-- a file system as it reads. -/
structure St where
  power : Int
  files : List File
/-- the file system at block p reads as st; its blocks are those of F. -/
def Fsy (w : World) (p : Nat) (st : St) (F : Nat → Prop) : Prop :=
  ∃ xs mb, st.files = xs.map (·.f) ∧ FSAt w p st.power xs mb ∧ F = OwnF p mb xs

theorem FileAt.block {w w' : World} {x : FileR} (h : FileAt w x) (hk : ∀ k ∈ blocksR x, w'.heap[k]? = w.heap[k]?) : FileAt w' x :=
  ⟨(hk _ (by simp [blocksR])).trans h.head, ownsRow_block h.row (fun g hg => hk g (by simp [blocksR, hg])), h.safe⟩
theorem FSAt.block {w w' : World} {p : Nat} {pow : Int} {xs : List FileR} {mb : Nat} (h : FSAt w p pow xs mb) (hk : ∀ k, OwnF p mb xs k → w'.heap[k]? = w.heap[k]?) : FSAt w' p pow xs mb :=
  ⟨(hk _ (.inl rfl)).trans h.head, ownsMap_block h.map (hk _ (.inr (.inl rfl))), fun x hx => (h.files x hx).block (fun k hk' => hk k (.inr (.inr ⟨x, hx, hk'⟩))), h.rising, h.pm, h.pf, h.apart⟩
theorem Fsy.keep {w w' : World} {p : Nat} {st : St} {F : Nat → Prop} (h : Fsy w p st F) (hk : ∀ k, F k → w'.heap[k]? = w.heap[k]?) : Fsy w' p st F := by
  obtain ⟨xs, mb, h1, h2, rfl⟩ := h
  exact ⟨xs, mb, h1, h2.block hk, rfl⟩
theorem FileAt.lt {w : World} {x : FileR} (h : FileAt w x) : ∀ k ∈ blocksR x, k < w.heap.size := by
  intro k hk
  unfold blocksR at hk
  rcases List.mem_cons.1 hk with rfl | hk
  · exact lt_of_block h.head
  · exact (World.ownsRow.lt h.row k (by simpa using hk)).2
theorem FSAt.lt {w : World} {p : Nat} {pow : Int} {xs : List FileR} {mb : Nat} (h : FSAt w p pow xs mb) : ∀ k, OwnF p mb xs k → k < w.heap.size := by
  rintro k (rfl | rfl | ⟨x, hx, hk⟩)
  · exact lt_of_block h.head
  · exact h.map.lt
  · exact (h.files x hx).lt k hk
theorem Fsy.lt {w : World} {p : Nat} {st : St} {F : Nat → Prop} (h : Fsy w p st F) : ∀ k, F k → k < w.heap.size := by
  obtain ⟨xs, mb, h1, h2, rfl⟩ := h
  exact h2.lt
end Go.Proofs.YtpdelgjfamelfaaGreat
/- Mem -/
/- Words for memory: a slice value that holds a list of one-cell values, below a block. No function of the program in sight. -/
namespace Go.Par
open Go.RowKit Go.Lib

/-- v is a slice of the values xs, a cell each, in a block below B (whatever it is where it is empty). -/
def Seg (w : World) (B : Nat) (v : Value) (xs : List Value) : Prop :=
  ∃ A c, v = .slice A xs.length c ∧ xs.length ≤ c ∧ c ≤ maxLen ∧ (0 < xs.length → ∃ b off, A = some ⟨b, off, none⟩ ∧ b < B ∧ ∀ i, i < xs.length → w.cell? ⟨b, off + i, none⟩ = xs[i]?)

def ints (zs : List Int) : List Value := zs.map (Value.int .i64)
theorem ints_length (zs : List Int) : (ints zs).length = zs.length := by simp [ints]
theorem ints_append (a b : List Int) : ints (a ++ b) = ints a ++ ints b := by simp [ints]

section
variable {w w' : World} {B B' : Nat} {v : Value} {xs : List Value}
theorem Seg.keep (h : Seg w B v xs) (hk : ∀ b o, b < B → w'.cell? ⟨b, o, none⟩ = w.cell? ⟨b, o, none⟩) : Seg w' B v xs := by
  obtain ⟨A, c, h1, h2, h3, h4⟩ := h
  exact ⟨A, c, h1, h2, h3, fun hn => by
    obtain ⟨b, off, e, hb, hc⟩ := h4 hn
    exact ⟨b, off, e, hb, fun i hi => (hk b _ hb).trans (hc i hi)⟩⟩
theorem Seg.below (h : Seg w B v xs) (hb : Below B w w') : Seg w' B v xs := h.keep fun b o hp => hb.cell (p := ⟨b, o, none⟩) hp
theorem Seg.drewN (h : Seg w B v xs) (n : Nat) : Seg (w.drewN n) B v xs := h
theorem Seg.more (h : Seg w B v xs) (hB : B ≤ B') : Seg w B' v xs := by
  obtain ⟨A, c, h1, h2, h3, h4⟩ := h
  exact ⟨A, c, h1, h2, h3, fun hn => by
    obtain ⟨b, off, e, hb, hc⟩ := h4 hn
    exact ⟨b, off, e, by omega, hc⟩⟩
theorem Seg.nil (w : World) (B : Nat) : Seg w B (.slice none 0 0) [] := ⟨none, 0, rfl, by simp, by simp [maxLen], fun h => by simp at h⟩
end

/-- the cell of each element. -/
def At (w : World) (B : Nat) (A : Option Addr) (n : Nat) (f : Nat → Value) : Prop :=
  ∀ i, i < n → ∃ b off, A = some ⟨b, off, none⟩ ∧ b < B ∧ w.cell? ⟨b, off + i, none⟩ = some (f i)
theorem At.drewN {w : World} {B n : Nat} {A : Option Addr} {f : Nat → Value} (h : At w B A n f) (k : Nat) : At (w.drewN k) B A n f := h
theorem At.keep {w w' : World} {B n : Nat} {A : Option Addr} {f : Nat → Value} (h : At w B A n f) (hk : ∀ b o, b < B → w'.cell? ⟨b, o, none⟩ = w.cell? ⟨b, o, none⟩) : At w' B A n f := fun i hi => by
  obtain ⟨b, off, e, hb, hc⟩ := h i hi
  exact ⟨b, off, e, hb, (hk b _ hb).trans hc⟩
theorem At.below {w w' : World} {B n : Nat} {A : Option Addr} {f : Nat → Value} (h : At w B A n f) (hb : Below B w w') : At w' B A n f := h.keep fun b o hp => hb.cell (p := ⟨b, o, none⟩) hp

theorem Seg.open_ints {w : World} {B : Nat} {v : Value} {zs : List Int} (h : Seg w B v (ints zs)) :
    ∃ A c, v = .slice A zs.length c ∧ zs.length ≤ c ∧ c ≤ 9223372036854775807 ∧ At w B A zs.length (fun i => .int .i64 (zs.getD i 0)) := by
  obtain ⟨A, c, rfl, h2, h3, h4⟩ := h
  rw [ints_length] at h2 h4
  refine ⟨A, c, by rw [ints_length], h2, by simpa [maxLen] using h3, fun i hi => ?_⟩
  obtain ⟨b, off, e, hb, hc⟩ := h4 (by omega)
  refine ⟨b, off, e, hb, (hc i hi).trans ?_⟩
  simp [ints, hi, List.getD_eq_getElem?_getD]

theorem Seg.open_bytes {w : World} {B : Nat} {v : Value} {l : List UInt8} (h : Seg w B v (byteCells l)) :
    ∃ A c, v = .slice A l.length c ∧ l.length ≤ c ∧ c ≤ 9223372036854775807 ∧ At w B A l.length (fun i => .int .u8 (l.getD i 0).toNat) := by
  obtain ⟨A, c, rfl, h2, h3, h4⟩ := h
  rw [byteCells_length] at h2 h4
  refine ⟨A, c, by rw [byteCells_length], h2, by simpa [maxLen] using h3, fun i hi => ?_⟩
  obtain ⟨b, off, e, hb, hc⟩ := h4 (by omega)
  refine ⟨b, off, e, hb, (hc i hi).trans ?_⟩
  simp [byteCells, hi, List.getD_eq_getElem?_getD]

theorem At.int {w : World} {B n k : Nat} {A : Option Addr} {zs : List Int} (h : At w B A n (fun i => .int .i64 (zs.getD i 0))) (hk : k < n) :
    ∃ b off x, A = some ⟨b, off, none⟩ ∧ b < B ∧ w.cell? ⟨b, off + k, none⟩ = some (.int .i64 x) ∧ Hid (zs.getD k 0 = x) := by
  obtain ⟨b, off, e, hb, hc⟩ := h k hk
  exact ⟨b, off, _, e, hb, hc, Lib.hid rfl⟩
theorem At.byte {w : World} {B n k : Nat} {A : Option Addr} {l : List UInt8} (h : At w B A n (fun i => .int .u8 (l.getD i 0).toNat)) (hk : k < n) :
    ∃ b off x, A = some ⟨b, off, none⟩ ∧ b < B ∧ w.cell? ⟨b, off + k, none⟩ = some (.int .u8 (x : Nat)) ∧ x < 256 ∧ Hid ((l.getD k 0).toNat = x) := by
  obtain ⟨b, off, e, hb, hc⟩ := h k hk
  exact ⟨b, off, _, e, hb, hc, (l.getD k 0).toNat_lt, Lib.hid rfl⟩

/-- the first k are the same. -/
def Agree {α : Type} (k : Nat) (xs ys : List α) : Prop := xs.take k = ys.take k
theorem Agree.zero {α : Type} (xs ys : List α) : Agree 0 xs ys := rfl
theorem Agree.step {α : Type} {k : Nat} {xs ys : List α} (h : Agree k xs ys) (h1 : k < xs.length) (h2 : k < ys.length) (d : α) (he : xs.getD k d = ys.getD k d) : Agree (k + 1) xs ys := by
  unfold Agree at *
  simp [List.getD_eq_getElem?_getD, h1, h2] at he
  rw [List.take_succ_eq_append_getElem h1, List.take_succ_eq_append_getElem h2, h, he]
theorem Agree.whole {α : Type} {xs ys : List α} (h : Agree xs.length xs ys) (hl : xs.length = ys.length) : xs = ys := by
  unfold Agree at h
  rw [List.take_of_length_le (Nat.le_refl _), List.take_of_length_le (by omega)] at h
  exact h

theorem below_of {B : Nat} {w w' : World} (h : Below w.heap.size w w') (hB : B ≤ w.heap.size) : Below B w w' := h.mono hB
end Go.Par
/- App -/
/- append onto a row of the call's own, of one-cell elements, from any source; what it leaves. No function of the program in sight. -/
namespace Go.Par
open Go.RowKit Go.Lib

/-- the element type e (of the slice type t) has one cell, z its zero, and few bytes. -/
structure Elem (P : Program) (t e : TypeId) (z : Value) : Prop where
  und : P.underlying t = some (.slice e)
  info : ∃ i bytes, P.info? e = some i ∧ i.zero = some z ∧ i.size = 1 ∧ i.bytes = bytes ∧ bytes ≤ 64
  one : z.cells.size = 1

theorem elem_of {P : Program} {t e : TypeId} {z : Value} {b : Nat} (ht : P.underlying t = some (.slice e)) (h : (P.info? e).map (fun i => (i.zero, i.size, i.bytes)) = some (some z, 1, b)) (hb : b ≤ 64) (h1 : z.cells.size = 1) : Elem P t e z := by
  obtain ⟨i, hi, h0, h2, h3⟩ := info_parts h
  exact ⟨ht, ⟨i, b, hi, h0, h2, h3, hb⟩, h1⟩

/-- v is a row of the call's own, from block base on: the values xs. -/
def Own (w : World) (base : Nat) (e : TypeId) (v : Value) (xs : List Value) : Prop := w.ownsRow base e 1 v xs.length xs

theorem Own.nil (w : World) (base : Nat) (e : TypeId) : Own w base e (.slice none 0 0) [] := World.ownsRow_nil w base e 1
theorem Own.alloc {w : World} {base : Nat} {e : TypeId} {v : Value} {xs : List Value} (h : Own w base e v xs) (o : Obj) : Own (w.alloc o) base e v xs := World.ownsRow.alloc h o
theorem Own.drew {w : World} {base : Nat} {e : TypeId} {v : Value} {xs : List Value} (h : Own w base e v xs) : Own w.drew base e v xs := h
theorem Own.drewN {w : World} {base : Nat} {e : TypeId} {v : Value} {xs : List Value} (h : Own w base e v xs) (n : Nat) : Own (w.drewN n) base e v xs := h
theorem Own.form {w : World} {base : Nat} {e : TypeId} {v : Value} {xs : List Value} (h : Own w base e v xs) : ∃ A c, v = .slice A xs.length c := by
  rcases h.2 with ⟨rfl, h0⟩ | ⟨g, cap, cur, rfl, _⟩
  · exact ⟨none, 0, by rw [h0]⟩
  · exact ⟨_, cap, rfl⟩
theorem Own.lt {w : World} {base : Nat} {e : TypeId} {v : Value} {xs : List Value} (h : Own w base e v xs) (k : Nat) (hk : v.ownBlock = some k) : base ≤ k ∧ k < w.heap.size := World.ownsRow.lt h k hk
theorem Own.seg {w : World} {base : Nat} {e : TypeId} {v : Value} {xs : List Value} (h : Own w base e v xs) : Seg w w.heap.size v xs := by
  have hlt := h.lt
  rcases h.2 with ⟨rfl, h0⟩ | ⟨g, cap, cur, rfl, hg, hh, hnc, hcm, hsz, htake⟩
  · have : xs = [] := List.eq_nil_of_length_eq_zero h0
    subst this
    exact Seg.nil w _
  · refine ⟨_, cap, rfl, hnc, hcm, fun _ => ⟨g, 0, rfl, (hlt g rfl).2, fun i hi => ?_⟩⟩
    have hc := World.ownsRow.cells (g := g) h rfl i (xs[i]'hi) (List.getElem?_eq_getElem hi)
    have e : ((⟨g, 0, none⟩ : Addr).add i) = ⟨g, 0 + i, none⟩ := by unfold Addr.add; split <;> simp_all
    rw [← e, hc, List.getElem?_eq_getElem hi]
theorem Own.below {w w' : World} {base : Nat} {e : TypeId} {v : Value} {xs : List Value} (h : Own w base e v xs) (hb : Below w.heap.size w w') : Own w' base e v xs :=
  World.ownsRow.kept (row := none) h ⟨hb.os, hb.tape, hb.output, hb.size, fun k hk _ => hb.block k hk⟩ (by cases v.ownBlock <;> simp)
theorem Own.base {w : World} {base base' : Nat} {e : TypeId} {v : Value} {xs : List Value} (h : Own w base e v xs) (hb : base' ≤ base) : Own w base' e v xs := by
  refine ⟨h.1, ?_⟩
  rcases h.2 with h0 | ⟨g, cap, cur, hv, hg, r⟩
  · exact .inl h0
  · exact .inr ⟨g, cap, cur, hv, by omega, r⟩

/-- a new row of written values. -/
theorem Own.new (w : World) (base : Nat) (e : TypeId) (cs : Array Value) (xs : List Value) (hx : cs = xs.toArray) (hb : base ≤ w.heap.size) (hm : xs.length ≤ maxLen) :
    Own (w.alloc (.cells cs e)) base e (.slice (some ⟨w.heap.size, 0, none⟩) xs.length xs.length) xs := by
  subst hx
  refine ⟨by simp, .inr ⟨w.heap.size, xs.length, xs.toArray, rfl, hb, heap_alloc_new w _, Nat.le_refl _, hm, by simp, ?_⟩⟩
  rw [Nat.mul_one]
  exact List.take_of_length_le (Nat.le_refl _)

theorem Seg.new (w : World) (e : TypeId) (cs : Array Value) (xs : List Value) (hx : cs = xs.toArray) (hm : xs.length ≤ maxLen) :
    Seg (w.alloc (.cells cs e)) (w.heap.size + 1) (.slice (some ⟨w.heap.size, 0, none⟩) xs.length xs.length) xs := by
  subst hx
  refine ⟨_, xs.length, rfl, Nat.le_refl _, hm, fun _ => ⟨w.heap.size, 0, rfl, by omega, fun i hi => ?_⟩⟩
  rw [World.cell?_alloc_new]
  simp

theorem add_addr (b off i : Nat) : ((⟨b, off, none⟩ : Addr).add i) = ⟨b, off + i, none⟩ := by unfold Addr.add; split <;> simp_all

section
variable {P : Program} (w : World)

theorem run_app_nil (base : Nat) (t ty e : TypeId) (z : Value) (E : Elem P t e z) (v : Value) (xs : List Value) (hown : Own w base e v xs) (c : Nat) :
    (Builtin.append_ #[t, t] ty #[v, .slice none 0 c]).run P w = .ok v w := by
  obtain ⟨i, _, hi, _, _, _, _⟩ := E.info
  rcases hown.2 with ⟨rfl, h0⟩ | ⟨g, cap, cur, rfl, _, _, hnc, _⟩
  · simp [Builtin.append_, run_underlying E.und, sizeOf, typeInfo, hi, Builtin.lenOf, Builtin.firstCells]
  · simp [Builtin.append_, run_underlying E.und, sizeOf, typeInfo, hi, Builtin.lenOf, Builtin.firstCells, hnc, storeCells]

/-- what append leaves. -/
theorem run_app (base : Nat) (t ty e : TypeId) (z : Value) (E : Elem P t e z) (v : Value) (xs : List Value) (hown : Own w base e v xs)
    (B : Nat) (u : Value) (news : List Value) (hs : Seg w B u news) (h1 : ∀ x ∈ news, x.oneCell' = true)
    (hbd : xs.length + news.length ≤ 2147483648) (hbase : base ≤ w.heap.size) :
    ∃ v' w', (Builtin.append_ #[t, t] ty #[v, u]).run P w = .ok v' w' ∧ Own w' base e v' (xs ++ news) ∧ w.grownBy w' v.ownBlock ∧
      (v'.ownBlock = v.ownBlock ∨ v'.ownBlock = some w.heap.size) := by
  obtain ⟨i, bytes, hi, hz, hsz, hby, hbb⟩ := E.info
  obtain ⟨A, c, rfl, hc, hm, ha⟩ := hs
  have key : ∀ ad : Addr, A = some ad → (∀ j x, news[j]? = some x → w.cell? (ad.add j) = some x) → ∃ v' w', (Builtin.append_ #[t, t] ty #[v, .slice A news.length c]).run P w = .ok v' w' ∧ Own w' base e v' (xs ++ news) ∧ w.grownBy w' v.ownBlock ∧
      (v'.ownBlock = v.ownBlock ∨ v'.ownBlock = some w.heap.size) := by
    rintro ad rfl hcells
    have hb2 : (xs.length + news.length) * bytes ≤ 140737488355328 :=
      Nat.le_trans (Nat.mul_le_mul hbd hbb) (by decide)
    obtain ⟨v', w', hr, h2, h3, _, h5⟩ := run_append_own_at (P := P) w base t ty e i z 1 bytes E.und hi hz hsz hby E.one (by decide) v xs.length xs hown ad news.length c news (by simp) hcells h1 (by simp only [maxLen]; omega) hb2 hbase
    refine ⟨v', w', hr, ?_, h3, h5⟩
    unfold Own
    rw [List.length_append]
    exact h2
  rcases Nat.eq_zero_or_pos news.length with h0 | hp
  · have hn : news = [] := List.eq_nil_of_length_eq_zero h0
    subst hn
    rcases A with _ | ad
    · exact ⟨v, w, run_app_nil w base t ty e z E v xs hown c, by simpa using hown, World.grownBy.refl w _, .inl rfl⟩
    · exact key ad rfl (fun j x hj => by simp at hj)
  · obtain ⟨b, off, rfl, _, hcell⟩ := ha hp
    refine key _ rfl (fun j x hj => ?_)
    rw [add_addr, hcell j (List.getElem?_eq_some_iff.1 hj).1]
    exact hj

theorem wp_app {o : Oper} {a : Act} {K : Act → World → Prop} {Q : Exit → Act → World → Prop} (s x : Operand) (t : TypeId)
    (ho : o.op = .call { callee := .builtin .append, args := #[s, x], argTypes := #[t, t] })
    (base : Nat) (e : TypeId) (z : Value) (E : Elem P t e z) (v : Value) (xs : List Value) (hs : a.eval s = v) (hown : Own w base e v xs)
    (B : Nat) (u : Value) (news : List Value) (hx : a.eval x = u) (hsg : Seg w B u news) (h1 : ∀ x ∈ news, x.oneCell' = true)
    (hbd : xs.length + news.length ≤ 2147483648) (hbase : base ≤ w.heap.size)
    (h : ∀ v' w', Own w' base e v' (xs ++ news) → w.grownBy w' v.ownBlock → (v'.ownBlock = v.ownBlock ∨ v'.ownBlock = some w.heap.size) → K (a.put o.dst v') w') : o.wp P a w K Q := by
  obtain ⟨v', w', hrun, h2, h3, h4⟩ := run_app (P := P) w base t o.type e z E v xs hown B u news hsg h1 hbd hbase
  unfold Oper.wp execOp
  simp only [ho, resolve, invoke, builtin, Sem.run_bind, Sem.run_pure, Result.andThen_ok, List.map_toArray, List.map_cons, List.map_nil, hs, hx, hrun]
  exact h v' w' h2 h3 h4

theorem wpList_app {ops : Array Oper} {rest : List Oper} {o : Oper} {a : Act} {Q : Exit → Act → World → Prop} (hgd : o.guard = none) (s x : Operand) (t : TypeId)
    (ho : o.op = .call { callee := .builtin .append, args := #[s, x], argTypes := #[t, t] })
    (base : Nat) (e : TypeId) (z : Value) (E : Elem P t e z) (v : Value) (xs : List Value) (hs : a.eval s = v) (hown : Own w base e v xs)
    (B : Nat) (u : Value) (news : List Value) (hx : a.eval x = u) (hsg : Seg w B u news) (h1 : ∀ x ∈ news, x.oneCell' = true)
    (hbd : xs.length + news.length ≤ 2147483648) (hbase : base ≤ w.heap.size)
    (h : ∀ v' w', Own w' base e v' (xs ++ news) → w.grownBy w' v.ownBlock → (v'.ownBlock = v.ownBlock ∨ v'.ownBlock = some w.heap.size) → wpList P ops Q rest (a.put o.dst v') w') : wpList P ops Q (o :: rest) a w :=
  wpList_plain hgd fun _ hK => wp_app w s x t ho base e z E v xs hs hown B u news hx hsg h1 hbd hbase fun v' w' h2 h3 h4 => hK _ _ (h v' w' h2 h3 h4)

theorem wpList_app_g {ops : Array Oper} {rest : List Oper} {o : Oper} {a : Act} {Q : Exit → Act → World → Prop} (hw : Region.wanted o (yielded ops a.tmps) = true) (s x : Operand) (t : TypeId)
    (ho : o.op = .call { callee := .builtin .append, args := #[s, x], argTypes := #[t, t] })
    (base : Nat) (e : TypeId) (z : Value) (E : Elem P t e z) (v : Value) (xs : List Value) (hs : a.eval s = v) (hown : Own w base e v xs)
    (B : Nat) (u : Value) (news : List Value) (hx : a.eval x = u) (hsg : Seg w B u news) (h1 : ∀ x ∈ news, x.oneCell' = true)
    (hbd : xs.length + news.length ≤ 2147483648) (hbase : base ≤ w.heap.size)
    (h : ∀ v' w', Own w' base e v' (xs ++ news) → w.grownBy w' v.ownBlock → (v'.ownBlock = v.ownBlock ∨ v'.ownBlock = some w.heap.size) → wpList P ops Q rest (a.put o.dst v') w') : wpList P ops Q (o :: rest) a w :=
  wpList_step fun K hK => by
    rw [if_pos hw]
    exact wp_app w s x t ho base e z E v xs hs hown B u news hx hsg h1 hbd hbase fun v' w' h2 h3 h4 => hK _ _ (h v' w' h2 h3 h4)
end

theorem one_ints (zs : List Int) : ∀ x ∈ ints zs, x.oneCell' = true := by
  intro x hx
  obtain ⟨z, _, rfl⟩ := List.mem_map.1 hx
  rfl
theorem one_bytes (l : List UInt8) : ∀ x ∈ byteCells l, x.oneCell' = true := by
  intro x hx
  obtain ⟨z, _, rfl⟩ := List.mem_map.1 hx
  rfl
theorem below_app {base : Nat} {w0 w w' : World} {e : TypeId} {v : Value} {xs : List Value} (hb : Below base w0 w) (hown : Own w base e v xs) (hg : w.grownBy w' v.ownBlock) (hB : base ≤ w.heap.size) : Below base w0 w' :=
  hb.grown hg hB (fun k hk => (hown.lt k hk).1)
end Go.Par
/- MemS -/
/- Rows of cells in a set of blocks; what a call that keeps all but F leaves of them. No function of the program in sight. -/
namespace Go.Par
open Go.RowKit Go.Lib Go.Vfs
set_option linter.unusedVariables false

/-- v is a slice of the values xs, a cell each, in a block of S (whatever it is where it is empty). -/
def SegS (S : Nat → Prop) (w : World) (v : Value) (xs : List Value) : Prop :=
  ∃ A c, v = .slice A xs.length c ∧ xs.length ≤ c ∧ c ≤ maxLen ∧ (0 < xs.length → ∃ b off, A = some ⟨b, off, none⟩ ∧ S b ∧ ∀ i, i < xs.length → w.cell? ⟨b, off + i, none⟩ = xs[i]?)
/-- a block that lies, and not in F. -/
def Out (w : World) (F : Nat → Prop) (b : Nat) : Prop := b < w.heap.size ∧ ¬ F b

theorem Seg.toS {w : World} {B : Nat} {v : Value} {xs : List Value} (h : Seg w B v xs) : SegS (· < B) w v xs := h
theorem SegS.seg {S : Nat → Prop} {w : World} {v : Value} {xs : List Value} (h : SegS S w v xs) {B : Nat} (hS : ∀ b, S b → b < B) : Seg w B v xs := by
  obtain ⟨A, c, h1, h2, h3, h4⟩ := h
  exact ⟨A, c, h1, h2, h3, fun hn => by obtain ⟨b, off, e, hb, hc⟩ := h4 hn; exact ⟨b, off, e, hS b hb, hc⟩⟩
theorem SegS.keep {S S' : Nat → Prop} {w w' : World} {v : Value} {xs : List Value} (h : SegS S w v xs) (hk : ∀ b, S b → S' b ∧ w'.heap[b]? = w.heap[b]?) : SegS S' w' v xs := by
  obtain ⟨A, c, h1, h2, h3, h4⟩ := h
  exact ⟨A, c, h1, h2, h3, fun hn => by
    obtain ⟨b, off, e, hb, hc⟩ := h4 hn
    exact ⟨b, off, e, (hk b hb).1, fun i hi => (World.cell?_of_block (a := ⟨b, off + i, none⟩) (hk b hb).2).trans (hc i hi)⟩⟩
theorem SegS.out {w : World} {F : Nat → Prop} {v : Value} {xs : List Value} (h : SegS (Out w F) w v xs) : Seg w w.heap.size v xs := h.seg fun _ hb => hb.1
theorem SegS.kept {w w' : World} {F F' : Nat → Prop} {v : Value} {xs : List Value} (h : SegS (Out w F) w v xs) (hk : Kept F w w') (hg : Grows w F F') : SegS (Out w' F') w' v xs :=
  h.keep fun b hb => ⟨⟨Nat.lt_of_lt_of_le hb.1 hk.size, fun hf => by rcases hg b hf with h1 | h1; exact hb.2 h1; exact absurd hb.1 (by omega)⟩, hk.block b hb.1 hb.2⟩
theorem SegS.below {w w' : World} {F : Nat → Prop} {v : Value} {xs : List Value} (h : SegS (Out w F) w v xs) (hb : Below w.heap.size w w') : SegS (Out w' F) w' v xs :=
  h.keep fun b hx => ⟨⟨Nat.lt_of_lt_of_le hx.1 hb.size, hx.2⟩, hb.block b hx.1⟩
theorem Seg.outS {w : World} {B : Nat} {v : Value} {xs : List Value} {F : Nat → Prop} (h : Seg w B v xs) (hB : B ≤ w.heap.size) (hF : ∀ k, F k → B ≤ k) : SegS (Out w F) w v xs :=
  SegS.keep (S := (· < B)) h fun b hb => ⟨⟨by omega, fun hf => by have := hF b hf; omega⟩, rfl⟩
/-- what the call itself made lies out of F, if F lay ahead. -/
theorem Own.outS {w : World} {base : Nat} {e : TypeId} {v : Value} {xs : List Value} {F : Nat → Prop} (h : Own w base e v xs) (hF : ∀ k, F k → k < base) : SegS (Out w F) w v xs := by
  have hlt := h.lt
  rcases h.2 with ⟨rfl, h0⟩ | ⟨g, cap, cur, rfl, hg, hh, hnc, hcm, hsz, htake⟩
  · have : xs = [] := List.eq_nil_of_length_eq_zero h0
    subst this
    exact ⟨none, 0, rfl, by simp, by simp [maxLen], fun h => by simp at h⟩
  · refine ⟨_, cap, rfl, hnc, hcm, fun _ => ⟨g, 0, rfl, ⟨(hlt g rfl).2, fun hf => by have := hF g hf; omega⟩, fun i hi => ?_⟩⟩
    have hc := World.ownsRow.cells (g := g) h rfl i (xs[i]'hi) (List.getElem?_eq_getElem hi)
    rw [← add_addr, hc, List.getElem?_eq_getElem hi]
end Go.Par
/- V2 -/
namespace Go.Proofs.YtpdelgjfamelfaaGreat
open Go.RowKit Go.Lib Go.Vfs Go.Par
set_option linter.unusedVariables false

def okB (c : UInt8) : Bool := decide ((97 ≤ c.toNat ∧ c.toNat ≤ 122) ∨ (48 ≤ c.toNat ∧ c.toNat ≤ 57) ∨ c.toNat = 46 ∨ c.toNat = 45)
/-- can a file have this name? -/
def nameB (l : List UInt8) : Bool := decide (1 ≤ l.length ∧ l.length ≤ 32) && l.all okB

theorem ret_bool {a b : Bool} (h : a = b) : Ending.returned (.bool a) = .returned (.bool b) := by rw [h]
theorem str_get (s : ByteArray) (l : List UInt8) (h : s.data.toList = l) (k : Nat) (hlt : k < s.size) : s[k] = l.getD k 0 := by
  have hk' : k < s.data.size := hlt
  rw [← h]
  simp only [List.getD_eq_getElem?_getD, Array.getElem?_toList, Array.getElem?_eq_getElem hk']
  rfl
theorem all_snoc (s : ByteArray) (k : Nat) (hlt : k < s.size) : (s.data.toList.take (k + 1)).all okB = ((s.data.toList.take k).all okB && okB s[k]) := by
  have hk' : k < s.data.toList.length := by simpa using hlt
  rw [List.take_succ_eq_append_getElem hk', List.all_append]
  simp
  rfl

set_option maxRecDepth 20000 in
set_option maxHeartbeats 1000000 in
theorem isName_any (s : ByteArray) (w : World) (hs : s.size ≤ 9223372036854775807) :
    Calls Tryz.prog 33 #[.string s] w fun e w' => e = .returned (.bool (nameB s.data.toList)) ∧ w' = w := by
  have hlen : s.data.toList.length = s.size := (Lib.size_eq s).symm
  by_cases h0 : s.size = 0
  · have hse : s = ⟨#[]⟩ := by
      have : s.data = #[] := Array.toList_inj.1 (by apply List.eq_nil_of_length_eq_zero; rw [hlen, h0])
      cases s; cases this; rfl
    subst hse
    clear hlen h0 hs
    go_enter Tryz.func33, Tryz.ntmps33
    go_wp2
    go_ret
    exact ⟨rfl, rfl⟩
  · have hne : ¬ s.toList = [] := fun e => by
      rw [ByteArray.toList_eq] at e
      rw [e] at hlen
      simp at hlen
      omega
    have hne2 : s.toList.isEmpty = false := by simpa using hne
    by_cases hbig : 32 < (s.size : Int)
    · have hr : nameB s.data.toList = false := by
        unfold nameB
        rw [hlen]
        simp
        intro _ h
        omega
      rw [hr]
      clear hr hlen
      go_enter Tryz.func33, Tryz.ntmps33
      go_wp2
      go_ret
      exact ⟨rfl, rfl⟩
    · have HR : Hid (nameB s.data.toList = s.data.toList.all okB) := Lib.hid (by
        unfold nameB
        rw [hlen]
        have : decide (1 ≤ s.size ∧ s.size ≤ 32) = true := by simp; omega
        rw [this]; rfl)
      have HL := Lib.hid hlen; clear hlen
      obtain ⟨r, hr⟩ : ∃ r, r = nameB s.data.toList := ⟨_, rfl⟩
      rw [← hr]
      have HRR := Lib.hid hr; clear hr
      go_enter Tryz.func33, Tryz.ntmps33
      go_wp2
      go_loop [16] (fun i => ∃ k : Nat, k ≤ s.size ∧ i = .int .i64 k ∧ Hid ((s.data.toList.take k).all okB = true)) (fun i => s.size - (intOf i).toNat)
      case atStart => exact ⟨0, by omega, rfl, Lib.hid (by simp)⟩
      case round =>
        obtain ⟨k, hk, rfl, HA⟩ := hrel
        by_cases hlt : k < s.size
        · have hsn := all_snoc s k hlt
          rw [HA.out, Bool.true_and] at hsn
          have hbd := s[k].toNat_lt
          cases hok : okB s[k] with
          | true =>
            rw [hok] at hsn
            have HA2 := Lib.hid hsn
            clear hsn HA
            have hor := of_decide_eq_true hok
            clear hok
            rcases hor with ⟨h1, h2⟩ | ⟨h1, h2⟩ | h1 | h1
            · have g1 : (97 : Int) ≤ (s[k].toNat : Int) := by omega
              have g2 : (s[k].toNat : Int) ≤ 122 := by omega
              have g3 : (48 : Int) ≤ (s[k].toNat : Int) := by omega
              have g4 : ¬ (s[k].toNat : Int) ≤ 57 := by omega
              go_wp2
              go_round
              case rel => exact ⟨k + 1, by omega, by go_num, HA2⟩
              case measure => simp [intOf]; omega
            · have g1 : ¬ (97 : Int) ≤ (s[k].toNat : Int) := by omega
              have g3 : (48 : Int) ≤ (s[k].toNat : Int) := by omega
              have g4 : (s[k].toNat : Int) ≤ 57 := by omega
              go_wp2
              go_round
              case rel => exact ⟨k + 1, by omega, by go_num, HA2⟩
              case measure => simp [intOf]; omega
            · have g1 : ¬ (97 : Int) ≤ (s[k].toNat : Int) := by omega
              have g3 : ¬ (48 : Int) ≤ (s[k].toNat : Int) := by omega
              have g5 : ((s[k].toNat : Int) != 46) = false := by simp; omega
              clear h1
              go_wp2
              go_round
              case rel => exact ⟨k + 1, by omega, by go_num, HA2⟩
              case measure => simp [intOf]; omega
            · have g1 : ¬ (97 : Int) ≤ (s[k].toNat : Int) := by omega
              have g3 : ¬ (48 : Int) ≤ (s[k].toNat : Int) := by omega
              have g5 : ((s[k].toNat : Int) != 46) = true := by simp; omega
              have g6 : ((s[k].toNat : Int) != 45) = false := by simp; omega
              clear h1
              go_wp2
              go_round
              case rel => exact ⟨k + 1, by omega, by go_num, HA2⟩
              case measure => simp [intOf]; omega
          | false =>
            have HF : Hid (r = false) := Lib.hid (by
              rw [HRR.out, HR.out, List.all_eq_false]
              refine ⟨s[k], ?_, by rw [hok]; simp⟩
              rw [str_get s _ rfl k hlt, List.getD_eq_getElem?_getD, List.getElem?_eq_getElem (by rw [HL.out]; exact hlt)]
              exact List.getElem_mem _)
            have hor := of_decide_eq_false hok
            clear hok hsn
            have g5 : ((s[k].toNat : Int) != 46) = true := by simp; omega
            have g6 : ((s[k].toNat : Int) != 45) = true := by simp; omega
            rcases (show s[k].toNat < 48 ∨ (58 ≤ s[k].toNat ∧ s[k].toNat < 97) ∨ 122 < s[k].toNat by omega) with h | ⟨h, h2⟩ | h
            · have g1 : ¬ (97 : Int) ≤ (s[k].toNat : Int) := by omega
              have g3 : ¬ (48 : Int) ≤ (s[k].toNat : Int) := by omega
              clear hor
              go_wp2
              go_ret
              exact ⟨by first | (rw [HF.out]; rfl) | rw [HF.out], rfl⟩
            · have g1 : ¬ (97 : Int) ≤ (s[k].toNat : Int) := by omega
              have g3 : (48 : Int) ≤ (s[k].toNat : Int) := by omega
              have g4 : ¬ (s[k].toNat : Int) ≤ 57 := by omega
              clear hor
              go_wp2
              go_ret
              exact ⟨by first | (rw [HF.out]; rfl) | rw [HF.out], rfl⟩
            · have g1 : (97 : Int) ≤ (s[k].toNat : Int) := by omega
              have g2 : ¬ (s[k].toNat : Int) ≤ 122 := by omega
              have g3 : (48 : Int) ≤ (s[k].toNat : Int) := by omega
              have g4 : ¬ (s[k].toNat : Int) ≤ 57 := by omega
              clear hor
              go_wp2
              go_ret
              exact ⟨by first | (rw [HF.out]; rfl) | rw [HF.out], rfl⟩
        · have HF : Hid (r = true) := Lib.hid (by
            rw [HRR.out, HR.out]
            have := HA.out
            rw [List.take_of_length_le (by rw [HL.out]; omega)] at this
            exact this)
          go_wp2
          go_ret
          exact ⟨by first | (rw [HF.out]; rfl) | rw [HF.out], rfl⟩

theorem new_any (power : Int) (w : World) : Calls Tryz.prog 6 #[.int .i64 power] w fun e w' =>
    e = .returned (.pointer (some ⟨w.heap.size + 1, 0, none⟩)) ∧ w' = (w.alloc (.map #[] 0)).alloc (.cells #[.map (some w.heap.size), .int .i64 power] 74) := by
  have hmm := @run_makeMap Tryz.prog
  go_enter Tryz.func6, Tryz.ntmps6
  go_wp2
  go_ret
  exact ⟨rfl, rfl⟩
theorem new_fs (power : Int) (w : World) : Calls Tryz.prog 6 #[.int .i64 power] w fun e w' =>
    ∃ p F, e = .returned (.pointer (some ⟨p, 0, none⟩)) ∧ Fsy w' p ⟨power, []⟩ F ∧ (∀ k, F k → w.heap.size ≤ k ∧ k < w'.heap.size) ∧ Below w.heap.size w w' := by
  refine (new_any power w).mono ?_
  rintro e w' ⟨rfl, rfl⟩
  refine ⟨_, OwnF (w.heap.size + 1) w.heap.size [], rfl, ⟨[], w.heap.size, rfl, ⟨?_, ?_, by simp, List.Pairwise.nil, by simp, by simp, by simp⟩, rfl⟩, fun k hk => ?_, ((Below.refl _ w).alloc (Nat.le_refl _) _).alloc (by simp) _⟩
  · have := heap_alloc_new (w.alloc (.map #[] 0)) (.cells #[.map (some w.heap.size), .int .i64 power] 74)
    rwa [World.size_alloc] at this
  · exact (World.ownsMap_made w Tryz.prog 9 ptrElem).alloc _
  · unfold OwnF at hk; simp at hk ⊢; omega
end Go.Proofs.YtpdelgjfamelfaaGreat
/- V3 -/
namespace Go.Proofs.YtpdelgjfamelfaaGreat
open Go.RowKit Go.Lib Go.Vfs Go.Par
set_option linter.unusedVariables false

theorem zeroPtr (w : World) : (zeroValue 77).run Tryz.prog w = .ok (.pointer none) w := by kernel_rfl
theorem strK : Maps.Keyed Tryz.prog 9 := Maps.string_keyed Tryz.underlying9
theorem keyStr (s : ByteArray) (hs : s.size ≤ 9223372036854775807) : keyOf Tryz.prog 9 (.string s) = some (.string s.data.toList) := WideMaps.keyOf_string_mk Tryz.underlying9 (by simpa [maxLen] using hs)

/-- the pointer that the map holds at a name. -/
def ptrOf (xs : List FileR) (s : List UInt8) : Value := match findL keyR s xs with | some x => .pointer (some ⟨x.q, 0, none⟩) | none => .pointer none
theorem FSAt.look {w : World} {p : Nat} {pow : Int} {xs : List FileR} {mb : Nat} (h : FSAt w p pow xs mb) (s : ByteArray) (hs : s.size ≤ 9223372036854775807) (n : Nat) :
    (Instr.lookup 72 (.map (some mb)) (.string s) false).run Tryz.prog (w.drewN n) = .ok (ptrOf xs s.data.toList) (w.drewN n) := by
  have hm : (w.drewN n).ownsMap Tryz.prog 9 ptrElem mb xs.length (dat xs) := h.map
  obtain ⟨v, ps, hrun, hv⟩ := hm.lookup strK Tryz.underlying72 (zeroPtr _) (zd := .nil) (zp := []) rfl (keyStr s hs)
  rw [hrun]
  rw [dat_at] at hv
  unfold ptrOf
  cases hf : findL keyR s.data.toList xs with
  | none => rw [hf] at hv; rw [ptrElem_nil hv]
  | some x => rw [hf] at hv; rw [ptrElem_at hv]

def FindPost (w : World) (xs : List FileR) (s : List UInt8) (e : Ending) (w' : World) : Prop :=
  w = w' ∧ (match nameB s, findL keyR s xs with
    | false, _ => e = .returned (.tuple #[.pointer none, .int .i64 10])
    | true, none => e = .returned (.tuple #[.pointer none, .int .i64 11])
    | true, some x => e = .returned (.tuple #[.pointer (some ⟨x.q, 0, none⟩), .int .i64 0]))

set_option maxHeartbeats 400000 in
theorem find_any (s : ByteArray) (hs : s.size ≤ 9223372036854775807) (w : World) (p : Nat) (pow : Int) (xs : List FileR) (mb : Nat) (h : FSAt w p pow xs mb) :
    Calls Tryz.prog 37 #[.pointer (some ⟨p, 0, none⟩), .string s] w (FindPost w xs s.data.toList) := by
  have hc0 : w.cell? ⟨p, 0, none⟩ = some (.map (some mb)) := by simp [World.cell?, h.head]
  have hlook := h.look s hs 0
  have hw0 : w.drewN 0 = w := rfl
  rw [hw0] at hlook
  clear hw0
  have hn := isName_any s w hs
  unfold FindPost
  cases hnm : nameB s.data.toList with
  | false =>
    rw [hnm] at hn
    clear hlook
    go_enter Tryz.func37, Tryz.ntmps37
    go_wp2_with (go_at_call 33; refine hn.mono ?_; rintro e w1 ⟨rfl, rfl⟩)
    go_ret2
    exact ⟨rfl, rfl⟩
  | true =>
    rw [hnm] at hn
    unfold ptrOf at hlook
    cases hf : findL keyR s.data.toList xs with
    | none =>
      rw [hf] at hlook
      go_enter Tryz.func37, Tryz.ntmps37
      go_wp2_with (go_at_call 33; refine hn.mono ?_; rintro e w1 ⟨rfl, rfl⟩)
      go_ret2
      exact ⟨rfl, rfl⟩
    | some x =>
      rw [hf] at hlook
      go_enter Tryz.func37, Tryz.ntmps37
      go_wp2_with (go_at_call 33; refine hn.mono ?_; rintro e w1 ⟨rfl, rfl⟩)
      go_ret2
      exact ⟨rfl, rfl⟩

/- change: the power, and then what is to be done. -/
set_option maxHeartbeats 400000 in
def dec (pow : Int) : Int := if 0 < pow then pow - 1 else pow
/-- a cell of a block of two is written. -/
theorem two_setCell {w : World} {b : Nat} {u v x : Value} {t : TypeId} (h : w.heap[b]? = some (.cells #[u, v] t (0, 0))) : (w.setCell ⟨b, 1, none⟩ x).heap[b]? = some (.cells #[u, x] t (0, 0)) := by
  have hlt := lt_of_block h
  have h' : w.heap[b] = .cells #[u, v] t (0, 0) := by simpa [Array.getElem?_eq_getElem hlt] using h
  show (w.heap.modify b _)[b]? = _
  rw [Array.getElem?_eq_getElem (by simpa using hlt), Array.getElem_modify_self, h']
  rfl
theorem two_setCell0 {w : World} {b : Nat} {u v x : Value} {t : TypeId} (h : w.heap[b]? = some (.cells #[u, v] t (0, 0))) : (w.setCell ⟨b, 0, none⟩ x).heap[b]? = some (.cells #[x, v] t (0, 0)) := by
  have hlt := lt_of_block h
  have h' : w.heap[b] = .cells #[u, v] t (0, 0) := by simpa [Array.getElem?_eq_getElem hlt] using h
  show (w.heap.modify b _)[b]? = _
  rw [Array.getElem?_eq_getElem (by simpa using hlt), Array.getElem_modify_self, h']
  rfl
theorem FSAt.power {w : World} {p : Nat} {pow : Int} {xs : List FileR} {mb : Nat} (h : FSAt w p pow xs mb) (pow' : Int) : FSAt (w.setCell ⟨p, 1, none⟩ (.int .i64 pow')) p pow' xs mb := by
  have hb : ∀ k, k ≠ p → (w.setCell ⟨p, 1, none⟩ (.int .i64 pow')).heap[k]? = w.heap[k]? := fun k hk => Below.heap_setCell _ _ _ _ hk
  exact ⟨two_setCell h.head, ownsMap_block h.map (hb _ (Ne.symm h.pm)), fun x hx => (h.files x hx).block (fun k hk' => hb k (fun e => (h.pf x hx).1 (e ▸ hk'))), h.rising, h.pm, h.pf, h.apart⟩

set_option maxHeartbeats 400000 in
theorem change_down (w : World) (p : Nat) (xs : List FileR) (mb : Nat) (h : FSAt w p 0 xs mb) (fv : Value) :
    Calls Tryz.prog 34 #[.pointer (some ⟨p, 0, none⟩), fv] w fun e w' => e = .returned (.int .i64 13) ∧ w = w' := by
  have hc1 : w.cell? ⟨p, 1, none⟩ = some (.int .i64 0) := by simp [World.cell?, h.head]
  clear h
  go_enter Tryz.func34, Tryz.ntmps34
  go_wp2
  go_ret
  exact ⟨rfl, rfl⟩
set_option maxHeartbeats 400000 in
theorem changeAppend1 (w : World) (p : Nat) (pow : Int) (xs : List FileR) (mb : Nat) (h : FSAt w p pow xs mb) (hne : pow ≠ 0) (hpm : pow ≤ 9223372036854775807) (lb : Array Value) (Q : World → Prop)
    (hdo : ∀ w1, FSAt w1 p (dec pow) xs mb → Kept (· = p) w w1 → w1.heap.size = w.heap.size → Calls Tryz.prog 35 lb w1 fun e w' => e = .returned (.tuple #[]) ∧ Q w') :
    Calls Tryz.prog 34 #[.pointer (some ⟨p, 0, none⟩), .func (.func 35) #[] lb] w fun e w' => e = .returned (.int .i64 0) ∧ Q w' := by
  have hc1 : w.cell? ⟨p, 1, none⟩ = some (.int .i64 pow) := by simp [World.cell?, h.head]
  have hf1 : w.frozen? ⟨p, 1, none⟩ = false := by simp [World.frozen?, h.head]
  have h0 : (pow == 0) = false := by simpa using hne
  by_cases hpos : 0 < pow
  · have HDO := Lib.hid (hdo (w.setCell ⟨p, 1, none⟩ (.int .i64 (pow - 1))) (by have := h.power (pow - 1); unfold dec; rw [if_pos hpos]; exact this) ((Kept.refl (· = p) w).setCell (p := ⟨p, 1, none⟩) (.inl rfl) _) (by simp [World.setCell]))
    clear hdo h hne
    go_enter Tryz.func34, Tryz.ntmps34
    go_wp2_with fail
    refine HDO.out.mono ?_
    rintro e w2 ⟨rfl, hQ⟩
    go_wp2
    go_ret
    exact ⟨rfl, hQ⟩
  · have HDO := Lib.hid (hdo w (by unfold dec; rw [if_neg hpos]; exact h) (Kept.refl _ _) rfl)
    clear hdo h hne
    go_enter Tryz.func34, Tryz.ntmps34
    go_wp2_with fail
    refine HDO.out.mono ?_
    rintro e w2 ⟨rfl, hQ⟩
    go_wp2
    go_ret
    exact ⟨rfl, hQ⟩
set_option maxHeartbeats 400000 in
theorem changeRename1 (w : World) (p : Nat) (pow : Int) (xs : List FileR) (mb : Nat) (h : FSAt w p pow xs mb) (hne : pow ≠ 0) (hpm : pow ≤ 9223372036854775807) (lb : Array Value) (Q : World → Prop)
    (hdo : ∀ w1, FSAt w1 p (dec pow) xs mb → Kept (· = p) w w1 → w1.heap.size = w.heap.size → Calls Tryz.prog 93 lb w1 fun e w' => e = .returned (.tuple #[]) ∧ Q w') :
    Calls Tryz.prog 34 #[.pointer (some ⟨p, 0, none⟩), .func (.func 93) #[] lb] w fun e w' => e = .returned (.int .i64 0) ∧ Q w' := by
  have hc1 : w.cell? ⟨p, 1, none⟩ = some (.int .i64 pow) := by simp [World.cell?, h.head]
  have hf1 : w.frozen? ⟨p, 1, none⟩ = false := by simp [World.frozen?, h.head]
  have h0 : (pow == 0) = false := by simpa using hne
  by_cases hpos : 0 < pow
  · have HDO := Lib.hid (hdo (w.setCell ⟨p, 1, none⟩ (.int .i64 (pow - 1))) (by have := h.power (pow - 1); unfold dec; rw [if_pos hpos]; exact this) ((Kept.refl (· = p) w).setCell (p := ⟨p, 1, none⟩) (.inl rfl) _) (by simp [World.setCell]))
    clear hdo h hne
    go_enter Tryz.func34, Tryz.ntmps34
    go_wp2_with fail
    refine HDO.out.mono ?_
    rintro e w2 ⟨rfl, hQ⟩
    go_wp2
    go_ret
    exact ⟨rfl, hQ⟩
  · have HDO := Lib.hid (hdo w (by unfold dec; rw [if_neg hpos]; exact h) (Kept.refl _ _) rfl)
    clear hdo h hne
    go_enter Tryz.func34, Tryz.ntmps34
    go_wp2_with fail
    refine HDO.out.mono ?_
    rintro e w2 ⟨rfl, hQ⟩
    go_wp2
    go_ret
    exact ⟨rfl, hQ⟩
set_option maxHeartbeats 400000 in
theorem changeTruncate1 (w : World) (p : Nat) (pow : Int) (xs : List FileR) (mb : Nat) (h : FSAt w p pow xs mb) (hne : pow ≠ 0) (hpm : pow ≤ 9223372036854775807) (lb : Array Value) (Q : World → Prop)
    (hdo : ∀ w1, FSAt w1 p (dec pow) xs mb → Kept (· = p) w w1 → w1.heap.size = w.heap.size → Calls Tryz.prog 77 lb w1 fun e w' => e = .returned (.tuple #[]) ∧ Q w') :
    Calls Tryz.prog 34 #[.pointer (some ⟨p, 0, none⟩), .func (.func 77) #[] lb] w fun e w' => e = .returned (.int .i64 0) ∧ Q w' := by
  have hc1 : w.cell? ⟨p, 1, none⟩ = some (.int .i64 pow) := by simp [World.cell?, h.head]
  have hf1 : w.frozen? ⟨p, 1, none⟩ = false := by simp [World.frozen?, h.head]
  have h0 : (pow == 0) = false := by simpa using hne
  by_cases hpos : 0 < pow
  · have HDO := Lib.hid (hdo (w.setCell ⟨p, 1, none⟩ (.int .i64 (pow - 1))) (by have := h.power (pow - 1); unfold dec; rw [if_pos hpos]; exact this) ((Kept.refl (· = p) w).setCell (p := ⟨p, 1, none⟩) (.inl rfl) _) (by simp [World.setCell]))
    clear hdo h hne
    go_enter Tryz.func34, Tryz.ntmps34
    go_wp2_with fail
    refine HDO.out.mono ?_
    rintro e w2 ⟨rfl, hQ⟩
    go_wp2
    go_ret
    exact ⟨rfl, hQ⟩
  · have HDO := Lib.hid (hdo w (by unfold dec; rw [if_neg hpos]; exact h) (Kept.refl _ _) rfl)
    clear hdo h hne
    go_enter Tryz.func34, Tryz.ntmps34
    go_wp2_with fail
    refine HDO.out.mono ?_
    rintro e w2 ⟨rfl, hQ⟩
    go_wp2
    go_ret
    exact ⟨rfl, hQ⟩
set_option maxHeartbeats 400000 in
theorem changeRemove1 (w : World) (p : Nat) (pow : Int) (xs : List FileR) (mb : Nat) (h : FSAt w p pow xs mb) (hne : pow ≠ 0) (hpm : pow ≤ 9223372036854775807) (lb : Array Value) (Q : World → Prop)
    (hdo : ∀ w1, FSAt w1 p (dec pow) xs mb → Kept (· = p) w w1 → w1.heap.size = w.heap.size → Calls Tryz.prog 74 lb w1 fun e w' => e = .returned (.tuple #[]) ∧ Q w') :
    Calls Tryz.prog 34 #[.pointer (some ⟨p, 0, none⟩), .func (.func 74) #[] lb] w fun e w' => e = .returned (.int .i64 0) ∧ Q w' := by
  have hc1 : w.cell? ⟨p, 1, none⟩ = some (.int .i64 pow) := by simp [World.cell?, h.head]
  have hf1 : w.frozen? ⟨p, 1, none⟩ = false := by simp [World.frozen?, h.head]
  have h0 : (pow == 0) = false := by simpa using hne
  by_cases hpos : 0 < pow
  · have HDO := Lib.hid (hdo (w.setCell ⟨p, 1, none⟩ (.int .i64 (pow - 1))) (by have := h.power (pow - 1); unfold dec; rw [if_pos hpos]; exact this) ((Kept.refl (· = p) w).setCell (p := ⟨p, 1, none⟩) (.inl rfl) _) (by simp [World.setCell]))
    clear hdo h hne
    go_enter Tryz.func34, Tryz.ntmps34
    go_wp2_with fail
    refine HDO.out.mono ?_
    rintro e w2 ⟨rfl, hQ⟩
    go_wp2
    go_ret
    exact ⟨rfl, hQ⟩
  · have HDO := Lib.hid (hdo w (by unfold dec; rw [if_neg hpos]; exact h) (Kept.refl _ _) rfl)
    clear hdo h hne
    go_enter Tryz.func34, Tryz.ntmps34
    go_wp2_with fail
    refine HDO.out.mono ?_
    rintro e w2 ⟨rfl, hQ⟩
    go_wp2
    go_ret
    exact ⟨rfl, hQ⟩
set_option maxHeartbeats 400000 in
theorem changeSync1 (w : World) (p : Nat) (pow : Int) (xs : List FileR) (mb : Nat) (h : FSAt w p pow xs mb) (hne : pow ≠ 0) (hpm : pow ≤ 9223372036854775807) (lb : Array Value) (Q : World → Prop)
    (hdo : ∀ w1, FSAt w1 p (dec pow) xs mb → Kept (· = p) w w1 → w1.heap.size = w.heap.size → Calls Tryz.prog 38 lb w1 fun e w' => e = .returned (.tuple #[]) ∧ Q w') :
    Calls Tryz.prog 34 #[.pointer (some ⟨p, 0, none⟩), .func (.func 38) #[] lb] w fun e w' => e = .returned (.int .i64 0) ∧ Q w' := by
  have hc1 : w.cell? ⟨p, 1, none⟩ = some (.int .i64 pow) := by simp [World.cell?, h.head]
  have hf1 : w.frozen? ⟨p, 1, none⟩ = false := by simp [World.frozen?, h.head]
  have h0 : (pow == 0) = false := by simpa using hne
  by_cases hpos : 0 < pow
  · have HDO := Lib.hid (hdo (w.setCell ⟨p, 1, none⟩ (.int .i64 (pow - 1))) (by have := h.power (pow - 1); unfold dec; rw [if_pos hpos]; exact this) ((Kept.refl (· = p) w).setCell (p := ⟨p, 1, none⟩) (.inl rfl) _) (by simp [World.setCell]))
    clear hdo h hne
    go_enter Tryz.func34, Tryz.ntmps34
    go_wp2_with fail
    refine HDO.out.mono ?_
    rintro e w2 ⟨rfl, hQ⟩
    go_wp2
    go_ret
    exact ⟨rfl, hQ⟩
  · have HDO := Lib.hid (hdo w (by unfold dec; rw [if_neg hpos]; exact h) (Kept.refl _ _) rfl)
    clear hdo h hne
    go_enter Tryz.func34, Tryz.ntmps34
    go_wp2_with fail
    refine HDO.out.mono ?_
    rintro e w2 ⟨rfl, hQ⟩
    go_wp2
    go_ret
    exact ⟨rfl, hQ⟩
end Go.Proofs.YtpdelgjfamelfaaGreat
/- V4 -/
namespace Go.Proofs.YtpdelgjfamelfaaGreat
open Go.RowKit Go.Lib Go.Vfs Go.Par
set_option linter.unusedVariables false

/-- v is a slice of slices of bytes. -/
def RowsAt (S : Nat → Prop) (w : World) (v : Value) (ls : List (List UInt8)) : Prop :=
  ∃ vs : List Value, vs.length = ls.length ∧ SegS S w v vs ∧ ∀ i, i < ls.length → SegS S w (vs.getD i (.bool false)) (byteCells (ls.getD i []))
theorem RowsAt.keep {S S' : Nat → Prop} {w w' : World} {v : Value} {ls : List (List UInt8)} (h : RowsAt S w v ls) (hk : ∀ b, S b → S' b ∧ w'.heap[b]? = w.heap[b]?) : RowsAt S' w' v ls := by
  obtain ⟨vs, h1, h2, h3⟩ := h
  exact ⟨vs, h1, h2.keep hk, fun i hi => (h3 i hi).keep hk⟩
theorem RowsAt.kept {w w' : World} {F F' : Nat → Prop} {v : Value} {ls : List (List UInt8)} (h : RowsAt (Out w F) w v ls) (hk : Kept F w w') (hg : Grows w F F') : RowsAt (Out w' F') w' v ls := by
  obtain ⟨vs, h1, h2, h3⟩ := h
  exact ⟨vs, h1, h2.kept hk hg, fun i hi => (h3 i hi).kept hk hg⟩
theorem RowsAt.below {w w' : World} {F : Nat → Prop} {v : Value} {ls : List (List UInt8)} (h : RowsAt (Out w F) w v ls) (hb : Below w.heap.size w w') : RowsAt (Out w' F) w' v ls := by
  obtain ⟨vs, h1, h2, h3⟩ := h
  exact ⟨vs, h1, h2.below hb, fun i hi => (h3 i hi).below hb⟩

theorem byteE : Elem Tryz.prog 22 5 (.int .u8 0) := elem_of (b := 1) Tryz.underlying22 (by kernel_rfl) (by decide) rfl

theorem FileAt.own {w : World} {x : FileR} (h : FileAt w x) : Par.Own w 0 5 x.v (byteCells x.f.data) := by
  unfold Par.Own
  rw [byteCells_length]
  exact h.row
theorem byteCells_append (a b : List UInt8) : byteCells (a ++ b) = byteCells a ++ byteCells b := by simp [byteCells]

/-- x with other bytes. -/
def FileR.set (x : FileR) (data : List UInt8) (v : Value) : FileR := ⟨⟨x.f.name, data, x.f.safe⟩, x.q, v⟩

theorem flat_succ (ls : List (List UInt8)) (k : Nat) (hk : k < ls.length) : (ls.take (k + 1)).flatten = (ls.take k).flatten ++ ls.getD k [] := by
  rw [List.take_succ_eq_append_getElem hk, List.flatten_append, List.getD_eq_getElem?_getD, List.getElem?_eq_getElem hk]
  simp
theorem flat_le (ls : List (List UInt8)) (k : Nat) (hk : k < ls.length) : ((ls.take k).flatten).length + (ls.getD k []).length ≤ ls.flatten.length := by
  have h1 := congrArg List.length (flat_succ ls k hk)
  rw [List.length_append] at h1
  have h2 := congrArg (fun l : List (List UInt8) => l.flatten.length) (List.take_append_drop (k + 1) ls)
  simp only [List.flatten_append, List.length_append] at h2
  omega

/-- what an append and the store of its slice leave of a file. -/
theorem add_step {x : FileR} {wr w3 : World} {D L : List UInt8} {vk v3 : Value} (hf : FileAt wr (x.set D vk)) (hn : vk.ownBlock ≠ some x.q) (hown : Par.Own w3 0 5 v3 (byteCells D ++ byteCells L)) (hg : wr.grownBy w3 vk.ownBlock)
    (hat : v3.ownBlock = vk.ownBlock ∨ v3.ownBlock = some wr.heap.size) : FileAt (w3.setCell ⟨x.q, 0, none⟩ v3) (x.set (D ++ L) v3) ∧ v3.ownBlock ≠ some x.q := by
  have hql : x.q < wr.heap.size := lt_of_block hf.head
  have hh3 : w3.heap[x.q]? = some (.cells #[vk, .int .i64 x.f.safe] 79 (0, 0)) := by
    rw [hg.block x.q hql (fun e => hn e.symm)]
    exact hf.head
  have hn3 : v3.ownBlock ≠ some x.q := by
    rcases hat with h | h
    · rw [h]; exact hn
    · rw [h]; simp; omega
  refine ⟨⟨two_setCell0 hh3, ?_, ?_⟩, hn3⟩
  · unfold Par.Own at hown
    rw [← byteCells_append, byteCells_length] at hown
    exact ownsRow_setCell_other (a := ⟨x.q, 0, none⟩) hown hn3 _
  · have := hf.safe
    simp only [FileR.set, List.length_append] at this ⊢
    omega

set_option maxRecDepth 20000 in
set_option maxHeartbeats 1000000 in
theorem add_any (x : FileR) (w : World) (hf : FileAt w x) (hnd : x.v.ownBlock ≠ some x.q) (v : Value) (ls : List (List UInt8)) (hp : RowsAt (Out w (· ∈ blocksR x)) w v ls) (hlen : x.f.data.length + ls.flatten.length ≤ 2147483648) :
    Calls Tryz.prog 36 #[.pointer (some ⟨x.q, 0, none⟩), v] w fun e w' => e = .returned (.tuple #[]) ∧ ∃ v', FileAt w' (x.set (x.f.data ++ ls.flatten) v') ∧ v'.ownBlock ≠ some x.q ∧ Kept (· ∈ blocksR x) w w' ∧ (∀ g, v'.ownBlock = some g → x.v.ownBlock = some g ∨ w.heap.size ≤ g) := by
  obtain ⟨vs, hvl, hsv, hrows⟩ := hp
  obtain ⟨A, c, rfl, hc, hm, hat⟩ := hsv
  have hm' : c ≤ 9223372036854775807 := by simpa [maxLen] using hm
  have hql : x.q < w.heap.size := lt_of_block hf.head
  have HAT := Lib.hid hat; clear hat
  have HR := Lib.hid hrows; clear hrows
  have HVL := Lib.hid hvl; clear hvl
  have HF := Lib.hid hf; clear hf
  have HND := Lib.hid hnd; clear hnd
  go_enter Tryz.func36, Tryz.ntmps36
  go_wp2
  go_loopw [8] (fun i wr => ∃ (k : Nat) (vk : Value), k ≤ vs.length ∧ i = .int .i64 k ∧ Hid (FileAt wr (x.set (x.f.data ++ (ls.take k).flatten) vk)) ∧ Hid (vk.ownBlock ≠ some x.q) ∧ Kept (· ∈ blocksR x) w wr ∧ Hid (∀ g, vk.ownBlock = some g → x.v.ownBlock = some g ∨ w.heap.size ≤ g)) (fun i _ => vs.length - (intOf i).toNat)
  case atStart => exact ⟨0, x.v, by omega, rfl, Lib.hid (by simpa [FileR.set] using HF.out), HND, Kept.refl _ _, Lib.hid (fun g h => .inl h)⟩
  case round =>
    obtain ⟨k, vk, hk, rfl, HFk, HNk, hkept, HGk⟩ := hrel
    have hzk := hkept.size
    by_cases hlt : k < vs.length
    · obtain ⟨b, off, rfl, hb, hcell⟩ := HAT.out (by omega)
      have hck : wr.cell? ⟨b, off + k, none⟩ = some (vs.getD k (.bool false)) := by
        rw [hkept.cell (p := ⟨b, off + k, none⟩) hb.1 hb.2, hcell k hlt, List.getD_eq_getElem?_getD, List.getElem?_eq_getElem hlt]
        rfl
      have hsg := HR.out k (by rw [← HVL.out]; exact hlt)
      have hsk : SegS (Out wr (· ∈ blocksR x)) wr (vs.getD k (.bool false)) (byteCells (ls.getD k [])) := hsg.kept hkept (fun _ h => .inl h)
      have hseg := hsk.out
      clear hsg hsk hcell
      generalize vs.getD k (.bool false) = u at *
      have hq0 : wr.cell? ⟨x.q, 0, none⟩ = some vk := by have := HFk.out.head; simp only [FileR.set] at this; simp [World.cell?, this]
      have hown := HFk.out.own
      have hlk := flat_le ls k (by rw [← HVL.out]; exact hlt)
      have HFL := Lib.hid (flat_succ ls k (by rw [← HVL.out]; exact hlt))
      generalize ls.getD k [] = L at *
      go_wp2_with (at_builtin; refine wpList_app _ rfl _ _ _ rfl 0 5 _ byteE _ _ rfl hown _ _ _ rfl hseg (one_bytes _) ?c1 ?c2 ?_)
      case c1 => rw [byteCells_length, byteCells_length]; simp only [FileR.set, List.length_append]; omega
      case c2 => first | omega | simp
      intro v3 w3 hown4 hg3 hat3
      have hh3 : w3.heap[x.q]? = some (.cells #[vk, .int .i64 x.f.safe] 79 (0, 0)) := by
        rw [hg3.block x.q (by omega) (fun e => HNk.out e.symm)]
        exact HFk.out.head
      have hq3 : w3.cell? ⟨x.q, 0, none⟩ = some vk := by simp [World.cell?, hh3]
      have hf3 : w3.frozen? ⟨x.q, 0, none⟩ = false := by simp [World.frozen?, hh3]
      obtain ⟨hF4, hN4⟩ := add_step HFk.out HNk.out hown4 hg3 hat3
      rw [List.append_assoc, ← HFL.out] at hF4
      have hK4 : Kept (· ∈ blocksR x) w (w3.setCell ⟨x.q, 0, none⟩ v3) := (hkept.grown hg3 (fun g e => by
        rcases HGk.out g e with h | h
        · left; simp [blocksR, h]
        · exact .inr h)).setCell (p := ⟨x.q, 0, none⟩) (.inl (by simp [blocksR])) _
      have HG4 : Hid (∀ g, v3.ownBlock = some g → x.v.ownBlock = some g ∨ w.heap.size ≤ g) := Lib.hid (fun g e => by
        rcases hat3 with h | h
        · exact HGk.out g (by rw [← h]; exact e)
        · rw [h] at e; cases e; right; exact hzk)
      have HF4 := Lib.hid hF4; clear hF4
      have HN4 := Lib.hid hN4; clear hN4
      clear hown4 hg3 hat3 HFL
      have hv3 : ∃ A3 n3 c3, v3 = .slice A3 n3 c3 := by
        have := HF4.out.own.form
        simp only [FileR.set] at this
        obtain ⟨A3, c3, h⟩ := this
        exact ⟨A3, _, c3, h⟩
      obtain ⟨A3, n3, c3, rfl⟩ := hv3
      go_wp2
      go_roundw
      case rel => exact ⟨k + 1, _, by omega, by go_num, HF4, HN4, hK4, HG4⟩
      case measure => simp [intOf]; omega
    · have hkl : k = vs.length := by omega
      have hF := HFk.out
      rw [hkl, HVL.out, List.take_length] at hF
      go_wp2
      go_end0
      exact ⟨rfl, vk, hF, HNk.out, hkept, HGk.out⟩
end Go.Proofs.YtpdelgjfamelfaaGreat
/- V5 -/
/- What a change leaves of a file system: a file replaced, put, dropped. No walk here. -/
namespace Go.Proofs.YtpdelgjfamelfaaGreat
open Go.RowKit Go.Lib Go.Vfs Go.Par
set_option linter.unusedVariables false

theorem before_asymm {a b : List UInt8} (h : bytesBefore a b = true) : bytesBefore b a = false := by
  cases h' : bytesBefore b a with
  | false => rfl
  | true => have := before_trans h h'; rw [before_irrefl] at this; cases this
/-- in a rising list: put in the place of the one of its name. -/
theorem withL_repl {α : Type} {key : α → List UInt8} {x' : α} : ∀ {l : List α}, Rising key l → (∃ x ∈ l, key x = key x') → withL key x' l = l.map fun y => if key y == key x' then x' else y
  | [], _, h => by obtain ⟨x, hx, _⟩ := h; cases hx
  | y :: r, hr, h => by
    have hp := List.pairwise_cons.1 hr
    by_cases e : key y = key x'
    · have hne : ∀ z ∈ r, (key z == key x') = false := fun z hz => by
        have h1 := hp.1 z hz
        rw [e] at h1
        refine beq_eq_false_iff_ne.2 fun e2 => ?_
        rw [e2, before_irrefl] at h1; cases h1
      have hd : dropL key (key x') (y :: r) = r := by
        unfold dropL
        rw [List.filter_cons]
        simp only [e, beq_self_eq_true, Bool.not_true]
        rw [List.filter_eq_self.2 (fun z hz => by rw [hne z hz]; rfl)]
        rfl
      have hput : putL key x' r = x' :: r := by
        cases r with
        | nil => rfl
        | cons z r =>
          have h1 := hp.1 z (by simp)
          rw [e] at h1
          unfold putL
          rw [if_pos h1]
      unfold withL
      rw [hd, hput, List.map_cons]
      simp only [e, beq_self_eq_true, if_true]
      rw [List.map_congr_left (g := id) (fun z hz => by rw [hne z hz]; rfl), List.map_id]
    · have hx : ∃ x ∈ r, key x = key x' := by
        obtain ⟨x, hx, hk⟩ := h
        rcases List.mem_cons.1 hx with h1 | h1
        · rw [h1] at hk; exact absurd hk e
        · exact ⟨x, h1, hk⟩
      have ih := withL_repl hp.2 hx
      have hb : bytesBefore (key x') (key y) = false := by
        obtain ⟨x, hx, hk⟩ := hx
        have := hp.1 x hx
        rw [hk] at this
        exact before_asymm this
      have he : (key y == key x') = false := beq_eq_false_iff_ne.2 e
      unfold withL at ih ⊢
      have hd : dropL key (key x') (y :: r) = y :: dropL key (key x') r := by
        unfold dropL
        rw [List.filter_cons, he]
        rfl
      rw [hd]
      unfold putL
      rw [hb, if_neg (by simp), ih, List.map_cons, he]
      rfl

theorem ownsMap_len {w : World} {b n : Nat} {xs : List FileR} (h : w.ownsMap Tryz.prog 9 ptrElem b n (dat xs)) : w.ownsMap Tryz.prog 9 ptrElem b xs.length (dat xs) := by
  obtain ⟨es, clock, h1, h2, h3, h4⟩ := h
  refine ⟨es, clock, h1, h2, ?_, h4⟩
  unfold dat at h4
  injection h4 with h4
  have := congrArg List.length h4
  rw [length_sorted] at this
  simp at this
  omega

/-- a file of that name in the place of the other one, or more. -/
theorem FSAt.put {w w' : World} {p : Nat} {pow : Int} {xs : List FileR} {mb n : Nat} (h : FSAt w p pow xs mb) (x' : FileR) (hf : FileAt w' x') (hne : x'.v.ownBlock ≠ some x'.q)
    (hmap : w'.ownsMap Tryz.prog 9 ptrElem mb n (dat (withL keyR x' xs)))
    (hp : w'.heap[p]? = w.heap[p]?) (hk : ∀ y ∈ xs, keyR y ≠ keyR x' → ∀ k ∈ blocksR y, w'.heap[k]? = w.heap[k]?)
    (hd : ∀ k ∈ blocksR x', k ≠ p ∧ k ≠ mb ∧ ∀ y ∈ xs, keyR y ≠ keyR x' → k ∉ blocksR y) : FSAt w' p pow (withL keyR x' xs) mb := by
  refine ⟨hp.trans h.head, ownsMap_len hmap, fun y hy => ?_, h.rising.withL, h.pm, fun y hy => ?_, fun y hy z hz hyz k hky hkz => ?_⟩
  · rcases mem_withL.1 hy with rfl | ⟨h1, h2⟩
    · exact hf
    · exact (h.files y h1).block (hk y h1 h2)
  · rcases mem_withL.1 hy with rfl | ⟨h1, h2⟩
    · exact ⟨fun hm => (hd p hm).1 rfl, fun hm => (hd mb hm).2.1 rfl, hne⟩
    · exact h.pf y h1
  · rcases mem_withL.1 hy with rfl | ⟨h1, h2⟩
    · rcases mem_withL.1 hz with rfl | ⟨h3, h4⟩
      · exact hyz rfl
      · exact (hd k hky).2.2 z h3 h4 hkz
    · rcases mem_withL.1 hz with rfl | ⟨h3, h4⟩
      · exact (hd k hkz).2.2 y h1 h2 hky
      · exact h.apart y h1 z h3 hyz k hky hkz
theorem own_put {p mb : Nat} {xs : List FileR} {x' : FileR} {w : World} (hx : ∀ k ∈ blocksR x', OwnF p mb xs k ∨ w.heap.size ≤ k) : Grows w (OwnF p mb xs) (OwnF p mb (withL keyR x' xs)) := by
  rintro k (rfl | rfl | ⟨y, hy, hk⟩)
  · exact .inl (.inl rfl)
  · exact .inl (.inr (.inl rfl))
  · rcases mem_withL.1 hy with rfl | ⟨h1, h2⟩
    · exact hx k hk
    · exact .inl (.inr (.inr ⟨y, h1, hk⟩))
/-- other bytes for a file. -/
theorem FSAt.repl {w w' : World} {p : Nat} {pow : Int} {xs : List FileR} {mb : Nat} (h : FSAt w p pow xs mb) {x x' : FileR} (hx : x ∈ xs) (hn : keyR x' = keyR x) (hq : x'.q = x.q) (hf : FileAt w' x') (hne : x'.v.ownBlock ≠ some x'.q)
    (hk : Kept (· ∈ blocksR x) w w') (hg : ∀ g, x'.v.ownBlock = some g → x.v.ownBlock = some g ∨ w.heap.size ≤ g) :
    FSAt w' p pow (withL keyR x' xs) mb ∧ Grows w (OwnF p mb xs) (OwnF p mb (withL keyR x' xs)) := by
  have hpl := lt_of_block h.head
  have hbl : ∀ k ∈ blocksR x', k ∈ blocksR x ∨ w.heap.size ≤ k := by
    intro k hk
    unfold blocksR at hk ⊢
    rcases List.mem_cons.1 hk with rfl | hk
    · left; rw [hq]; simp
    · rcases hg k (by simpa using hk) with h1 | h1
      · left; simp [h1]
      · exact .inr h1
  have hdat : dat (withL keyR x' xs) = dat xs := by
    rw [withL_repl h.rising ⟨x, hx, hn.symm⟩]
    unfold dat
    rw [List.map_map]
    congr 1
    apply List.map_congr_left
    intro y hy
    simp only [Function.comp]
    split
    · rename_i e
      have e' : keyR y = keyR x := by rw [← hn]; simpa using e
      have := h.rising.uniq hy hx e'
      subst this
      have e2 : x'.f.name = y.f.name := hn
      rw [hq, e2]
    · rfl
  refine ⟨h.put x' hf hne (n := xs.length) ?_ (hk.block p hpl (h.pf x hx).1) (fun y hy hyn k hky => hk.block k ((h.files y hy).lt k hky) (fun hkx => h.apart y hy x hx (by rw [← hn]; exact hyn) k hky hkx)) ?_, own_put fun k hk => ?_⟩
  · rw [hdat]
    exact ownsMap_block h.map (hk.block mb h.map.lt (h.pf x hx).2.1)
  · intro k hkb
    rcases hbl k hkb with h1 | h1
    · exact ⟨fun e => (h.pf x hx).1 (e ▸ h1), fun e => (h.pf x hx).2.1 (e ▸ h1), fun y hy hyn hky => h.apart y hy x hx (by rw [← hn]; exact hyn) k hky h1⟩
    · have h2 := h.map.lt
      exact ⟨by omega, by omega, fun y hy hyn hky => by have := (h.files y hy).lt k hky; omega⟩
  · rcases hbl k hk with h1 | h1
    · exact .inl (.inr (.inr ⟨x, hx, h1⟩))
    · exact .inr h1
theorem FSAt.drop {w w' : World} {p : Nat} {pow : Int} {xs : List FileR} {mb n : Nat} (h : FSAt w p pow xs mb) (s : List UInt8) (hmap : w'.ownsMap Tryz.prog 9 ptrElem mb n (dat (dropL keyR s xs))) (hg : w.grownBy w' (some mb)) :
    FSAt w' p pow (dropL keyR s xs) mb := by
  have hb : ∀ k, k < w.heap.size → k ≠ mb → w'.heap[k]? = w.heap[k]? := fun k hk hne => hg.block k hk (fun e => hne (by cases e; rfl))
  refine ⟨(hb p (lt_of_block h.head) h.pm).trans h.head, ownsMap_len hmap, fun y hy => ?_, h.rising.dropL s, h.pm, fun y hy => h.pf y (mem_dropL.1 hy).1, fun y hy z hz => h.apart y (mem_dropL.1 hy).1 z (mem_dropL.1 hz).1⟩
  have hy1 := (mem_dropL.1 hy).1
  exact (h.files y hy1).block (fun k hk => hb k ((h.files y hy1).lt k hk) (fun e => (h.pf y hy1).2.1 (e ▸ hk)))
theorem own_drop {p mb : Nat} {xs : List FileR} {s : List UInt8} {w : World} : Grows w (OwnF p mb xs) (OwnF p mb (dropL keyR s xs)) := by
  rintro k (rfl | rfl | ⟨y, hy, hk⟩)
  · exact .inl (.inl rfl)
  · exact .inl (.inr (.inl rfl))
  · exact .inl (.inr (.inr ⟨y, (mem_dropL.1 hy).1, hk⟩))
theorem Grows.refl (w : World) (F : Nat → Prop) : Grows w F F := fun _ h => .inl h
theorem Grows.trans {w w' : World} {F F' F'' : Nat → Prop} (h : Grows w F F') (h' : Grows w' F' F'') (hs : w.heap.size ≤ w'.heap.size) : Grows w F F'' := fun k hk => by
  rcases h' k hk with h1 | h1
  · exact h k h1
  · right; omega
end Go.Proofs.YtpdelgjfamelfaaGreat
/- V6 -/
namespace Go.Proofs.YtpdelgjfamelfaaGreat
open Go.RowKit Go.Lib Go.Vfs Go.Par
set_option linter.unusedVariables false

/-- the files with bytes put behind one. -/
def appF (s L : List UInt8) (fs : List File) : List File := withL File.name (match findL File.name s fs with | some f => ⟨s, f.data ++ L, f.safe⟩ | none => ⟨s, L, 0⟩) fs

theorem RowsAt.sub {S S' : Nat → Prop} {w : World} {v : Value} {ls : List (List UInt8)} (h : RowsAt S w v ls) (hS : ∀ b, S b → S' b) : RowsAt S' w v ls := h.keep fun b hb => ⟨hS b hb, rfl⟩
theorem FSAt.drewN {w : World} {p : Nat} {pow : Int} {xs : List FileR} {mb : Nat} (h : FSAt w p pow xs mb) (n : Nat) : FSAt (w.drewN n) p pow xs mb := h.block fun _ _ => rfl

/-- what a closure of a change leaves. -/
def DoPost (w : World) (p : Nat) (pow : Int) (xs : List FileR) (mb : Nat) (fs : List File) (w' : World) : Prop :=
  ∃ xs', xs'.map (·.f) = fs ∧ FSAt w' p pow xs' mb ∧ Kept (OwnF p mb xs) w w' ∧ Grows w (OwnF p mb xs) (OwnF p mb xs')

theorem append1_some {w w' : World} {p : Nat} {pow : Int} {xs : List FileR} {mb : Nat} (h : FSAt w p pow xs mb) {s L : List UInt8} {x : FileR} (hf : findL keyR s xs = some x) {v' : Value}
    (hF : FileAt w' (x.set (x.f.data ++ L) v')) (hn : v'.ownBlock ≠ some x.q) (hk : Kept (· ∈ blocksR x) w w') (hg : ∀ g, v'.ownBlock = some g → x.v.ownBlock = some g ∨ w.heap.size ≤ g) : DoPost w p pow xs mb (appF s L (xs.map (·.f))) w' := by
  obtain ⟨hx, hkx⟩ := findL_some hf
  obtain ⟨h1, h2⟩ := h.repl (x' := x.set (x.f.data ++ L) v') hx rfl rfl hF hn hk hg
  refine ⟨_, ?_, h1, hk.mono (fun k _ hb => .inr (.inr ⟨x, hx, hb⟩)), h2⟩
  rw [map_withL (key := keyR) (key' := File.name) FileR.f (fun _ => rfl)]
  unfold appF
  rw [map_findL (key := keyR) (key' := File.name) FileR.f (fun _ => rfl), hf]
  simp only [Option.map_some]
  have : x.f.name = s := hkx
  rw [← this]
  rfl

theorem dropL_putL {α : Type} {key : α → List UInt8} (y : α) : ∀ l : List α, dropL key (key y) (putL key y l) = dropL key (key y) l
  | [] => by simp [putL, dropL]
  | z :: l => by
    unfold putL
    split
    · simp [dropL, List.filter_cons]
    · have ih := dropL_putL (key := key) y l
      unfold dropL at ih ⊢
      rw [List.filter_cons, List.filter_cons, ih]
theorem dropL_dropL {α : Type} {key : α → List UInt8} (s : List UInt8) (l : List α) : dropL key s (dropL key s l) = dropL key s l := by simp [dropL, List.filter_filter]
theorem withL_withL {α : Type} {key : α → List UInt8} (x y : α) (h : key x = key y) (l : List α) : withL key x (withL key y l) = withL key x l := by
  unfold withL
  rw [h, dropL_putL, dropL_dropL]

/-- a new file, empty, in the map. -/
theorem FSAt.fresh {w W w3 : World} {p : Nat} {pow : Int} {xs : List FileR} {mb n : Nat} (h : FSAt w p pow xs mb) (s : List UInt8) (hb : Below w.heap.size w W) (hq : W.heap[w.heap.size]? = some (.cells #[.slice none 0 0, .int .i64 0] 79 (0, 0)))
    (hmap : w3.ownsMap Tryz.prog 9 ptrElem mb n ((dat xs).put (.string s) (.lit (.int .i64 w.heap.size)))) (hg : W.grownBy w3 (some mb)) :
    FSAt w3 p pow (withL keyR ⟨⟨s, [], 0⟩, w.heap.size, .slice none 0 0⟩ xs) mb ∧ Kept (OwnF p mb xs) w w3 ∧ Grows w (OwnF p mb xs) (OwnF p mb (withL keyR ⟨⟨s, [], 0⟩, w.heap.size, .slice none 0 0⟩ xs)) := by
  have hpl := lt_of_block h.head
  have hml := h.map.lt
  have hWl : w.heap.size < W.heap.size := lt_of_block hq
  have hk3 : ∀ k, k < w.heap.size → k ≠ mb → w3.heap[k]? = w.heap[k]? := fun k hk hne => (hg.block k (Nat.lt_of_lt_of_le hk hb.size) (fun e => hne (by cases e; rfl))).trans (hb.block k hk)
  have hbl : ∀ k ∈ blocksR ⟨⟨s, [], 0⟩, w.heap.size, .slice none 0 0⟩, k = w.heap.size := fun k hk => by simpa [blocksR, Value.ownBlock] using hk
  refine ⟨h.put _ ⟨?_, ⟨by simp [byteCells], .inl ⟨rfl, rfl⟩⟩, by simp⟩ (by simp [Value.ownBlock]) (n := n) ?_ (hk3 p hpl h.pm) (fun y hy _ k hk => hk3 k ((h.files y hy).lt k hk) (fun e => (h.pf y hy).2.1 (e ▸ hk))) ?_, ?_, own_put ?_⟩
  · show w3.heap[w.heap.size]? = _
    rw [hg.block _ hWl (fun e => by cases e; omega)]
    exact hq
  · rw [← dat_put]; exact hmap
  · intro k hk
    have := hbl k hk
    subst this
    exact ⟨by omega, by omega, fun y hy _ hky => by have := (h.files y hy).lt _ hky; omega⟩
  · exact (Kept.of_below hb).grown hg (fun k e => by cases e; exact .inl (.inr (.inl rfl)))
  · intro k hk
    right
    have := hbl k hk
    omega
theorem append1_none {w w3 w' : World} {p : Nat} {pow : Int} {xs : List FileR} {mb : Nat} {s L : List UInt8} (hf : findL keyR s xs = none)
    (h3 : FSAt w3 p pow (withL keyR ⟨⟨s, [], 0⟩, w.heap.size, .slice none 0 0⟩ xs) mb) (k3 : Kept (OwnF p mb xs) w w3) (g3 : Grows w (OwnF p mb xs) (OwnF p mb (withL keyR ⟨⟨s, [], 0⟩, w.heap.size, .slice none 0 0⟩ xs))) {v' : Value}
    (hF : FileAt w' ⟨⟨s, L, 0⟩, w.heap.size, v'⟩) (hn : v'.ownBlock ≠ some w.heap.size) (hk : Kept (· ∈ blocksR ⟨⟨s, [], 0⟩, w.heap.size, .slice none 0 0⟩) w3 w') (hg : ∀ g, v'.ownBlock = some g → w3.heap.size ≤ g) : DoPost w p pow xs mb (appF s L (xs.map (·.f))) w' := by
  have hx : (⟨⟨s, [], 0⟩, w.heap.size, .slice none 0 0⟩ : FileR) ∈ withL keyR ⟨⟨s, [], 0⟩, w.heap.size, .slice none 0 0⟩ xs := mem_withL.2 (.inl rfl)
  obtain ⟨h1, h2⟩ := h3.repl (x' := ⟨⟨s, L, 0⟩, w.heap.size, v'⟩) hx rfl rfl hF hn hk (fun g e => .inr (hg g e))
  refine ⟨_, ?_, h1, k3.trans (hk.mono (fun k _ hb => ?_)) g3, Grows.trans g3 h2 k3.size⟩
  · rw [withL_withL (key := keyR) ⟨⟨s, L, 0⟩, w.heap.size, v'⟩ ⟨⟨s, [], 0⟩, w.heap.size, .slice none 0 0⟩ rfl, map_withL (key := keyR) (key' := File.name) FileR.f (fun _ => rfl)]
    unfold appF
    rw [map_findL (key := keyR) (key' := File.name) FileR.f (fun _ => rfl), hf]
    rfl
  · exact .inr (.inr ⟨_, hx, hb⟩)

set_option maxRecDepth 20000 in
set_option maxHeartbeats 1000000 in
theorem append1_any (w : World) (p : Nat) (pow : Int) (xs : List FileR) (mb : Nat) (h : FSAt w p pow xs mb) (bf bn bp : Nat) (s : ByteArray) (hs : s.size ≤ 9223372036854775807) (v : Value) (ls : List (List UInt8))
    (hbf : w.cell? ⟨bf, 0, none⟩ = some (.pointer (some ⟨p, 0, none⟩))) (hbn : w.cell? ⟨bn, 0, none⟩ = some (.string s)) (hbp : w.cell? ⟨bp, 0, none⟩ = some v)
    (hbpF : ¬ OwnF p mb xs bp) (hp : RowsAt (Out w (OwnF p mb xs)) w v ls) (hlen : ∀ x ∈ xs, x.f.data.length + ls.flatten.length ≤ 2147483648) (hlen0 : ls.flatten.length ≤ 2147483648) (hxl : xs.length < 2147483648) :
    Calls Tryz.prog 35 #[.pointer (some ⟨bf, 0, none⟩), .pointer (some ⟨bn, 0, none⟩), .pointer (some ⟨bp, 0, none⟩)] w fun e w' => e = .returned (.tuple #[]) ∧ DoPost w p pow xs mb (appF s.data.toList ls.flatten (xs.map (·.f))) w' := by
  have hc0 : w.cell? ⟨p, 0, none⟩ = some (.map (some mb)) := by simp [World.cell?, h.head]
  have hlook := h.look s hs
  unfold ptrOf at hlook
  obtain ⟨A0, c0, rfl, _⟩ : ∃ A0 c0, v = .slice A0 ls.length c0 ∧ True := by
    obtain ⟨vs, h1, ⟨A, c, h2, _⟩, _⟩ := hp
    exact ⟨A, c, by rw [h2, h1], trivial⟩
  cases hf : findL keyR s.data.toList xs with
  | some x =>
    rw [hf] at hlook
    have HF := Lib.hid hf; clear hf
    have HLEN := Lib.hid hlen; clear hlen
    have HH := Lib.hid h; clear h
    go_enter Tryz.func35, Tryz.ntmps35
    go_wp2_with fail
    go_quiet (fail)
    go_wp2_with fail
    obtain ⟨hx, hkx⟩ := findL_some HF.out
    refine (add_any x _ (((HH.out.drewN _).files x hx)) (HH.out.pf x hx).2.2 _ ls (RowsAt.sub (w := w.drewN _) hp (fun b hb => ⟨hb.1, fun hm => hb.2 (.inr (.inr ⟨x, hx, hm⟩))⟩)) (HLEN.out x hx)).mono ?_
    rintro e w1 ⟨rfl, v', hF, hN, hK, hG⟩
    clear hlook
    go_wp2
    go_end0
    exact ⟨rfl, append1_some HH.out HF.out hF hN ⟨hK.os, hK.tape, hK.output, hK.size, hK.block⟩ hG⟩
  | none =>
    rw [hf] at hlook
    have HF := Lib.hid hf; clear hf
    have HLEN := Lib.hid hlen; clear hlen
    have HH := Lib.hid h; clear h
    go_enter Tryz.func35, Tryz.ntmps35
    go_wp2_with fail
    go_quiet (fail)
    go_wp2_with fail
    have hne0 : bf ≠ w.heap.size := by have := World.block_lt_of_cell? w _ hbf; simp at this; omega
    have hne1 : bn ≠ w.heap.size := by have := World.block_lt_of_cell? w _ hbn; simp at this; omega
    have hne2 : p ≠ w.heap.size := by have := World.block_lt_of_cell? w _ hc0; simp at this; omega
    have hne3 : bp ≠ w.heap.size := by have := World.block_lt_of_cell? w _ hbp; simp at this; omega
    obtain ⟨W, hW⟩ : ∃ W, W = (w.drewN nq).alloc (.cells #[.slice none 0 0, .int .i64 0] 79) := ⟨_, rfl⟩
    have hWc : ∀ b o, b ≠ w.heap.size → W.cell? ⟨b, o, none⟩ = w.cell? ⟨b, o, none⟩ := fun b o hb => by rw [hW]; exact World.cell?_alloc_old _ _ _ hb
    have g0 := (hWc bf 0 hne0).trans hbf
    have g1 := (hWc bn 0 hne1).trans hbn
    have g2 := (hWc p 0 hne2).trans hc0
    have g3 := (hWc bp 0 hne3).trans hbp
    have hWs : W.heap.size = w.heap.size + 1 := by rw [hW]; simp
    rw [← hW]
    have HBP := Lib.hid hbp
    have HBL := Lib.hid (World.block_lt_of_cell? w _ hbp)
    have HW := Lib.hid hW; clear hW hlook hWc hbf hbn hc0 hbp
    have HWs := Lib.hid hWs; clear hWs
    have hbW : Below w.heap.size w W := by rw [HW.out]; exact (below_drewN (Below.refl _ _) nq).alloc (Nat.le_refl _) _
    have hqW : W.heap[w.heap.size]? = some (.cells #[.slice none 0 0, .int .i64 0] 79 (0, 0)) := by rw [HW.out]; exact heap_alloc_new (w.drewN nq) _
    have hmW : W.drew.ownsMap Tryz.prog 9 ptrElem mb xs.length (dat xs) := ownsMap_block HH.out.map (hbW.block mb HH.out.map.lt)
    go_still_tail 6, (by kernel_rfl)
    change wpList _ _ _ _ _ W.drew
    refine wpList_mapUpdate_own _ rfl _ _ _ 72 rfl 9 77 strK Tryz.underlying72 ptrElem mb xs.length (dat xs) rfl hmW (by unfold maxLen; omega) _ _ (.string s.data.toList) rfl rfl (keyStr s hs) (.lit (.int .i64 w.heap.size)) [] rfl ?_
    intro w3 hmap3 hg3
    obtain ⟨h3, k3, gr3⟩ := HH.out.fresh s.data.toList hbW hqW hmap3 ⟨hg3.os, hg3.tape, hg3.output, hg3.size, hg3.block⟩
    have hx : (⟨⟨s.data.toList, [], 0⟩, w.heap.size, .slice none 0 0⟩ : FileR) ∈ withL keyR ⟨⟨s.data.toList, [], 0⟩, w.heap.size, .slice none 0 0⟩ xs := mem_withL.2 (.inl rfl)
    have hp3 := hp.kept k3 gr3
    have g33 : w3.cell? ⟨bp, 0, none⟩ = some (.slice A0 ls.length c0)  := (k3.cell (p := ⟨bp, 0, none⟩) HBL.out hbpF).trans HBP.out
    clear hg3 hmap3 hmW hqW
    go_wp2_with fail
    refine (add_any ⟨⟨s.data.toList, [], 0⟩, w.heap.size, .slice none 0 0⟩ _ (h3.files _ hx) (by simp [Value.ownBlock]) _ ls (hp3.sub (fun b hb => ⟨hb.1, fun hm => hb.2 (.inr (.inr ⟨_, hx, hm⟩))⟩)) (by simpa using hlen0)).mono ?_
    rintro e w4 ⟨rfl, v', hF, hN, hK, hG⟩
    go_wp2
    go_end0
    refine ⟨rfl, append1_none HF.out h3 k3 gr3 (by simpa [FileR.set] using hF) hN hK (fun g e => ?_)⟩
    rcases hG g e with h | h
    · simp [Value.ownBlock] at h
    · exact h
end Go.Proofs.YtpdelgjfamelfaaGreat
/- V7 -/
namespace Go.Proofs.YtpdelgjfamelfaaGreat
open Go.RowKit Go.Lib Go.Vfs Go.Par
set_option linter.unusedVariables false

/- what the calls do, as the document has it. -/
def doSt (st : St) (fs : List File) : St × Int := if st.power = 0 then (st, 13) else (⟨dec st.power, fs⟩, 0)
def stAppend (st : St) (s L : List UInt8) : St × Int := if nameB s then doSt st (appF s L st.files) else (st, 10)

def OpPost (w : World) (p : Nat) (F : Nat → Prop) (r : St × Int) (e : Ending) (w' : World) : Prop :=
  ∃ F', e = .returned (.int .i64 r.2) ∧ Fsy w' p r.1 F' ∧ Kept F w w' ∧ Grows w F F'
theorem OpPost.same {w w' : World} {p : Nat} {st : St} {F : Nat → Prop} {n : Int} (h : Fsy w p st F) (hb : Below w.heap.size w w') : OpPost w p F (st, n) (.returned (.int .i64 n)) w' :=
  ⟨F, rfl, h.keep (fun k hk => hb.block k (h.lt k hk)), Kept.of_below hb, Grows.refl _ _⟩
theorem OpPost.did {w W w1 w' : World} {p : Nat} {st : St} {xs : List FileR} {mb : Nat} {fs : List File} (hne : st.power ≠ 0) (hb : Below w.heap.size w W) (h : FSAt W p st.power xs mb) (hk : Kept (· = p) W w1) (hd : DoPost w1 p (dec st.power) xs mb fs w') :
    OpPost w p (OwnF p mb xs) (doSt st fs) (.returned (.int .i64 0)) w' := by
  obtain ⟨xs', h1, h2, h3, h4⟩ := hd
  unfold doSt
  rw [if_neg hne]
  have hk1 : Kept (OwnF p mb xs) w w1 := (Kept.of_below hb).trans' ⟨hk.os, hk.tape, hk.output, hk.size, fun i hi hn => hk.block i hi (fun e => hn (.inl e))⟩
  exact ⟨_, rfl, ⟨xs', mb, h1.symm, h2, rfl⟩, hk1.trans' h3, fun k hk' => by
    rcases h4 k hk' with h5 | h5
    · exact .inl h5
    · right; have := hk1.size; omega⟩

theorem FSAt.below {w w' : World} {p : Nat} {pow : Int} {xs : List FileR} {mb : Nat} (h : FSAt w p pow xs mb) (hb : Below w.heap.size w w') : FSAt w' p pow xs mb := h.block fun k hk => hb.block k (h.lt k hk)
theorem RowsAt.old {w w' : World} {F : Nat → Prop} {v : Value} {ls : List (List UInt8)} (h : RowsAt (Out w F) w v ls) (hb : Below w.heap.size w w') : RowsAt (Out w' F) w' v ls := h.below hb
/-- bounds on a file system. -/
def Modest (st : St) (n : Nat) : Prop := (∀ f ∈ st.files, f.data.length + n ≤ 2147483648) ∧ n ≤ 2147483648 ∧ st.files.length < 2147483648 ∧ st.power ≤ 9223372036854775807

/- boxes that a call has just laid. -/
theorem box_new (w : World) (v : Value) (t : TypeId) : (w.alloc (.cells #[v] t)).cell? ⟨w.heap.size, 0, none⟩ = some v := by simp
theorem box_old {w : World} {b o : Nat} {v : Value} {ob : Obj} (h : w.cell? ⟨b, o, none⟩ = some v) : (w.alloc ob).cell? ⟨b, o, none⟩ = some v := by
  rw [World.cell?_alloc_lt _ _ _ (World.block_lt_of_cell? w _ h)]; exact h

set_option maxRecDepth 20000 in
set_option maxHeartbeats 1000000 in
theorem append_any (w : World) (p : Nat) (st : St) (F : Nat → Prop) (h : Fsy w p st F) (s : ByteArray) (hs : s.size ≤ 9223372036854775807) (v : Value) (ls : List (List UInt8)) (hp : RowsAt (Out w F) w v ls) (hm : Modest st ls.flatten.length) :
    Calls Tryz.prog 7 #[.pointer (some ⟨p, 0, none⟩), .string s, v] w (OpPost w p F (stAppend st s.data.toList ls.flatten)) := by
  obtain ⟨xs, mb, hfs, hat, rfl⟩ := h
  obtain ⟨A0, c0, rfl, _⟩ : ∃ A0 c0, v = .slice A0 ls.length c0 ∧ True := by
    obtain ⟨vs, h1, ⟨A, c, h2, _⟩, _⟩ := hp
    exact ⟨A, c, by rw [h2, h1], trivial⟩
  have hb : Below w.heap.size w (((w.alloc (.cells #[.pointer (some ⟨p, 0, none⟩)] 24)).alloc (.cells #[.string s] 9)).alloc (.cells #[.slice A0 ls.length c0] 38)) := ((((Below.refl _ w).alloc (Nat.le_refl _) _).alloc (by simp) _).alloc (by simp; omega) _)
  have hat3 := hat.below hb
  have hp3 := hp.below hb
  have hn := fun W => isName_any s W hs
  unfold stAppend
  have HB := Lib.hid hb; clear hb
  have HAT := Lib.hid hat; clear hat
  have HAT3 := Lib.hid hat3; clear hat3
  have HP3 := Lib.hid hp3; clear hp3 hp
  have HM := Lib.hid hm; clear hm
  have HFS := Lib.hid hfs; clear hfs
  cases hnm : nameB s.data.toList with
  | false =>
    rw [hnm] at hn
    simp only [Bool.false_eq_true, if_false]
    go_enter Tryz.func7, Tryz.ntmps7
    go_wp2_with (go_at_call 33; refine (hn _).mono ?_; rintro e w1 ⟨rfl, rfl⟩)
    go_ret
    exact OpPost.same ⟨xs, mb, HFS.out, HAT.out, rfl⟩ HB.out
  | true =>
    rw [hnm] at hn
    simp only [if_true]
    by_cases hz : st.power = 0
    · have hr : doSt st (appF s.data.toList ls.flatten st.files) = (st, 13) := by unfold doSt; rw [if_pos hz]
      rw [hr]
      rw [hz] at HAT3
      have HZ := Lib.hid hz; clear hz hr
      go_enter Tryz.func7, Tryz.ntmps7
      go_wp2_with (go_at_call 33; refine (hn _).mono ?_; rintro e w1 ⟨rfl, rfl⟩)
      refine (change_down _ p xs mb HAT3.out _).mono ?_
      rintro e w1 ⟨rfl, rfl⟩
      go_wp2
      go_ret
      exact OpPost.same ⟨xs, mb, HFS.out, HAT.out, rfl⟩ HB.out
    · have HZ := Lib.hid hz; clear hz
      go_enter Tryz.func7, Tryz.ntmps7
      go_wp2_with (go_at_call 33; refine (hn _).mono ?_; rintro e w1 ⟨rfl, rfl⟩)
      refine (changeAppend1 _ p st.power xs mb HAT3.out HZ.out HM.out.2.2.2 _ (fun w' => OpPost w p (OwnF p mb xs) (doSt st (appF s.data.toList ls.flatten st.files)) (.returned (.int .i64 0)) w') (fun w1 h1 k1 s1 => ?_)).mono ?_
      · have e0 := box_old (ob := .cells #[.slice A0 ls.length c0] 38) (box_old (ob := .cells #[.string s] 9) (box_new w (.pointer (some ⟨p, 0, none⟩)) 24))
        have e1 := box_old (ob := .cells #[.slice A0 ls.length c0] 38) (box_new (w.alloc (.cells #[.pointer (some ⟨p, 0, none⟩)] 24)) (.string s) 9)
        have e2 := box_new ((w.alloc (.cells #[.pointer (some ⟨p, 0, none⟩)] 24)).alloc (.cells #[.string s] 9)) (.slice A0 ls.length c0) 38
        simp only [World.size_alloc] at e1 e2
        have hpl := HAT.out.lt
        have hp0 : p < w.heap.size := lt_of_block HAT.out.head
        have hgr : Grows (((w.alloc (.cells #[.pointer (some ⟨p, 0, none⟩)] 24)).alloc (.cells #[.string s] 9)).alloc (.cells #[.slice A0 ls.length c0] 38)) (OwnF p mb xs) (OwnF p mb xs) := Grows.refl _ _
        refine (append1_any w1 p (dec st.power) xs mb h1 w.heap.size (w.heap.size + 1) (w.heap.size + 1 + 1) s hs _ ls ((k1.cell (p := ⟨_, _, _⟩) (by first | omega | (simp; done) | (simp; omega)) (by first | omega | (simp; done) | (simp; omega))).trans e0) ((k1.cell (p := ⟨_, _, _⟩) (by first | omega | (simp; done) | (simp; omega)) (by first | omega | (simp; done) | (simp; omega))).trans e1) ((k1.cell (p := ⟨_, _, _⟩) (by first | omega | (simp; done) | (simp; omega)) (by first | omega | (simp; done) | (simp; omega))).trans e2) (fun hm => by have := hpl _ hm; omega)
          (HP3.out.kept ⟨k1.os, k1.tape, k1.output, k1.size, fun i hi hn => k1.block i hi (fun e => hn (.inl e))⟩ hgr) (fun x hx => HM.out.1 x.f (by rw [HFS.out]; exact List.mem_map_of_mem hx)) HM.out.2.1 (by have := HM.out.2.2.1; rw [HFS.out] at this; simpa using this)).mono ?_
        rintro e w2 ⟨rfl, hd⟩
        rw [← HFS.out] at hd
        exact ⟨rfl, OpPost.did HZ.out HB.out HAT3.out k1 hd⟩
      · rintro e w1 ⟨rfl, hpost⟩
        have HPO := Lib.hid hpost; clear hpost
        go_wp2
        go_ret
        exact HPO.out
end Go.Proofs.YtpdelgjfamelfaaGreat
/- V8 -/
namespace Go.Proofs.YtpdelgjfamelfaaGreat
open Go.RowKit Go.Lib Go.Vfs Go.Par
set_option linter.unusedVariables false

def stFind (st : St) (s : List UInt8) : Except Int File := if nameB s then (match findL File.name s st.files with | some f => .ok f | none => .error 11) else .error 10
def stSync (st : St) (s : List UInt8) : St × Int := match stFind st s with
  | .error e => (st, e)
  | .ok f => doSt st (withL File.name ⟨f.name, f.data, f.data.length⟩ st.files)
def stRemove (st : St) (s : List UInt8) : St × Int := match stFind st s with
  | .error e => (st, e)
  | .ok f => doSt st (dropL File.name s st.files)
def stTruncate (st : St) (s : List UInt8) (n : Int) : St × Int := match stFind st s with
  | .error e => (st, e)
  | .ok f => if n < 0 ∨ (f.data.length : Int) < n then (st, 12) else doSt st (withL File.name ⟨f.name, f.data.take n.toNat, min f.safe n.toNat⟩ st.files)
def stRename (st : St) (a b : List UInt8) : St × Int := if nameB a && nameB b then (match stFind st a with
  | .error e => (st, e)
  | .ok f => doSt st (withL File.name ⟨b, f.data, f.safe⟩ (dropL File.name a st.files))) else (st, 10)

/-- what find tells of a file system that reads as st. -/
theorem find_st {st : St} {xs : List FileR} (hfs : st.files = xs.map (·.f)) (s : List UInt8) {w w' : World} {e : Ending} (h : FindPost w xs s e w') :
    (∃ n, stFind st s = .error n ∧ n ≠ 0 ∧ e = .returned (.tuple #[.pointer none, .int .i64 n])) ∨ (∃ x, stFind st s = .ok x.f ∧ x ∈ xs ∧ keyR x = s ∧ nameB s = true ∧ findL keyR s xs = some x ∧ e = .returned (.tuple #[.pointer (some ⟨x.q, 0, none⟩), .int .i64 0])) := by
  obtain ⟨_, h⟩ := h
  unfold stFind
  cases hn : nameB s with
  | false =>
    rw [hn] at h
    exact .inl ⟨10, by simp, by decide, h⟩
  | true =>
    rw [hn] at h
    rw [hfs, map_findL (key := keyR) (key' := File.name) FileR.f (fun _ => rfl)]
    cases hf : findL keyR s xs with
    | none => rw [hf] at h; exact .inl ⟨11, by simp, by decide, h⟩
    | some x =>
      rw [hf] at h
      obtain ⟨h1, h2⟩ := findL_some hf
      exact .inr ⟨x, by simp, h1, h2, rfl, rfl, h⟩

/- Sync. -/
theorem sync1_do {w : World} {p : Nat} {pow : Int} {xs : List FileR} {mb : Nat} (h : FSAt w p pow xs mb) {x : FileR} (hx : x ∈ xs) (n : Nat) :
    DoPost w p pow xs mb (withL File.name ⟨x.f.name, x.f.data, x.f.data.length⟩ (xs.map (·.f))) ((w.drewN n).setCell ⟨x.q, 1, none⟩ (.int .i64 x.f.data.length)) := by
  have hf := h.files x hx
  have hpf := h.pf x hx
  have hk : Kept (· ∈ blocksR x) w ((w.drewN n).setCell ⟨x.q, 1, none⟩ (.int .i64 x.f.data.length)) := ((Kept.refl _ w).drewN n).setCell (p := ⟨x.q, 1, none⟩) (.inl (by simp [blocksR])) _
  obtain ⟨h1, h2⟩ := h.repl (x' := ⟨⟨x.f.name, x.f.data, x.f.data.length⟩, x.q, x.v⟩) hx rfl rfl (w' := (w.drewN n).setCell ⟨x.q, 1, none⟩ (.int .i64 x.f.data.length))
    ⟨two_setCell (w := w.drewN n) hf.head, ownsRow_setCell_other (w := w.drewN n) (a := ⟨x.q, 1, none⟩) hf.row hpf.2.2 _, Nat.le_refl _⟩ hpf.2.2 hk (fun g e => .inl e)
  exact ⟨_, by rw [map_withL (key := keyR) (key' := File.name) FileR.f (fun _ => rfl)], h1, hk.mono (fun k _ hb => .inr (.inr ⟨x, hx, hb⟩)), h2⟩

theorem FileAt.form {w : World} {x : FileR} (h : FileAt w x) : ∃ A c, x.v = .slice A x.f.data.length c := by
  have := h.own.form
  rwa [byteCells_length] at this

set_option maxHeartbeats 1000000 in
theorem sync1_any (w : World) (p : Nat) (pow : Int) (xs : List FileR) (mb : Nat) (h : FSAt w p pow xs mb) (x : FileR) (hx : x ∈ xs) (bx : Nat) (hbx : w.cell? ⟨bx, 0, none⟩ = some (.pointer (some ⟨x.q, 0, none⟩))) :
    Calls Tryz.prog 38 #[.pointer (some ⟨bx, 0, none⟩)] w fun e w' => e = .returned (.tuple #[]) ∧ DoPost w p pow xs mb (withL File.name ⟨x.f.name, x.f.data, x.f.data.length⟩ (xs.map (·.f))) w' := by
  obtain ⟨A, c, hv⟩ := (h.files x hx).form
  have hh := (h.files x hx).head
  rw [hv] at hh
  have c0 : w.cell? ⟨x.q, 0, none⟩ = some (.slice A x.f.data.length c) := by simp [World.cell?, hh]
  have c1 : w.cell? ⟨x.q, 1, none⟩ = some (.int .i64 x.f.safe) := by simp [World.cell?, hh]
  have f1 : w.frozen? ⟨x.q, 1, none⟩ = false := by simp [World.frozen?, hh]
  have HD := Lib.hid (fun n => sync1_do h hx n)
  clear hv hh h
  go_enter Tryz.func38, Tryz.ntmps38
  go_wp2_with fail
  go_region
  go_end0
  exact ⟨rfl, HD.out _⟩
end Go.Proofs.YtpdelgjfamelfaaGreat
/- V9 -/
namespace Go.Proofs.YtpdelgjfamelfaaGreat
open Go.RowKit Go.Lib Go.Vfs Go.Par
set_option linter.unusedVariables false

theorem stSync_err {st : St} {s : List UInt8} {n : Int} (h : stFind st s = .error n) : stSync st s = (st, n) := by unfold stSync; rw [h]
theorem stSync_ok {st : St} {s : List UInt8} {f : File} (h : stFind st s = .ok f) : stSync st s = doSt st (withL File.name ⟨f.name, f.data, f.data.length⟩ st.files) := by unfold stSync; rw [h]
theorem stRemove_err {st : St} {s : List UInt8} {n : Int} (h : stFind st s = .error n) : stRemove st s = (st, n) := by unfold stRemove; rw [h]
theorem stRemove_ok {st : St} {s : List UInt8} {f : File} (h : stFind st s = .ok f) : stRemove st s = doSt st (dropL File.name s st.files) := by unfold stRemove; rw [h]

set_option maxRecDepth 20000 in
set_option maxHeartbeats 1000000 in
theorem sync_any (w : World) (p : Nat) (st : St) (F : Nat → Prop) (h : Fsy w p st F) (s : ByteArray) (hs : s.size ≤ 9223372036854775807) (hpw : st.power ≤ 9223372036854775807) :
    Calls Tryz.prog 9 #[.pointer (some ⟨p, 0, none⟩), .string s] w (OpPost w p F (stSync st s.data.toList)) := by
  have h' := h
  obtain ⟨xs, mb, hfs, hat, rfl⟩ := h
  have hp0 : p < w.heap.size := lt_of_block hat.head
  have HAT := Lib.hid hat; clear hat
  have HFS := Lib.hid hfs; clear hfs
  have HS := Lib.hid h'; clear h'
  obtain ⟨r, hr⟩ : ∃ r, r = stSync st s.data.toList := ⟨_, rfl⟩
  rw [← hr]
  have HR := Lib.hid hr; clear hr
  go_enter Tryz.func9, Tryz.ntmps9
  go_wp2_with fail
  refine (find_any s hs w p st.power xs mb HAT.out).mono ?_
  intro e w1 hpost
  obtain rfl := hpost.1
  rcases find_st HFS.out s.data.toList hpost with ⟨n, he, hn0, rfl⟩ | ⟨x, he, hx, hkx, hnm, hff, rfl⟩
  · have HE := Lib.hid (HR.out.trans (stSync_err he))
    have hq : (n != 0) = true := by simpa using hn0
    clear hpost he hn0
    go_wp2
    go_ret
    rw [HE.out]
    exact OpPost.same HS.out ((Below.refl _ _).alloc (Nat.le_refl _) _)
  · have HE := Lib.hid (HR.out.trans (stSync_ok he))
    have hb : Below w.heap.size w (w.alloc (.cells #[.pointer (some ⟨x.q, 0, none⟩)] 77)) := (Below.refl _ _).alloc (Nat.le_refl _) _
    have HB := Lib.hid hb
    have HAT2 := Lib.hid (HAT.out.below hb)
    clear hpost he hb hkx hnm hff
    by_cases hz : st.power = 0
    · have hd : doSt st (withL File.name ⟨x.f.name, x.f.data, x.f.data.length⟩ st.files) = (st, 13) := by unfold doSt; rw [if_pos hz]
      rw [hz] at HAT2
      have HE2 := Lib.hid (HE.out.trans hd)
      clear hz hd HE
      go_wp2_with fail
      refine (change_down _ p xs mb HAT2.out _).mono ?_
      rintro e w1 ⟨rfl, rfl⟩
      go_wp2
      go_ret
      rw [HE2.out]
      exact OpPost.same HS.out HB.out
    · have HZ := Lib.hid hz; clear hz
      go_wp2_with fail
      refine (changeSync1 _ p st.power xs mb HAT2.out HZ.out hpw _ (fun w' => OpPost w p (OwnF p mb xs) r (.returned (.int .i64 0)) w') (fun w1 h1 k1 s1 => ?_)).mono ?_
      · have e0 := box_new w (.pointer (some ⟨x.q, 0, none⟩)) 77
        refine (sync1_any w1 p (dec st.power) xs mb h1 x hx w.heap.size ((k1.cell (p := ⟨_, _, _⟩) (by simp) (by simp; omega)).trans e0)).mono ?_
        rintro e w2 ⟨rfl, hd⟩
        rw [← HFS.out] at hd
        rw [HE.out]
        exact ⟨rfl, OpPost.did HZ.out HB.out HAT2.out k1 hd⟩
      · rintro e w1 ⟨rfl, hpost⟩
        have HPO := Lib.hid hpost; clear hpost
        go_wp2
        go_ret
        exact HPO.out

/- Remove. -/
theorem remove1_do {w W w3 : World} {p : Nat} {pow : Int} {xs : List FileR} {mb n : Nat} (h : FSAt w p pow xs mb) (s : List UInt8) (hW : W.heap = w.heap) (ho : W.os = w.os) (ht : W.tape = w.tape) (hou : W.output = w.output)
    (hmap : w3.ownsMap Tryz.prog 9 ptrElem mb n ((dat xs).del (.string s))) (hg : W.grownBy w3 (some mb)) : DoPost w p pow xs mb (dropL File.name s (xs.map (·.f))) w3 := by
  have hg' : w.grownBy w3 (some mb) := ⟨hg.os.trans ho, hg.tape.trans ht, hg.output.trans hou, by have := hg.size; rw [hW] at this; exact this, fun k hk hne => by have := hg.block k (by rw [hW]; exact hk) hne; rw [hW] at this; exact this⟩
  rw [dat_del] at hmap
  exact ⟨_, by rw [map_dropL (key := keyR) (key' := File.name) FileR.f (fun _ => rfl)], h.drop s hmap hg', (Kept.refl _ w).grown hg' (fun k e => by cases e; exact .inl (.inr (.inl rfl))), own_drop⟩

set_option maxRecDepth 20000 in
set_option maxHeartbeats 1000000 in
theorem remove1_any (w : World) (p : Nat) (pow : Int) (xs : List FileR) (mb : Nat) (h : FSAt w p pow xs mb) (bf bn : Nat) (s : ByteArray) (hs : s.size ≤ 9223372036854775807)
    (hbf : w.cell? ⟨bf, 0, none⟩ = some (.pointer (some ⟨p, 0, none⟩))) (hbn : w.cell? ⟨bn, 0, none⟩ = some (.string s)) :
    Calls Tryz.prog 74 #[.pointer (some ⟨bf, 0, none⟩), .pointer (some ⟨bn, 0, none⟩)] w fun e w' => e = .returned (.tuple #[]) ∧ DoPost w p pow xs mb (dropL File.name s.data.toList (xs.map (·.f))) w' := by
  have hc0 : w.cell? ⟨p, 0, none⟩ = some (.map (some mb)) := by simp [World.cell?, h.head]
  have hmW : w.drew.ownsMap Tryz.prog 9 ptrElem mb xs.length (dat xs) := h.map
  have HH := Lib.hid h; clear h
  go_enter Tryz.func74, Tryz.ntmps74
  go_wp2_with fail
  go_still_tail 5, (by kernel_rfl)
  change wpList _ _ _ _ _ w.drew
  refine wpList_delete_own _ rfl _ _ 72 9 rfl 77 strK Tryz.underlying72 ptrElem mb xs.length (dat xs) rfl hmW _ (.string s.data.toList) rfl (keyStr s hs) ?_
  intro w3 hmap3 ht3
  have HD := Lib.hid (remove1_do HH.out s.data.toList (W := w.drew) rfl rfl rfl rfl hmap3 ht3.grown)
  clear hmap3 ht3 hmW
  go_wp2
  go_end0
  exact ⟨rfl, HD.out⟩

set_option maxRecDepth 20000 in
set_option maxHeartbeats 1000000 in
theorem remove_any (w : World) (p : Nat) (st : St) (F : Nat → Prop) (h : Fsy w p st F) (s : ByteArray) (hs : s.size ≤ 9223372036854775807) (hpw : st.power ≤ 9223372036854775807) :
    Calls Tryz.prog 46 #[.pointer (some ⟨p, 0, none⟩), .string s] w (OpPost w p F (stRemove st s.data.toList)) := by
  have h' := h
  obtain ⟨xs, mb, hfs, hat, rfl⟩ := h
  have hp0 : p < w.heap.size := lt_of_block hat.head
  have HAT := Lib.hid hat; clear hat
  have HFS := Lib.hid hfs; clear hfs
  have HS := Lib.hid h'; clear h'
  obtain ⟨r, hr⟩ : ∃ r, r = stRemove st s.data.toList := ⟨_, rfl⟩
  rw [← hr]
  have HR := Lib.hid hr; clear hr
  have hb : Below w.heap.size w ((w.alloc (.cells #[.pointer (some ⟨p, 0, none⟩)] 24)).alloc (.cells #[.string s] 9)) := (((Below.refl _ w).alloc (Nat.le_refl _) _).alloc (by simp) _)
  have HB := Lib.hid hb
  have HAT2 := Lib.hid (HAT.out.below hb)
  clear hb
  go_enter Tryz.func46, Tryz.ntmps46
  go_wp2_with fail
  refine (find_any s hs _ p st.power xs mb HAT2.out).mono ?_
  intro e w1 hpost
  obtain rfl := hpost.1
  rcases find_st HFS.out s.data.toList hpost with ⟨n, he, hn0, rfl⟩ | ⟨x, he, hx, hkx, hnm, hff, rfl⟩
  · have HE := Lib.hid (HR.out.trans (stRemove_err he))
    have hq : (n != 0) = true := by simpa using hn0
    clear hpost he hn0
    go_wp2
    go_ret
    rw [HE.out]
    exact OpPost.same HS.out HB.out
  · have HE := Lib.hid (HR.out.trans (stRemove_ok he))
    clear hpost he hkx hnm hff
    by_cases hz : st.power = 0
    · have hd : doSt st (dropL File.name s.data.toList st.files) = (st, 13) := by unfold doSt; rw [if_pos hz]
      rw [hz] at HAT2
      have HE2 := Lib.hid (HE.out.trans hd)
      clear hz hd HE
      go_wp2_with fail
      refine (change_down _ p xs mb HAT2.out _).mono ?_
      rintro e w1 ⟨rfl, rfl⟩
      go_wp2
      go_ret
      rw [HE2.out]
      exact OpPost.same HS.out HB.out
    · have HZ := Lib.hid hz; clear hz
      go_wp2_with fail
      refine (changeRemove1 _ p st.power xs mb HAT2.out HZ.out hpw _ (fun w' => OpPost w p (OwnF p mb xs) r (.returned (.int .i64 0)) w') (fun w1 h1 k1 s1 => ?_)).mono ?_
      · have e0 := box_old (ob := .cells #[.string s] 9) (box_new w (.pointer (some ⟨p, 0, none⟩)) 24)
        have e1 := box_new (w.alloc (.cells #[.pointer (some ⟨p, 0, none⟩)] 24)) (.string s) 9
        simp only [World.size_alloc] at e1
        refine (remove1_any w1 p (dec st.power) xs mb h1 w.heap.size (w.heap.size + 1) s hs ((k1.cell (p := ⟨_, _, _⟩) (by first | omega | (simp; done) | (simp; omega)) (by first | omega | (simp; done) | (simp; omega))).trans e0) ((k1.cell (p := ⟨_, _, _⟩) (by first | omega | (simp; done) | (simp; omega)) (by first | omega | (simp; done) | (simp; omega))).trans e1)).mono ?_
        rintro e w2 ⟨rfl, hd⟩
        rw [← HFS.out] at hd
        rw [HE.out]
        exact ⟨rfl, OpPost.did HZ.out HB.out HAT2.out k1 hd⟩
      · rintro e w1 ⟨rfl, hpost⟩
        have HPO := Lib.hid hpost; clear hpost
        go_wp2
        go_ret
        exact HPO.out
end Go.Proofs.YtpdelgjfamelfaaGreat
/- V10 -/
namespace Go.Proofs.YtpdelgjfamelfaaGreat
open Go.RowKit Go.Lib Go.Vfs Go.Par
set_option linter.unusedVariables false

theorem slice_to (A : Option Addr) (n c N : Nat) (w : World) (h : N ≤ c) : (Instr.slice 22 (.slice A n c) none (some (.int .i64 (N : Int))) none).run Tryz.prog w = .ok (.slice A N c) w := by
  have ht' : Tryz.prog.underlying 22 = some (.slice (Tryz.prog.elem 22)) := by simp [Program.elem, Tryz.underlying22]
  have he : Tryz.prog.elem 22 = 5 := by simp [Program.elem, Tryz.underlying22]
  rw [run_slice_h w 22 _ _ _ ht' .i64 _ (by omega) (by omega), he, Tryz.sizeOf5]
  simp only [Result.andThen, sliced]
  cases A <;> simp [Addr.add]
theorem ownsRow_take {w : World} {A : Option Addr} {c : Nat} {l : List UInt8} (h : w.ownsRow 0 5 1 (.slice A l.length c) l.length (byteCells l)) (n : Nat) (hn : n ≤ l.length) : w.ownsRow 0 5 1 (.slice A n c) n (byteCells (l.take n)) := by
  refine ⟨by rw [byteCells_length, List.length_take]; omega, ?_⟩
  rcases h.2 with ⟨h1, h2⟩ | ⟨g, cap, cur, h1, h2, h3, h4, h5, h6, h7⟩
  · obtain ⟨rfl, _, rfl⟩ := Value.slice.inj h1
    have : n = 0 := by omega
    subst this
    exact .inl ⟨rfl, rfl⟩
  · cases h1
    refine .inr ⟨g, c, cur, rfl, h2, h3, by omega, h5, h6, ?_⟩
    have := congrArg (List.take n) h7
    rw [List.take_take] at this
    rw [show min n (l.length * 1) = n * 1 by omega] at this
    rw [this]
    simp [byteCells, List.map_take]
theorem row_cap {w : World} {A : Option Addr} {c n : Nat} {xs : List Value} {b : Nat} (h : w.ownsRow b 5 1 (.slice A n c) n xs) : n ≤ c ∧ c ≤ 9223372036854775807 := by
  rcases h.2 with ⟨h1, h2⟩ | ⟨g, cap, cur, h1, h2, h3, h4, h5, h6, h7⟩
  · cases h1; exact ⟨by omega, by omega⟩
  · cases h1; exact ⟨h4, by simpa [maxLen] using h5⟩

/- Truncate. -/
theorem truncate1_do {w : World} {p : Nat} {pow : Int} {xs : List FileR} {mb : Nat} (h : FSAt w p pow xs mb) {x : FileR} (hx : x ∈ xs) {A : Option Addr} {c : Nat} (hv : x.v = .slice A x.f.data.length c) (n : Nat) (hn : n ≤ x.f.data.length) (w' : World)
    (hw : ∃ a b, w' = (((w.drewN a).setCell ⟨x.q, 0, none⟩ (.slice A n c)).drewN b).setCell ⟨x.q, 1, none⟩ (.int .i64 (min x.f.safe n : Nat))) :
    DoPost w p pow xs mb (withL File.name ⟨x.f.name, x.f.data.take n, min x.f.safe n⟩ (xs.map (·.f))) w' := by
  obtain ⟨a, b, rfl⟩ := hw
  have hf := h.files x hx
  have hpf := h.pf x hx
  have hown : (Value.slice A n c).ownBlock = x.v.ownBlock := by rw [hv]; cases A <;> rfl
  have hk : Kept (· ∈ blocksR x) w ((((w.drewN a).setCell ⟨x.q, 0, none⟩ (.slice A n c)).drewN b).setCell ⟨x.q, 1, none⟩ (.int .i64 (min x.f.safe n : Nat))) :=
    ((((Kept.refl _ w).drewN a).setCell (p := ⟨x.q, 0, none⟩) (.inl (by simp [blocksR])) _).drewN b).setCell (p := ⟨x.q, 1, none⟩) (.inl (by simp [blocksR])) _
  have hrow := hf.row
  rw [hv] at hrow
  have hne : (Value.slice A n c).ownBlock ≠ some x.q := by rw [hown]; exact hpf.2.2
  have hr2 : (((w.drewN a).setCell ⟨x.q, 0, none⟩ (.slice A n c)).drewN b).ownsRow 0 5 1 (.slice A n c) n (byteCells (x.f.data.take n)) :=
    ownsRow_setCell_other (w := w.drewN a) (a := ⟨x.q, 0, none⟩) (ownsRow_take hrow n hn) hne _
  have hh := hf.head
  rw [hv] at hh
  obtain ⟨h1, h2⟩ := h.repl (x' := ⟨⟨x.f.name, x.f.data.take n, min x.f.safe n⟩, x.q, .slice A n c⟩) hx rfl rfl
    (w' := (((w.drewN a).setCell ⟨x.q, 0, none⟩ (.slice A n c)).drewN b).setCell ⟨x.q, 1, none⟩ (.int .i64 (min x.f.safe n : Nat)))
    ⟨two_setCell (w := ((w.drewN a).setCell ⟨x.q, 0, none⟩ (.slice A n c)).drewN b) (two_setCell0 (w := w.drewN a) hh), by
      have := ownsRow_setCell_other (a := ⟨x.q, 1, none⟩) hr2 hne (.int .i64 (min x.f.safe n : Nat))
      simpa [Nat.min_eq_left hn] using this, by simp; omega⟩ hne hk (fun g e => .inl (by rw [← hown]; exact e))
  exact ⟨_, by rw [map_withL (key := keyR) (key' := File.name) FileR.f (fun _ => rfl)], h1, hk.mono (fun k _ hb => .inr (.inr ⟨x, hx, hb⟩)), h2⟩

set_option maxRecDepth 20000 in
set_option maxHeartbeats 1000000 in
theorem truncate1_any (w : World) (p : Nat) (pow : Int) (xs : List FileR) (mb : Nat) (h : FSAt w p pow xs mb) (x : FileR) (hx : x ∈ xs) (n : Nat) (hn : n ≤ x.f.data.length) (bx bn : Nat) (hbx : w.cell? ⟨bx, 0, none⟩ = some (.pointer (some ⟨x.q, 0, none⟩)))
    (hbn : w.cell? ⟨bn, 0, none⟩ = some (.int .i64 n)) (hnx : bx ≠ x.q) (hnn : bn ≠ x.q) :
    Calls Tryz.prog 77 #[.pointer (some ⟨bx, 0, none⟩), .pointer (some ⟨bn, 0, none⟩)] w fun e w' => e = .returned (.tuple #[]) ∧ DoPost w p pow xs mb (withL File.name ⟨x.f.name, x.f.data.take n, min x.f.safe n⟩ (xs.map (·.f))) w' := by
  obtain ⟨A, c, hv⟩ := (h.files x hx).form
  have hh := (h.files x hx).head
  rw [hv] at hh
  have hrow := (h.files x hx).row
  rw [hv] at hrow
  have hcap := row_cap hrow
  have c0 : w.cell? ⟨x.q, 0, none⟩ = some (.slice A x.f.data.length c) := by simp [World.cell?, hh]
  have c1 : w.cell? ⟨x.q, 1, none⟩ = some (.int .i64 x.f.safe) := by simp [World.cell?, hh]
  have f0 : w.frozen? ⟨x.q, 0, none⟩ = false := by simp [World.frozen?, hh]
  have f1 : w.frozen? ⟨x.q, 1, none⟩ = false := by simp [World.frozen?, hh]
  have hsl := fun W => slice_to A x.f.data.length c n W (by omega)
  have hmin : min (x.f.safe : Int) (n : Int) = ((min x.f.safe n : Nat) : Int) := by omega
  have HD := Lib.hid (fun W hW => truncate1_do h hx hv n hn W hW)
  have hnx' : x.q ≠ bx := fun e => hnx e.symm
  have hnn' : x.q ≠ bn := fun e => hnn e.symm
  clear hv hh h hrow
  go_enter Tryz.func77, Tryz.ntmps77
  go_wp2_with fail
  go_region
  go_wp2_with fail
  go_region
  go_end0
  refine ⟨rfl, HD.out _ ⟨1, 1, ?_⟩⟩
  have hif : (if n < x.f.safe then (n : Int) else (x.f.safe : Int)) = ((min x.f.safe n : Nat) : Int) := by split <;> omega
  rw [hif]
  rfl

theorem stTruncate_err {st : St} {s : List UInt8} {n m : Int} (h : stFind st s = .error n) : stTruncate st s m = (st, n) := by unfold stTruncate; rw [h]
theorem stTruncate_range {st : St} {s : List UInt8} {f : File} {m : Int} (h : stFind st s = .ok f) (hm : m < 0 ∨ (f.data.length : Int) < m) : stTruncate st s m = (st, 12) := by unfold stTruncate; rw [h]; simp only []; rw [if_pos hm]
theorem stTruncate_ok {st : St} {s : List UInt8} {f : File} {n : Nat} (h : stFind st s = .ok f) (hm : n ≤ f.data.length) : stTruncate st s n = doSt st (withL File.name ⟨f.name, f.data.take n, min f.safe n⟩ st.files) := by
  unfold stTruncate; rw [h]; simp only []; rw [if_neg (by omega)]; rfl

set_option maxRecDepth 20000 in
set_option maxHeartbeats 1000000 in
theorem truncate_any (w : World) (p : Nat) (st : St) (F : Nat → Prop) (h : Fsy w p st F) (s : ByteArray) (hs : s.size ≤ 9223372036854775807) (hpw : st.power ≤ 9223372036854775807) (m : Int) :
    Calls Tryz.prog 50 #[.pointer (some ⟨p, 0, none⟩), .string s, .int .i64 m] w (OpPost w p F (stTruncate st s.data.toList m)) := by
  have h' := h
  obtain ⟨xs, mb, hfs, hat, rfl⟩ := h
  have hp0 : p < w.heap.size := lt_of_block hat.head
  have HAT := Lib.hid hat; clear hat
  have HFS := Lib.hid hfs; clear hfs
  have HS := Lib.hid h'; clear h'
  obtain ⟨r, hr⟩ : ∃ r, r = stTruncate st s.data.toList m := ⟨_, rfl⟩
  rw [← hr]
  have HR := Lib.hid hr; clear hr
  have hb1 : Below w.heap.size w (w.alloc (.cells #[.int .i64 m] 3)) := (Below.refl _ w).alloc (Nat.le_refl _) _
  have HAT1 := Lib.hid (HAT.out.below hb1)
  go_enter Tryz.func50, Tryz.ntmps50
  go_wp2_with fail
  refine (find_any s hs _ p st.power xs mb HAT1.out).mono ?_
  intro e w1 hpost
  obtain rfl := hpost.1
  rcases find_st HFS.out s.data.toList hpost with ⟨n, he, hn0, rfl⟩ | ⟨x, he, hx, hkx, hnm, hff, rfl⟩
  · have HE := Lib.hid (HR.out.trans (stTruncate_err he))
    have hq : (n != 0) = true := by simpa using hn0
    have HB1 := Lib.hid hb1
    clear hpost he hn0 hb1
    go_wp2
    go_ret
    rw [HE.out]
    exact OpPost.same HS.out (HB1.out.alloc (by simp) _)
  · have hb : Below w.heap.size w ((w.alloc (.cells #[.int .i64 m] 3)).alloc (.cells #[.pointer (some ⟨x.q, 0, none⟩)] 77)) := hb1.alloc (by simp) _
    have HB := Lib.hid hb
    have HAT2 := Lib.hid (HAT.out.below hb)
    obtain ⟨A, c, hv⟩ := (HAT.out.files x hx).form
    have hxq : x.q < w.heap.size := lt_of_block (HAT.out.files x hx).head
    have hh := (HAT2.out.files x hx).head
    rw [hv] at hh
    have c0 : ((w.alloc (.cells #[.int .i64 m] 3)).alloc (.cells #[.pointer (some ⟨x.q, 0, none⟩)] 77)).cell? ⟨x.q, 0, none⟩ = some (.slice A x.f.data.length c) := by simp [World.cell?, hh]
    have hlen : x.f.data.length ≤ 9223372036854775807 := by
      have hrow := (HAT.out.files x hx).row
      rw [hv] at hrow
      have := row_cap hrow
      omega
    have HE := Lib.hid he
    clear hpost he hkx hnm hff hb hb1 hv hh HAT1
    by_cases hneg : m < 0
    · have HE2 := Lib.hid (HR.out.trans (stTruncate_range HE.out (.inl hneg)))
      have hd : decide (m < 0) = true := by simpa using hneg
      go_wp2_with fail
      go_quiet (fail)
      go_wp2
      go_ret
      rw [HE2.out]
      exact OpPost.same HS.out (below_drewN HB.out _)
    · have hd : decide (m < 0) = false := by simpa using hneg
      by_cases hbig : (x.f.data.length : Int) < m
      · have HE2 := Lib.hid (HR.out.trans (stTruncate_range HE.out (.inr hbig)))
        have hd2 : decide ((x.f.data.length : Int) < m) = true := by simpa using hbig
        go_wp2_with fail
        go_quiet (fail)
        go_wp2
        go_ret
        rw [HE2.out]
        exact OpPost.same HS.out (below_drewN HB.out _)
      · obtain ⟨n, rfl⟩ : ∃ n : Nat, m = n := ⟨m.toNat, by omega⟩
        have hn : n ≤ x.f.data.length := by omega
        have hd2 : decide (x.f.data.length < n) = false := by simp; omega
        have HE2 := Lib.hid (HR.out.trans (stTruncate_ok HE.out hn))
        clear hneg hbig
        go_wp2_with fail
        go_quiet (fail)
        have HAT3 := Lib.hid (HAT2.out.drewN nq)
        have HB3 := Lib.hid (below_drewN HB.out nq)
        by_cases hz : st.power = 0
        · have hdd : doSt st (withL File.name ⟨x.f.name, x.f.data.take n, min x.f.safe n⟩ st.files) = (st, 13) := by unfold doSt; rw [if_pos hz]
          rw [hz] at HAT3
          have HE3 := Lib.hid (HE2.out.trans hdd)
          clear hz hdd HE2
          go_wp2_with fail
          refine (change_down _ p xs mb HAT3.out _).mono ?_
          rintro e w1 ⟨rfl, rfl⟩
          go_wp2
          go_ret
          rw [HE3.out]
          exact OpPost.same HS.out HB3.out
        · have HZ := Lib.hid hz; clear hz
          go_wp2_with fail
          refine (changeTruncate1 _ p st.power xs mb HAT3.out HZ.out hpw _ (fun w' => OpPost w p (OwnF p mb xs) r (.returned (.int .i64 0)) w') (fun w1 h1 k1 s1 => ?_)).mono ?_
          · have e0 := box_old (ob := .cells #[.pointer (some ⟨x.q, 0, none⟩)] 77) (box_new w (.int .i64 (n : Int)) 3)
            have e1 := box_new (w.alloc (.cells #[.int .i64 (n : Int)] 3)) (.pointer (some ⟨x.q, 0, none⟩)) 77
            simp only [World.size_alloc] at e1
            refine (truncate1_any w1 p (dec st.power) xs mb h1 x hx n hn (w.heap.size + 1) w.heap.size ((k1.cell (p := ⟨_, _, _⟩) (by first | omega | (simp; done) | (simp; omega)) (by first | omega | (simp; done) | (simp; omega))).trans e1) ((k1.cell (p := ⟨_, _, _⟩) (by first | omega | (simp; done) | (simp; omega)) (by first | omega | (simp; done) | (simp; omega))).trans e0) (by omega) (by omega)).mono ?_
            rintro e w2 ⟨rfl, hd⟩
            rw [← HFS.out] at hd
            rw [HE2.out]
            exact ⟨rfl, OpPost.did HZ.out HB3.out HAT3.out k1 hd⟩
          · rintro e w1 ⟨rfl, hpost⟩
            have HPO := Lib.hid hpost; clear hpost
            go_wp2
            go_ret
            exact HPO.out
end Go.Proofs.YtpdelgjfamelfaaGreat
/- V11 -/
namespace Go.Proofs.YtpdelgjfamelfaaGreat
open Go.RowKit Go.Lib Go.Vfs Go.Par
set_option linter.unusedVariables false

/- Rename. -/
theorem rename1_do {w W w3 W3 w4 : World} {p : Nat} {pow : Int} {xs : List FileR} {mb n m : Nat} (h : FSAt w p pow xs mb) (a b : List UInt8) {x : FileR} (hx : x ∈ xs) (hka : keyR x = a) (hW : W.heap = w.heap) (ho : W.os = w.os) (ht : W.tape = w.tape) (hou : W.output = w.output)
    (hmap : w3.ownsMap Tryz.prog 9 ptrElem mb n ((dat xs).del (.string a))) (hg : W.grownBy w3 (some mb))
    (hW3 : W3.heap = w3.heap) (ho3 : W3.os = w3.os) (ht3 : W3.tape = w3.tape) (hou3 : W3.output = w3.output)
    (hmap4 : w4.ownsMap Tryz.prog 9 ptrElem mb m (((dat xs).del (.string a)).put (.string b) (.lit (.int .i64 x.q)))) (hg4 : W3.grownBy w4 (some mb)) :
    DoPost w p pow xs mb (withL File.name ⟨b, x.f.data, x.f.safe⟩ (dropL File.name a (xs.map (·.f)))) w4 := by
  obtain ⟨xs3, hm3, h3, k3, g3⟩ := remove1_do h a hW ho ht hou hmap hg
  have hg' : w3.grownBy w4 (some mb) := ⟨hg4.os.trans ho3, hg4.tape.trans ht3, hg4.output.trans hou3, by have := hg4.size; rw [hW3] at this; exact this, fun k hk hne => by have := hg4.block k (by rw [hW3]; exact hk) hne; rw [hW3] at this; exact this⟩
  have hgw : w.grownBy w3 (some mb) := ⟨hg.os.trans ho, hg.tape.trans ht, hg.output.trans hou, by have := hg.size; rw [hW] at this; exact this, fun k hk hne => by have := hg.block k (by rw [hW]; exact hk) hne; rw [hW] at this; exact this⟩
  rw [dat_del] at hmap hmap4
  have hD := h.drop a hmap hgw
  have hb4 : ∀ k, k < w3.heap.size → k ≠ mb → w4.heap[k]? = w3.heap[k]? := fun k hk hne => hg'.block k hk (fun e => hne (by cases e; rfl))
  have hb3 : ∀ k, k < w.heap.size → k ≠ mb → w3.heap[k]? = w.heap[k]? := fun k hk hne => hgw.block k hk (fun e => hne (by cases e; rfl))
  have hf := h.files x hx
  have hpf := h.pf x hx
  have hbl : blocksR ⟨⟨b, x.f.data, x.f.safe⟩, x.q, x.v⟩ = blocksR x := rfl
  have hxk : ∀ k ∈ blocksR x, w4.heap[k]? = w.heap[k]? := fun k hk => by
    have h1 := hf.lt k hk
    have h2 : k ≠ mb := fun e => hpf.2.1 (e ▸ hk)
    rw [hb4 k (by have := hgw.size; omega) h2, hb3 k h1 h2]
  have hf4 : FileAt w4 x := hf.block hxk
  have hp := lt_of_block hD.head
  have h4 : FSAt w4 p pow (withL keyR ⟨⟨b, x.f.data, x.f.safe⟩, x.q, x.v⟩ (dropL keyR a xs)) mb := by
    refine hD.put ⟨⟨b, x.f.data, x.f.safe⟩, x.q, x.v⟩ ⟨hf4.head, hf4.row, hf4.safe⟩ hpf.2.2 (n := m) ?_ (hb4 p hp h.pm) (fun y hy _ k hk => hb4 k ((hD.files y hy).lt k hk) (fun e => (hD.pf y hy).2.1 (e ▸ hk))) ?_
    · rw [← dat_put]; exact hmap4
    · intro k hk
      rw [hbl] at hk
      refine ⟨fun e => hpf.1 (e ▸ hk), fun e => hpf.2.1 (e ▸ hk), fun y hy _ hky => ?_⟩
      obtain ⟨hy1, hy2⟩ := mem_dropL.1 hy
      exact h.apart x hx y hy1 (fun e => hy2 (by rw [← e, hka])) k hk hky
  refine ⟨_, ?_, h4, ((Kept.refl _ w).grown hgw (fun k e => by cases e; exact .inl (.inr (.inl rfl)))).grown hg' (fun k e => by cases e; exact .inl (.inr (.inl rfl))), ?_⟩
  · rw [map_withL (key := keyR) (key' := File.name) FileR.f (fun _ => rfl), map_dropL (key := keyR) (key' := File.name) FileR.f (fun _ => rfl)]
  · rintro k (rfl | rfl | ⟨y, hy, hk⟩)
    · exact .inl (.inl rfl)
    · exact .inl (.inr (.inl rfl))
    · rcases mem_withL.1 hy with rfl | ⟨h1, h2⟩
      · exact .inl (.inr (.inr ⟨x, hx, hk⟩))
      · exact .inl (.inr (.inr ⟨y, (mem_dropL.1 h1).1, hk⟩))

set_option maxRecDepth 20000 in
set_option maxHeartbeats 1000000 in
theorem rename1_any (w : World) (p : Nat) (pow : Int) (xs : List FileR) (mb : Nat) (h : FSAt w p pow xs mb) (hxl : xs.length < 2147483648) (bf ba bx bb : Nat) (a b : ByteArray) (ha : a.size ≤ 9223372036854775807) (hb : b.size ≤ 9223372036854775807) (x : FileR) (hx : x ∈ xs) (hka : keyR x = a.data.toList)
    (hbf : w.cell? ⟨bf, 0, none⟩ = some (.pointer (some ⟨p, 0, none⟩))) (hba : w.cell? ⟨ba, 0, none⟩ = some (.string a)) (hbx : w.cell? ⟨bx, 0, none⟩ = some (.pointer (some ⟨x.q, 0, none⟩))) (hbb : w.cell? ⟨bb, 0, none⟩ = some (.string b)) :
    Calls Tryz.prog 93 #[.pointer (some ⟨bf, 0, none⟩), .pointer (some ⟨ba, 0, none⟩), .pointer (some ⟨bx, 0, none⟩), .pointer (some ⟨bb, 0, none⟩)] w fun e w' => e = .returned (.tuple #[]) ∧ DoPost w p pow xs mb (withL File.name ⟨b.data.toList, x.f.data, x.f.safe⟩ (dropL File.name a.data.toList (xs.map (·.f)))) w' := by
  have hc0 : w.cell? ⟨p, 0, none⟩ = some (.map (some mb)) := by simp [World.cell?, h.head]
  have hmW : w.drew.ownsMap Tryz.prog 9 ptrElem mb xs.length (dat xs) := h.map
  have nm : ∀ bb' : Nat, ∀ v, w.cell? ⟨bb', 0, none⟩ = some v → bb' ≠ mb := fun bb' v hv e => by
    obtain ⟨es, clock, hm, _⟩ := h.map
    rw [e] at hv
    simp [World.cell?, hm] at hv
  have m0 := nm _ _ hbf
  have m2 := nm _ _ hbx
  have m3 := nm _ _ hbb
  have mp := nm _ _ hc0
  clear nm
  have HH := Lib.hid h; clear h
  have HKA := Lib.hid hka; clear hka
  go_enter Tryz.func93, Tryz.ntmps93
  go_wp2_with fail
  go_still_tail 5, (by kernel_rfl)
  change wpList _ _ _ _ _ w.drew
  refine wpList_delete_own _ rfl _ _ 72 9 rfl 77 strK Tryz.underlying72 ptrElem mb xs.length (dat xs) rfl hmW _ (.string a.data.toList) rfl (keyStr a ha) ?_
  intro w3 hmap3 ht3
  have hg3 := ht3.grown
  have hcl : ∀ k v, w.cell? ⟨k, 0, none⟩ = some v → k ≠ mb → w3.cell? ⟨k, 0, none⟩ = some v := fun k v hv hne => hg3.cell (a := ⟨k, 0, none⟩) (by exact hv) (fun e => hne (by cases e; rfl))
  have g0 := hcl _ _ hbf m0
  have g2 := hcl _ _ hbx m2
  have g3 := hcl _ _ hbb m3
  have gp := hcl _ _ hc0 mp
  clear hcl ht3 hmW
  have HG3 := Lib.hid hg3; clear hg3
  have hmW3 : w3.drew.ownsMap Tryz.prog 9 ptrElem mb xs.length ((dat xs).del (.string a.data.toList)) := hmap3
  have HM3 := Lib.hid hmap3; clear hmap3
  go_wp2_with fail
  go_still_tail 6, (by kernel_rfl)
  change wpList _ _ _ _ _ w3.drew
  refine wpList_mapUpdate_own _ rfl _ _ _ 72 rfl 9 77 strK Tryz.underlying72 ptrElem mb xs.length _ rfl hmW3 (by unfold maxLen; omega) _ _ (.string b.data.toList) rfl rfl (keyStr b hb) (.lit (.int .i64 x.q)) [] rfl ?_
  intro w4 hmap4 hg4
  have HD := Lib.hid (rename1_do HH.out a.data.toList b.data.toList hx HKA.out (W := w.drew) rfl rfl rfl rfl HM3.out HG3.out (W3 := w3.drew) rfl rfl rfl rfl hmap4 hg4)
  clear hmap4 hg4 hmW3
  go_wp2
  go_end0
  exact ⟨rfl, HD.out⟩

theorem stRename_name {st : St} {a b : List UInt8} (h : nameB a = false ∨ nameB b = false) : stRename st a b = (st, 10) := by
  unfold stRename
  rw [if_neg]
  rcases h with h | h <;> simp [h]
theorem stRename_err {st : St} {a b : List UInt8} (ha : nameB a = true) (hb : nameB b = true) {n : Int} (h : stFind st a = .error n) : stRename st a b = (st, n) := by unfold stRename; rw [ha, hb, h]; rfl
theorem stRename_ok {st : St} {a b : List UInt8} (ha : nameB a = true) (hb : nameB b = true) {f : File} (h : stFind st a = .ok f) : stRename st a b = doSt st (withL File.name ⟨b, f.data, f.safe⟩ (dropL File.name a st.files)) := by unfold stRename; rw [ha, hb, h]; rfl

set_option maxRecDepth 20000 in
set_option maxHeartbeats 2000000 in
theorem rename_any (w : World) (p : Nat) (st : St) (F : Nat → Prop) (h : Fsy w p st F) (a b : ByteArray) (ha : a.size ≤ 9223372036854775807) (hb : b.size ≤ 9223372036854775807) (hpw : st.power ≤ 9223372036854775807) (hfl : st.files.length < 2147483648) :
    Calls Tryz.prog 85 #[.pointer (some ⟨p, 0, none⟩), .string a, .string b] w (OpPost w p F (stRename st a.data.toList b.data.toList)) := by
  have h' := h
  obtain ⟨xs, mb, hfs, hat, rfl⟩ := h
  have hp0 : p < w.heap.size := lt_of_block hat.head
  have hxl : xs.length < 2147483648 := by rw [hfs] at hfl; simpa using hfl
  have HAT := Lib.hid hat; clear hat
  have HFS := Lib.hid hfs; clear hfs
  have HS := Lib.hid h'; clear h'
  obtain ⟨r, hr⟩ : ∃ r, r = stRename st a.data.toList b.data.toList := ⟨_, rfl⟩
  rw [← hr]
  have HR := Lib.hid hr; clear hr
  have hb3 : Below w.heap.size w (((w.alloc (.cells #[.pointer (some ⟨p, 0, none⟩)] 24)).alloc (.cells #[.string a] 9)).alloc (.cells #[.string b] 9)) := ((((Below.refl _ w).alloc (Nat.le_refl _) _).alloc (by simp) _).alloc (by simp; omega) _)
  have HB3 := Lib.hid hb3
  have HAT3 := Lib.hid (HAT.out.below hb3)
  clear hb3 hfl
  have hna := fun W => isName_any a W ha
  have hnb := fun W => isName_any b W hb
  cases hqa : nameB a.data.toList with
  | false =>
    rw [hqa] at hna
    have HE := Lib.hid (HR.out.trans (stRename_name (.inl hqa)))
    clear hnb hqa
    go_enter Tryz.func85, Tryz.ntmps85
    go_wp2_with (go_at_call 33; refine (hna _).mono ?_; rintro e w1 ⟨rfl, rfl⟩)
    go_ret
    rw [HE.out]
    exact OpPost.same HS.out HB3.out
  | true =>
    rw [hqa] at hna
    have HQA := Lib.hid hqa; clear hqa
    cases hqb : nameB b.data.toList with
    | false =>
      rw [hqb] at hnb
      have HE := Lib.hid (HR.out.trans (stRename_name (.inr hqb)))
      clear hqb
      go_enter Tryz.func85, Tryz.ntmps85
      go_wp2_with fail
      refine (hna _).mono ?_
      rintro e w1 ⟨rfl, rfl⟩
      go_wp2_with fail
      refine (hnb _).mono ?_
      rintro e w1 ⟨rfl, rfl⟩
      go_wp2
      go_ret
      rw [HE.out]
      exact OpPost.same HS.out HB3.out
    | true =>
      rw [hqb] at hnb
      have HQB := Lib.hid hqb; clear hqb
      go_enter Tryz.func85, Tryz.ntmps85
      go_wp2_with fail
      refine (hna _).mono ?_
      rintro e w1 ⟨rfl, rfl⟩
      go_wp2_with fail
      refine (hnb _).mono ?_
      rintro e w1 ⟨rfl, rfl⟩
      clear hna hnb
      go_wp2_with fail
      refine (find_any a ha _ p st.power xs mb HAT3.out).mono ?_
      intro e w1 hpost
      obtain rfl := hpost.1
      rcases find_st HFS.out a.data.toList hpost with ⟨n, he, hn0, rfl⟩ | ⟨x, he, hx, hkx, hnm, hff, rfl⟩
      · have HE := Lib.hid (HR.out.trans (stRename_err HQA.out HQB.out he))
        have hq : (n != 0) = true := by simpa using hn0
        clear hpost he hn0
        go_wp2
        go_ret
        rw [HE.out]
        exact OpPost.same HS.out (HB3.out.alloc (by simp; omega) _)
      · have HE := Lib.hid (HR.out.trans (stRename_ok HQA.out HQB.out he))
        have hb4 := HB3.out.alloc (by simp; omega) (.cells #[.pointer (some ⟨x.q, 0, none⟩)] 77)
        have HAT4 := Lib.hid (HAT.out.below hb4)
        have HB4 := Lib.hid hb4
        have HKX := Lib.hid hkx
        clear hpost he hkx hnm hff hb4
        by_cases hz : st.power = 0
        · have hdd : doSt st (withL File.name ⟨b.data.toList, x.f.data, x.f.safe⟩ (dropL File.name a.data.toList st.files)) = (st, 13) := by unfold doSt; rw [if_pos hz]
          rw [hz] at HAT4
          have HE3 := Lib.hid (HE.out.trans hdd)
          clear hz hdd HE
          go_wp2_with fail
          refine (change_down _ p xs mb HAT4.out _).mono ?_
          rintro e w1 ⟨rfl, rfl⟩
          go_wp2
          go_ret
          rw [HE3.out]
          exact OpPost.same HS.out HB4.out
        · have HZ := Lib.hid hz; clear hz
          go_wp2_with fail
          refine (changeRename1 _ p st.power xs mb HAT4.out HZ.out hpw _ (fun w' => OpPost w p (OwnF p mb xs) r (.returned (.int .i64 0)) w') (fun w1 h1 k1 s1 => ?_)).mono ?_
          · have e0 := box_old (ob := .cells #[.pointer (some ⟨x.q, 0, none⟩)] 77) (box_old (ob := .cells #[.string b] 9) (box_old (ob := .cells #[.string a] 9) (box_new w (.pointer (some ⟨p, 0, none⟩)) 24)))
            have e1 := box_old (ob := .cells #[.pointer (some ⟨x.q, 0, none⟩)] 77) (box_old (ob := .cells #[.string b] 9) (box_new (w.alloc (.cells #[.pointer (some ⟨p, 0, none⟩)] 24)) (.string a) 9))
            have e2 := box_old (ob := .cells #[.pointer (some ⟨x.q, 0, none⟩)] 77) (box_new ((w.alloc (.cells #[.pointer (some ⟨p, 0, none⟩)] 24)).alloc (.cells #[.string a] 9)) (.string b) 9)
            have e3 := box_new (((w.alloc (.cells #[.pointer (some ⟨p, 0, none⟩)] 24)).alloc (.cells #[.string a] 9)).alloc (.cells #[.string b] 9)) (.pointer (some ⟨x.q, 0, none⟩)) 77
            simp only [World.size_alloc] at e1 e2 e3
            refine (rename1_any w1 p (dec st.power) xs mb h1 hxl w.heap.size (w.heap.size + 1) (w.heap.size + 1 + 1 + 1) (w.heap.size + 1 + 1) a b ha hb x hx HKX.out
              ((k1.cell (p := ⟨_, _, _⟩) (by first | omega | (simp; done) | (simp; omega)) (by first | omega | (simp; done) | (simp; omega))).trans e0) ((k1.cell (p := ⟨_, _, _⟩) (by first | omega | (simp; done) | (simp; omega)) (by first | omega | (simp; done) | (simp; omega))).trans e1)
              ((k1.cell (p := ⟨_, _, _⟩) (by first | omega | (simp; done) | (simp; omega)) (by first | omega | (simp; done) | (simp; omega))).trans e3) ((k1.cell (p := ⟨_, _, _⟩) (by first | omega | (simp; done) | (simp; omega)) (by first | omega | (simp; done) | (simp; omega))).trans e2)).mono ?_
            rintro e w2 ⟨rfl, hd⟩
            rw [← HFS.out] at hd
            rw [HE.out]
            exact ⟨rfl, OpPost.did HZ.out HB4.out HAT4.out k1 hd⟩
          · rintro e w1 ⟨rfl, hpost⟩
            have HPO := Lib.hid hpost; clear hpost
            go_wp2
            go_ret
            exact HPO.out
end Go.Proofs.YtpdelgjfamelfaaGreat
/- V12 -/
namespace Go.Proofs.YtpdelgjfamelfaaGreat
open Go.RowKit Go.Lib Go.Vfs Go.Par
set_option linter.unusedVariables false

set_option maxRecDepth 20000 in
set_option maxHeartbeats 400000 in
theorem clone_nil (w : World) : Calls Tryz.prog 44 #[.slice none 0 0] w fun e w' => e = .returned (.slice none 0 0) ∧ w = w' := by
  have hnil := fun (W : World) => Lib.run_eql_slice_nil (P := Tryz.prog) W 22 5 none 0 0 0 0 Tryz.underlying22
  go_enter Tryz.func44, Tryz.ntmps44
  go_wp2
  go_ret
  exact ⟨rfl, rfl⟩
set_option maxRecDepth 20000 in
set_option maxHeartbeats 400000 in
theorem clone_some (a : Addr) (n c : Nat) (l : List UInt8) (B : Nat) (w : World) (hsg : Seg w B (.slice (some a) n c) (byteCells l)) (hB : B ≤ w.heap.size) (hl : l.length ≤ 2147483648) :
    Calls Tryz.prog 44 #[.slice (some a) n c] w fun e w' => ∃ u, e = .returned u ∧ Par.Own w' w.heap.size 5 u (byteCells l) ∧ Below w.heap.size w w' := by
  have hown := Par.Own.new w w.heap.size 5 #[] [] rfl (Nat.le_refl _) (by simp)
  have hb0 : Below w.heap.size w (w.alloc (.cells #[] 5)) := (Below.refl _ w).alloc (Nat.le_refl _) _
  have hsg1 := hsg.below (hb0.mono hB)
  clear hsg
  have hnil := fun (W : World) => Lib.run_eql_slice_nil (P := Tryz.prog) W 22 5 (some a) n c 0 0 Tryz.underlying22
  go_enter Tryz.func44, Tryz.ntmps44
  go_wp2_with (at_builtin; refine wpList_app _ rfl _ _ _ rfl w.heap.size 5 _ byteE _ _ rfl hown _ _ _ rfl hsg1 (one_bytes _) ?c1 ?c2 ?_)
  case c1 => rw [byteCells_length]; simp only [List.length_nil]; omega
  case c2 => first | omega | (simp; done) | (simp; omega)
  intro v3 w3 hown4 hg3 hat3
  go_wp2
  go_ret
  exact ⟨_, rfl, by simpa using hown4, below_app hb0 hown hg3 (by simp)⟩
/-- of a row of bytes. -/
theorem clone_any (v : Value) (l : List UInt8) (b : Nat) (w : World) (h : w.ownsRow b 5 1 v l.length (byteCells l)) (hl : l.length ≤ 2147483648) :
    Calls Tryz.prog 44 #[v] w fun e w' => ∃ u, e = .returned u ∧ Par.Own w' w.heap.size 5 u (byteCells l) ∧ Below w.heap.size w w' := by
  have hown : Par.Own w b 5 v (byteCells l) := by unfold Par.Own; rw [byteCells_length]; exact h
  have hseg := hown.seg
  rcases h.2 with ⟨rfl, h0⟩ | ⟨g, cap, cur, rfl, _⟩
  · refine (clone_nil w).mono ?_
    rintro e w' ⟨rfl, rfl⟩
    have : l = [] := List.eq_nil_of_length_eq_zero h0
    subst this
    exact ⟨_, rfl, Par.Own.nil _ _ _, Below.refl _ _⟩
  · exact clone_some _ _ _ l _ w hseg (Nat.le_refl _) hl

/-- what Read answers. -/
def ReadPost (w : World) (r : Except Int File) (e : Ending) (w' : World) : Prop :=
  Below w.heap.size w w' ∧ match r with
    | .error n => e = .returned (.tuple #[.slice none 0 0, .int .i64 n])
    | .ok f => ∃ u, e = .returned (.tuple #[u, .int .i64 0]) ∧ Par.Own w' w.heap.size 5 u (byteCells f.data)

set_option maxRecDepth 20000 in
set_option maxHeartbeats 1000000 in
theorem read_any (w : World) (p : Nat) (st : St) (F : Nat → Prop) (h : Fsy w p st F) (s : ByteArray) (hs : s.size ≤ 9223372036854775807) (hm : ∀ f ∈ st.files, f.data.length ≤ 2147483648) :
    Calls Tryz.prog 47 #[.pointer (some ⟨p, 0, none⟩), .string s] w (ReadPost w (stFind st s.data.toList)) := by
  obtain ⟨xs, mb, hfs, hat, rfl⟩ := h
  have HAT := Lib.hid hat; clear hat
  have HFS := Lib.hid hfs; clear hfs
  have HM := Lib.hid hm; clear hm
  obtain ⟨r, hr⟩ : ∃ r, r = stFind st s.data.toList := ⟨_, rfl⟩
  rw [← hr]
  have HR := Lib.hid hr; clear hr
  go_enter Tryz.func47, Tryz.ntmps47
  go_wp2_with fail
  refine (find_any s hs w p st.power xs mb HAT.out).mono ?_
  intro e w1 hpost
  obtain rfl := hpost.1
  rcases find_st HFS.out s.data.toList hpost with ⟨n, he, hn0, rfl⟩ | ⟨x, he, hx, hkx, hnm, hff, rfl⟩
  · have HE := Lib.hid (HR.out.trans he)
    have hq : (n != 0) = true := by simpa using hn0
    clear hpost he hn0
    go_wp2
    go_ret2
    rw [HE.out]
    exact ⟨Below.refl _ _, rfl⟩
  · have HE := Lib.hid (HR.out.trans he)
    obtain ⟨A, c, hv⟩ := (HAT.out.files x hx).form
    have hh := (HAT.out.files x hx).head
    have hrow := (HAT.out.files x hx).row
    rw [hv] at hh hrow
    have c0 : w.cell? ⟨x.q, 0, none⟩ = some (.slice A x.f.data.length c) := by simp [World.cell?, hh]
    have hxl : x.f.data.length ≤ 2147483648 := HM.out x.f (by rw [HFS.out]; exact List.mem_map_of_mem hx)
    have HRO := Lib.hid hrow
    clear hpost he hkx hnm hff hv hh hrow
    go_wp2_with fail
    refine (clone_any _ x.f.data 0 w HRO.out hxl).mono ?_
    rintro e w2 ⟨u, rfl, hown, hb⟩
    have HO := Lib.hid hown; clear hown
    go_wp2
    go_ret2
    rw [HE.out]
    exact ⟨hb, u, rfl, HO.out⟩
end Go.Proofs.YtpdelgjfamelfaaGreat
