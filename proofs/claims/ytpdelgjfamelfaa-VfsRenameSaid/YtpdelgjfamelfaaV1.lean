/- The file system of package vfs as it lies in memory. -/
import Derived.Test.YtpdelgjfamelfaaV0
import Derived.Test.YtpdelgjfamelfaaProg
import Derived.Maps.OwnOps
import Derived.Maps.OwnSet
import Derived.KernelRfl
namespace Go.Proofs.Ytpdelgjfamelfaa
open Go.RowKit Go.Lib Go.Vfs
set_option linter.unusedVariables false

/-- how a pointer in the map of files reads. -/
def ptrElem (v : Value) : Option (DataW Nat × List MemPlace) := match v with
  | .pointer none => some (.nil, [])
  | .pointer (some ⟨b, 0, none⟩) => some (.lit (.int .i64 b), [])
  | _ => none
theorem ptrElem_nil {v : Value} {ps : List MemPlace} (h : ptrElem v = some (.nil, ps)) : v = .pointer none := by
  unfold ptrElem at h
  split at h
  · rfl
  · cases h
  · cases h
theorem ptrElem_at {v : Value} {b : Nat} {ps : List MemPlace} (h : ptrElem v = some (.lit (.int .i64 b), ps)) : v = .pointer (some ⟨b, 0, none⟩) := by
  unfold ptrElem at h
  split at h
  · cases h
  · simp only [Option.some.injEq, Prod.mk.injEq, DataW.lit.injEq, Lit.int.injEq] at h
    have : (_ : Int) = _ := h.1.2
    have h2 := Int.ofNat.inj this
    rw [h2]
  · cases h

/-- a file in memory: what it is, its block, its bytes' slice. -/
structure FileR where
  f : File
  q : Nat
  v : Value
def keyR (x : FileR) : List UInt8 := x.f.name
def blocksR (x : FileR) : List Nat := x.q :: x.v.ownBlock.toList
def dat (xs : List FileR) : DataW Nat := .map (xs.map fun x => (.string x.f.name, .lit (.int .i64 x.q)))

theorem insert_map (x : FileR) : ∀ xs : List FileR, DataW.insert (H := Nat) (.string x.f.name, .lit (.int .i64 x.q)) (xs.map fun x => (.string x.f.name, .lit (.int .i64 x.q))) = (putL keyR x xs).map fun x => (.string x.f.name, .lit (.int .i64 x.q))
  | [] => rfl
  | y :: xs => by
    cases h : bytesBefore (keyR x) (keyR y) with
    | true =>
      have h' : (Lit.string x.f.name).before (Lit.string y.f.name) = true := h
      simp [DataW.insert, putL, h, h']
    | false =>
      have h' : (Lit.string x.f.name).before (Lit.string y.f.name) = false := h
      simp [DataW.insert, putL, h, h', insert_map x xs]
theorem dat_put (x : FileR) (xs : List FileR) : (dat xs).put (.string x.f.name) (.lit (.int .i64 x.q)) = dat (withL keyR x xs) := by
  unfold dat DataW.put withL dropL
  simp only []
  rw [List.filter_map, insert_map]
  congr 3
theorem dat_del (s : List UInt8) (xs : List FileR) : (dat xs).del (.string s) = dat (dropL keyR s xs) := by
  unfold dat DataW.del dropL
  simp only []
  rw [List.filter_map]
  congr 2
theorem dat_at (s : List UInt8) (xs : List FileR) : (dat xs).atKey (.string s) .nil = match findL keyR s xs with | some x => .lit (.int .i64 x.q) | none => .nil := by
  unfold dat DataW.atKey findL
  simp only []
  rw [List.find?_map]
  have : ((fun p : Lit × DataW Nat => p.1.sameKey (.string s)) ∘ fun x : FileR => (Lit.string x.f.name, DataW.lit (.int .i64 x.q))) = fun y => keyR y == s := by
    funext y; rfl
  rw [this]
  cases List.find? (fun y => keyR y == s) xs <;> rfl

/-- a file's block and its bytes. -/
structure FileAt (w : World) (x : FileR) : Prop where
  head : w.heap[x.q]? = some (.cells #[x.v, .int .i64 x.f.safe] 89 (0, 0))
  row : w.ownsRow 0 5 1 x.v x.f.data.length (byteCells x.f.data)
  safe : x.f.safe ≤ x.f.data.length
structure FSAt (w : World) (p : Nat) (pow : Int) (xs : List FileR) (mb : Nat) : Prop where
  head : w.heap[p]? = some (.cells #[.map (some mb), .int .i64 pow] 84 (0, 0))
  map : w.ownsMap Try.prog 9 ptrElem mb xs.length (dat xs)
  files : ∀ x ∈ xs, FileAt w x
  rising : Rising keyR xs
  pm : p ≠ mb
  pf : ∀ x ∈ xs, p ∉ blocksR x ∧ mb ∉ blocksR x ∧ x.v.ownBlock ≠ some x.q
  apart : ∀ x ∈ xs, ∀ y ∈ xs, keyR x ≠ keyR y → ∀ k ∈ blocksR x, k ∉ blocksR y
/-- the blocks of a file system. -/
def OwnF (p mb : Nat) (xs : List FileR) (k : Nat) : Prop := k = p ∨ k = mb ∨ ∃ x ∈ xs, k ∈ blocksR x

/-- a file system as it reads. -/
structure St where
  power : Int
  files : List File
/-- the file system at block p reads as st; its blocks are those of F. -/
def Fsy (w : World) (p : Nat) (st : St) (F : Nat → Prop) : Prop :=
  ∃ xs mb, st.files = xs.map (·.f) ∧ FSAt w p st.power xs mb ∧ F = OwnF p mb xs

theorem FileAt.block {w w' : World} {x : FileR} (h : FileAt w x) (hk : ∀ k ∈ blocksR x, w'.heap[k]? = w.heap[k]?) : FileAt w' x :=
  ⟨(hk _ (by simp [blocksR])).trans h.head, ownsRow_block h.row (fun g hg => hk g (by simp [blocksR, hg])), h.safe⟩
theorem FSAt.block {w w' : World} {p : Nat} {pow : Int} {xs : List FileR} {mb : Nat} (h : FSAt w p pow xs mb) (hk : ∀ k, OwnF p mb xs k → w'.heap[k]? = w.heap[k]?) : FSAt w' p pow xs mb :=
  ⟨(hk _ (.inl rfl)).trans h.head, ownsMap_block h.map (hk _ (.inr (.inl rfl))), fun x hx => (h.files x hx).block (fun k hk' => hk k (.inr (.inr ⟨x, hx, hk'⟩))), h.rising, h.pm, h.pf, h.apart⟩
theorem Fsy.keep {w w' : World} {p : Nat} {st : St} {F : Nat → Prop} (h : Fsy w p st F) (hk : ∀ k, F k → w'.heap[k]? = w.heap[k]?) : Fsy w' p st F := by
  obtain ⟨xs, mb, h1, h2, rfl⟩ := h
  exact ⟨xs, mb, h1, h2.block hk, rfl⟩
theorem FileAt.lt {w : World} {x : FileR} (h : FileAt w x) : ∀ k ∈ blocksR x, k < w.heap.size := by
  intro k hk
  unfold blocksR at hk
  rcases List.mem_cons.1 hk with rfl | hk
  · exact lt_of_block h.head
  · exact (World.ownsRow.lt h.row k (by simpa using hk)).2
theorem FSAt.lt {w : World} {p : Nat} {pow : Int} {xs : List FileR} {mb : Nat} (h : FSAt w p pow xs mb) : ∀ k, OwnF p mb xs k → k < w.heap.size := by
  rintro k (rfl | rfl | ⟨x, hx, hk⟩)
  · exact lt_of_block h.head
  · exact h.map.lt
  · exact (h.files x hx).lt k hk
theorem Fsy.lt {w : World} {p : Nat} {st : St} {F : Nat → Prop} (h : Fsy w p st F) : ∀ k, F k → k < w.heap.size := by
  obtain ⟨xs, mb, h1, h2, rfl⟩ := h
  exact h2.lt
end Go.Proofs.Ytpdelgjfamelfaa
