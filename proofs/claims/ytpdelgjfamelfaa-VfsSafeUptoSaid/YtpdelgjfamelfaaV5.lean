/- What a change leaves of a file system: a file replaced, put, dropped. No walk here. -/
import Derived.Test.YtpdelgjfamelfaaV4
namespace Go.Proofs.Ytpdelgjfamelfaa
open Go.RowKit Go.Lib Go.Vfs Go.Par
set_option linter.unusedVariables false

theorem before_asymm {a b : List UInt8} (h : bytesBefore a b = true) : bytesBefore b a = false := by
  cases h' : bytesBefore b a with
  | false => rfl
  | true => have := before_trans h h'; rw [before_irrefl] at this; cases this
/-- in a rising list: put in the place of the one of its name. -/
theorem withL_repl {α : Type} {key : α → List UInt8} {x' : α} : ∀ {l : List α}, Rising key l → (∃ x ∈ l, key x = key x') → withL key x' l = l.map fun y => if key y == key x' then x' else y
  | [], _, h => by obtain ⟨x, hx, _⟩ := h; cases hx
  | y :: r, hr, h => by
    have hp := List.pairwise_cons.1 hr
    by_cases e : key y = key x'
    · have hne : ∀ z ∈ r, (key z == key x') = false := fun z hz => by
        have h1 := hp.1 z hz
        rw [e] at h1
        refine beq_eq_false_iff_ne.2 fun e2 => ?_
        rw [e2, before_irrefl] at h1; cases h1
      have hd : dropL key (key x') (y :: r) = r := by
        unfold dropL
        rw [List.filter_cons]
        simp only [e, beq_self_eq_true, Bool.not_true]
        rw [List.filter_eq_self.2 (fun z hz => by rw [hne z hz]; rfl)]
        rfl
      have hput : putL key x' r = x' :: r := by
        cases r with
        | nil => rfl
        | cons z r =>
          have h1 := hp.1 z (by simp)
          rw [e] at h1
          unfold putL
          rw [if_pos h1]
      unfold withL
      rw [hd, hput, List.map_cons]
      simp only [e, beq_self_eq_true, if_true]
      rw [List.map_congr_left (g := id) (fun z hz => by rw [hne z hz]; rfl), List.map_id]
    · have hx : ∃ x ∈ r, key x = key x' := by
        obtain ⟨x, hx, hk⟩ := h
        rcases List.mem_cons.1 hx with h1 | h1
        · rw [h1] at hk; exact absurd hk e
        · exact ⟨x, h1, hk⟩
      have ih := withL_repl hp.2 hx
      have hb : bytesBefore (key x') (key y) = false := by
        obtain ⟨x, hx, hk⟩ := hx
        have := hp.1 x hx
        rw [hk] at this
        exact before_asymm this
      have he : (key y == key x') = false := beq_eq_false_iff_ne.2 e
      unfold withL at ih ⊢
      have hd : dropL key (key x') (y :: r) = y :: dropL key (key x') r := by
        unfold dropL
        rw [List.filter_cons, he]
        rfl
      rw [hd]
      unfold putL
      rw [hb, if_neg (by simp), ih, List.map_cons, he]
      rfl

theorem ownsMap_len {w : World} {b n : Nat} {xs : List FileR} (h : w.ownsMap Try.prog 9 ptrElem b n (dat xs)) : w.ownsMap Try.prog 9 ptrElem b xs.length (dat xs) := by
  obtain ⟨es, clock, h1, h2, h3, h4⟩ := h
  refine ⟨es, clock, h1, h2, ?_, h4⟩
  unfold dat at h4
  injection h4 with h4
  have := congrArg List.length h4
  rw [length_sorted] at this
  simp at this
  omega

/-- a file of that name in the place of the other one, or more. -/
theorem FSAt.put {w w' : World} {p : Nat} {pow : Int} {xs : List FileR} {mb n : Nat} (h : FSAt w p pow xs mb) (x' : FileR) (hf : FileAt w' x') (hne : x'.v.ownBlock ≠ some x'.q)
    (hmap : w'.ownsMap Try.prog 9 ptrElem mb n (dat (withL keyR x' xs)))
    (hp : w'.heap[p]? = w.heap[p]?) (hk : ∀ y ∈ xs, keyR y ≠ keyR x' → ∀ k ∈ blocksR y, w'.heap[k]? = w.heap[k]?)
    (hd : ∀ k ∈ blocksR x', k ≠ p ∧ k ≠ mb ∧ ∀ y ∈ xs, keyR y ≠ keyR x' → k ∉ blocksR y) : FSAt w' p pow (withL keyR x' xs) mb := by
  refine ⟨hp.trans h.head, ownsMap_len hmap, fun y hy => ?_, h.rising.withL, h.pm, fun y hy => ?_, fun y hy z hz hyz k hky hkz => ?_⟩
  · rcases mem_withL.1 hy with rfl | ⟨h1, h2⟩
    · exact hf
    · exact (h.files y h1).block (hk y h1 h2)
  · rcases mem_withL.1 hy with rfl | ⟨h1, h2⟩
    · exact ⟨fun hm => (hd p hm).1 rfl, fun hm => (hd mb hm).2.1 rfl, hne⟩
    · exact h.pf y h1
  · rcases mem_withL.1 hy with rfl | ⟨h1, h2⟩
    · rcases mem_withL.1 hz with rfl | ⟨h3, h4⟩
      · exact hyz rfl
      · exact (hd k hky).2.2 z h3 h4 hkz
    · rcases mem_withL.1 hz with rfl | ⟨h3, h4⟩
      · exact (hd k hkz).2.2 y h1 h2 hky
      · exact h.apart y h1 z h3 hyz k hky hkz
theorem own_put {p mb : Nat} {xs : List FileR} {x' : FileR} {w : World} (hx : ∀ k ∈ blocksR x', OwnF p mb xs k ∨ w.heap.size ≤ k) : Grows w (OwnF p mb xs) (OwnF p mb (withL keyR x' xs)) := by
  rintro k (rfl | rfl | ⟨y, hy, hk⟩)
  · exact .inl (.inl rfl)
  · exact .inl (.inr (.inl rfl))
  · rcases mem_withL.1 hy with rfl | ⟨h1, h2⟩
    · exact hx k hk
    · exact .inl (.inr (.inr ⟨y, h1, hk⟩))
/-- other bytes for a file. -/
theorem FSAt.repl {w w' : World} {p : Nat} {pow : Int} {xs : List FileR} {mb : Nat} (h : FSAt w p pow xs mb) {x x' : FileR} (hx : x ∈ xs) (hn : keyR x' = keyR x) (hq : x'.q = x.q) (hf : FileAt w' x') (hne : x'.v.ownBlock ≠ some x'.q)
    (hk : Kept (· ∈ blocksR x) w w') (hg : ∀ g, x'.v.ownBlock = some g → x.v.ownBlock = some g ∨ w.heap.size ≤ g) :
    FSAt w' p pow (withL keyR x' xs) mb ∧ Grows w (OwnF p mb xs) (OwnF p mb (withL keyR x' xs)) := by
  have hpl := lt_of_block h.head
  have hbl : ∀ k ∈ blocksR x', k ∈ blocksR x ∨ w.heap.size ≤ k := by
    intro k hk
    unfold blocksR at hk ⊢
    rcases List.mem_cons.1 hk with rfl | hk
    · left; rw [hq]; simp
    · rcases hg k (by simpa using hk) with h1 | h1
      · left; simp [h1]
      · exact .inr h1
  have hdat : dat (withL keyR x' xs) = dat xs := by
    rw [withL_repl h.rising ⟨x, hx, hn.symm⟩]
    unfold dat
    rw [List.map_map]
    congr 1
    apply List.map_congr_left
    intro y hy
    simp only [Function.comp]
    split
    · rename_i e
      have e' : keyR y = keyR x := by rw [← hn]; simpa using e
      have := h.rising.uniq hy hx e'
      subst this
      have e2 : x'.f.name = y.f.name := hn
      rw [hq, e2]
    · rfl
  refine ⟨h.put x' hf hne (n := xs.length) ?_ (hk.block p hpl (h.pf x hx).1) (fun y hy hyn k hky => hk.block k ((h.files y hy).lt k hky) (fun hkx => h.apart y hy x hx (by rw [← hn]; exact hyn) k hky hkx)) ?_, own_put fun k hk => ?_⟩
  · rw [hdat]
    exact ownsMap_block h.map (hk.block mb h.map.lt (h.pf x hx).2.1)
  · intro k hkb
    rcases hbl k hkb with h1 | h1
    · exact ⟨fun e => (h.pf x hx).1 (e ▸ h1), fun e => (h.pf x hx).2.1 (e ▸ h1), fun y hy hyn hky => h.apart y hy x hx (by rw [← hn]; exact hyn) k hky h1⟩
    · have h2 := h.map.lt
      exact ⟨by omega, by omega, fun y hy hyn hky => by have := (h.files y hy).lt k hky; omega⟩
  · rcases hbl k hk with h1 | h1
    · exact .inl (.inr (.inr ⟨x, hx, h1⟩))
    · exact .inr h1
theorem FSAt.drop {w w' : World} {p : Nat} {pow : Int} {xs : List FileR} {mb n : Nat} (h : FSAt w p pow xs mb) (s : List UInt8) (hmap : w'.ownsMap Try.prog 9 ptrElem mb n (dat (dropL keyR s xs))) (hg : w.grownBy w' (some mb)) :
    FSAt w' p pow (dropL keyR s xs) mb := by
  have hb : ∀ k, k < w.heap.size → k ≠ mb → w'.heap[k]? = w.heap[k]? := fun k hk hne => hg.block k hk (fun e => hne (by cases e; rfl))
  refine ⟨(hb p (lt_of_block h.head) h.pm).trans h.head, ownsMap_len hmap, fun y hy => ?_, h.rising.dropL s, h.pm, fun y hy => h.pf y (mem_dropL.1 hy).1, fun y hy z hz => h.apart y (mem_dropL.1 hy).1 z (mem_dropL.1 hz).1⟩
  have hy1 := (mem_dropL.1 hy).1
  exact (h.files y hy1).block (fun k hk => hb k ((h.files y hy1).lt k hk) (fun e => (h.pf y hy1).2.1 (e ▸ hk)))
theorem own_drop {p mb : Nat} {xs : List FileR} {s : List UInt8} {w : World} : Grows w (OwnF p mb xs) (OwnF p mb (dropL keyR s xs)) := by
  rintro k (rfl | rfl | ⟨y, hy, hk⟩)
  · exact .inl (.inl rfl)
  · exact .inl (.inr (.inl rfl))
  · exact .inl (.inr (.inr ⟨y, (mem_dropL.1 hy).1, hk⟩))
theorem Grows.refl (w : World) (F : Nat → Prop) : Grows w F F := fun _ h => .inl h
theorem Grows.trans {w w' : World} {F F' F'' : Nat → Prop} (h : Grows w F F') (h' : Grows w' F' F'') (hs : w.heap.size ≤ w'.heap.size) : Grows w F F'' := fun k hk => by
  rcases h' k hk with h1 | h1
  · exact h k h1
  · right; omega
end Go.Proofs.Ytpdelgjfamelfaa
