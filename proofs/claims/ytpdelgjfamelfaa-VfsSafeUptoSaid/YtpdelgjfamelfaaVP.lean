import Derived.Test.YtpdelgjfamelfaaV17
namespace Go.Proofs.Ytpdelgjfamelfaa
open Go.RowKit Go.Lib Go.Vfs Go.Par
set_option linter.unusedVariables false

theorem findL_cons {α : Type} {key : α → List UInt8} (s : List UInt8) (y : α) (l : List α) : findL key s (y :: l) = if key y = s then some y else findL key s l := by
  unfold findL
  rw [List.find?_cons]
  by_cases h : key y = s
  · simp [h]
  · have : (key y == s) = false := beq_eq_false_iff_ne.2 h
    rw [this, if_neg h]
theorem findL_putL_ne {α : Type} {key : α → List UInt8} {s : List UInt8} {x : α} (h : key x ≠ s) : ∀ l : List α, findL key s (putL key x l) = findL key s l
  | [] => by simp [putL, findL, h]
  | y :: r => by
    unfold putL
    split
    · rw [findL_cons, if_neg h]
    · rw [findL_cons, findL_cons, findL_putL_ne h r]
theorem findL_putL_self {α : Type} {key : α → List UInt8} {x : α} : ∀ l : List α, (∀ y ∈ l, key y ≠ key x) → findL key (key x) (putL key x l) = some x
  | [], _ => by simp [putL, findL]
  | y :: r, h => by
    unfold putL
    split
    · rw [findL_cons, if_pos rfl]
    · rw [findL_cons, if_neg (h y (by simp)), findL_putL_self r (fun z hz => h z (by simp [hz]))]
theorem findL_dropL_ne {α : Type} {key : α → List UInt8} {s t : List UInt8} (h : s ≠ t) : ∀ l : List α, findL key s (dropL key t l) = findL key s l
  | [] => rfl
  | y :: r => by
    have ih := findL_dropL_ne h r (key := key)
    unfold dropL at ih ⊢
    rw [List.filter_cons]
    by_cases hy : key y = t
    · have : (!(key y == t)) = false := by simp [hy]
      rw [this, findL_cons, if_neg (show ¬ key y = s from fun e => h (e.symm.trans hy))]
      simpa using ih
    · have : (!(key y == t)) = true := by simp [hy]
      rw [this, if_pos rfl, findL_cons, findL_cons, ih]
theorem findL_dropL_self {α : Type} {key : α → List UInt8} (s : List UInt8) (l : List α) : findL key s (dropL key s l) = none := by
  unfold findL dropL
  rw [List.find?_eq_none]
  intro x hx
  simpa using (List.mem_filter.1 hx).2
theorem findL_withL_self {α : Type} {key : α → List UInt8} (x : α) (l : List α) : findL key (key x) (withL key x l) = some x :=
  findL_putL_self _ fun y hy => (mem_dropL.1 hy).2
theorem findL_withL_ne {α : Type} {key : α → List UInt8} {x : α} {s : List UInt8} (h : key x ≠ s) (l : List α) : findL key s (withL key x l) = findL key s l := by
  unfold withL
  rw [findL_putL_ne h, findL_dropL_ne (fun e => h e.symm)]

theorem stFind_of {st : St} {s : List UInt8} {f : File} (hn : nameB s = true) (h : findL File.name s st.files = some f) : stFind st s = .ok f := by unfold stFind; rw [hn, h]; rfl
theorem stFind_none {st : St} {s : List UInt8} (hn : nameB s = true) (h : findL File.name s st.files = none) : stFind st s = .error 11 := by unfold stFind; rw [hn, h]; rfl
theorem stAppend_no {st : St} {s L : List UInt8} (h : nameB s = false) : stAppend st s L = (st, 10) := by unfold stAppend; rw [h]; rfl
theorem stAppend_yes {st : St} {s L : List UInt8} (h : nameB s = true) (hp : st.power = -1) : stAppend st s L = (⟨-1, appF s L st.files⟩, 0) := by
  unfold stAppend doSt; rw [h, hp]; rfl
theorem name_len {s : List UInt8} (h : nameB s = true) : s.length ≤ 32 := by
  unfold nameB at h
  simp at h
  exact h.1.2
theorem Held.rename {B : Nat} {w0 w : World} {p : Nat} {st : St} {F : Nat → Prop} (h : Held B w0 w p st F) (hB : B ≤ w0.heap.size) {a b : ByteArray} (ha : a.size ≤ 9223372036854775807) (hb : b.size ≤ 9223372036854775807) (hpw : st.power ≤ 9223372036854775807) (hfl : st.files.length < 2147483648) :
    Calls Try.prog 21 #[.pointer (some ⟨p, 0, none⟩), .string a, .string b] w fun e w' => ∃ F', e = .returned (.int .i64 (stRename st a.data.toList b.data.toList).2) ∧ Held B w0 w' p (stRename st a.data.toList b.data.toList).1 F' ∧ Kept F w w' ∧ Grows w F F' := by
  refine (rename_any w p st F h.fs a b ha hb hpw hfl).mono ?_
  rintro e w' ⟨F', h1, h2, h3, h4⟩
  exact ⟨F', h1, h.op hB h2 h3 h4, h3, h4⟩

/- the two files of VfsRename. -/
def st2 (a c x y : List UInt8) : St := ⟨-1, appF c y [⟨a, x, 0⟩]⟩
theorem st2_a {a c x y : List UInt8} (ha : nameB a = true) : ∃ f, stFind (st2 a c x y) a = .ok f ∧ f.data.length ≤ x.length + y.length := by
  by_cases h : c = a
  · subst h
    refine ⟨⟨c, x ++ y, 0⟩, stFind_of ha ?_, by simp⟩
    have e : findL File.name c [⟨c, x, 0⟩] = some ⟨c, x, 0⟩ := by rw [findL_cons, if_pos rfl]
    unfold st2 appF
    rw [e]
    exact findL_withL_self (key := File.name) ⟨c, x ++ y, 0⟩ _
  · refine ⟨⟨a, x, 0⟩, stFind_of ha ?_, by simp⟩
    have e : findL File.name c [⟨a, x, 0⟩] = none := by rw [findL_cons, if_neg (fun e => h e.symm)]; rfl
    unfold st2 appF
    rw [e]
    refine (findL_withL_ne (key := File.name) (x := ⟨c, y, 0⟩) h _).trans ?_
    rw [findL_cons, if_pos rfl]
theorem st2_c {a c x y : List UInt8} (h : c ≠ a) : findL File.name c (st2 a c x y).files = some ⟨c, y, 0⟩ := by
  have e : findL File.name c [⟨a, x, 0⟩] = none := by rw [findL_cons, if_neg (fun e => h e.symm)]; rfl
  unfold st2 appF
  rw [e]
  exact findL_withL_self (key := File.name) ⟨c, y, 0⟩ _
theorem length_putL' {α : Type} {key : α → List UInt8} (x : α) : ∀ l : List α, (putL key x l).length = l.length + 1
  | [] => rfl
  | y :: r => by unfold putL; split <;> simp [length_putL' x r]
theorem length_withL' {α : Type} {key : α → List UInt8} (x : α) (l : List α) : (withL key x l).length ≤ l.length + 1 := by
  unfold withL
  rw [length_putL']
  have : (dropL key (key x) l).length ≤ l.length := List.length_filter_le _ _
  omega
theorem st2_len (a c x y : List UInt8) : (st2 a c x y).files.length ≤ 2 := length_withL' _ _
theorem st2_data (a c x y : List UInt8) : ∀ f ∈ (st2 a c x y).files, f.data.length ≤ x.length + y.length := by
  intro f hf
  unfold st2 appF at hf
  rcases mem_withL.1 hf with h | ⟨h, _⟩
  · subst h
    rw [findL_cons]
    by_cases e : a = c
    · simp [e]
    · simp [e, findL]
  · simp at h
    subst h
    simp
def st3 (st : St) (a b : List UInt8) (f : File) : St := ⟨-1, withL File.name ⟨b, f.data, f.safe⟩ (dropL File.name a st.files)⟩
theorem st3_data {st : St} {a b : List UInt8} {f : File} {n : Nat} (h : ∀ g ∈ st.files, g.data.length ≤ n) (hf : f.data.length ≤ n) : ∀ g ∈ (st3 st a b f).files, g.data.length ≤ n := by
  intro g hg
  rcases mem_withL.1 hg with e | ⟨e, _⟩
  · subst e; exact hf
  · exact h g (mem_dropL.1 e).1
theorem st3_b {st : St} {a b : List UInt8} {f : File} (hb : nameB b = true) : stFind (st3 st a b f) b = .ok ⟨b, f.data, f.safe⟩ := stFind_of hb (findL_withL_self (key := File.name) ⟨b, f.data, f.safe⟩ _)
theorem st3_a {st : St} {a b : List UInt8} {f : File} (ha : nameB a = true) (h : a ≠ b) : stFind (st3 st a b f) a = .error 11 := stFind_none ha (by
  refine (findL_withL_ne (key := File.name) (x := ⟨b, f.data, f.safe⟩) (fun e => h e.symm) _).trans ?_
  exact findL_dropL_self _ _)
theorem st3_c {st : St} {a b c : List UInt8} {f g : File} (hc : nameB c = true) (h : c ≠ a) (h' : c ≠ b) (hg : findL File.name c st.files = some g) : stFind (st3 st a b f) c = .ok g := stFind_of hc (by
  refine (findL_withL_ne (key := File.name) (x := ⟨b, f.data, f.safe⟩) (fun e => h' e.symm) _).trans ?_
  rw [findL_dropL_ne h]
  exact hg)
end Go.Proofs.Ytpdelgjfamelfaa
