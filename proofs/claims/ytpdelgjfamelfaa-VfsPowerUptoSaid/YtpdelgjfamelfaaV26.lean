/- Plain: what a call does to the files, whatever the power; bounds; two file systems side by side. -/
import Derived.Test.YtpdelgjfamelfaaV25
namespace Go.Proofs.Ytpdelgjfamelfaa
open Go.RowKit Go.Lib Go.Vfs Go.Par
set_option linter.unusedVariables false
set_option linter.unusedSimpArgs false

/-- what a call answers where the power lasts: an error, or the files behind it. -/
def actF (fs : List File) (o : OpR) : Except Int (List File) :=
  if o.what = 1 then (if nameB o.name.data.toList then .ok (appF o.name.data.toList o.parts.flatten fs) else .error 10)
  else if o.what = 2 then (match stFind ⟨0, fs⟩ o.name.data.toList with | .error e => .error e | .ok f => if o.n < 0 ∨ (f.data.length : Int) < o.n then .error 12 else .ok (withL File.name ⟨f.name, f.data.take o.n.toNat, min f.safe o.n.toNat⟩ fs))
  else if o.what = 3 then (if nameB o.name.data.toList && nameB o.other.data.toList then (match stFind ⟨0, fs⟩ o.name.data.toList with | .error e => .error e | .ok f => .ok (withL File.name ⟨o.other.data.toList, f.data, f.safe⟩ (dropL File.name o.name.data.toList fs))) else .error 10)
  else if o.what = 4 then (match stFind ⟨0, fs⟩ o.name.data.toList with | .error e => .error e | .ok f => .ok (dropL File.name o.name.data.toList fs))
  else (match stFind ⟨0, fs⟩ o.name.data.toList with | .error e => .error e | .ok f => .ok (withL File.name ⟨f.name, f.data, f.data.length⟩ fs))

theorem find_pow (p q : Int) (fs : List File) (s : List UInt8) : stFind ⟨p, fs⟩ s = stFind ⟨q, fs⟩ s := rfl
theorem find_err {st : St} {s : List UInt8} {e : Int} (h : stFind st s = .error e) : e ≠ 0 := by
  unfold stFind at h
  split at h
  · split at h
    · cases h
    · cases h; decide
  · cases h; decide
theorem find_ok {st : St} {s : List UInt8} {f : File} (h : stFind st s = .ok f) : f ∈ st.files ∧ f.name = s ∧ nameB s = true := by
  unfold stFind at h
  split at h
  · rename_i hn
    split at h
    · rename_i g hg
      cases h
      have := findL_some hg
      exact ⟨this.1, this.2, hn⟩
    · cases h
  · cases h

/-- a call of the five. -/
def Call (o : OpR) : Prop := 1 ≤ o.what ∧ o.what ≤ 5
theorem actSt_err {fs : List File} {o : OpR} (hc : Call o) {e : Int} (h : actF fs o = .error e) (p : Int) : actSt ⟨p, fs⟩ o = (⟨p, fs⟩, e) ∧ e ≠ 0 := by
  obtain ⟨c1, c2⟩ := hc
  unfold actF at h
  unfold actSt
  by_cases h1 : o.what = 1
  · rw [if_pos h1] at h ⊢
    unfold stAppend
    split at h
    · cases h
    · rename_i hn; cases h; rw [if_neg hn]; exact ⟨rfl, by decide⟩
  rw [if_neg h1] at h ⊢
  by_cases h2 : o.what = 2
  · rw [if_pos h2] at h ⊢
    unfold stTruncate
    rw [find_pow p 0]
    split at h
    · rename_i hf; cases h; exact ⟨by rw [hf], find_err hf⟩
    · rename_i hf
      split at h
      · rename_i hr; cases h; rw [hf]; simp only []; rw [if_pos hr]; exact ⟨rfl, by decide⟩
      · cases h
  rw [if_neg h2] at h ⊢
  by_cases h3 : o.what = 3
  · rw [if_pos h3] at h ⊢
    unfold stRename
    rw [find_pow p 0]
    split at h
    · rename_i hn
      rw [if_pos hn]
      split at h
      · rename_i hf; cases h; exact ⟨by rw [hf], find_err hf⟩
      · cases h
    · rename_i hn; cases h; rw [if_neg hn]; exact ⟨rfl, by decide⟩
  rw [if_neg h3] at h ⊢
  by_cases h4 : o.what = 4
  · rw [if_pos h4] at h ⊢
    unfold stRemove
    rw [find_pow p 0]
    split at h
    · rename_i hf; cases h; exact ⟨by rw [hf], find_err hf⟩
    · cases h
  rw [if_neg h4] at h ⊢
  rw [if_pos (by omega)]
  unfold stSync
  rw [find_pow p 0]
  split at h
  · rename_i hf; cases h; exact ⟨by rw [hf], find_err hf⟩
  · cases h
theorem actSt_ok {fs fs' : List File} {o : OpR} (hc : Call o) (h : actF fs o = .ok fs') (p : Int) : actSt ⟨p, fs⟩ o = doSt ⟨p, fs⟩ fs' := by
  obtain ⟨c1, c2⟩ := hc
  unfold actF at h
  unfold actSt
  by_cases h1 : o.what = 1
  · rw [if_pos h1] at h ⊢
    unfold stAppend
    split at h
    · rename_i hn; cases h; rw [if_pos hn]
    · cases h
  rw [if_neg h1] at h ⊢
  by_cases h2 : o.what = 2
  · rw [if_pos h2] at h ⊢
    unfold stTruncate
    rw [find_pow p 0]
    split at h
    · cases h
    · rename_i hf
      split at h
      · cases h
      · rename_i hr; cases h; rw [hf]; simp only []; rw [if_neg hr]
  rw [if_neg h2] at h ⊢
  by_cases h3 : o.what = 3
  · rw [if_pos h3] at h ⊢
    unfold stRename
    rw [find_pow p 0]
    split at h
    · rename_i hn
      rw [if_pos hn]
      split at h
      · cases h
      · rename_i hf; cases h; rw [hf]
    · cases h
  rw [if_neg h3] at h ⊢
  by_cases h4 : o.what = 4
  · rw [if_pos h4] at h ⊢
    unfold stRemove
    rw [find_pow p 0]
    split at h
    · cases h
    · rename_i hf; cases h; rw [hf]
  rw [if_neg h4] at h ⊢
  rw [if_pos (by omega)]
  unfold stSync
  rw [find_pow p 0]
  split at h
  · cases h
  · rename_i hf; cases h; rw [hf]
theorem actSt_no {st : St} {o : OpR} (h : ¬ Call o) : actSt st o = (st, 0) := by
  unfold Call at h
  unfold actSt
  rw [if_neg (by omega), if_neg (by omega), if_neg (by omega), if_neg (by omega), if_neg (by omega)]

/-- few files, of short names, of few bytes. -/
structure Calm (fs : List File) (k d : Nat) : Prop where
  files : fs.length ≤ k
  names : ∀ f ∈ fs, nameB f.name = true
  data : ∀ f ∈ fs, f.data.length ≤ d
  safe : ∀ f ∈ fs, f.safe ≤ f.data.length
theorem Calm.nil : Calm [] 0 0 := ⟨by simp, by simp, by simp, by simp⟩
theorem Calm.mono {fs : List File} {k d k' d' : Nat} (h : Calm fs k d) (hk : k ≤ k') (hd : d ≤ d') : Calm fs k' d' := ⟨Nat.le_trans h.files hk, h.names, fun f hf => Nat.le_trans (h.data f hf) hd, h.safe⟩
theorem Calm.withL {fs : List File} {k d : Nat} (h : Calm fs k d) {f : File} (hn : nameB f.name = true) (hd : f.data.length ≤ d) (hs : f.safe ≤ f.data.length) : Calm (withL File.name f fs) (k + 1) d := by
  refine ⟨?_, fun g hg => ?_, fun g hg => ?_, fun g hg => ?_⟩
  · have := length_withL' (key := File.name) f fs; have := h.files; omega
  · rcases mem_withL.1 hg with rfl | ⟨hg, -⟩; exact hn; exact h.names g hg
  · rcases mem_withL.1 hg with rfl | ⟨hg, -⟩; exact hd; exact h.data g hg
  · rcases mem_withL.1 hg with rfl | ⟨hg, -⟩; exact hs; exact h.safe g hg
theorem Calm.dropL {fs : List File} {k d : Nat} (h : Calm fs k d) (s : List UInt8) : Calm (dropL File.name s fs) k d :=
  ⟨Nat.le_trans (List.length_filter_le _ _) h.files, fun g hg => h.names g (mem_dropL.1 hg).1, fun g hg => h.data g (mem_dropL.1 hg).1, fun g hg => h.safe g (mem_dropL.1 hg).1⟩
theorem Calm.app {fs : List File} {k d : Nat} (h : Calm fs k d) {s L : List UInt8} (hn : nameB s = true) : Calm (appF s L fs) (k + 1) (d + L.length) := by
  unfold appF
  refine (h.mono (Nat.le_refl _) (Nat.le_add_right d L.length)).withL ?_ ?_ ?_
  · split <;> exact hn
  · split
    · rename_i f hf; have := h.data f (findL_some hf).1; simp; omega
    · simp
  · split
    · rename_i f hf; have := h.safe f (findL_some hf).1; simp; omega
    · simp
theorem Calm.actF {fs fs' : List File} {k d : Nat} (h : Calm fs k d) {o : OpR} (ho : actF fs o = .ok fs') : Calm fs' (k + 1) (d + o.parts.flatten.length) := by
  have hle : d ≤ d + o.parts.flatten.length := Nat.le_add_right _ _
  have hm := h.mono (Nat.le_refl _) hle
  unfold Ytpdelgjfamelfaa.actF at ho
  split at ho
  · split at ho
    · rename_i hn; cases ho; exact h.app hn
    · cases ho
  split at ho
  · split at ho
    · cases ho
    · rename_i f hf
      obtain ⟨f1, f2, f3⟩ := find_ok hf
      split at ho
      · cases ho
      · cases ho
        have := hm.data f f1
        have := hm.safe f f1
        exact hm.withL (hm.names f f1) (by simp only [List.length_take]; omega) (by simp only [List.length_take]; omega)
  split at ho
  · split at ho
    · rename_i hn
      split at ho
      · cases ho
      · rename_i f hf
        obtain ⟨f1, f2, f3⟩ := find_ok hf
        cases ho
        simp at hn
        exact (hm.dropL _).withL hn.2 (hm.data f f1) (hm.safe f f1)
    · cases ho
  split at ho
  · split at ho
    · cases ho
    · cases ho; exact (hm.dropL _).mono (by omega) (Nat.le_refl _)
  split at ho
  · cases ho
  · rename_i f hf
    obtain ⟨f1, f2, f3⟩ := find_ok hf
    cases ho
    exact hm.withL (hm.names f f1) (hm.data f f1) (Nat.le_refl _)
theorem Calm.act {st : St} {k d : Nat} (h : Calm st.files k d) (o : OpR) : Calm (actSt st o).1.files (k + 1) (d + o.parts.flatten.length) := by
  by_cases hc : Call o
  · cases hf : Ytpdelgjfamelfaa.actF st.files o with
    | error e => rw [(actSt_err (fs := st.files) hc hf st.power).1]; exact h.mono (by omega) (by omega)
    | ok fs' =>
      rw [actSt_ok (fs := st.files) hc hf st.power]
      unfold doSt
      split
      · exact h.mono (by omega) (by omega)
      · exact h.actF hf
  · rw [actSt_no hc]; exact h.mono (by omega) (by omega)
theorem power_act (st : St) (o : OpR) : (actSt st o).1.power = st.power ∨ (actSt st o).1.power = dec st.power := by
  by_cases hc : Call o
  · cases hf : actF st.files o with
    | error e => left; rw [(actSt_err (fs := st.files) hc hf st.power).1]
    | ok fs' =>
      rw [actSt_ok (fs := st.files) hc hf st.power]
      unfold doSt
      split
      · exact .inl rfl
      · exact .inr rfl
  · left; rw [actSt_no hc]
theorem power_le (st : St) (o : OpR) (h : st.power ≤ 9223372036854775807) : (actSt st o).1.power ≤ 9223372036854775807 := by
  rcases power_act st o with e | e <;> rw [e]
  · exact h
  · unfold dec; split <;> omega
theorem Calm.modest {st : St} {k d n : Nat} (h : Calm st.files k d) (hp : st.power ≤ 9223372036854775807) (hk : k < 2147483648) (hd : d + n ≤ 2147483648) : Modest st n :=
  ⟨fun f hf => by have := h.data f hf; omega, by omega, by have := h.files; omega, hp⟩

/-- two file systems side by side, new since B. -/
structure Two (B : Nat) (w0 w : World) (p : Nat) (st : St) (F : Nat → Prop) (q : Nat) (st' : St) (G : Nat → Prop) : Prop where
  one : Held B w0 w p st F
  two : Fsy w q st' G
  new : ∀ k, G k → B ≤ k
  apart : ∀ k, F k → ¬ G k
theorem Two.swap {B : Nat} {w0 w : World} {p : Nat} {st : St} {F : Nat → Prop} {q : Nat} {st' : St} {G : Nat → Prop} (h : Two B w0 w p st F q st' G) : Two B w0 w q st' G p st F :=
  ⟨⟨h.two, h.new, h.one.below⟩, h.one.fs, h.one.new, fun k hg hf => h.apart k hf hg⟩
theorem Two.op {B : Nat} {w0 w w' : World} {p : Nat} {st st2 : St} {F F' : Nat → Prop} {q : Nat} {st' : St} {G : Nat → Prop} (h : Two B w0 w p st F q st' G) (hB : B ≤ w0.heap.size) (h1 : Fsy w' p st2 F') (h2 : Kept F w w') (h3 : Grows w F F') : Two B w0 w' p st2 F' q st' G :=
  ⟨h.one.op hB h1 h2 h3, h.two.keep fun k hk => h2.block k (h.two.lt k hk) (fun hf => h.apart k hf hk), h.new, fun k hf hg => by
    rcases h3 k hf with a | a
    · exact h.apart k a hg
    · have := h.two.lt k hg; omega⟩
theorem Two.go {B : Nat} {w0 w w' : World} {p : Nat} {st : St} {F : Nat → Prop} {q : Nat} {st' : St} {G : Nat → Prop} (h : Two B w0 w p st F q st' G) (hB : B ≤ w0.heap.size) (hb : Below w.heap.size w w') : Two B w0 w' p st F q st' G :=
  ⟨h.one.go hB hb, h.two.below hb, h.new, h.apart⟩
end Go.Proofs.Ytpdelgjfamelfaa
