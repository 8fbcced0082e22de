/- Merged of JQ JV J17. -/
import Derived.Test.YtaalbcfpacpgfaaGreatJD
import Derived.Test.YtaalbcfpacpgfaaGreatJ16
/- JQ -/
--  Plain laws: the sum tells one byte that is another.
namespace Go.Proofs.YtaalbcfpacpgfaaGreat
open Go.RowKit Go.Lib Go.Vfs Go.Par Go.Shelf
set_option linter.unusedVariables false
set_option linter.unusedSimpArgs false

end Go.Proofs.YtaalbcfpacpgfaaGreat
/- JV -/
--  Plain: the three files of a journal, and what the calls make of them.
namespace Go.Proofs.YtaalbcfpacpgfaaGreat
open Go.RowKit Go.Lib Go.Vfs Go.Par Go.Shelf
set_option linter.unusedVariables false
set_option linter.unusedSimpArgs false

/-- the three files of a journal. -/
structure V3 (fs : List File) (nx bs lg : Option File) : Prop where
  nx : findL File.name nNext fs = nx
  bs : findL File.name nBase fs = bs
  lg : findL File.name nLog fs = lg
theorem V3.nil : V3 [] none none none := ⟨rfl, rfl, rfl⟩
section
variable {fs : List File} {nx bs lg : Option File} {pw : Int}
theorem V3.hasN (h : V3 fs nx bs lg) : hasF fs nNext = nx.isSome := by rw [hasF_find, h.nx]
theorem V3.hasL (h : V3 fs nx bs lg) : hasF fs nLog = lg.isSome := by rw [hasF_find, h.lg]
theorem V3.setN (h : V3 fs nx bs lg) {f : File} (hf : f.name = nNext) : V3 (withL File.name f fs) (some f) bs lg :=
  ⟨by rw [← hf]; exact findL_withL_self f fs, by rw [findL_withL_ne (by rw [hf]; decide), h.bs], by rw [findL_withL_ne (by rw [hf]; decide), h.lg]⟩
theorem V3.setB (h : V3 fs nx bs lg) {f : File} (hf : f.name = nBase) : V3 (withL File.name f fs) nx (some f) lg :=
  ⟨by rw [findL_withL_ne (by rw [hf]; decide), h.nx], by rw [← hf]; exact findL_withL_self f fs, by rw [findL_withL_ne (by rw [hf]; decide), h.lg]⟩
theorem V3.setL (h : V3 fs nx bs lg) {f : File} (hf : f.name = nLog) : V3 (withL File.name f fs) nx bs (some f) :=
  ⟨by rw [findL_withL_ne (by rw [hf]; decide), h.nx], by rw [findL_withL_ne (by rw [hf]; decide), h.bs], by rw [← hf]; exact findL_withL_self f fs⟩
theorem V3.dropN (h : V3 fs nx bs lg) : V3 (dropL File.name nNext fs) none bs lg :=
  ⟨findL_dropL_self _ _, by rw [findL_dropL_ne (by decide), h.bs], by rw [findL_dropL_ne (by decide), h.lg]⟩
/-- a file that was appended to. -/
def addF (s : List UInt8) (o : Option File) (L : List UInt8) : File := match o with | some f => ⟨s, f.data ++ L, f.safe⟩ | none => ⟨s, L, 0⟩
theorem addF_name (s : List UInt8) (o : Option File) (L : List UInt8) : (addF s o L).name = s := by cases o <;> rfl
theorem appF_eq (s L : List UInt8) (fs : List File) : appF s L fs = withL File.name (addF s (findL File.name s fs) L) fs := by
  unfold appF addF
  cases findL File.name s fs <;> rfl
theorem V3.appL (h : V3 fs nx bs lg) (L : List UInt8) : V3 (appF nLog L fs) nx bs (some (addF nLog lg L)) := by
  rw [appF_eq, h.lg]
  exact h.setL (addF_name _ _ _)
theorem V3.appN (h : V3 fs nx bs lg) (L : List UInt8) : V3 (appF nNext L fs) (some (addF nNext nx L)) bs lg := by
  rw [appF_eq, h.nx]
  exact h.setN (addF_name _ _ _)
/-- where the power is out. -/
theorem do_zero (fs fs' : List File) : doSt ⟨0, fs⟩ fs' = (⟨0, fs⟩, 13) := by simp [doSt]
theorem do_on (hp : pw ≠ 0) (fs fs' : List File) : doSt ⟨pw, fs⟩ fs' = (⟨dec pw, fs'⟩, 0) := by simp [doSt, hp]
theorem V3.append (h : V3 fs nx bs lg) (L : List UInt8) : stAppend ⟨pw, fs⟩ nLog L = doSt ⟨pw, fs⟩ (appF nLog L fs) := by unfold stAppend; rw [if_pos (by decide)]
theorem V3.step0 (h : V3 fs nx bs lg) (b : List UInt8) : stepSt b 0 ⟨pw, fs⟩ = doSt ⟨pw, fs⟩ (appF nNext b fs) := by
  show stAppend ⟨pw, fs⟩ nNext b = _
  unfold stAppend; rw [if_pos (by decide)]
theorem V3.step1 (h : V3 fs nx bs lg) {f : File} (hx : nx = some f) (b : List UInt8) : ∃ fs', stepSt b 1 ⟨pw, fs⟩ = doSt ⟨pw, fs⟩ fs' ∧ V3 fs' (some ⟨nNext, f.data, f.data.length⟩) bs lg := by
  subst hx
  have hn := (findL_some h.nx).2
  refine ⟨_, stSync_ok (stFind_of (st := ⟨pw, fs⟩) (by decide) h.nx), ?_⟩
  have := h.setN (f := ⟨f.name, f.data, f.data.length⟩) hn
  rwa [hn] at this ⊢
theorem V3.step2 (h : V3 fs nx bs lg) {f : File} (hx : nx = some f) (b : List UInt8) : ∃ fs', stepSt b 2 ⟨pw, fs⟩ = doSt ⟨pw, fs⟩ fs' ∧ V3 fs' none (some ⟨nBase, f.data, f.safe⟩) lg := by
  subst hx
  exact ⟨_, stRename_ok (st := ⟨pw, fs⟩) (by decide) (by decide) (stFind_of (st := ⟨pw, fs⟩) (by decide) h.nx), h.dropN.setB rfl⟩
theorem V3.trunc (h : V3 fs nx bs lg) {f : File} (hx : lg = some f) {n : Nat} (hn : n ≤ f.data.length) : ∃ fs', stTruncate ⟨pw, fs⟩ nLog (n : Nat) = doSt ⟨pw, fs⟩ fs' ∧ V3 fs' nx bs (some ⟨nLog, f.data.take n, min f.safe n⟩) := by
  subst hx
  have hm := (findL_some h.lg).2
  refine ⟨_, stTruncate_ok (stFind_of (st := ⟨pw, fs⟩) (by decide) h.lg) hn, ?_⟩
  have := h.setL (f := ⟨f.name, f.data.take n, min f.safe n⟩) hm
  rwa [hm] at this ⊢
theorem V3.step3 (h : V3 fs nx bs lg) {f : File} (hx : lg = some f) (b : List UInt8) : ∃ fs', stepSt b 3 ⟨pw, fs⟩ = doSt ⟨pw, fs⟩ fs' ∧ V3 fs' nx bs (some ⟨nLog, [], 0⟩) := by
  obtain ⟨fs', h1, h2⟩ := h.trunc (pw := pw) hx (Nat.zero_le _)
  exact ⟨fs', h1, by simpa using h2⟩
theorem V3.sync (h : V3 fs nx bs lg) {f : File} (hx : lg = some f) : ∃ fs', jSync ⟨pw, fs⟩ = doSt ⟨pw, fs⟩ fs' ∧ V3 fs' nx bs (some ⟨nLog, f.data, f.data.length⟩) := by
  subst hx
  have hm := (findL_some h.lg).2
  have hs := stSync_ok (stFind_of (st := ⟨pw, fs⟩) (by decide : nameB nLog = true) h.lg)
  refine ⟨_, by unfold jSync; rw [if_pos (by rw [h.hasL]; rfl)]; exact hs, ?_⟩
  have := h.setL (f := ⟨f.name, f.data, f.data.length⟩) hm
  rwa [hm] at this ⊢
theorem V3.sync0 (h : V3 fs nx bs none) : jSync ⟨pw, fs⟩ = (⟨pw, fs⟩, 0) := by unfold jSync; rw [if_neg (by rw [h.hasL]; decide)]
end
/-- the log behind a base that was laid. -/
def cutLog (lg : Option File) : Option File := lg.map fun _ => ⟨nLog, [], 0⟩
theorem dec_neg : dec (-1) = -1 := rfl
/-- a base laid where the power lasts. -/
theorem V3.lay {fs : List File} {bs lg : Option File} (h : V3 fs none bs lg) (b : List UInt8) : ∃ fs', laySteps b (stepsOf (hasF fs nLog)) ⟨-1, fs⟩ = (⟨-1, fs'⟩, 0) ∧ V3 fs' none (some ⟨nBase, b, b.length⟩) (cutLog lg) := by
  have h1 := h.appN b
  obtain ⟨f2, e2, h2⟩ := h1.step1 (pw := -1) rfl b
  obtain ⟨f3, e3, h3⟩ := h2.step2 (pw := -1) rfl b
  have e1 := h.step0 (pw := -1) b
  rw [do_on (by decide), dec_neg] at e1 e2 e3
  rw [h.hasL]
  cases lg with
  | none => exact ⟨f3, by simp [stepsOf, laySteps, e1, e2, e3], by simpa [addF, cutLog] using h3⟩
  | some g =>
    obtain ⟨f4, e4, h4⟩ := h3.step3 (pw := -1) rfl b
    rw [do_on (by decide), dec_neg] at e4
    exact ⟨f4, by simp [stepsOf, laySteps, e1, e2, e3, e4], by simpa [addF, cutLog] using h4⟩
theorem lay_calm {b : List UInt8} : ∀ (ks : List Nat) {st : St} {k d : Nat}, Calm st.files k d → Calm (laySteps b ks st).1.files (k + ks.length) (d + ks.length * b.length)
  | [], st, k, d, h => h.mono (by omega) (by omega)
  | i :: ks, st, k, d, h => by
    have h1 := step_calm (b := b) h i
    simp only [laySteps]
    split
    · exact (lay_calm ks h1).mono (by simp only [List.length_cons]; omega) (by rw [List.length_cons, Nat.succ_mul]; omega)
    · exact h1.mono (by simp only [List.length_cons]; omega) (by rw [List.length_cons, Nat.succ_mul]; omega)
/-- opening where no file "next" is. -/
theorem V3.op1 {fs : List File} {bs lg : Option File} {pw : Int} (h : V3 fs none bs lg) : open1 ⟨pw, fs⟩ = (⟨pw, fs⟩, 0) := by unfold open1; rw [if_neg (by rw [h.hasN]; decide)]
theorem V3.op1N {fs : List File} {bs lg : Option File} {f : File} (h : V3 fs (some f) bs lg) : ∃ fs', open1 ⟨-1, fs⟩ = (⟨-1, fs'⟩, 0) ∧ V3 fs' none bs lg := by
  refine ⟨_, ?_, h.dropN⟩
  unfold open1
  rw [if_pos (by rw [h.hasN]; rfl)]
  unfold stRemove
  rw [stFind_of (st := ⟨-1, fs⟩) (by decide) h.nx]
  rfl
/-- the log as it reads in generation g, and what is left of it. -/
def logRecs (lg : Option File) (g : Nat) : List (List UInt8) := match lg with | none => [] | some f => pays (sameGen g (frs f.data))
def logCut (lg : Option File) (g : Nat) : Option File := match lg with
  | none => none
  | some f => if endOf (sameGen g (frs f.data)) < f.data.length then some ⟨nLog, f.data.take (endOf (sameGen g (frs f.data))), min f.safe (endOf (sameGen g (frs f.data)))⟩ else some f
def logBad (lg : Option File) (g : Nat) : Bool := match lg with | none => false | some f => decide (endOf (sameGen g (frs f.data)) < f.data.length)
def baseOk (bs : Option File) : Option (Nat × List (List UInt8)) := match bs with | none => some (0, []) | some f => baseOf f.data
/-- opening where the power lasts. -/
theorem V3.opn {fs : List File} {nx bs lg : Option File} (h : V3 fs nx bs lg) {g : Nat} {ps : List (List UInt8)} (hb : baseOk bs = some (g, ps)) : ∃ fs', openSt ⟨-1, fs⟩ = (⟨-1, fs'⟩, .ok (g, ps, logRecs lg g)) ∧ V3 fs' none bs (logCut lg g) := by
  obtain ⟨f1, e1, h1⟩ : ∃ f1, open1 ⟨-1, fs⟩ = (⟨-1, f1⟩, 0) ∧ V3 f1 none bs lg := by
    cases nx with
    | none => exact ⟨fs, h.op1, h⟩
    | some f => exact h.op1N
  have e2 : openBase ⟨-1, f1⟩ = some (g, ps) := by unfold openBase; simp only [h1.bs]; exact hb
  unfold openSt
  simp only [e1, e2, if_pos]
  have e3 : openRecs ⟨-1, f1⟩ g = logRecs lg g := by unfold openRecs logRecs; simp only [h1.lg]; rfl
  rw [e3]
  cases lg with
  | none =>
    have e4 : open2 ⟨-1, f1⟩ g = (⟨-1, f1⟩, 0) := by unfold open2; simp only [h1.lg]
    rw [e4]
    exact ⟨f1, rfl, h1⟩
  | some f =>
    by_cases hlt : endOf (sameGen g (frs f.data)) < f.data.length
    · obtain ⟨f5, e5, h5⟩ := h1.trunc (pw := -1) rfl (Nat.le_of_lt hlt)
      have e4 : open2 ⟨-1, f1⟩ g = (⟨-1, f5⟩, 0) := by unfold open2; simp only [h1.lg, if_pos hlt]; rw [e5, do_on (by decide)]; rfl
      rw [e4]
      exact ⟨f5, rfl, by unfold logCut; simp only [if_pos hlt]; exact h5⟩
    · have e4 : open2 ⟨-1, f1⟩ g = (⟨-1, f1⟩, 0) := by unfold open2; simp only [h1.lg, if_neg hlt]
      rw [e4]
      exact ⟨f1, rfl, by unfold logCut; simp only [if_neg hlt]; exact h1⟩
end Go.Proofs.YtaalbcfpacpgfaaGreat
/- J17 -/
--  A journal that is held, new since B; alive.
namespace Go.Proofs.YtaalbcfpacpgfaaGreat
open Go.RowKit Go.Lib Go.Vfs Go.Par Go.Shelf
set_option linter.unusedVariables false
set_option linter.unusedSimpArgs false

/-- a journal with its files, all of it laid since B; whatever lay lies as it lay. -/
structure JH (B : Nat) (w0 w : World) (pj p : Nat) (st : St) (gen : Nat) (base log : List (List UInt8)) (F G : Nat → Prop) : Prop where
  jf : JF w pj p st gen base log F G
  fnew : ∀ k, F k → B ≤ k
  gnew : ∀ k, G k → B ≤ k
  below : Below B w0 w
section
variable {B : Nat} {w0 w w' : World} {pj p gen : Nat} {st : St} {base log : List (List UInt8)} {F G : Nat → Prop}
theorem JH.size (h : JH B w0 w pj p st gen base log F G) (hB : B ≤ w0.heap.size) : B ≤ w.heap.size := Nat.le_trans hB h.below.size
theorem JH.go (h : JH B w0 w pj p st gen base log F G) (hB : B ≤ w0.heap.size) (hb : Below w.heap.size w w') : JH B w0 w' pj p st gen base log F G :=
  ⟨h.jf.below hb, h.fnew, h.gnew, h.below.trans (hb.mono (h.size hB))⟩
theorem JH.op (h : JH B w0 w pj p st gen base log F G) (hB : B ≤ w0.heap.size) {st' : St} {gen' : Nat} {base' log' : List (List UInt8)} (hp : JPost w pj p F G st' gen' base' log' w') : ∃ F' G', JH B w0 w' pj p st' gen' base' log' F' G' ∧ Kept (fun k => F k ∨ G k) w w' ∧ Grows w F F' ∧ Grows w G G' := by
  obtain ⟨F', G', h1, h2, h3, h4⟩ := hp
  have hs := h.size hB
  refine ⟨F', G', ⟨h1, fun k hk => ?_, fun k hk => ?_, h.below.trans (h2.below hs fun k hk => ?_)⟩, h2, h3, h4⟩
  · rcases h3 k hk with a | a
    · exact h.fnew k a
    · omega
  · rcases h4 k hk with a | a
    · exact h.gnew k a
    · omega
  · rcases hk with hk | hk
    · exact h.fnew k hk
    · exact h.gnew k hk
theorem JH.lt (h : JH B w0 w pj p st gen base log F G) : ∀ k, (F k ∨ G k) → k < w.heap.size := fun k hk => by
  rcases hk with hk | hk
  · exact h.jf.fs.lt k hk
  · exact h.jf.js.lt k hk
end
theorem open_new : openSt ⟨-1, []⟩ = (⟨-1, []⟩, .ok (0, [], [])) := rfl
/-- a new file system, and the journal in it. -/
theorem OpenPost.fresh {w0 w w' : World} {p : Nat} {F : Nat → Prop} {e : Ending} (h : OpenPost w p F (openSt ⟨-1, []⟩) e w') (hb : Below w0.heap.size w0 w) (hF : ∀ k, F k → w0.heap.size ≤ k) : ∃ pj F' G, e = .returned (.tuple #[.pointer (some ⟨pj, 0, none⟩), .int .i64 0]) ∧ JH w0.heap.size w0 w' pj p ⟨-1, []⟩ 0 [] [] F' G := by
  rw [open_new] at h
  obtain ⟨F', h1, h2, h3, pj, G, rfl, h4, h5⟩ := h
  have hz := hb.size
  exact ⟨pj, F', G, rfl, h4, fun k hk => by
    rcases h3 k hk with a | a
    · exact hF k a
    · omega, fun k hk => by have := h5 k hk; omega, hb.trans (h2.below hz hF)⟩

end Go.Proofs.YtaalbcfpacpgfaaGreat


