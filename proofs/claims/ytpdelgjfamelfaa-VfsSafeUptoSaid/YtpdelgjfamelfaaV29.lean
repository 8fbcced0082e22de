/- Plain: what was synced outlasts a crash. -/
import Derived.Test.YtpdelgjfamelfaaV27
namespace Go.Proofs.Ytpdelgjfamelfaa
open Go.RowKit Go.Lib Go.Vfs Go.Par
set_option linter.unusedVariables false
set_option linter.unusedSimpArgs false

theorem actSt_m1 (fs : List File) (o : OpR) : ∃ fs', (actSt ⟨-1, fs⟩ o).1 = ⟨-1, fs'⟩ := by
  refine ⟨(actSt ⟨-1, fs⟩ o).1.files, ?_⟩
  have h : (actSt ⟨-1, fs⟩ o).1.power = -1 := by
    rcases power_act ⟨-1, fs⟩ o with e | e <;> rw [e] <;> rfl
  cases hst : (actSt ⟨-1, fs⟩ o).1
  rw [hst] at h
  simp only at h
  rw [h]
theorem cutN_ge (k : Int) (f : File) : f.safe ≤ cutN k f := by unfold cutN; omega
theorem cutN_le2 (k : Int) (f : File) (h : f.safe ≤ f.data.length) : cutN k f ≤ f.data.length := by unfold cutN; omega
theorem findL_crash (keeps : List Int) (s : List UInt8) : ∀ (l : List File) (i : Nat) (f : File), findL File.name s l = some f → ∃ j, findL File.name s (crashL keeps i l) = some (crashF keeps j f)
  | [], i, f, h => by simp [findL] at h
  | g :: l, i, f, h => by
    rw [findL_cons] at h
    rw [crashL, findL_cons]
    split at h
    · rename_i hg
      cases h
      exact ⟨i, by rw [if_pos (by exact hg)]⟩
    · rename_i hg
      obtain ⟨j, hj⟩ := findL_crash keeps s l (i + 1) f h
      exact ⟨j, by rw [if_neg (by exact hg), hj]⟩
theorem mem_crashL (keeps : List Int) : ∀ (l : List File) (i : Nat) (f : File), f ∈ crashL keeps i l → ∃ j g, g ∈ l ∧ f = crashF keeps j g
  | [], i, f, h => by simp [crashL] at h
  | g :: l, i, f, h => by
    rw [crashL] at h
    rcases List.mem_cons.1 h with rfl | h
    · exact ⟨i, g, by simp, rfl⟩
    · obtain ⟨j, g', h1, h2⟩ := mem_crashL keeps l (i + 1) f h
      exact ⟨j, g', by simp [h1], h2⟩
theorem Calm.crash {fs : List File} {k d : Nat} (h : Calm fs k d) (keeps : List Int) (i : Nat) : Calm (crashL keeps i fs) k d := by
  refine ⟨by rw [crashL_length]; exact h.files, fun f hf => ?_, fun f hf => ?_, fun f hf => ?_⟩ <;> obtain ⟨j, g, hg, rfl⟩ := mem_crashL keeps fs i f hf
  · exact h.names g hg
  · have := h.data g hg; simp only [crashF, List.length_take]; omega
  · have := cutN_le2 (cutK keeps j) g (h.safe g hg); simp only [crashF, List.length_take]; omega
theorem Calm.short {fs : List File} {k d : Nat} (h : Calm fs k d) : ∀ f ∈ fs, f.name.length ≤ 100000 := fun f hf => by have := name_len (h.names f hf); omega

theorem findL_app {s L : List UInt8} {fs : List File} : findL File.name s (appF s L fs) = some (match findL File.name s fs with | some f => ⟨s, f.data ++ L, f.safe⟩ | none => ⟨s, L, 0⟩) := by
  unfold appF
  have h := findL_withL_self (key := File.name) (match findL File.name s fs with | some f => ⟨s, f.data ++ L, f.safe⟩ | none => ⟨s, L, 0⟩ : File) fs
  have e : File.name (match findL File.name s fs with | some f => ⟨s, f.data ++ L, f.safe⟩ | none => ⟨s, L, 0⟩ : File) = s := by split <;> rfl
  rw [e] at h
  exact h

/-- the law: what is read under a synced name behind a crash. -/
theorem safe_law (fs : List File) (s more : List UInt8) (keeps : List Int) (hn : nameB s = true) (k D : Nat) (hc : Calm fs k D) :
    ∃ (d : List UInt8) (n : Nat) (f1 f2 f3 : List File), stAppend ⟨-1, fs⟩ s [] = (⟨-1, f1⟩, 0) ∧ Calm f1 (k + 1) D ∧ stSync ⟨-1, f1⟩ s = (⟨-1, f2⟩, 0) ∧ Calm f2 (k + 2) D ∧ stFind ⟨-1, f2⟩ s = .ok ⟨s, d, d.length⟩ ∧ d.length ≤ D ∧
      stAppend ⟨-1, f2⟩ s more = (⟨-1, f3⟩, 0) ∧ Calm f3 (k + 3) (D + more.length) ∧ d.length ≤ n ∧ n ≤ d.length + more.length ∧
      stFind (stCrash ⟨-1, f3⟩ keeps (-1)) s = .ok ⟨s, d ++ more.take (n - d.length), n⟩ ∧ stFind (stCrash (stCrash ⟨-1, f3⟩ keeps (-1)) [] (-1)) s = .ok ⟨s, d ++ more.take (n - d.length), n⟩ ∧
      (stCrash (stCrash ⟨-1, f3⟩ keeps (-1)) [] (-1)).files.map File.name = f3.map File.name := by
  have c1 := hc.app (L := []) hn
  rw [List.length_nil, Nat.add_zero] at c1
  have h1 := findL_app (s := s) (L := []) (fs := fs)
  obtain ⟨d, sf, hd⟩ : ∃ d sf, findL File.name s (appF s [] fs) = some ⟨s, d, sf⟩ := by
    rw [h1]; split
    · exact ⟨_, _, rfl⟩
    · exact ⟨_, _, rfl⟩
  clear h1
  generalize hf1 : appF s [] fs = f1 at *
  have hdD := c1.data _ (findL_some hd).1
  simp only at hdD
  have c2 := c1.withL (f := ⟨s, d, d.length⟩) hn hdD (Nat.le_refl _)
  have h2 : findL File.name s (withL File.name ⟨s, d, d.length⟩ f1) = some ⟨s, d, d.length⟩ := findL_withL_self (key := File.name) ⟨s, d, d.length⟩ f1
  have e2 : stSync ⟨-1, f1⟩ s = (⟨-1, withL File.name ⟨s, d, d.length⟩ f1⟩, 0) := by
    rw [stSync_ok (stFind_of (st := ⟨-1, f1⟩) hn hd)]; rfl
  generalize hf2 : withL File.name ⟨s, d, d.length⟩ f1 = f2 at *
  have h3 := findL_app (s := s) (L := more) (fs := f2)
  rw [h2] at h3
  simp only at h3
  have c3 := c2.app (L := more) hn
  generalize hf3 : appF s more f2 = f3 at *
  obtain ⟨j, h4⟩ := findL_crash keeps s f3 0 _ h3
  have hsafe : d.length ≤ (d ++ more).length := by simp
  have g1 := cutN_ge (cutK keeps j) ⟨s, d ++ more, d.length⟩
  have g2 := cutN_le2 (cutK keeps j) ⟨s, d ++ more, d.length⟩ hsafe
  simp only [List.length_append] at g1 g2
  unfold crashF at h4
  simp only at h4
  generalize cutN (cutK keeps j) ⟨s, d ++ more, d.length⟩ = n at *
  have e4 : (d ++ more).take n = d ++ more.take (n - d.length) := by rw [List.take_append, List.take_of_length_le g1]
  rw [e4] at h4
  have hl4 : (d ++ more.take (n - d.length)).length = n := by simp; omega
  obtain ⟨j5, h5⟩ := findL_crash [] s (crashL keeps 0 f3) 0 _ h4
  have e5 : cutN (cutK [] j5) ⟨s, d ++ more.take (n - d.length), n⟩ = n := by
    have h0 : cutK [] j5 = 0 := by simp [cutK]
    rw [h0]; unfold cutN; simp
  have e6 : crashF [] j5 ⟨s, d ++ more.take (n - d.length), n⟩ = ⟨s, d ++ more.take (n - d.length), n⟩ := by
    unfold crashF
    rw [e5]
    congr 1
    exact List.take_of_length_le (by simp only; omega)
  rw [e6] at h5
  refine ⟨d, n, f1, f2, f3, ?_, c1, e2, c2, stFind_of hn h2, hdD, ?_, c3, g1, g2, stFind_of hn h4, stFind_of hn h5, ?_⟩
  · rw [stAppend_yes hn rfl, hf1]
  · rw [stAppend_yes hn rfl, hf3]
  · show (crashL [] 0 (crashL keeps 0 f3)).map File.name = _
    rw [crashL_names, crashL_names]

/-- where a script stands that is done with full power. -/
structure RunI (W w : World) (os : List OpR) (k : Nat) (p : Nat) (F : Nat → Prop) (fs : List File) : Prop where
  held : Held W.heap.size W w p ⟨-1, fs⟩ F
  calm : Calm fs k (sizeO (os.take k))
theorem RunI.act {W w w' : World} {os : List OpR} {k p : Nat} {F F' : Nat → Prop} {fs fs' : List File} (h : RunI W w os k p F fs) (hk : k < os.length) (hst : (actSt ⟨-1, fs⟩ os[k]).1 = ⟨-1, fs'⟩) (h1 : Fsy w' p ⟨-1, fs'⟩ F') (h2 : Kept F w w') (h3 : Grows w F F') : RunI W w' os (k + 1) p F' fs' := by
  refine ⟨h.held.op (Nat.le_refl _) h1 h2 h3, ?_⟩
  have := Calm.act (st := ⟨-1, fs⟩) h.calm os[k]
  rw [hst] at this
  exact this.mono (Nat.le_refl _) (by rw [sizeO_succ os k hk]; have := flat_sizeP os[k].parts; omega)
theorem RunI.op {W w : World} {os : List OpR} {k p : Nat} {F : Nat → Prop} {fs : List File} (h : RunI W w os k p F fs) (hk : k < os.length) (v : Value) (hs : SegO W W.heap.size v os) (hz : sizeO os ≤ 1000000) (hl : os.length ≤ 60) :
    Calls Try.prog 27 #[.pointer (some ⟨p, 0, none⟩), .agg #[.int .i64 os[k].what, .int .i64 os[k].n, .string os[k].name, .string os[k].other, os[k].pv, os[k].kv]] w fun e w' => ∃ er fs' F', e = .returned (.int .i64 er) ∧ (actSt ⟨-1, fs⟩ os[k]) = (⟨-1, fs'⟩, er) ∧ RunI W w' os (k + 1) p F' fs' := by
  have hop := (hs.op k hk).below h.held.below
  have hsz := sizeO_nth os k hk
  refine (act_any w p ⟨-1, fs⟩ F h.held.fs os[k] W.heap.size (h.held.size (Nat.le_refl _)) h.held.new hop (h.calm.modest (by simp only; decide) (by omega) (by omega)) (by omega)).mono ?_
  rintro e w' ⟨F', rfl, g1, g2, g3⟩
  obtain ⟨fs', hst⟩ := actSt_m1 fs os[k]
  rw [hst] at g1
  exact ⟨_, fs', F', rfl, by rw [← hst], h.act hk hst g1 g2 g3⟩
end Go.Proofs.Ytpdelgjfamelfaa
