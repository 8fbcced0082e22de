/- Merged of V29 V30. -/
import Derived.Test.YtpdelgjfamelfaaGreatM3
import Derived.Deep.QuietTactic
import Derived.BigQuiet
/- V29 -/
/- Plain: what was synced outlasts a crash. -/
namespace Go.Proofs.YtpdelgjfamelfaaGreat
open Go.RowKit Go.Lib Go.Vfs Go.Par
set_option linter.unusedVariables false
set_option linter.unusedSimpArgs false

theorem actSt_m1 (fs : List File) (o : OpR) : ∃ fs', (actSt ⟨-1, fs⟩ o).1 = ⟨-1, fs'⟩ := by
  refine ⟨(actSt ⟨-1, fs⟩ o).1.files, ?_⟩
  have h : (actSt ⟨-1, fs⟩ o).1.power = -1 := by
    rcases power_act ⟨-1, fs⟩ o with e | e <;> rw [e] <;> rfl
  cases hst : (actSt ⟨-1, fs⟩ o).1
  rw [hst] at h
  simp only at h
  rw [h]
theorem cutN_ge (k : Int) (f : File) : f.safe ≤ cutN k f := by unfold cutN; omega
theorem cutN_le2 (k : Int) (f : File) (h : f.safe ≤ f.data.length) : cutN k f ≤ f.data.length := by unfold cutN; omega
theorem findL_crash (keeps : List Int) (s : List UInt8) : ∀ (l : List File) (i : Nat) (f : File), findL File.name s l = some f → ∃ j, findL File.name s (crashL keeps i l) = some (crashF keeps j f)
  | [], i, f, h => by simp [findL] at h
  | g :: l, i, f, h => by
    rw [findL_cons] at h
    rw [crashL, findL_cons]
    split at h
    · rename_i hg
      cases h
      exact ⟨i, by rw [if_pos (by exact hg)]⟩
    · rename_i hg
      obtain ⟨j, hj⟩ := findL_crash keeps s l (i + 1) f h
      exact ⟨j, by rw [if_neg (by exact hg), hj]⟩
theorem mem_crashL (keeps : List Int) : ∀ (l : List File) (i : Nat) (f : File), f ∈ crashL keeps i l → ∃ j g, g ∈ l ∧ f = crashF keeps j g
  | [], i, f, h => by simp [crashL] at h
  | g :: l, i, f, h => by
    rw [crashL] at h
    rcases List.mem_cons.1 h with rfl | h
    · exact ⟨i, g, by simp, rfl⟩
    · obtain ⟨j, g', h1, h2⟩ := mem_crashL keeps l (i + 1) f h
      exact ⟨j, g', by simp [h1], h2⟩
theorem Calm.crash {fs : List File} {k d : Nat} (h : Calm fs k d) (keeps : List Int) (i : Nat) : Calm (crashL keeps i fs) k d := by
  refine ⟨by rw [crashL_length]; exact h.files, fun f hf => ?_, fun f hf => ?_, fun f hf => ?_⟩ <;> obtain ⟨j, g, hg, rfl⟩ := mem_crashL keeps fs i f hf
  · exact h.names g hg
  · have := h.data g hg; simp only [crashF, List.length_take]; omega
  · have := cutN_le2 (cutK keeps j) g (h.safe g hg); simp only [crashF, List.length_take]; omega
theorem Calm.short {fs : List File} {k d : Nat} (h : Calm fs k d) : ∀ f ∈ fs, f.name.length ≤ 100000 := fun f hf => by have := name_len (h.names f hf); omega

theorem findL_app {s L : List UInt8} {fs : List File} : findL File.name s (appF s L fs) = some (match findL File.name s fs with | some f => ⟨s, f.data ++ L, f.safe⟩ | none => ⟨s, L, 0⟩) := by
  unfold appF
  have h := findL_withL_self (key := File.name) (match findL File.name s fs with | some f => ⟨s, f.data ++ L, f.safe⟩ | none => ⟨s, L, 0⟩ : File) fs
  have e : File.name (match findL File.name s fs with | some f => ⟨s, f.data ++ L, f.safe⟩ | none => ⟨s, L, 0⟩ : File) = s := by split <;> rfl
  rw [e] at h
  exact h

/-- the law: what is read under a synced name behind a crash. -/
theorem safe_law (fs : List File) (s more : List UInt8) (keeps : List Int) (hn : nameB s = true) (k D : Nat) (hc : Calm fs k D) :
    ∃ (d : List UInt8) (n : Nat) (f1 f2 f3 : List File), stAppend ⟨-1, fs⟩ s [] = (⟨-1, f1⟩, 0) ∧ Calm f1 (k + 1) D ∧ stSync ⟨-1, f1⟩ s = (⟨-1, f2⟩, 0) ∧ Calm f2 (k + 2) D ∧ stFind ⟨-1, f2⟩ s = .ok ⟨s, d, d.length⟩ ∧ d.length ≤ D ∧
      stAppend ⟨-1, f2⟩ s more = (⟨-1, f3⟩, 0) ∧ Calm f3 (k + 3) (D + more.length) ∧ d.length ≤ n ∧ n ≤ d.length + more.length ∧
      stFind (stCrash ⟨-1, f3⟩ keeps (-1)) s = .ok ⟨s, d ++ more.take (n - d.length), n⟩ ∧ stFind (stCrash (stCrash ⟨-1, f3⟩ keeps (-1)) [] (-1)) s = .ok ⟨s, d ++ more.take (n - d.length), n⟩ ∧
      (stCrash (stCrash ⟨-1, f3⟩ keeps (-1)) [] (-1)).files.map File.name = f3.map File.name := by
  have c1 := hc.app (L := []) hn
  rw [List.length_nil, Nat.add_zero] at c1
  have h1 := findL_app (s := s) (L := []) (fs := fs)
  obtain ⟨d, sf, hd⟩ : ∃ d sf, findL File.name s (appF s [] fs) = some ⟨s, d, sf⟩ := by
    rw [h1]; split
    · exact ⟨_, _, rfl⟩
    · exact ⟨_, _, rfl⟩
  clear h1
  generalize hf1 : appF s [] fs = f1 at *
  have hdD := c1.data _ (findL_some hd).1
  simp only at hdD
  have c2 := c1.withL (f := ⟨s, d, d.length⟩) hn hdD (Nat.le_refl _)
  have h2 : findL File.name s (withL File.name ⟨s, d, d.length⟩ f1) = some ⟨s, d, d.length⟩ := findL_withL_self (key := File.name) ⟨s, d, d.length⟩ f1
  have e2 : stSync ⟨-1, f1⟩ s = (⟨-1, withL File.name ⟨s, d, d.length⟩ f1⟩, 0) := by
    rw [stSync_ok (stFind_of (st := ⟨-1, f1⟩) hn hd)]; rfl
  generalize hf2 : withL File.name ⟨s, d, d.length⟩ f1 = f2 at *
  have h3 := findL_app (s := s) (L := more) (fs := f2)
  rw [h2] at h3
  simp only at h3
  have c3 := c2.app (L := more) hn
  generalize hf3 : appF s more f2 = f3 at *
  obtain ⟨j, h4⟩ := findL_crash keeps s f3 0 _ h3
  have hsafe : d.length ≤ (d ++ more).length := by simp
  have g1 := cutN_ge (cutK keeps j) ⟨s, d ++ more, d.length⟩
  have g2 := cutN_le2 (cutK keeps j) ⟨s, d ++ more, d.length⟩ hsafe
  simp only [List.length_append] at g1 g2
  unfold crashF at h4
  simp only at h4
  generalize cutN (cutK keeps j) ⟨s, d ++ more, d.length⟩ = n at *
  have e4 : (d ++ more).take n = d ++ more.take (n - d.length) := by rw [List.take_append, List.take_of_length_le g1]
  rw [e4] at h4
  have hl4 : (d ++ more.take (n - d.length)).length = n := by simp; omega
  obtain ⟨j5, h5⟩ := findL_crash [] s (crashL keeps 0 f3) 0 _ h4
  have e5 : cutN (cutK [] j5) ⟨s, d ++ more.take (n - d.length), n⟩ = n := by
    have h0 : cutK [] j5 = 0 := by simp [cutK]
    rw [h0]; unfold cutN; simp
  have e6 : crashF [] j5 ⟨s, d ++ more.take (n - d.length), n⟩ = ⟨s, d ++ more.take (n - d.length), n⟩ := by
    unfold crashF
    rw [e5]
    congr 1
    exact List.take_of_length_le (by simp only; omega)
  rw [e6] at h5
  refine ⟨d, n, f1, f2, f3, ?_, c1, e2, c2, stFind_of hn h2, hdD, ?_, c3, g1, g2, stFind_of hn h4, stFind_of hn h5, ?_⟩
  · rw [stAppend_yes hn rfl, hf1]
  · rw [stAppend_yes hn rfl, hf3]
  · show (crashL [] 0 (crashL keeps 0 f3)).map File.name = _
    rw [crashL_names, crashL_names]

/-- where a script stands that is done with full power. -/
structure RunI (W w : World) (os : List OpR) (k : Nat) (p : Nat) (F : Nat → Prop) (fs : List File) : Prop where
  held : Held W.heap.size W w p ⟨-1, fs⟩ F
  calm : Calm fs k (sizeO (os.take k))
theorem RunI.act {W w w' : World} {os : List OpR} {k p : Nat} {F F' : Nat → Prop} {fs fs' : List File} (h : RunI W w os k p F fs) (hk : k < os.length) (hst : (actSt ⟨-1, fs⟩ os[k]).1 = ⟨-1, fs'⟩) (h1 : Fsy w' p ⟨-1, fs'⟩ F') (h2 : Kept F w w') (h3 : Grows w F F') : RunI W w' os (k + 1) p F' fs' := by
  refine ⟨h.held.op (Nat.le_refl _) h1 h2 h3, ?_⟩
  have := Calm.act (st := ⟨-1, fs⟩) h.calm os[k]
  rw [hst] at this
  exact this.mono (Nat.le_refl _) (by rw [sizeO_succ os k hk]; have := flat_sizeP os[k].parts; omega)
end Go.Proofs.YtpdelgjfamelfaaGreat
/- V30 -/
namespace Go.Proofs.YtpdelgjfamelfaaGreat
open Go.RowKit Go.Lib Go.Vfs Go.Par
set_option linter.unusedVariables false
set_option linter.unusedSimpArgs false

theorem slice_from (A : Option Addr) (n c N : Nat) (w : World) (h : N ≤ n) : (Instr.slice 22 (.slice A n c) (some (.int .i64 (N : Int))) none none).run Tryz.prog w = .ok (sliced A N n c 1) w := by
  have ht' : Tryz.prog.underlying 22 = some (.slice (Tryz.prog.elem 22)) := by simp [Program.elem, Tryz.underlying22]
  have he : Tryz.prog.elem 22 = 5 := by simp [Program.elem, Tryz.underlying22]
  rw [run_slice_l w 22 _ _ _ ht' .i64 _ (by omega) (by omega), he, Tryz.sizeOf5]
  simp [Result.andThen]
theorem seg_take {w : World} {B : Nat} {A : Option Addr} {c : Nat} {l : List UInt8} (h : Seg w B (.slice A l.length c) (byteCells l)) (k : Nat) (hk : k ≤ l.length) : k ≤ c ∧ Seg w B (.slice A k c) (byteCells (l.take k)) := by
  have hh : Seg w B (.slice A (l.take k ++ l.drop k).length c) (byteCells (l.take k ++ l.drop k)) := by rw [List.take_append_drop]; exact h
  have hl : (l.take k).length = k := by simp; omega
  have := seg_front hh
  rw [hl] at this
  exact this
theorem seg_drop {w : World} {B : Nat} {A : Option Addr} {c : Nat} {l : List UInt8} (h : Seg w B (.slice A l.length c) (byteCells l)) (k : Nat) (hk : k ≤ l.length) : ∃ A2 c2, sliced A k l.length c 1 = .slice A2 (l.length - k) c2 ∧ Seg w B (.slice A2 (l.length - k) c2) (byteCells (l.drop k)) := by
  obtain ⟨A', c', e, h2, h3, h4⟩ := h
  rw [byteCells_length] at e h2 h4
  cases e
  have hl : (byteCells (l.drop k)).length = l.length - k := by rw [byteCells_length]; simp
  by_cases hkl : k < l.length
  · obtain ⟨b, off, e, hb, hc⟩ := h4 (by omega)
    subst e
    have hs : sliced (some ⟨b, off, none⟩) k l.length c 1 = .slice (some ⟨b, off + k, none⟩) (l.length - k) (c - k) := by
      have hne : ¬ c = k := by omega
      unfold sliced
      by_cases h0 : k = 0
      · subst h0; simp [Addr.add]
      · simp [Addr.add, hne]
        omega
    refine ⟨_, _, hs, _, c - k, by rw [hl], by omega, by omega, fun hp => ⟨b, off + k, rfl, hb, fun i hi => ?_⟩⟩
    rw [hl] at hi
    rw [Nat.add_assoc, hc _ (by omega)]
    simp [byteCells]
  · have he : l.drop k = [] := List.drop_eq_nil_of_le (by omega)
    have hs : ∃ A2, sliced A k l.length c 1 = .slice A2 (l.length - k) (c - k) := by
      unfold sliced
      split <;> exact ⟨_, rfl⟩
    obtain ⟨A2, hs⟩ := hs
    refine ⟨A2, c - k, hs, A2, c - k, by rw [hl], by omega, by omega, fun h => by omega⟩
theorem wrap64 (x : Int) (h1 : -9223372036854775808 ≤ x) (h2 : x ≤ 9223372036854775807) : IntKind.i64.wrap x = x := by
  simp only [IntKind.wrap, IntKind.signed, IntKind.bits]
  simp
  omega
theorem rows_nil (S : Nat → Prop) (w : World) : RowsAt S w (.slice none 0 0) [] := ⟨[], rfl, ⟨none, 0, rfl, by simp, by simp [maxLen], fun h => by simp at h⟩, fun i hi => by simp at hi⟩
theorem Held.crash {B : Nat} {w0 w : World} {p : Nat} {st : St} {F : Nat → Prop} {k d : Nat} (h : Held B w0 w p st F) (hB : B ≤ w0.heap.size) (hc : Calm st.files k d) (hk : k ≤ 100000) (hd : d ≤ 2147483648) (kv : Value) (keeps : List Int) (hkv : Seg w w.heap.size kv (ints keeps)) (power : Int) :
    Calls Tryz.prog 12 #[.pointer (some ⟨p, 0, none⟩), kv, .int .i64 power] w fun e w' => ∃ p' F', e = .returned (.pointer (some ⟨p', 0, none⟩)) ∧ Held B w0 w' p' (stCrash st keeps power) F' ∧ Held B w0 w' p st F ∧ (∀ k, F' k → w.heap.size ≤ k) ∧ Below w.heap.size w w' := by
  refine (crash_any w p st F h.fs (Nat.le_trans hc.files hk) hc.short (fun f hf => Nat.le_trans (hc.data f hf) hd) kv keeps hkv power).mono ?_
  rintro e w' ⟨p', F', rfl, h1, h2, h3⟩
  have hs := h.size hB
  exact ⟨p', F', rfl, ⟨h1, fun k hk => Nat.le_trans hs (h2 k hk).1, h.below.trans (h3.mono hs)⟩, h.go hB h3, fun k hk => (h2 k hk).1, h3⟩

end Go.Proofs.YtpdelgjfamelfaaGreat
