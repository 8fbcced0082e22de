/- Merged of V29 V30. -/
import Derived.Test.YtaalbcfpacpgfaaGreatM3
import Derived.Deep.QuietTactic
import Derived.BigQuiet
/- V29 -/
/- Plain: what was synced outlasts a crash. -/
namespace Go.Proofs.YtaalbcfpacpgfaaGreat
open Go.RowKit Go.Lib Go.Vfs Go.Par
set_option linter.unusedVariables false
set_option linter.unusedSimpArgs false

theorem cutN_ge (k : Int) (f : File) : f.safe ≤ cutN k f := by unfold cutN; omega
theorem cutN_le2 (k : Int) (f : File) (h : f.safe ≤ f.data.length) : cutN k f ≤ f.data.length := by unfold cutN; omega
theorem findL_crash (keeps : List Int) (s : List UInt8) : ∀ (l : List File) (i : Nat) (f : File), findL File.name s l = some f → ∃ j, findL File.name s (crashL keeps i l) = some (crashF keeps j f)
  | [], i, f, h => by simp [findL] at h
  | g :: l, i, f, h => by
    rw [findL_cons] at h
    rw [crashL, findL_cons]
    split at h
    · rename_i hg
      cases h
      exact ⟨i, by rw [if_pos (by exact hg)]⟩
    · rename_i hg
      obtain ⟨j, hj⟩ := findL_crash keeps s l (i + 1) f h
      exact ⟨j, by rw [if_neg (by exact hg), hj]⟩
theorem mem_crashL (keeps : List Int) : ∀ (l : List File) (i : Nat) (f : File), f ∈ crashL keeps i l → ∃ j g, g ∈ l ∧ f = crashF keeps j g
  | [], i, f, h => by simp [crashL] at h
  | g :: l, i, f, h => by
    rw [crashL] at h
    rcases List.mem_cons.1 h with rfl | h
    · exact ⟨i, g, by simp, rfl⟩
    · obtain ⟨j, g', h1, h2⟩ := mem_crashL keeps l (i + 1) f h
      exact ⟨j, g', by simp [h1], h2⟩
theorem Calm.crash {fs : List File} {k d : Nat} (h : Calm fs k d) (keeps : List Int) (i : Nat) : Calm (crashL keeps i fs) k d := by
  refine ⟨by rw [crashL_length]; exact h.files, fun f hf => ?_, fun f hf => ?_, fun f hf => ?_⟩ <;> obtain ⟨j, g, hg, rfl⟩ := mem_crashL keeps fs i f hf
  · exact h.names g hg
  · have := h.data g hg; simp only [crashF, List.length_take]; omega
  · have := cutN_le2 (cutK keeps j) g (h.safe g hg); simp only [crashF, List.length_take]; omega
theorem Calm.short {fs : List File} {k d : Nat} (h : Calm fs k d) : ∀ f ∈ fs, f.name.length ≤ 100000 := fun f hf => by have := name_len (h.names f hf); omega

/-- where a script stands that is done with full power. -/
structure RunI (W w : World) (os : List OpR) (k : Nat) (p : Nat) (F : Nat → Prop) (fs : List File) : Prop where
  held : Held W.heap.size W w p ⟨-1, fs⟩ F
  calm : Calm fs k (sizeO (os.take k))
end Go.Proofs.YtaalbcfpacpgfaaGreat
/- V30 -/
namespace Go.Proofs.YtaalbcfpacpgfaaGreat
open Go.RowKit Go.Lib Go.Vfs Go.Par
set_option linter.unusedVariables false
set_option linter.unusedSimpArgs false

theorem slice_from (A : Option Addr) (n c N : Nat) (w : World) (h : N ≤ n) : (Instr.slice 24 (.slice A n c) (some (.int .i64 (N : Int))) none none).run Tryz.prog w = .ok (sliced A N n c 1) w := by
  have ht' : Tryz.prog.underlying 24 = some (.slice (Tryz.prog.elem 24)) := by simp [Program.elem, Tryz.underlying24]
  have he : Tryz.prog.elem 24 = 5 := by simp [Program.elem, Tryz.underlying24]
  rw [run_slice_l w 24 _ _ _ ht' .i64 _ (by omega) (by omega), he, Tryz.sizeOf5]
  simp [Result.andThen]
theorem seg_take {w : World} {B : Nat} {A : Option Addr} {c : Nat} {l : List UInt8} (h : Seg w B (.slice A l.length c) (byteCells l)) (k : Nat) (hk : k ≤ l.length) : k ≤ c ∧ Seg w B (.slice A k c) (byteCells (l.take k)) := by
  have hh : Seg w B (.slice A (l.take k ++ l.drop k).length c) (byteCells (l.take k ++ l.drop k)) := by rw [List.take_append_drop]; exact h
  have hl : (l.take k).length = k := by simp; omega
  have := seg_front hh
  rw [hl] at this
  exact this
theorem seg_drop {w : World} {B : Nat} {A : Option Addr} {c : Nat} {l : List UInt8} (h : Seg w B (.slice A l.length c) (byteCells l)) (k : Nat) (hk : k ≤ l.length) : ∃ A2 c2, sliced A k l.length c 1 = .slice A2 (l.length - k) c2 ∧ Seg w B (.slice A2 (l.length - k) c2) (byteCells (l.drop k)) := by
  obtain ⟨A', c', e, h2, h3, h4⟩ := h
  rw [byteCells_length] at e h2 h4
  cases e
  have hl : (byteCells (l.drop k)).length = l.length - k := by rw [byteCells_length]; simp
  by_cases hkl : k < l.length
  · obtain ⟨b, off, e, hb, hc⟩ := h4 (by omega)
    subst e
    have hs : sliced (some ⟨b, off, none⟩) k l.length c 1 = .slice (some ⟨b, off + k, none⟩) (l.length - k) (c - k) := by
      have hne : ¬ c = k := by omega
      unfold sliced
      by_cases h0 : k = 0
      · subst h0; simp [Addr.add]
      · simp [Addr.add, hne]
        omega
    refine ⟨_, _, hs, _, c - k, by rw [hl], by omega, by omega, fun hp => ⟨b, off + k, rfl, hb, fun i hi => ?_⟩⟩
    rw [hl] at hi
    rw [Nat.add_assoc, hc _ (by omega)]
    simp [byteCells]
  · have he : l.drop k = [] := List.drop_eq_nil_of_le (by omega)
    have hs : ∃ A2, sliced A k l.length c 1 = .slice A2 (l.length - k) (c - k) := by
      unfold sliced
      split <;> exact ⟨_, rfl⟩
    obtain ⟨A2, hs⟩ := hs
    refine ⟨A2, c - k, hs, A2, c - k, by rw [hl], by omega, by omega, fun h => by omega⟩
theorem wrap64 (x : Int) (h1 : -9223372036854775808 ≤ x) (h2 : x ≤ 9223372036854775807) : IntKind.i64.wrap x = x := by
  simp only [IntKind.wrap, IntKind.signed, IntKind.bits]
  simp
  omega
theorem Held.crash {B : Nat} {w0 w : World} {p : Nat} {st : St} {F : Nat → Prop} {k d : Nat} (h : Held B w0 w p st F) (hB : B ≤ w0.heap.size) (hc : Calm st.files k d) (hk : k ≤ 100000) (hd : d ≤ 2147483648) (kv : Value) (keeps : List Int) (hkv : Seg w w.heap.size kv (ints keeps)) (power : Int) :
    Calls Tryz.prog 25 #[.pointer (some ⟨p, 0, none⟩), kv, .int .i64 power] w fun e w' => ∃ p' F', e = .returned (.pointer (some ⟨p', 0, none⟩)) ∧ Held B w0 w' p' (stCrash st keeps power) F' ∧ Held B w0 w' p st F ∧ (∀ k, F' k → w.heap.size ≤ k) ∧ Below w.heap.size w w' := by
  refine (crash_any w p st F h.fs (Nat.le_trans hc.files hk) hc.short (fun f hf => Nat.le_trans (hc.data f hf) hd) kv keeps hkv power).mono ?_
  rintro e w' ⟨p', F', rfl, h1, h2, h3⟩
  have hs := h.size hB
  exact ⟨p', F', rfl, ⟨h1, fun k hk => Nat.le_trans hs (h2 k hk).1, h.below.trans (h3.mono hs)⟩, h.go hB h3, fun k hk => (h2 k hk).1, h3⟩

end Go.Proofs.YtaalbcfpacpgfaaGreat


