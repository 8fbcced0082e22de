/- A journal that grows, as the laws make it grow; a front of a list of rows. -/
import Derived.Test.YtpdelgjfamelfaaGreatJ23
namespace Go.Proofs.YtpdelgjfamelfaaGreat
open Go.RowKit Go.Lib Go.Vfs Go.Par Go.Shelf
set_option linter.unusedVariables false
set_option linter.unusedSimpArgs false

/-- a journal of generation 0 without a base, with these records. -/
def PI (W wr : World) (pj p : Nat) (xs : List (List UInt8)) (s c d : Nat) : Prop := ∃ fs F G, JH W.heap.size W wr pj p ⟨-1, fs⟩ 0 [] xs F G ∧ V3 fs none none (lgOf 0 xs s) ∧ Calm fs c d
section
variable {W wr w' : World} {pj p s c d : Nat} {xs : List (List UInt8)}
theorem PI.go (h : PI W wr pj p xs s c d) (hb : Below wr.heap.size wr w') : PI W w' pj p xs s c d := by
  obtain ⟨fs, F, G, h1, h2, h3⟩ := h
  exact ⟨fs, F, G, h1.go (Nat.le_refl _) hb, h2, h3⟩
theorem PI.below (h : PI W wr pj p xs s c d) : Below W.heap.size W wr := by
  obtain ⟨fs, F, G, h1, h2, h3⟩ := h
  exact h1.below
theorem PI.append (h : PI W wr pj p xs s c d) (hs : xs = [] → s = 0) {w2 : World} (hb : Below wr.heap.size wr w2) {u : Value} {L : List UInt8} (hu : Par.Own w2 wr.heap.size 5 u (byteCells L)) (hL : L.length ≤ 5000) (hc : c ≤ 1000) (hd : d ≤ 1000000) (hx : xs.length ≤ 1000) :
    Calls Tryz.prog 24 #[.pointer (some ⟨pj, 0, none⟩), u] w2 fun e w' => e = .returned (.int .i64 0) ∧ Hid (PI W w' pj p (xs ++ [L]) s (c + 1) (d + 6000)) := by
  obtain ⟨fs, F, G, h1, h2, h3⟩ := h
  have h4 := h1.go (Nat.le_refl _) hb
  have hlt := h1.lt
  have hsg : SegS (fun j => j < w2.heap.size ∧ ¬ F j) w2 u (byteCells L) := (own_seg hu).keep fun j hj => ⟨⟨(hu.lt j hj).2, fun hf => by have := hlt j (.inl hf); have := (hu.lt j hj).1; omega⟩, rfl⟩
  refine (jappend_any h4.jf u L hsg (by omega) (h3.modest (st := ⟨-1, fs⟩) (show (-1 : Int) ≤ 9223372036854775807 by decide) (by omega) (by omega)) (by omega)).mono ?_
  rw [jAppend_on]
  rintro e w' ⟨rfl, hp⟩
  obtain ⟨F', G', h5, -, -, -⟩ := h4.op (Nat.le_refl _) hp
  refine ⟨rfl, Lib.hid ⟨_, F', G', h5, ?_, (h3.app (s := nLog) (by decide)).mono (Nat.le_refl _) (by rw [frameB_length]; omega)⟩⟩
  have := h2.appL (frameB 0 L)
  rw [lgOf_add hs] at this
  rw [lgOf_snoc]
  exact this
theorem PI.sync (h : PI W wr pj p xs 0 c d) (hc : c ≤ 1000) : Calls Tryz.prog 27 #[.pointer (some ⟨pj, 0, none⟩)] wr fun e w' => e = .returned (.int .i64 0) ∧ Hid (PI W w' pj p xs (encR 0 xs).length (c + 1) d) := by
  obtain ⟨fs, F, G, h1, h2, h3⟩ := h
  refine (jsync_any h1.jf (by have := h3.files; simp only; omega) h3.short (show (-1 : Int) ≤ 9223372036854775807 by decide)).mono ?_
  rintro e w' ⟨rfl, hp⟩
  by_cases hx : xs = []
  · subst hx
    have e1 : jSync ⟨-1, fs⟩ = (⟨-1, fs⟩, 0) := V3.sync0 (bs := none) (nx := none) h2
    rw [e1] at hp ⊢
    obtain ⟨F', G', h5, -, -, -⟩ := h1.op (Nat.le_refl _) hp
    exact ⟨rfl, Lib.hid ⟨fs, F', G', h5, h2, h3.mono (by omega) (Nat.le_refl _)⟩⟩
  · have hl : lgOf 0 xs 0 = some ⟨nLog, encR 0 xs, 0⟩ := by unfold lgOf; rw [if_neg hx]
    obtain ⟨fs', e1, h6⟩ := h2.sync (pw := -1) hl
    rw [do_on (by decide), dec_neg] at e1
    have hcl : Calm fs' (c + 1) d := by
      have e2 : fs' = (jSync ⟨-1, fs⟩).1.files := by rw [e1]
      rw [e2]
      unfold jSync
      split
      · exact (show Calm (stSync ⟨-1, fs⟩ nLog).1.files (c + 1) d by
          unfold stSync
          split
          · exact h3.mono (by omega) (Nat.le_refl _)
          · rename_i f hf
            obtain ⟨f1, f2, f3⟩ := find_in hf
            exact (h3.mono (by omega) (Nat.le_refl _)).do (h3.withL (h3.names f f1) (h3.data f f1) (Nat.le_refl _)))
      · exact h3.mono (by omega) (Nat.le_refl _)
    rw [e1] at hp ⊢
    obtain ⟨F', G', h5, -, -, -⟩ := h1.op (Nat.le_refl _) hp
    refine ⟨rfl, Lib.hid ⟨fs', F', G', h5, ?_, hcl⟩⟩
    rw [show lgOf 0 xs (encR 0 xs).length = some ⟨nLog, encR 0 xs, (encR 0 xs).length⟩ by unfold lgOf; rw [if_neg hx]]
    exact h6
end
/-- an opened journal of an empty file system. -/
theorem JH.pi {W wr : World} {pj p : Nat} {F G : Nat → Prop} (h : JH W.heap.size W wr pj p ⟨-1, []⟩ 0 [] [] F G) : PI W wr pj p [] 0 0 0 := ⟨[], F, G, h, V3.nil, Calm.nil⟩
/-- what is left of a log behind a crash. -/
theorem prefix_law {fs : List File} {xa xb : List (List UInt8)} {ks : List Int} (h : V3 fs none none (lgOf 0 (xa ++ xb) (encR 0 xa).length)) (hp : ∀ p ∈ xa ++ xb, p.length ≤ 65536) :
    ∃ m lg, xa.length ≤ m ∧ m ≤ (xa ++ xb).length ∧ V3 (crashL ks 0 fs) none none lg ∧ logRecs lg 0 = (xa ++ xb).take m ∧ ∀ j, lg.map (crashF [] j) = lg := by
  obtain ⟨i, j, k, hc⟩ := h.crash ks
  simp only [Option.map_none] at hc
  by_cases hx : xa ++ xb = []
  · rw [hx, lgOf_nil] at hc
    have h1 := List.append_eq_nil_iff.1 hx
    exact ⟨0, none, by rw [h1.1]; simp, by omega, hc, by simp [logRecs, hx], fun j => rfl⟩
  · have hl : lgOf 0 (xa ++ xb) (encR 0 xa).length = some ⟨nLog, encR 0 (xa ++ xb), (encR 0 xa).length⟩ := by unfold lgOf; rw [if_neg hx]
    rw [hl, Option.map_some] at hc
    obtain ⟨n, h1, h2, h3⟩ := crash_cut ks k nLog (encR 0 (xa ++ xb)) (encR 0 xa).length (by rw [encR_append, List.length_append]; omega)
    rw [h3] at hc
    obtain ⟨m, h4, h5, h6⟩ := front_recs (g := 0) (by omega) hp (a := xa.length) (by simp) (n := n) (by simpa using h1) h2
    refine ⟨m, _, h4, h5, hc, h6 _, fun j => ?_⟩
    rw [Option.map_some, crash_nil, List.take_length]

/- a front of a slice of slices. -/
theorem slice_frontR (A : Option Addr) (n c N : Nat) (w : World) (h : N ≤ c) : (Instr.slice 38 (.slice A n c) none (some (.int .i64 (N : Int))) none).run Tryz.prog w = .ok (.slice A N c) w := by
  have ht' : Tryz.prog.underlying 38 = some (.slice (Tryz.prog.elem 38)) := by simp [Program.elem, Tryz.underlying38]
  have he : Tryz.prog.elem 38 = 22 := by simp [Program.elem, Tryz.underlying38]
  rw [run_slice_h w 38 _ _ _ ht' .i64 _ (by omega) (by omega), he, Tryz.sizeOf22]
  simp only [Result.andThen, sliced]
  cases A <;> simp [Addr.add]
theorem RowsAt.front {S : Nat → Prop} {w : World} {A : Option Addr} {n c : Nat} {ls : List (List UInt8)} (h : RowsAt S w (.slice A n c) ls) {m : Nat} (hm : m ≤ ls.length) : m ≤ c ∧ RowsAt S w (.slice A m c) (ls.take m) := by
  obtain ⟨vs, h1, ⟨A', c', he, h2, h3, h4⟩, h5⟩ := h
  injection he with e1 e2 e3
  subst e1 e3
  have hvl : (vs.take m).length = m := by simp; omega
  refine ⟨by omega, vs.take m, by simp [h1], ⟨A, c, by rw [hvl], by omega, h3, fun hp => ?_⟩, fun i hi => ?_⟩
  · rw [hvl] at hp
    obtain ⟨b, off, e, hb, hcell⟩ := h4 (by omega)
    refine ⟨b, off, e, hb, fun i hi => ?_⟩
    rw [hvl] at hi
    rw [hcell i (by omega), List.getElem?_take_of_lt hi]
  · have hil : i < m := by simp at hi; omega
    rw [show (vs.take m).getD i (.bool false) = vs.getD i (.bool false) by simp [List.getD_eq_getElem?_getD, List.getElem?_take, hil], show (ls.take m).getD i [] = ls.getD i [] by simp [List.getD_eq_getElem?_getD, List.getElem?_take, hil]]
    exact h5 i (by omega)
end Go.Proofs.YtpdelgjfamelfaaGreat
