/- Plain: what the journal's laws ask beside the walk. -/
import Derived.Test.YtpdelgjfamelfaaGreatJ21
import Derived.Laws.BitsAllLaws
import Derived.Laws.BitsLemmas
namespace Go.Proofs.YtpdelgjfamelfaaGreat
open Go.RowKit Go.Lib Go.Vfs Go.Par Go.Shelf
set_option linter.unusedVariables false
set_option linter.unusedSimpArgs false

theorem findL_crash0 (keeps : List Int) (s : List UInt8) : ∀ (l : List File) (i : Nat), findL File.name s l = none → findL File.name s (crashL keeps i l) = none
  | [], i, h => rfl
  | g :: l, i, h => by
    rw [findL_cons] at h
    rw [crashL, findL_cons]
    split at h
    · cases h
    · rename_i hg
      rw [if_neg (by exact hg)]
      exact findL_crash0 keeps s l (i + 1) h
theorem V3.crash {fs : List File} {nx bs lg : Option File} (h : V3 fs nx bs lg) (keeps : List Int) : ∃ i j k, V3 (crashL keeps 0 fs) (nx.map (crashF keeps i)) (bs.map (crashF keeps j)) (lg.map (crashF keeps k)) := by
  have one : ∀ (s : List UInt8) (o : Option File), findL File.name s fs = o → ∃ i, findL File.name s (crashL keeps 0 fs) = o.map (crashF keeps i) := fun s o ho => by
    cases o with
    | none => exact ⟨0, findL_crash0 keeps s fs 0 ho⟩
    | some f =>
      obtain ⟨j, hj⟩ := findL_crash keeps s fs 0 f ho
      exact ⟨j, hj⟩
  obtain ⟨i, hi⟩ := one _ _ h.nx
  obtain ⟨j, hj⟩ := one _ _ h.bs
  obtain ⟨k, hk⟩ := one _ _ h.lg
  exact ⟨i, j, k, hi, hj, hk⟩
/-- what a crash keeps of what is synced. -/
theorem crash_synced (keeps : List Int) (k : Nat) (s b : List UInt8) : crashF keeps k ⟨s, b, b.length⟩ = ⟨s, b, b.length⟩ := by
  unfold crashF cutN
  simp
theorem crash_nil (k : Nat) (s b : List UInt8) (n : Nat) : crashF [] k ⟨s, b, n⟩ = ⟨s, b.take n, n⟩ := by
  unfold crashF cutN cutK
  simp
theorem crash_cut (keeps : List Int) (k : Nat) (s b : List UInt8) (n : Nat) (hn : n ≤ b.length) : ∃ m, n ≤ m ∧ m ≤ b.length ∧ crashF keeps k ⟨s, b, n⟩ = ⟨s, b.take m, (b.take m).length⟩ := by
  refine ⟨cutN (cutK keeps k) ⟨s, b, n⟩, cutN_ge (cutK keeps k) ⟨s, b, n⟩, cutN_le2 (cutK keeps k) ⟨s, b, n⟩ hn, ?_⟩
  unfold crashF
  have := cutN_le2 (cutK keeps k) ⟨s, b, n⟩ hn
  simp only at this ⊢
  rw [List.length_take, Nat.min_eq_left this]

/-- a log of these records, of which so many bytes are safe. -/
def lgOf (g : Nat) (xs : List (List UInt8)) (s : Nat) : Option File := if xs = [] then none else some ⟨nLog, encR g xs, s⟩
theorem lgOf_nil (g s : Nat) : lgOf g [] s = none := rfl
theorem lgOf_add {g s : Nat} {xs : List (List UInt8)} {p : List UInt8} (h : xs = [] → s = 0) : addF nLog (lgOf g xs s) (frameB g p) = ⟨nLog, encR g (xs ++ [p]), s⟩ := by
  unfold lgOf
  by_cases hx : xs = []
  · rw [if_pos hx, h hx, hx]
    simp [addF, encR]
  · rw [if_neg hx]
    simp [addF, encR_snoc]
theorem lgOf_snoc {g s : Nat} {xs : List (List UInt8)} {p : List UInt8} : lgOf g (xs ++ [p]) s = some ⟨nLog, encR g (xs ++ [p]), s⟩ := by
  unfold lgOf
  rw [if_neg (by simp)]
/-- opening with whatever power where no file "next" is: nothing to cut. -/
theorem V3.opn0 {fs : List File} {bs lg : Option File} {pw : Int} (h : V3 fs none bs lg) {g : Nat} {ps : List (List UInt8)} (hb : baseOk bs = some (g, ps)) (hl : logBad lg g = false) : openSt ⟨pw, fs⟩ = (⟨pw, fs⟩, .ok (g, ps, logRecs lg g)) := by
  have e2 : openBase ⟨pw, fs⟩ = some (g, ps) := by unfold openBase; simp only [h.bs]; exact hb
  have e3 : openRecs ⟨pw, fs⟩ g = logRecs lg g := by unfold openRecs logRecs; simp only [h.lg]; rfl
  have e4 : open2 ⟨pw, fs⟩ g = (⟨pw, fs⟩, 0) := by
    unfold open2
    simp only [h.lg]
    cases lg with
    | none => rfl
    | some f =>
      simp only [logBad, decide_eq_false_iff_not] at hl
      simp only [if_neg hl]
  unfold openSt
  simp only [h.op1, e2, if_pos, e3, e4]
/-- the power is out where the log is to be cut. -/
theorem V3.opnD {fs : List File} {bs lg : Option File} (h : V3 fs none bs lg) {g : Nat} {ps : List (List UInt8)} (hb : baseOk bs = some (g, ps)) (hl : logBad lg g = true) : openSt ⟨0, fs⟩ = (⟨0, fs⟩, .error 13) := by
  have e2 : openBase ⟨0, fs⟩ = some (g, ps) := by unfold openBase; simp only [h.bs]; exact hb
  have e4 : open2 ⟨0, fs⟩ g = (⟨0, fs⟩, 13) := by
    unfold open2
    simp only [h.lg]
    cases lg with
    | none => simp [logBad] at hl
    | some f =>
      simp only [logBad, decide_eq_true_eq] at hl
      obtain ⟨fs', e, -⟩ := h.trunc (pw := 0) rfl (Nat.le_of_lt hl)
      simp only [if_pos hl]
      rw [e, do_zero]
  unfold openSt
  simp only [h.op1, e2, if_pos, e4]
  simp
/-- the log is cut. -/
theorem V3.opnC {fs : List File} {bs lg : Option File} {pw : Int} (h : V3 fs none bs lg) (hp : pw ≠ 0) {g : Nat} {ps : List (List UInt8)} (hb : baseOk bs = some (g, ps)) (hl : logBad lg g = true) : ∃ fs', openSt ⟨pw, fs⟩ = (⟨dec pw, fs'⟩, .ok (g, ps, logRecs lg g)) ∧ V3 fs' none bs (logCut lg g) := by
  have e2 : openBase ⟨pw, fs⟩ = some (g, ps) := by unfold openBase; simp only [h.bs]; exact hb
  have e3 : openRecs ⟨pw, fs⟩ g = logRecs lg g := by unfold openRecs logRecs; simp only [h.lg]; rfl
  cases lg with
  | none => simp [logBad] at hl
  | some f =>
    simp only [logBad, decide_eq_true_eq] at hl
    obtain ⟨fs', e, h2⟩ := h.trunc (pw := pw) rfl (Nat.le_of_lt hl)
    have e4 : open2 ⟨pw, fs⟩ g = (⟨dec pw, fs'⟩, 0) := by
      unfold open2
      simp only [h.lg, if_pos hl]
      rw [e, do_on hp]
    unfold openSt
    simp only [h.op1, e2, if_pos, e3, e4]
    exact ⟨fs', rfl, by unfold logCut; simp only [if_pos hl]; exact h2⟩
/-- the records of a front of a log. -/
theorem front_recs {g : Nat} (hg : g < 4294967296) {xs : List (List UInt8)} (hp : ∀ p ∈ xs, p.length ≤ 65536) {a n : Nat} (ha : a ≤ xs.length) (h1 : (encR g (xs.take a)).length ≤ n) (h2 : n ≤ (encR g xs).length) :
    ∃ m, a ≤ m ∧ m ≤ xs.length ∧ ∀ s, logRecs (some ⟨nLog, (encR g xs).take n, s⟩) g = xs.take m := by
  obtain ⟨m, h3, h4, h5, h6⟩ := frs_front hg hp h2 rfl
  refine ⟨m, h6 a ha h1, h3, fun s => ?_⟩
  unfold logRecs
  simp only
  rw [sameGen_all (gens_frL h4), pays_frL h4]
theorem logRecs_whole {g : Nat} (hg : g < 4294967296) {xs : List (List UInt8)} (hp : ∀ p ∈ xs, p.length ≤ 65536) (s : Nat) : logRecs (lgOf g xs s) g = xs ∧ logBad (lgOf g xs s) g = false := by
  unfold lgOf
  by_cases hx : xs = []
  · rw [if_pos hx, hx]; exact ⟨rfl, rfl⟩
  · rw [if_neg hx]
    have h := frs_enc (b := encR g xs) (q := []) hg (List.append_nil _).symm hp (frAt_end (Nat.le_refl _))
    unfold logRecs logBad
    simp only
    rw [sameGen_all (gens_frL h), pays_frL h, endOf_frL h]
    simp
/-- a journal that was opened, new since B. -/
theorem OpenPost.held {B : Nat} {w0 w w' : World} {p : Nat} {F : Nat → Prop} {st : St} {g : Nat} {ps ls : List (List UInt8)} {e : Ending} (h : OpenPost w p F (st, .ok (g, ps, ls)) e w') (hb : Below B w0 w) (hB : B ≤ w0.heap.size) (hF : ∀ k, F k → B ≤ k) : ∃ pj F' G, e = .returned (.tuple #[.pointer (some ⟨pj, 0, none⟩), .int .i64 0]) ∧ JH B w0 w' pj p st g ps ls F' G := by
  obtain ⟨F', h1, h2, h3, pj, G, rfl, h4, h5⟩ := h
  have hz := hb.size
  exact ⟨pj, F', G, rfl, h4, fun k hk => by
    rcases h3 k hk with a | a
    · exact hF k a
    · omega, fun k hk => by have := h5 k hk; omega, hb.trans (h2.below (by omega) hF)⟩
/-- a journal that could not be opened. -/
theorem OpenPost.failed {B : Nat} {w0 w w' : World} {p : Nat} {F : Nat → Prop} {st : St} {n : Int} {e : Ending} (h : OpenPost w p F (st, .error n) e w') (hb : Below B w0 w) (hB : B ≤ w0.heap.size) (hF : ∀ k, F k → B ≤ k) : e = .returned (.tuple #[.pointer none, .int .i64 n]) ∧ ∃ F', Held B w0 w' p st F' := by
  obtain ⟨F', h1, h2, h3, h4⟩ := h
  have hz := hb.size
  exact ⟨h4, F', h1, fun k hk => by
    rcases h3 k hk with a | a
    · exact hF k a
    · omega, hb.trans (h2.below (by omega) hF)⟩
/-- the low two, three bits of an int. -/
theorem and3 (n : Int) : ∃ q : Nat, q ≤ 3 ∧ bits .and .i64 n 3 = (q : Int) := by
  have h3 : (BitVec.ofInt 64 3).toNat = 2 ^ 2 - 1 := by decide
  have e : (BitVec.ofInt 64 n &&& BitVec.ofInt 64 3).toNat = (BitVec.ofInt 64 n).toNat % 2 ^ 2 := by rw [BitVec.toNat_and, h3, Nat.and_two_pow_sub_one_eq_mod]
  refine ⟨(BitVec.ofInt 64 n).toNat % 4, by omega, ?_⟩
  show IntKind.i64.wrap ((BitVec.ofInt 64 n &&& BitVec.ofInt 64 3).toNat : Nat) = _
  rw [e, IntKind.wrap_i64]
  omega
theorem and7 (n : Int) : ∃ q : Nat, q ≤ 7 ∧ bits .and .i64 n 7 = (q : Int) := by
  have h3 : (BitVec.ofInt 64 7).toNat = 2 ^ 3 - 1 := by decide
  have e : (BitVec.ofInt 64 n &&& BitVec.ofInt 64 7).toNat = (BitVec.ofInt 64 n).toNat % 2 ^ 3 := by rw [BitVec.toNat_and, h3, Nat.and_two_pow_sub_one_eq_mod]
  refine ⟨(BitVec.ofInt 64 n).toNat % 8, by omega, ?_⟩
  show IntKind.i64.wrap ((BitVec.ofInt 64 n &&& BitVec.ofInt 64 7).toNat : Nat) = _
  rw [e, IntKind.wrap_i64]
  omega
end Go.Proofs.YtpdelgjfamelfaaGreat
