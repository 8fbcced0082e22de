/- Merged of J20 J23 J24 J26. -/
import Derived.Test.YtaalbcfpacpgfaaGreatJE
import Derived.Laws.BitsAllLaws
import Derived.Laws.BitsLemmas
/- J20 -/
--  Rows that were copied: each row owns its memory.
namespace Go.Proofs.YtaalbcfpacpgfaaGreat
open Go.RowKit Go.Lib Go.Vfs Go.Par Go.Shelf
set_option linter.unusedVariables false
set_option linter.unusedSimpArgs false

structure RowedX (w : World) (ls : List (List UInt8)) (k : Nat) (v : Value) (us : List Value) (wr : World) : Prop extends Rowed w ls k v us wr where
  each : ∀ i, i < k → Par.Own wr w.heap.size 5 (us.getD i (.bool false)) (byteCells (ls.getD i []))
  sep : ∀ i j, i < j → j < k → ∀ g, (us.getD i (.bool false)).ownBlock = some g → (us.getD j (.bool false)).ownBlock ≠ some g
  vsep : ∀ i, i < k → ∀ g, (us.getD i (.bool false)).ownBlock = some g → v.ownBlock ≠ some g
theorem RowedX.zero {w wr : World} {ls : List (List UInt8)} {v : Value} (hb : Below w.heap.size w wr) (ho : Par.Own wr w.heap.size 24 v []) : RowedX w ls 0 v [] wr :=
  ⟨⟨hb, rfl, ho, fun i hi => by omega⟩, fun i hi => by omega, fun i j _ hj => by omega, fun i hi => by omega⟩
theorem own_turn {w w' : World} {B : Nat} {e : TypeId} {v : Value} {xs : List Value} (h : Par.Own w B e v xs) (hk : ∀ g, v.ownBlock = some g → w'.heap[g]? = w.heap[g]?) : Par.Own w' B e v xs := by
  unfold Par.Own at *
  exact ownsRow_block h hk
theorem RowedX.next {w : World} {ls : List (List UInt8)} {k : Nat} {v : Value} {us : List Value} {wr w2 w3 : World} (h : RowedX w ls k v us wr) {u : Value} (hb : Below wr.heap.size wr w2) (hu : Par.Own w2 wr.heap.size 5 u (byteCells (ls.getD k [])))
    {v' : Value} (o : Obj) (hown : Par.Own w3 w.heap.size 24 v' (us ++ [u])) (hg : (w2.alloc o).grownBy w3 v.ownBlock) (hat : v'.ownBlock = v.ownBlock ∨ v'.ownBlock = some (w2.heap.size + 1)) : RowedX w ls (k + 1) v' (us ++ [u]) w3 := by
  have hn := h.toRowed.next hb hu o hown hg hat
  have hz := h.below.size
  have hz2 := hb.size
  have hal : (w2.alloc o).heap.size = w2.heap.size + 1 := by simp
  have lo : ∀ i, i < k → (us ++ [u]).getD i (.bool false) = us.getD i (.bool false) := fun i hi => by simp [List.getD_eq_getElem?_getD, List.getElem?_append, h.len, hi]
  have hi' : (us ++ [u]).getD k (.bool false) = u := by simp [List.getD_eq_getElem?_getD, List.getElem?_append, h.len]
  have hlt : ∀ i, i < k → ∀ g, (us.getD i (.bool false)).ownBlock = some g → w.heap.size ≤ g ∧ g < wr.heap.size := fun i hi g e => (h.each i hi).lt g e
  have hul : ∀ g, u.ownBlock = some g → wr.heap.size ≤ g ∧ g < w2.heap.size := fun g e => hu.lt g e
  have hv : ∀ g, v.ownBlock = some g → g < wr.heap.size := fun g e => (h.own.lt g e).2
  refine ⟨hn, fun i hi => ?_, fun i j hij hj g e => ?_, fun i hi g e => ?_⟩
  · by_cases hik : i < k
    · rw [lo i hik]
      refine own_turn (h.each i hik) fun g e => ?_
      have := hlt i hik g e
      rw [hg.block g (by omega) (fun e2 => h.vsep i hik g e e2.symm), Below.heap_alloc _ _ _ (by omega), hb.block g this.2]
    · have : i = k := by omega
      subst this
      rw [hi']
      refine own_turn (hu.base hz) fun g e => ?_
      have := hul g e
      rw [hg.block g (by omega) (fun e2 => by have := hv g e2.symm; omega), Below.heap_alloc _ _ _ (by omega)]
  · by_cases hjk : j < k
    · rw [lo i (by omega)] at e
      rw [lo j hjk]
      exact h.sep i j hij hjk g e
    · have : j = k := by omega
      subst this
      rw [lo i hij] at e
      rw [hi']
      intro e2
      have := hlt i hij g e
      have := hul g e2
      omega
  · by_cases hik : i < k
    · rw [lo i hik] at e
      rcases hat with e1 | e1
      · rw [e1]; exact h.vsep i hik g e
      · rw [e1]; intro e2; injection e2 with e2; have := hlt i hik g e; omega
    · have : i = k := by omega
      subst this
      rw [hi'] at e
      have := hul g e
      rcases hat with e1 | e1
      · rw [e1]; intro e2; have := hv g e2; omega
      · rw [e1]; intro e2; injection e2 with e2; omega
/-- rows behind one another. -/
theorem RowedX.join {w wa w2 w3 : World} {u1 v2 v : Value} {us1 us2 : List Value} {a b : List (List UInt8)} (h1 : RowedX w a a.length u1 us1 wa) (h2 : RowedX wa b b.length v2 us2 w2)
    (hown : Par.Own w3 w.heap.size 24 v (us1 ++ us2)) (hg : w2.grownBy w3 u1.ownBlock) (hat : v.ownBlock = u1.ownBlock ∨ v.ownBlock = some w2.heap.size) : RowedX w (a ++ b) (a ++ b).length v (us1 ++ us2) w3 := by
  have hza := h1.below.size
  have hz2 := h2.below.size
  have hzg := hg.size
  have hlt1 : ∀ i, i < a.length → ∀ g, (us1.getD i (.bool false)).ownBlock = some g → w.heap.size ≤ g ∧ g < wa.heap.size := fun i hi g e => (h1.each i hi).lt g e
  have hlt2 : ∀ i, i < b.length → ∀ g, (us2.getD i (.bool false)).ownBlock = some g → wa.heap.size ≤ g ∧ g < w2.heap.size := fun i hi g e => (h2.each i hi).lt g e
  have hv1 : ∀ g, u1.ownBlock = some g → w.heap.size ≤ g ∧ g < wa.heap.size := fun g e => h1.own.lt g e
  have ho : Par.Own w2 w.heap.size 24 u1 us1 := h1.own.below h2.below
  have hj := Rowed.join (h1.below.trans (h2.below.mono hza)) h1.len h2.len ho
    (fun i hi => (h1.cells i hi).keep fun k hk => ⟨⟨hk.1, by omega, hk.2.2⟩, h2.below.block k hk.2.1⟩)
    (fun i hi => (h2.cells i hi).keep fun k hk => ⟨⟨by omega, hk.2.1, fun e => by have := hv1 k e; omega⟩, rfl⟩) hown hg hat
  have l1 : ∀ i, i < a.length → (us1 ++ us2).getD i (.bool false) = us1.getD i (.bool false) := fun i hi => by simp [List.getD_eq_getElem?_getD, List.getElem?_append, h1.len, hi]
  have l2 : ∀ i, ¬ i < a.length → (us1 ++ us2).getD i (.bool false) = us2.getD (i - a.length) (.bool false) := fun i hi => by simp [List.getD_eq_getElem?_getD, List.getElem?_append, h1.len, hi]
  refine ⟨hj, fun i hi => ?_, fun i j hij hjl g e => ?_, fun i hi g e => ?_⟩
  · by_cases hia : i < a.length
    · rw [l1 i hia, show (a ++ b).getD i [] = a.getD i [] by simp [List.getD_eq_getElem?_getD, List.getElem?_append, hia]]
      refine own_turn ((h1.each i hia).below h2.below) fun g e => hg.block g (by have := hlt1 i hia g e; omega) (fun e2 => h1.vsep i hia g e e2.symm)
    · have hib : i - a.length < b.length := by simp at hi; omega
      rw [l2 i hia, show (a ++ b).getD i [] = b.getD (i - a.length) [] by simp [List.getD_eq_getElem?_getD, List.getElem?_append, hia]]
      refine own_turn ((h2.each _ hib).base hza) fun g e => hg.block g (by have := hlt2 _ hib g e; omega) (fun e2 => by have := hlt2 _ hib g e; have := hv1 g e2.symm; omega)
  · simp only [List.length_append] at hjl
    by_cases hia : i < a.length
    · rw [l1 i hia] at e
      by_cases hja : j < a.length
      · rw [l1 j hja]; exact h1.sep i j hij hja g e
      · rw [l2 j hja]; intro e2; have := hlt1 i hia g e; have := hlt2 _ (by omega) g e2; omega
    · rw [l2 i hia] at e
      rw [l2 j (by omega)]
      exact h2.sep _ _ (by omega) (by omega) g e
  · simp only [List.length_append] at hi
    have hgl : g < w2.heap.size ∧ u1.ownBlock ≠ some g := by
      by_cases hia : i < a.length
      · rw [l1 i hia] at e; exact ⟨by have := hlt1 i hia g e; omega, h1.vsep i hia g e⟩
      · rw [l2 i hia] at e; exact ⟨(hlt2 _ (by omega) g e).2, fun e2 => by have := hlt2 _ (by omega) g e; have := hv1 g e2; omega⟩
    rcases hat with e1 | e1
    · rw [e1]; exact hgl.2
    · rw [e1]; intro e2; injection e2 with e2; omega

end Go.Proofs.YtaalbcfpacpgfaaGreat
/- J23 -/
--  Plain: what the journal's laws ask beside the walk.
namespace Go.Proofs.YtaalbcfpacpgfaaGreat
open Go.RowKit Go.Lib Go.Vfs Go.Par Go.Shelf
set_option linter.unusedVariables false
set_option linter.unusedSimpArgs false

theorem findL_crash0 (keeps : List Int) (s : List UInt8) : ∀ (l : List File) (i : Nat), findL File.name s l = none → findL File.name s (crashL keeps i l) = none
  | [], i, h => rfl
  | g :: l, i, h => by
    rw [findL_cons] at h
    rw [crashL, findL_cons]
    split at h
    · cases h
    · rename_i hg
      rw [if_neg (by exact hg)]
      exact findL_crash0 keeps s l (i + 1) h
theorem V3.crash {fs : List File} {nx bs lg : Option File} (h : V3 fs nx bs lg) (keeps : List Int) : ∃ i j k, V3 (crashL keeps 0 fs) (nx.map (crashF keeps i)) (bs.map (crashF keeps j)) (lg.map (crashF keeps k)) := by
  have one : ∀ (s : List UInt8) (o : Option File), findL File.name s fs = o → ∃ i, findL File.name s (crashL keeps 0 fs) = o.map (crashF keeps i) := fun s o ho => by
    cases o with
    | none => exact ⟨0, findL_crash0 keeps s fs 0 ho⟩
    | some f =>
      obtain ⟨j, hj⟩ := findL_crash keeps s fs 0 f ho
      exact ⟨j, hj⟩
  obtain ⟨i, hi⟩ := one _ _ h.nx
  obtain ⟨j, hj⟩ := one _ _ h.bs
  obtain ⟨k, hk⟩ := one _ _ h.lg
  exact ⟨i, j, k, hi, hj, hk⟩
/-- what a crash keeps of what is synced. -/
theorem crash_synced (keeps : List Int) (k : Nat) (s b : List UInt8) : crashF keeps k ⟨s, b, b.length⟩ = ⟨s, b, b.length⟩ := by
  unfold crashF cutN
  simp
theorem crash_nil (k : Nat) (s b : List UInt8) (n : Nat) : crashF [] k ⟨s, b, n⟩ = ⟨s, b.take n, n⟩ := by
  unfold crashF cutN cutK
  simp
theorem crash_cut (keeps : List Int) (k : Nat) (s b : List UInt8) (n : Nat) (hn : n ≤ b.length) : ∃ m, n ≤ m ∧ m ≤ b.length ∧ crashF keeps k ⟨s, b, n⟩ = ⟨s, b.take m, (b.take m).length⟩ := by
  refine ⟨cutN (cutK keeps k) ⟨s, b, n⟩, cutN_ge (cutK keeps k) ⟨s, b, n⟩, cutN_le2 (cutK keeps k) ⟨s, b, n⟩ hn, ?_⟩
  unfold crashF
  have := cutN_le2 (cutK keeps k) ⟨s, b, n⟩ hn
  simp only at this ⊢
  rw [List.length_take, Nat.min_eq_left this]

/-- a log of these records, of which so many bytes are safe. -/
def lgOf (g : Nat) (xs : List (List UInt8)) (s : Nat) : Option File := if xs = [] then none else some ⟨nLog, encR g xs, s⟩
theorem lgOf_add {g s : Nat} {xs : List (List UInt8)} {p : List UInt8} (h : xs = [] → s = 0) : addF nLog (lgOf g xs s) (frameB g p) = ⟨nLog, encR g (xs ++ [p]), s⟩ := by
  unfold lgOf
  by_cases hx : xs = []
  · rw [if_pos hx, h hx, hx]
    simp [addF, encR]
  · rw [if_neg hx]
    simp [addF, encR_snoc]
theorem lgOf_snoc {g s : Nat} {xs : List (List UInt8)} {p : List UInt8} : lgOf g (xs ++ [p]) s = some ⟨nLog, encR g (xs ++ [p]), s⟩ := by
  unfold lgOf
  rw [if_neg (by simp)]
/-- opening with whatever power where no file "next" is: nothing to cut. -/
theorem V3.opn0 {fs : List File} {bs lg : Option File} {pw : Int} (h : V3 fs none bs lg) {g : Nat} {ps : List (List UInt8)} (hb : baseOk bs = some (g, ps)) (hl : logBad lg g = false) : openSt ⟨pw, fs⟩ = (⟨pw, fs⟩, .ok (g, ps, logRecs lg g)) := by
  have e2 : openBase ⟨pw, fs⟩ = some (g, ps) := by unfold openBase; simp only [h.bs]; exact hb
  have e3 : openRecs ⟨pw, fs⟩ g = logRecs lg g := by unfold openRecs logRecs; simp only [h.lg]; rfl
  have e4 : open2 ⟨pw, fs⟩ g = (⟨pw, fs⟩, 0) := by
    unfold open2
    simp only [h.lg]
    cases lg with
    | none => rfl
    | some f =>
      simp only [logBad, decide_eq_false_iff_not] at hl
      simp only [if_neg hl]
  unfold openSt
  simp only [h.op1, e2, if_pos, e3, e4]
/-- the power is out where the log is to be cut. -/
theorem V3.opnD {fs : List File} {bs lg : Option File} (h : V3 fs none bs lg) {g : Nat} {ps : List (List UInt8)} (hb : baseOk bs = some (g, ps)) (hl : logBad lg g = true) : openSt ⟨0, fs⟩ = (⟨0, fs⟩, .error 13) := by
  have e2 : openBase ⟨0, fs⟩ = some (g, ps) := by unfold openBase; simp only [h.bs]; exact hb
  have e4 : open2 ⟨0, fs⟩ g = (⟨0, fs⟩, 13) := by
    unfold open2
    simp only [h.lg]
    cases lg with
    | none => simp [logBad] at hl
    | some f =>
      simp only [logBad, decide_eq_true_eq] at hl
      obtain ⟨fs', e, -⟩ := h.trunc (pw := 0) rfl (Nat.le_of_lt hl)
      simp only [if_pos hl]
      rw [e, do_zero]
  unfold openSt
  simp only [h.op1, e2, if_pos, e4]
  simp
/-- the log is cut. -/
theorem V3.opnC {fs : List File} {bs lg : Option File} {pw : Int} (h : V3 fs none bs lg) (hp : pw ≠ 0) {g : Nat} {ps : List (List UInt8)} (hb : baseOk bs = some (g, ps)) (hl : logBad lg g = true) : ∃ fs', openSt ⟨pw, fs⟩ = (⟨dec pw, fs'⟩, .ok (g, ps, logRecs lg g)) ∧ V3 fs' none bs (logCut lg g) := by
  have e2 : openBase ⟨pw, fs⟩ = some (g, ps) := by unfold openBase; simp only [h.bs]; exact hb
  have e3 : openRecs ⟨pw, fs⟩ g = logRecs lg g := by unfold openRecs logRecs; simp only [h.lg]; rfl
  cases lg with
  | none => simp [logBad] at hl
  | some f =>
    simp only [logBad, decide_eq_true_eq] at hl
    obtain ⟨fs', e, h2⟩ := h.trunc (pw := pw) rfl (Nat.le_of_lt hl)
    have e4 : open2 ⟨pw, fs⟩ g = (⟨dec pw, fs'⟩, 0) := by
      unfold open2
      simp only [h.lg, if_pos hl]
      rw [e, do_on hp]
    unfold openSt
    simp only [h.op1, e2, if_pos, e3, e4]
    exact ⟨fs', rfl, by unfold logCut; simp only [if_pos hl]; exact h2⟩
/-- the records of a front of a log. -/
theorem front_recs {g : Nat} (hg : g < 4294967296) {xs : List (List UInt8)} (hp : ∀ p ∈ xs, p.length ≤ 65536) {a n : Nat} (ha : a ≤ xs.length) (h1 : (encR g (xs.take a)).length ≤ n) (h2 : n ≤ (encR g xs).length) :
    ∃ m, a ≤ m ∧ m ≤ xs.length ∧ ∀ s, logRecs (some ⟨nLog, (encR g xs).take n, s⟩) g = xs.take m := by
  obtain ⟨m, h3, h4, h5, h6⟩ := frs_front hg hp h2 rfl
  refine ⟨m, h6 a ha h1, h3, fun s => ?_⟩
  unfold logRecs
  simp only
  rw [sameGen_all (gens_frL h4), pays_frL h4]
/-- a journal that was opened, new since B. -/
theorem OpenPost.held {B : Nat} {w0 w w' : World} {p : Nat} {F : Nat → Prop} {st : St} {g : Nat} {ps ls : List (List UInt8)} {e : Ending} (h : OpenPost w p F (st, .ok (g, ps, ls)) e w') (hb : Below B w0 w) (hB : B ≤ w0.heap.size) (hF : ∀ k, F k → B ≤ k) : ∃ pj F' G, e = .returned (.tuple #[.pointer (some ⟨pj, 0, none⟩), .int .i64 0]) ∧ JH B w0 w' pj p st g ps ls F' G := by
  obtain ⟨F', h1, h2, h3, pj, G, rfl, h4, h5⟩ := h
  have hz := hb.size
  exact ⟨pj, F', G, rfl, h4, fun k hk => by
    rcases h3 k hk with a | a
    · exact hF k a
    · omega, fun k hk => by have := h5 k hk; omega, hb.trans (h2.below (by omega) hF)⟩
/-- a journal that could not be opened. -/
theorem OpenPost.failed {B : Nat} {w0 w w' : World} {p : Nat} {F : Nat → Prop} {st : St} {n : Int} {e : Ending} (h : OpenPost w p F (st, .error n) e w') (hb : Below B w0 w) (hB : B ≤ w0.heap.size) (hF : ∀ k, F k → B ≤ k) : e = .returned (.tuple #[.pointer none, .int .i64 n]) ∧ ∃ F', Held B w0 w' p st F' := by
  obtain ⟨F', h1, h2, h3, h4⟩ := h
  have hz := hb.size
  exact ⟨h4, F', h1, fun k hk => by
    rcases h3 k hk with a | a
    · exact hF k a
    · omega, hb.trans (h2.below (by omega) hF)⟩
end Go.Proofs.YtaalbcfpacpgfaaGreat
/- J24 -/
--  A journal that grows, as the laws make it grow; a front of a list of rows.
namespace Go.Proofs.YtaalbcfpacpgfaaGreat
open Go.RowKit Go.Lib Go.Vfs Go.Par Go.Shelf
set_option linter.unusedVariables false
set_option linter.unusedSimpArgs false
theorem jAppend_on (fs : List File) (gen : Nat) (log : List (List UInt8)) (pay : List UInt8) : jAppend ⟨-1, fs⟩ gen log pay = (⟨-1, appF nLog (frameB gen pay) fs⟩, 0, log ++ [pay]) := by
  unfold jAppend stAppend
  rw [if_pos (by decide), do_on (by decide)]
  rfl

/-- a journal of generation 0 without a base, with these records. -/
def PI (W wr : World) (pj p : Nat) (xs : List (List UInt8)) (s c d : Nat) : Prop := ∃ fs F G, JH W.heap.size W wr pj p ⟨-1, fs⟩ 0 [] xs F G ∧ V3 fs none none (lgOf 0 xs s) ∧ Calm fs c d
section
variable {W wr w' : World} {pj p s c d : Nat} {xs : List (List UInt8)}
theorem PI.go (h : PI W wr pj p xs s c d) (hb : Below wr.heap.size wr w') : PI W w' pj p xs s c d := by
  obtain ⟨fs, F, G, h1, h2, h3⟩ := h
  exact ⟨fs, F, G, h1.go (Nat.le_refl _) hb, h2, h3⟩
theorem PI.below (h : PI W wr pj p xs s c d) : Below W.heap.size W wr := by
  obtain ⟨fs, F, G, h1, h2, h3⟩ := h
  exact h1.below
theorem PI.append (h : PI W wr pj p xs s c d) (hs : xs = [] → s = 0) {w2 : World} (hb : Below wr.heap.size wr w2) {u : Value} {L : List UInt8} (hu : Par.Own w2 wr.heap.size 5 u (byteCells L)) (hL : L.length ≤ 5000) (hc : c ≤ 1000) (hd : d ≤ 1000000) (hx : xs.length ≤ 1000) :
    Calls Tryz.prog 11 #[.pointer (some ⟨pj, 0, none⟩), u] w2 fun e w' => e = .returned (.int .i64 0) ∧ Hid (PI W w' pj p (xs ++ [L]) s (c + 1) (d + 6000)) := by
  obtain ⟨fs, F, G, h1, h2, h3⟩ := h
  have h4 := h1.go (Nat.le_refl _) hb
  have hlt := h1.lt
  have hsg : SegS (fun j => j < w2.heap.size ∧ ¬ F j) w2 u (byteCells L) := (own_seg hu).keep fun j hj => ⟨⟨(hu.lt j hj).2, fun hf => by have := hlt j (.inl hf); have := (hu.lt j hj).1; omega⟩, rfl⟩
  refine (jappend_any h4.jf u L hsg (by omega) (h3.modest (st := ⟨-1, fs⟩) (show (-1 : Int) ≤ 9223372036854775807 by decide) (by omega) (by omega)) (by omega)).mono ?_
  rw [jAppend_on]
  rintro e w' ⟨rfl, hp⟩
  obtain ⟨F', G', h5, -, -, -⟩ := h4.op (Nat.le_refl _) hp
  refine ⟨rfl, Lib.hid ⟨_, F', G', h5, ?_, (h3.app (s := nLog) (by decide)).mono (Nat.le_refl _) (by rw [frameB_length]; omega)⟩⟩
  have := h2.appL (frameB 0 L)
  rw [lgOf_add hs] at this
  rw [lgOf_snoc]
  exact this
theorem PI.sync (h : PI W wr pj p xs 0 c d) (hc : c ≤ 1000) : Calls Tryz.prog 65 #[.pointer (some ⟨pj, 0, none⟩)] wr fun e w' => e = .returned (.int .i64 0) ∧ Hid (PI W w' pj p xs (encR 0 xs).length (c + 1) d) := by
  obtain ⟨fs, F, G, h1, h2, h3⟩ := h
  refine (jsync_any h1.jf (by have := h3.files; simp only; omega) h3.short (show (-1 : Int) ≤ 9223372036854775807 by decide)).mono ?_
  rintro e w' ⟨rfl, hp⟩
  by_cases hx : xs = []
  · subst hx
    have e1 : jSync ⟨-1, fs⟩ = (⟨-1, fs⟩, 0) := V3.sync0 (bs := none) (nx := none) h2
    rw [e1] at hp ⊢
    obtain ⟨F', G', h5, -, -, -⟩ := h1.op (Nat.le_refl _) hp
    exact ⟨rfl, Lib.hid ⟨fs, F', G', h5, h2, h3.mono (by omega) (Nat.le_refl _)⟩⟩
  · have hl : lgOf 0 xs 0 = some ⟨nLog, encR 0 xs, 0⟩ := by unfold lgOf; rw [if_neg hx]
    obtain ⟨fs', e1, h6⟩ := h2.sync (pw := -1) hl
    rw [do_on (by decide), dec_neg] at e1
    have hcl : Calm fs' (c + 1) d := by
      have e2 : fs' = (jSync ⟨-1, fs⟩).1.files := by rw [e1]
      rw [e2]
      unfold jSync
      split
      · exact (show Calm (stSync ⟨-1, fs⟩ nLog).1.files (c + 1) d by
          unfold stSync
          split
          · exact h3.mono (by omega) (Nat.le_refl _)
          · rename_i f hf
            obtain ⟨f1, f2, f3⟩ := find_in hf
            exact (h3.mono (by omega) (Nat.le_refl _)).do (h3.withL (h3.names f f1) (h3.data f f1) (Nat.le_refl _)))
      · exact h3.mono (by omega) (Nat.le_refl _)
    rw [e1] at hp ⊢
    obtain ⟨F', G', h5, -, -, -⟩ := h1.op (Nat.le_refl _) hp
    refine ⟨rfl, Lib.hid ⟨fs', F', G', h5, ?_, hcl⟩⟩
    rw [show lgOf 0 xs (encR 0 xs).length = some ⟨nLog, encR 0 xs, (encR 0 xs).length⟩ by unfold lgOf; rw [if_neg hx]]
    exact h6
end
/- a front of a slice of slices. -/
theorem RowsAt.front {S : Nat → Prop} {w : World} {A : Option Addr} {n c : Nat} {ls : List (List UInt8)} (h : RowsAt S w (.slice A n c) ls) {m : Nat} (hm : m ≤ ls.length) : m ≤ c ∧ RowsAt S w (.slice A m c) (ls.take m) := by
  obtain ⟨vs, h1, ⟨A', c', he, h2, h3, h4⟩, h5⟩ := h
  injection he with e1 e2 e3
  subst e1 e3
  have hvl : (vs.take m).length = m := by simp; omega
  refine ⟨by omega, vs.take m, by simp [h1], ⟨A, c, by rw [hvl], by omega, h3, fun hp => ?_⟩, fun i hi => ?_⟩
  · rw [hvl] at hp
    obtain ⟨b, off, e, hb, hcell⟩ := h4 (by omega)
    refine ⟨b, off, e, hb, fun i hi => ?_⟩
    rw [hvl] at hi
    rw [hcell i (by omega), List.getElem?_take_of_lt hi]
  · have hil : i < m := by simp at hi; omega
    rw [show (vs.take m).getD i (.bool false) = vs.getD i (.bool false) by simp [List.getD_eq_getElem?_getD, List.getElem?_take, hil], show (ls.take m).getD i [] = ls.getD i [] by simp [List.getD_eq_getElem?_getD, List.getElem?_take, hil]]
    exact h5 i (by omega)
end Go.Proofs.YtaalbcfpacpgfaaGreat
/- J26 -/
--  Plain and contracts: laying a base is one stroke.
namespace Go.Proofs.YtaalbcfpacpgfaaGreat
open Go.RowKit Go.Lib Go.Vfs Go.Par Go.Shelf
set_option linter.unusedVariables false
set_option linter.unusedSimpArgs false

/-- a base's file, synced. -/
def bsOf (g : Nat) (base : List (List UInt8)) : Option File := if g = 0 then none else some ⟨nBase, encR g (be4 base.length :: base), (encR g (be4 base.length :: base)).length⟩
/-- a log's file with so many safe bytes; it may be missing where no record is in it. -/
def LgOk (g : Nat) (log : List (List UInt8)) (s : Nat) (lg : Option File) : Prop := (lg = none ∧ log = []) ∨ lg = some ⟨nLog, encR g log, s⟩
theorem bsOf_ok {g : Nat} {base : List (List UInt8)} (hg : g < 4294967296) (hp : ∀ p ∈ base, p.length ≤ 65536) (hl : base.length < 4294967296) (h0 : g = 0 → base = []) : baseOk (bsOf g base) = some (g, base) := by
  unfold bsOf
  by_cases h : g = 0
  · rw [if_pos h, h0 h, h]; rfl
  · rw [if_neg h]; exact baseOf_enc hg hp hl
theorem bsOf_crash (ks : List Int) (j g : Nat) (base : List (List UInt8)) : (bsOf g base).map (crashF ks j) = bsOf g base := by
  unfold bsOf
  split
  · rfl
  · rw [Option.map_some, crash_synced]
theorem LgOk.crash {g : Nat} {log : List (List UInt8)} {lg : Option File} (h : LgOk g log (encR g log).length lg) (ks : List Int) (j : Nat) : lg.map (crashF ks j) = lg := by
  rcases h with ⟨rfl, -⟩ | rfl
  · rfl
  · rw [Option.map_some, crash_synced]
theorem LgOk.recs {g s : Nat} {log : List (List UInt8)} {lg : Option File} (h : LgOk g log s lg) (hg : g < 4294967296) (hp : ∀ p ∈ log, p.length ≤ 65536) : logRecs lg g = log ∧ logBad lg g = false := by
  rcases h with ⟨rfl, rfl⟩ | rfl
  · exact ⟨rfl, rfl⟩
  · have h := frs_enc (b := encR g log) (q := []) hg (List.append_nil _).symm hp (frAt_end (Nat.le_refl _))
    unfold logRecs logBad
    simp only
    rw [sameGen_all (gens_frL h), pays_frL h, endOf_frL h]
    simp
theorem LgOk.other {g s g' : Nat} {log : List (List UInt8)} {lg : Option File} (h : LgOk g log s lg) (hg : g < 4294967296) (hp : ∀ p ∈ log, p.length ≤ 65536) (hne : g ≠ g') : logRecs lg g' = [] := by
  rcases h with ⟨rfl, rfl⟩ | rfl
  · rfl
  · have h := frs_enc (b := encR g log) (q := []) hg (List.append_nil _).symm hp (frAt_end (Nat.le_refl _))
    unfold logRecs
    simp only
    rw [sameGen_other h hne]
    rfl
/-- what is read behind a crash of these three files. -/
theorem V3.again {fs : List File} {nx bs lg : Option File} (h : V3 fs nx bs lg) {g : Nat} {ps ls : List (List UInt8)} (ks : List Int) (hb : baseOk bs = some (g, ps)) (hbc : ∀ j, bs.map (crashF ks j) = bs) (hlc : ∀ j, lg.map (crashF ks j) = lg) (hr : logRecs lg g = ls) : ∃ st', openSt ⟨-1, crashL ks 0 fs⟩ = (st', .ok (g, ps, ls)) := by
  obtain ⟨i, j, k, hc⟩ := h.crash ks
  rw [hbc, hlc] at hc
  obtain ⟨fs', e, -⟩ := hc.opn hb
  exact ⟨_, by rw [e, hr]⟩
/-- a journal as JournalLays makes it. -/
def QI (W wr : World) (pj p g : Nat) (base log : List (List UInt8)) (s c d : Nat) : Prop := ∃ fs lg F G, JH W.heap.size W wr pj p ⟨-1, fs⟩ g base log F G ∧ V3 fs none (bsOf g base) lg ∧ LgOk g log s lg ∧ (lg = none → s = 0) ∧ Calm fs c d
section
variable {W wr w' : World} {pj p g s c d : Nat} {base log : List (List UInt8)}
theorem QI.below (h : QI W wr pj p g base log s c d) : Below W.heap.size W wr := by
  obtain ⟨fs, lg, F, G, h1, -⟩ := h
  exact h1.below
theorem QI.append (h : QI W wr pj p g base log 0 c d) {w2 : World} (hb : Below wr.heap.size wr w2) {u : Value} {L : List UInt8} (hu : Par.Own w2 wr.heap.size 5 u (byteCells L)) (hL : L.length ≤ 5000) (hc : c ≤ 1000) (hd : d ≤ 1000000) (hx : log.length ≤ 1000) :
    Calls Tryz.prog 11 #[.pointer (some ⟨pj, 0, none⟩), u] w2 fun e w' => e = .returned (.int .i64 0) ∧ Hid (QI W w' pj p g base (log ++ [L]) 0 (c + 1) (d + 6000)) := by
  obtain ⟨fs, lg, F, G, h1, h2, h3, h5, h6⟩ := h
  have h4 := h1.go (Nat.le_refl _) hb
  have hlt := h1.lt
  have hsg : SegS (fun j => j < w2.heap.size ∧ ¬ F j) w2 u (byteCells L) := (own_seg hu).keep fun j hj => ⟨⟨(hu.lt j hj).2, fun hf => by have := hlt j (.inl hf); have := (hu.lt j hj).1; omega⟩, rfl⟩
  refine (jappend_any h4.jf u L hsg (by omega) (h6.modest (st := ⟨-1, fs⟩) (show (-1 : Int) ≤ 9223372036854775807 by decide) (by omega) (by omega)) (by omega)).mono ?_
  rw [jAppend_on]
  rintro e w' ⟨rfl, hp⟩
  obtain ⟨F', G', h7, -, -, -⟩ := h4.op (Nat.le_refl _) hp
  have hv := h2.appL (frameB g L)
  refine ⟨rfl, Lib.hid ⟨_, _, F', G', h7, hv, .inr ?_, fun _ => rfl, (h6.app (s := nLog) (by decide)).mono (Nat.le_refl _) (by rw [frameB_length]; omega)⟩⟩
  rcases h3 with ⟨rfl, rfl⟩ | rfl
  · simp [addF, encR]
  · simp [addF, encR_snoc]
/-- Lay of all records, as the law does it once. -/
theorem QI.lay (h : QI W wr pj p 0 [] log 0 c d) {w2 : World} {u : Value} {us : List Value} (hx : RowedX wr log log.length u us w2) (hlog : ∀ l ∈ log, l.length ≤ 5000) (hll : log.length ≤ 60) (hE : (encR 1 (be4 log.length :: log)).length ≤ 6000) (hc : c ≤ 900) (hd : d ≤ 900000) :
    Calls Tryz.prog 64 #[.pointer (some ⟨pj, 0, none⟩), u] w2 fun e w' => e = .returned (.int .i64 0) ∧ Hid (QI W w' pj p 1 log [] 0 (c + 4) (d + 24000)) := by
  obtain ⟨fs, lg, F, G, h1, h2, h3, h5, h6⟩ := h
  have h4 := h1.go (Nat.le_refl _) hx.below
  have hrows : RowsAt (fun k => k < w2.heap.size ∧ ¬ F k ∧ ¬ G k) w2 u log := hx.toRowed.rows.keep fun b hb => ⟨⟨hb.2, fun hf => by have := h1.lt b (.inl hf); omega, fun hg => by have := h1.lt b (.inr hg); omega⟩, rfl⟩
  refine (jlay_any h4.jf u log hrows (fun l hl => by have := hlog l hl; omega) (by omega) (by omega) (by simpa using (show (encR 1 (be4 log.length :: log)).length ≤ 900000 by omega)) (kf := c) (d := d) h6 (by omega) (by omega) (show (-1 : Int) ≤ 9223372036854775807 by decide)).mono ?_
  rintro e w' ⟨r, hr, rfl, hp⟩
  obtain ⟨fs', hl, hv3⟩ := h2.lay (encR 1 (be4 log.length :: log))
  have hcm := lay_calm (b := encR 1 (be4 log.length :: log)) (stepsOf (hasF fs nLog)) (st := ⟨-1, fs⟩) h6
  rw [hl] at hcm
  have hr' : r = (⟨-1, fs'⟩, 0) := by rw [← hr]; exact hl
  subst hr'
  simp only at hp
  obtain ⟨F', G', h7, -, -, -⟩ := h4.op (Nat.le_refl _) hp
  have hks : (stepsOf (hasF fs nLog)).length ≤ 4 := by cases hasF fs nLog <;> simp [stepsOf]
  have hmul : (stepsOf (hasF fs nLog)).length * (encR 1 (be4 log.length :: log)).length ≤ 4 * 6000 := Nat.mul_le_mul hks hE
  refine ⟨rfl, Lib.hid ⟨fs', cutLog lg, F', G', by simpa using h7, hv3, ?_, fun _ => rfl, hcm.mono (by omega) (by omega)⟩⟩
  cases lg with
  | none => exact .inl ⟨rfl, rfl⟩
  | some f => exact .inr (by simp [cutLog, encR])
theorem QI.sync (h : QI W wr pj p g base log 0 c d) (hc : c ≤ 1000) : Calls Tryz.prog 65 #[.pointer (some ⟨pj, 0, none⟩)] wr fun e w' => e = .returned (.int .i64 0) ∧ Hid (∃ fs lg F G, JH W.heap.size W w' pj p ⟨-1, fs⟩ g base log F G ∧ V3 fs none (bsOf g base) lg ∧ LgOk g log (encR g log).length lg ∧ Calm fs (c + 1) d) := by
  obtain ⟨fs, lg, F, G, h1, h2, h3, h5, h6⟩ := h
  refine (jsync_any h1.jf (by have := h6.files; simp only; omega) h6.short (show (-1 : Int) ≤ 9223372036854775807 by decide)).mono ?_
  rintro e w' ⟨rfl, hp⟩
  rcases h3 with ⟨rfl, rfl⟩ | rfl
  · have e1 : jSync ⟨-1, fs⟩ = (⟨-1, fs⟩, 0) := h2.sync0
    rw [e1] at hp ⊢
    obtain ⟨F', G', h7, -, -, -⟩ := h1.op (Nat.le_refl _) hp
    exact ⟨rfl, Lib.hid ⟨fs, none, F', G', h7, h2, .inl ⟨rfl, rfl⟩, h6.mono (by omega) (Nat.le_refl _)⟩⟩
  · obtain ⟨fs', e1, h8⟩ := h2.sync (pw := -1) rfl
    rw [do_on (by decide), dec_neg] at e1
    have hcl : Calm fs' (c + 1) d := by
      have e2 : fs' = (jSync ⟨-1, fs⟩).1.files := by rw [e1]
      rw [e2]
      unfold jSync
      split
      · exact (show Calm (stSync ⟨-1, fs⟩ nLog).1.files (c + 1) d by
          unfold stSync
          split
          · exact h6.mono (by omega) (Nat.le_refl _)
          · rename_i f hf
            obtain ⟨f1, f2, f3⟩ := find_in hf
            exact (h6.mono (by omega) (Nat.le_refl _)).do (h6.withL (h6.names f f1) (h6.data f f1) (Nat.le_refl _)))
      · exact h6.mono (by omega) (Nat.le_refl _)
    rw [e1] at hp ⊢
    obtain ⟨F', G', h7, -, -, -⟩ := h1.op (Nat.le_refl _) hp
    exact ⟨rfl, Lib.hid ⟨fs', _, F', G', h7, h8, .inr rfl, hcl⟩⟩
end
end Go.Proofs.YtaalbcfpacpgfaaGreat

